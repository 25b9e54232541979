/- Package usage, layer 14: Clone. -/
import Derived.Test.YtechbidbhoookaaUse13
import Derived.Test.YtechbidbhoookaaVis
import Derived.Test.YtechbidbhoookaaLay
import Derived.Shelf.SlMaps.Clone
set_option linter.unusedVariables false
set_option linter.unusedSectionVars false
namespace Go.Proofs.Ytechbidbhoookaa.Use
open Go Go.RowKit Go.Proofs.Ytechbidbhoookaa.Sl

theorem mapsClone_calls {E : World} {L : List HProp} {m : Nat} {es : Array MapEntry} {c : Nat} (x : Wd E (pt m (.map es c) :: L)) :
    Calls Try.prog 19 #[.map (some m)] x.val fun e w' => ∃ b, e = .returned (.map (some b)) ∧ ∃ y : Wd E (pt b (.map es c) :: pt m (.map es c) :: L), w' = y.val := by
  refine (AnyW.maps_Clone Try.cloneA m es c x.val (Wd.heap0 x)).mono ?_
  rintro e w' ⟨rfl, rfl⟩
  exact ⟨_, rfl, x.new _, rfl⟩
theorem keys_absU (R : List UM) : (absU R).map (·.1) = R.map UM.id := by simp [absU]
theorem absU_none {C : List UM} {T : Tb} {d : Int} (h : absU C = T) (hd : d ∉ T.map (·.1)) : aget (pairsG C) d = none := by
  rw [get_pairsG]
  have : C.find? (fun x => decide (x.id = d)) = none := by
    rw [List.find?_eq_none]
    intro v hv
    simp only [decide_eq_true_eq]
    intro e
    refine hd ?_
    rw [← h, keys_absU]
    exact List.mem_map.2 ⟨v, hv, e⟩
  rw [this]; rfl
set_option maxRecDepth 100000 in
set_option maxHeartbeats 2000000 in
theorem cloneTab_calls {E : World} {L : List HProp} {T : Tb} (hT : Good T) (p : Nat) (x : Wd E (At p T :: L)) :
    Calls Try.prog 8 #[ptr p] x.val fun e w' => ∃ c T', e = .returned (ptr c) ∧ T'.Perm T ∧ ∃ y : Wd E (At c T' :: At p T :: L), w' = y.val := by
  obtain ⟨S, hG, hF, y, hy⟩ := At.op x
  rw [hy]
  have hk : (S.R.map UM.id).Nodup := by have h := hT.keys; rw [← hG.hR, keys_absU] at h; exact h
  have hlen : ∀ r ∈ S.R, 1 ≤ r.l.length ∧ r.l.length ≤ 4096 := fun r hr => hT.lens (r.id, r.l) (by rw [← hG.hR]; exact List.mem_map.2 ⟨r, hr, rfl⟩)
  have HK := Lib.hid hk; have HG := Lib.hid hG; have HF := Lib.hid hF; have HL := Lib.hid hlen; have HT := Lib.hid hT
  clear hk hlen hG hF hT hy
  go_enter Try.func8, Try.ntmps8
  go_wp2_with ((with_reducible refine gmakeMap 43 ?_); go_must (refine wd_makeMap y rfl 43 rfl ?_; intro ng y))
  refine (mapsClone_calls y.up2).mono ?_; rintro e w' ⟨nw, rfl, y, rfl⟩
  go_wp2_with (first
    | ((with_reducible refine gbox 46 ?_); go_must (refine wd_box y rfl 46 _ rfl #[.map (some ng), .map (some nw)] rfl ?_; intro c y; obtain ⟨z, hz⟩ := big_nil (f := UM.at) y; rw [hz]; clear hz))
    | ((with_reducible refine grange 43 ?_); go_must (refine wd_range (z.ord [5, 3, 6, 7, 4, 2, 1, 0]) rfl rfl Try.underlying43 rfl (Wd.heap0 (z.ord [5, 3, 6, 7, 4, 2, 1, 0])) ?_; intro it z)))
  go_frame
  go_loopg [4, 5] S.R.length (fun k s4 s5 wr => ∃ (seen : Array Nat) (V C : List UM) (es : Array MapEntry) (cl : Nat), Vis S.esG S.R seen V ∧ k = S.R.length - V.length ∧ absU C = absU V ∧ Reads encI es cl (pairsG C) ∧ (∀ r ∈ C, r.Ok) ∧ (∀ r ∈ V, r ∈ S.R) ∧
    ∃ z : Wd E (pt it (.mapIter (some S.mg) S.cG seen S.cG) :: S.pg :: S.pw :: S.hd p :: big UM.at S.R :: pt ng (.map es cl) :: pt nw (.map S.esW S.cW) :: pt c (.cells #[.map (some ng), .map (some nw)] 46 (0, 0)) :: big UM.at C :: L), wr = z.val)
  case atStart => exact ⟨#[], [], [], #[], 0, vis_nil _ _, by simp, rfl, ⟨rfl, by simp, by simp⟩, by simp, by simp, z, rfl⟩
  case round =>
    obtain ⟨seen, V, C, es, cl, hV, hgk, hC, hR2, hok, hsub, z, rfl⟩ := hrel
    have HV := Lib.hid hV; have HC := Lib.hid hC; have HGK := Lib.hid hgk; have HR2 := Lib.hid hR2; have HOK := Lib.hid hok; have HSUB := Lib.hid hsub
    clear hV hC hgk hR2 hok hsub
    go_wp2_with ((with_reducible refine gnext ?_); go_must (refine wd_next z rfl rfl rfl (Wd.heap1 z) HG.out.rG.born ?h0 ?h1))
    case h0 =>
      intro hdone
      have hp := vis_done HG.out.rG HV.out hdone
      have HP := Lib.hid hp
      clear hp hdone
      go_wp2_with fail
      go_ret
      have hperm : (absU C).Perm T := by rw [HC.out, ← HG.out.hR]; exact HP.out.map _
      obtain ⟨u, hu⟩ := At.cl (p := p) HG.out HF.out z.drop
      obtain ⟨v, hv⟩ := At.cl (p := c) (T := absU C) (S := ⟨ng, nw, es, cl, S.esW, S.cW, C, S.W⟩) ⟨HR2.out, rfl, HOK.out⟩ ⟨HF.out.rW, HF.out.one, fun g s b => by
        rw [HF.out.mem]
        exact (live_perm hperm.symm HT.out.keys).mem_iff⟩ (u.ord [1, 2, 3, 4, 0])
      exact ⟨c, absU C, rfl, hperm, v, hu.trans hv⟩
    case h1 =>
      intro e he y
      obtain ⟨r, hr, hes, hkey, hval, hV', hlt, hfresh, hsub⟩ := vis_step HG.out.rG HV.out he
      have hfr := hfresh HK.out
      have hnone : aget (pairsG C) r.id = none := absU_none HC.out (by rw [keys_absU]; exact hfr)
      have hent := fun w h1 h2 => run_entry (P := Try.prog) (it := it) (m := S.mg) (es := S.esG) (clock := S.cG) (since := S.cG) (seen := seen) w h1 h2 hes HG.out.rG.one
      rw [hkey, hval]
      rw [hkey, hval] at hent
      obtain ⟨R1, R2, hRR⟩ := List.append_of_mem hr
      have hl := HL.out r hr
      have HV2 := Lib.hid hV'; have HN := Lib.hid hnone; have HRR := Lib.hid hRR; have HRO := Lib.hid (HG.out.ok r hr); have HLL := Lib.hid hl; have HSUB2 := Lib.hid hsub; have HR := Lib.hid hr
      obtain ⟨z, hz⟩ : ∃ z : Wd E (r.at :: big UM.at (R1 ++ R2) :: pt it (.mapIter (some S.mg) S.cG (seen.push e.born) S.cG) :: S.pg :: S.pw :: S.hd p :: pt ng (.map es cl) :: pt nw (.map S.esW S.cW) :: pt c (.cells #[.map (some ng), .map (some nw)] 46 (0, 0)) :: big UM.at C :: L), y.val = z.val := by
        obtain ⟨z, hz⟩ := big_out (f := UM.at) (R1 := R1) (R2 := R2) (r := r) ((y.ord [4, 0, 1, 2, 3]).cast (by rw [HRR.out]; rfl))
        exact ⟨z, hz⟩
      rw [hz]
      clear hkey hval hV' hfresh hfr hnone hz he hl hRR hsub hr
      go_wp2_with fail
      have ne : Nonempty (Wd E (r.at :: big UM.at (R1 ++ R2) :: pt it (.mapIter (some S.mg) S.cG (seen.push e.born) S.cG) :: S.pg :: S.pw :: S.hd p :: pt ng (.map es cl) :: pt nw (.map S.esW S.cW) :: pt c (.cells #[.map (some ng), .map (some nw)] 46 (0, 0)) :: big UM.at C :: L)) := ⟨z⟩
      refine wp_region_wd_mix z (fun w' => ∃ y : Wd E (r.at :: big UM.at (R1 ++ R2) :: pt it (.mapIter (some S.mg) S.cG (seen.push e.born) S.cG) :: S.pg :: S.pw :: S.hd p :: pt ng (.map es cl) :: pt nw (.map S.esW S.cW) :: pt c (.cells #[.map (some ng), .map (some nw)] 46 (0, 0)) :: big UM.at C :: L), w' = y.val) 7 [(0, true), (1, true), (2, true), (3, true), (4, true), (5, true), (6, false)] (by kernel_rfl) (by kernel_rfl)
        (fun c a d v w h => by cases d <;> exact h) ⟨z.drew, rfl⟩ ?_
      refine mix_reads [0, 1, 2, 3, 4, 5] (by kernel_rfl) ?_
      simp only [pick, List.getD_cons_zero, List.getD_cons_succ]
      repeat (go_big_quiet_step (fail))
      refine wpQuiet_nil ?_
      refine mix_step rfl ?_
      go_wp2_with fail
      refine (clone_calls HRO.out.take (by have := HLL.out; omega) z.drew).mono ?_; rintro e' w' ⟨v, rfl, -, z, rfl⟩
      go_wp2_with fail
      refine ⟨⟨z.drop, rfl⟩, ?_⟩
      unfold wpMix
      simp only [List.drop_succ_cons, List.drop_zero]
      obtain ⟨nb, cap, cur, rfl, hnc, hcm, hcs, htake, z2, hz2⟩ := Row.op z (by have := HLL.out; omega)
      rw [hz2]
      have hu : UM.Ok ⟨r.id, r.l, nb, cap, cur⟩ := ⟨hnc, hcm, by simpa using hcs, holds_row htake⟩
      have HU := Lib.hid hu
      clear hz2 hu hnc hcm hcs htake
      have hst : ∀ w : World, w.heap[ng]? = some (.map es cl) → (Instr.mapUpdate 43 (.map (some ng)) (.int .i64 r.id) (.slice (some ⟨nb, 0, none⟩) r.l.length cap)).run Try.prog w = .ok () (putObj w ng (.map (putEs encI es cl (pairsG C) r.id (.slice (some ⟨nb, 0, none⟩) r.l.length cap)) (putClock cl (pairsG C) r.id))) := fun w hm =>
        run_mapUpdate_is lawI Try.underlying43 hm HR2.out r.id _
      refine wd_mapUpdate z2.up7 rfl rfl _ _ _ _ rfl _ _ rfl rfl rfl hst ?_
      intro z
      go_wp2_with fail
      have hR3 := HR2.out.put r.id (.slice (some ⟨nb, 0, none⟩) r.l.length cap)
      rw [aput_new _ HN.out, show pairsG C ++ [(r.id, Value.slice (some ⟨nb, 0, none⟩) r.l.length cap)] = pairsG (C ++ [⟨r.id, r.l, nb, cap, cur⟩]) by simp [pairsG]] at hR3
      obtain ⟨z3, hz3⟩ := big_snoc (f := UM.at) (R := C) (r := ⟨r.id, r.l, nb, cap, cur⟩) (z.ord [1, 10, 0, 2, 3, 4, 5, 6, 7, 8, 9])
      obtain ⟨z4, hz4⟩ := big_in (f := UM.at) (R1 := R1) (R2 := R2) (r := r) (z3.ord [2, 3, 0, 1, 4, 5, 6, 7, 8, 9])
      go_roundg (gk - 1)
      case measure => have := HGK.out; omega
      case rel =>
        refine ⟨seen.push e.born, V ++ [r], C ++ [⟨r.id, r.l, nb, cap, cur⟩], _, _, HV2.out, by rw [HGK.out, List.length_append, List.length_singleton]; omega, ?_, hR3, ?_, ?_, (z4.ord [3, 4, 5, 6, 0, 2, 7, 8, 1]).cast (by rw [HRR.out]; rfl), hz3.trans hz4⟩
        · have h1 := HC.out
          unfold absU at h1 ⊢
          rw [List.map_append, List.map_append, h1]
          rfl
        · intro q hq
          rcases List.mem_append.1 hq with hq | hq
          · exact HOK.out q hq
          · simp at hq; subst hq; exact HU.out
        · intro q hq
          rcases List.mem_append.1 hq with hq | hq
          · exact HSUB2.out q hq
          · simp at hq; subst hq; exact HR.out
end Go.Proofs.Ytechbidbhoookaa.Use
