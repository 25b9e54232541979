/- The reference of layer 6: Clone. -/
import Derived.Test.YticilcmplgimpaaDoorRef06D
namespace Go.Proofs.YticilcmplgimpaaDoor.Ref06
open Go Go.RowKit Go.Proofs.YticilcmplgimpaaDoor.Sl
open Go.Proofs.YticilcmplgimpaaDoor.Bits (ptr)

theorem elemMember' : Elem Tryd.prog 50 2 32 := Elem.mk' (.agg #[.int .i64 0, .slice none 0 0]) (by kernel_rfl) rfl
theorem elemBool : Elem Tryd.prog 4 1 1 := Elem.mk' (.bool false) (by kernel_rfl) rfl
theorem cells_snoc' (R : List RM) (r : RM) : cells (R ++ [r]) = cells R ++ [.int .i64 r.d, r.v] := by simp [cells]
theorem abs_same (l1 l2 : List RM) (h : abs l1 = abs l2) : l1.length = l2.length := by
  have := congrArg List.length h
  simpa [abs] using this
/-- A row that is no nil slice is a member's block. -/
theorem row_rm {E : World} {L : List HProp} {v : Value} {l : List Bool} {n : Nat} {vs : List Value} (d : Int) (x : Wd E (Row 4 1 v n vs :: L)) (hn : n = l.length) (hvs : vs = l.map fun b => Value.bool b) (hv : v ≠ .slice none 0 0) :
    ∃ r : RM, r.d = d ∧ r.l = l ∧ r.Ok ∧ r.v = v ∧ ∃ y : Wd E (r.at :: L), x.val = y.val := by
  subst hn
  subst hvs
  obtain ⟨hb, h, ⟨h1, h2, hd, hu, ⟨hl, hx⟩, y⟩, hw⟩ := x.sat
  rcases hx with ⟨h0, _, _⟩ | ⟨b, cap, cur, hv', hc, hm, hs, ht, hp⟩
  · exact absurd h0 hv
  · refine ⟨⟨d, l, b, cap, cur⟩, rfl, rfl, ⟨hc, hm, by simpa using hs, fun j hj => ?_⟩, hv'.symm, ⟨x.val, hb, h, ⟨h1, h2, hd, hu, hp, y⟩, hw⟩, rfl⟩
    have hj' : j < l.length := hj
    have h3 : (l.map fun b => Value.bool b)[j]? = some (.bool (l.getD j false)) := by
      rw [List.getElem?_map, List.getElem?_eq_getElem hj', List.getD_eq_getElem?_getD, List.getElem?_eq_getElem hj']; rfl
    rw [← ht, List.getElem?_take, if_pos (by omega)] at h3
    simpa using h3

set_option maxRecDepth 100000 in
set_option maxHeartbeats 2000000 in
theorem clone_calls {E : World} {L : List HProp} (p : Nat) (A : List (Int × List Bool)) (hn : A.length ≤ 1000000) (hA : ∀ x ∈ A, x.2.length ≤ 65536) (x : Wd E (At p A :: L)) :
    Calls Tryd.prog 7 #[ptr p] x.val fun e w' => ∃ c, e = .returned (ptr c) ∧ ∃ y : Wd E (At c A :: At p A :: L), w' = y.val := by
  go_enter Tryd.func7, Tryd.ntmps7
  go_wp2_with fail
  refine (new_calls x).mono ?_; rintro e w' ⟨c, rfl, y, rfl⟩
  obtain ⟨lv, R, rfl, hok, z, hz⟩ := At.op y.up1
  obtain ⟨A', hA', ⟨z, hz'⟩, hback⟩ := Row.read z
  obtain ⟨lc, C, hC, hokC, u, hu⟩ := At.op (z.up3 : Wd E (At c [] :: A' :: head p lv :: big RM.at R :: L))
  have hz2 : y.val = u.val := hz.trans (hz'.trans hu)
  rw [hz2]
  have hn' : R.length ≤ 1000000 := by simpa [abs] using hn
  have hC0 : C = [] := by
    cases C with
    | nil => rfl
    | cons a b => simp [abs] at hC
  subst hC0
  have hlen : ∀ k (h : k < R.length), (R[k]).l.length ≤ 65536 := fun k h => hA ((R[k]).d, (R[k]).l) (List.mem_map.2 ⟨R[k], List.getElem_mem h, rfl⟩)
  have HOK := Lib.hid hok; have HBK := Lib.hid hback; have HLN := Lib.hid hlen
  clear hz hz' hu hz2 hC hokC hok hback hn hA hlen
  obtain ⟨base, cap, rfl, hb⟩ := hA'
  have HB := Lib.hid hb; clear hb
  go_wp2_with fail
  go_loopw [4] (fun n wr => ∃ (k : Nat) (lc : Value) (C : List RM), k ≤ R.length ∧ abs C = abs (R.take k) ∧ (∀ r ∈ C, r.Ok) ∧ n = .int .i64 (k : Int) ∧
    ∃ u : Wd E (Row 50 2 lc C.length (cells C) :: head c lc :: big RM.at C :: A' :: head p (.slice base R.length cap) :: big RM.at R :: L), wr = u.val) (fun n _ => R.length - (intOf n).toNat)
  case atStart => exact ⟨0, lc, [], by omega, rfl, by simp, rfl, u, rfl⟩
  case round =>
    obtain ⟨k, lc, C, hk, habs, hokC, rfl, u, rfl⟩ := hrel
    have hCk : C.length = k := by rw [abs_same _ _ habs, List.length_take]; omega
    have HAB := Lib.hid habs; have HOC := Lib.hid hokC; have HCK := Lib.hid hCk
    have hCn : C.length ≤ 1000000 := by omega
    clear habs hokC hCk
    obtain ⟨cb, cc, rfl⟩ := Row.form u
    by_cases hlt : k < R.length
    · obtain ⟨b, rfl, cur, rfl, hcur⟩ := HB.out (by omega)
      obtain ⟨hc1, hc2⟩ := cells_get R k hlt
      have hc1 := hcur _ _ hc1
      have hc2 := hcur _ _ hc2
      have hl := HLN.out k hlt
      have hrk := HOK.out _ (List.getElem_mem hlt)
      have hat := fun (L : List HProp) (y : Wd E (big RM.at R :: L)) => big_at (f := RM.at) (r := R[k]) rfl (List.getElem_mem hlt) y
      have htk : R.take (k + 1) = R.take k ++ [R[k]] := List.take_succ_eq_append_getElem hlt
      have HRK := Lib.hid hrk; have HAT := Lib.hid hat; have HTK := Lib.hid htk
      clear hcur hrk hat htk
      generalize R[k] = r at *
      go_wp2_with fail
      have ne : Nonempty (Wd E (head c (.slice cb C.length cc) :: big RM.at C :: pt b (.cells cur 50 (0, 0)) :: head p (.slice (some ⟨b, 0, none⟩) R.length cap) :: big RM.at R :: L)) := ⟨u.drop⟩
      refine wp_region_wd_mix u (fun w' => ∃ y : Wd E (head c (.slice cb C.length cc) :: big RM.at C :: pt b (.cells cur 50 (0, 0)) :: head p (.slice (some ⟨b, 0, none⟩) R.length cap) :: big RM.at R :: L), w' = y.val) 28
        [(0, true), (1, true), (2, true), (3, true), (4, true), (5, true), (6, true), (7, true), (8, true), (9, true), (10, true), (11, true), (12, true), (14, true), (15, true), (16, true), (17, true), (18, true), (19, true), (20, true), (21, true), (13, false), (22, false), (23, true), (24, false), (25, false), (26, true), (27, true)] (by kernel_rfl) (by kernel_rfl)
        (fun c a d v w h => by cases d <;> exact h) ⟨u.drew.drop, rfl⟩ ?_
      refine mix_reads [0, 1, 2, 3, 4, 5, 6, 7, 8, 9, 10, 11, 12, 14, 15, 16, 17, 18, 19, 20, 21] (by kernel_rfl) ?_
      simp only [pick, List.getD_cons_zero, List.getD_cons_succ]
      repeat (go_big_quiet_step (fail))
      refine wpQuiet_nil ?_
      refine mix_eff (by kernel_rfl) ?_
      simp only [List.getD_cons_zero, List.getD_cons_succ]
      refine wd_buildSlice u.drew rfl 48 4 0 _ rfl #[] (fun w => by kernel_rfl) ?_
      intro tb z
      obtain ⟨z, hz⟩ := Row.cl (n := 0) (cap := 0) (k := 1) (by omega) (by unfold maxLen; omega) rfl z
      rw [hz]
      clear hz
      go_wp2_with fail
      go_frame
      refine ⟨⟨z.drop.drop, rfl⟩, mix_eff (by kernel_rfl) ?_⟩
      simp only [List.getD_cons_zero, List.getD_cons_succ]
      refine wd_append z rfl _ _ 48 rfl Tryd.underlying48 elemBool rfl rfl (news := r.l.map fun b => Value.bool b) (m := r.l.length) (by simp) (fun j v hj => block_news (HAT.out _ z.up6) j v (by
        rw [List.getElem?_map] at hj
        cases hg : r.l[j]? with
        | none => rw [hg] at hj; cases hj
        | some b =>
          rw [hg] at hj
          have hj' : j < r.l.length := by
            by_cases h : j < r.l.length
            · exact h
            · rw [List.getElem?_eq_none (by omega)] at hg; cases hg
          have := HRK.out.take j hj'
          rw [List.getD_eq_getElem?_getD, hg] at this
          simpa [← Option.some.inj hj] using this)) (by intro u hu; obtain ⟨q, _, rfl⟩ := List.mem_map.1 hu; rfl) (by unfold maxLen; omega) (by omega) ?_
      intro v2 z hnil
      have hne : v2 ≠ .slice none 0 0 := fun h => by cases (hnil h).1
      clear hnil
      obtain ⟨r', hd', hl', hok', rfl, z, hz⟩ := row_rm (l := r.l) r.d z (by simp) (by simp) hne
      rw [hz]
      have HD' := Lib.hid hd'; have HL' := Lib.hid hl'; have HK' := Lib.hid hok'
      clear hz hne hl' hok' hd'
      go_wp2_with fail
      go_frame
      refine ⟨⟨z.drop.drop, rfl⟩, mix_reads [23] (by kernel_rfl) ?_⟩
      simp only [pick, List.getD_cons_zero, List.getD_cons_succ]
      repeat (go_big_quiet_step (fail))
      refine wpQuiet_nil ?_
      refine mix_eff (by kernel_rfl) ?_
      simp only [List.getD_cons_zero, List.getD_cons_succ]
      refine wd_buildSlice z rfl 45 50 1 _ rfl #[.int .i64 r.d, r'.v] (fun w => by kernel_rfl) ?_
      intro bs z
      go_wp2_with fail
      go_frame
      refine ⟨⟨z.drop.drop.drop, rfl⟩, mix_eff (by kernel_rfl) ?_⟩
      simp only [List.getD_cons_zero, List.getD_cons_succ]
      refine wd_append z.up2 rfl _ _ 45 rfl Tryd.underlying45 elemMember' rfl rfl (news := [.int .i64 r.d, r'.v]) (m := 1) (by rfl) (fun j u hj => block_news (Wd.heap1 z.up2) j u hj) (by simp [Value.oneCell']) (by unfold maxLen; omega) (by omega) ?_
      intro lv2 z _
      obtain ⟨base2, cap2, rfl⟩ := Row.form z
      go_wp2_with fail
      go_frame
      refine ⟨⟨z.drop.drop.drop, rfl⟩, mix_reads [26, 27] (by kernel_rfl) ?_⟩
      simp only [pick, List.getD_cons_zero, List.getD_cons_succ]
      repeat (go_big_quiet_step (fail))
      refine wpQuiet_nil ?_
      unfold wpMix
      simp only [List.drop_succ_cons, List.drop_zero]
      go_wp2_with fail
      obtain ⟨u2, hu2⟩ := big_snoc (f := RM.at) (R := C) (r := r') (z.set3 0 (.slice base2 (C.length + 1) cap2)).up1.drop.up3.up2
      refine ⟨⟨k + 1, .slice base2 (C.length + 1) cap2, C ++ [r'], by omega, ?_, ?_, rfl, u2.down2.cast ?_, hu2⟩, by simp [intOf]; omega⟩
      · have h1 := HAB.out
        rw [HTK.out]
        unfold abs at h1 ⊢
        rw [List.map_append, List.map_append, h1]
        simp [HD'.out, HL'.out]
      · intro q hq
        rcases List.mem_append.1 hq with h | h
        · exact HOC.out q h
        · simp at h; exact h ▸ HK'.out
      · rw [cells_snoc', List.length_append, HD'.out]; rfl
    · go_wp2_with fail
      go_ret
      have hkR : k = R.length := by omega
      obtain ⟨v1, hv1⟩ := At.cl HOC.out u
      have hab := HAB.out
      rw [hkR, List.take_length] at hab
      obtain ⟨v2, hv2⟩ := HBK.out _ _ v1.up1
      obtain ⟨v3, hv3⟩ := At.cl HOK.out (v2.up1.down3)
      exact ⟨c, rfl, v3.up1.cast (by rw [hab]), hv1.trans (hv2.trans hv3)⟩
end Go.Proofs.YticilcmplgimpaaDoor.Ref06
