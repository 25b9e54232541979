/- The reference of layer 6: Add. -/
import Derived.Test.YticilcmplgimpaaDoorRef06
namespace Go.Proofs.YticilcmplgimpaaDoor.Ref06
open Go Go.RowKit Go.Proofs.YticilcmplgimpaaDoor.Sl
open Go.Proofs.YticilcmplgimpaaDoor.Bits (ptr)
open Go.Proofs.YticilcmplgimpaaDoor.Ext (count codeTake nextTake codeFree nextFree toCode toNext index takeVal takeNext usedN roomN addCode addNext)

theorem elemMember : Elem Tryd.prog 50 2 32 := Elem.mk' (.agg #[.int .i64 0, .slice none 0 0]) (by kernel_rfl) rfl
theorem cells_snoc (R : List RM) (r : RM) : cells (R ++ [r]) = cells R ++ [.int .i64 r.d, r.v] := by simp [cells]

set_option maxRecDepth 100000 in
set_option maxHeartbeats 1000000 in
theorem add_calls {E : World} {L : List HProp} (p : Nat) (A : List (Int × List Bool)) (d s : Int) (hs0 : -9223372036854775808 ≤ s) (hs1 : s ≤ 9223372036854775807) (hA : A.length ≤ 1000000) (x : Wd E (At p A :: L)) :
    Calls Tryd.prog 17 #[ptr p, .int .i64 d, .int .i64 s] x.val fun e w' => e = .returned (.int .i64 (addCode A d s)) ∧ ∃ y : Wd E (At p (addNext A d s) :: L), w' = y.val := by
  by_cases hbad : d < 0 ∨ s < 0 ∨ 4096 < s
  · have e1 : addCode A d s = 1 := by unfold addCode; rw [if_pos hbad]
    have e2 : addNext A d s = A := by unfold addNext; rw [if_neg (by rw [e1]; decide)]
    rw [e1, e2]
    by_cases h1 : d < 0
    · clear hbad
      go_enter Tryd.func17, Tryd.ntmps17
      go_wp2
      go_ret
      exact ⟨rfl, x, rfl⟩
    · by_cases h2 : s < 0
      · clear hbad
        go_enter Tryd.func17, Tryd.ntmps17
        go_wp2
        go_ret
        exact ⟨rfl, x, rfl⟩
      · have h3 : 4096 < s := by omega
        clear hbad
        go_enter Tryd.func17, Tryd.ntmps17
        go_wp2
        go_ret
        exact ⟨rfl, x, rfl⟩
  · have h1 : ¬ d < 0 := fun h => hbad (.inl h)
    have h2 : ¬ s < 0 := fun h => hbad (.inr (.inl h))
    have h3 : ¬ 4096 < s := fun h => hbad (.inr (.inr h))
    obtain ⟨lv, R, rfl, hok, y, hy⟩ := At.op x
    rw [hy]
    obtain ⟨A', hA', ⟨z, hz⟩, hback⟩ := Row.read y
    rw [hz]
    have hlR : R.length ≤ 1000000 := by simpa [abs] using hA
    clear hy hz
    have hat := fun z => at_calls (E := E) (L := big RM.at R :: L) p d hA' (by omega) z
    cases ha : aget (abs R) d with
    | some l =>
      have e1 : addCode (abs R) d s = 9 := by unfold addCode; rw [if_neg hbad, ha]; rfl
      have e2 : addNext (abs R) d s = abs R := by unfold addNext; rw [if_neg (by rw [e1]; decide)]
      obtain ⟨R1, r, R2, hR, _, _, _, hi⟩ := at_some ha
      rw [e1, e2]
      rw [hi] at hat
      have HAT := Lib.hid hat; have HB := Lib.hid (fun z => hback E (head p lv :: big RM.at R :: L) z); have HOK := Lib.hid hok
      clear hbad ha hi hR e1 e2 hat hback hA' hok hA
      go_enter Tryd.func17, Tryd.ntmps17
      go_wp2_with fail
      refine (HAT.out z).mono ?_; rintro e w' ⟨rfl, z, rfl⟩
      go_wp2_with fail
      go_ret
      obtain ⟨u, hu⟩ := HB.out z
      obtain ⟨v, hv⟩ := At.cl HOK.out u
      exact ⟨rfl, v, hu.trans hv⟩
    | none =>
      have e1 : addCode (abs R) d s = 0 := by unfold addCode; rw [if_neg hbad, ha]; rfl
      have e2 : addNext (abs R) d s = abs R ++ [(d, List.replicate (count s) false)] := by unfold addNext; rw [if_pos e1]
      have hc : count s ≤ 65536 := by unfold count; split <;> omega
      rw [e1, e2]
      rw [at_none ha] at hat
      have HAT := Lib.hid hat; have HB := Lib.hid (fun z => hback E (head p lv :: big RM.at R :: L) z); have HOK := Lib.hid hok
      clear hbad ha e1 e2 hat hback hA' hok hA
      go_enter Tryd.func17, Tryd.ntmps17
      go_wp2_with fail
      refine (HAT.out z).mono ?_; rintro e w' ⟨rfl, z, rfl⟩
      obtain ⟨z, hz⟩ := HB.out z
      rw [hz]
      clear hz
      go_wp2_with fail
      have ne : Nonempty (Wd E (head p lv :: L)) := ⟨z.drop.up1.drop.cast rfl⟩
      refine wp_region_wd_mix z (fun w' => ∃ y : Wd E (head p lv :: L), w' = y.val) 14
        [(0, true), (1, true), (2, true), (3, true), (4, true), (5, true), (6, true), (7, false), (8, false), (9, true), (10, false), (11, false), (12, true), (13, true)] (by kernel_rfl) (by kernel_rfl)
        (fun c a d v w h => by cases d <;> exact h) ⟨z.drew.drop.up1.drop, rfl⟩ ?_
      refine mix_reads [0, 1, 2, 3, 4, 5, 6] (by kernel_rfl) ?_
      simp only [pick, List.getD_cons_zero, List.getD_cons_succ]
      repeat (go_big_quiet_step (fail))
      refine wpQuiet_nil ?_
      refine mix_eff (by kernel_rfl) ?_
      simp only [List.getD_cons_zero, List.getD_cons_succ]
      go_wp2_with fail
      refine (count_calls z.drew s (by omega) (by omega)).mono ?_; rintro e w' ⟨rfl, z, rfl⟩
      go_wp2_with fail
      refine ⟨⟨z.drop.up1.drop, rfl⟩, mix_eff (by kernel_rfl) ?_⟩
      simp only [List.getD_cons_zero, List.getD_cons_succ]
      refine wd_make z rfl 48 4 _ _ rfl Tryd.underlying48 (.bool false) 1 1 (by kernel_rfl) (count s) rfl rfl (by omega) (by unfold maxLen; omega) ?_
      intro tb z
      go_wp2_with fail
      go_frame
      refine ⟨⟨z.drop.drop.up1.drop, rfl⟩, mix_reads [9] (by kernel_rfl) ?_⟩
      simp only [pick, List.getD_cons_zero, List.getD_cons_succ]
      repeat (go_big_quiet_step (fail))
      refine wpQuiet_nil ?_
      refine mix_eff (by kernel_rfl) ?_
      simp only [List.getD_cons_zero, List.getD_cons_succ]
      refine wd_buildSlice z rfl 45 50 1 _ rfl #[.int .i64 d, .slice (some ⟨tb, 0, none⟩) (count s) (count s)] (fun w => by kernel_rfl) ?_
      intro bs z
      go_wp2_with fail
      go_frame
      refine ⟨⟨z.drop.drop.drop.up1.drop, rfl⟩, mix_eff (by kernel_rfl) ?_⟩
      simp only [List.getD_cons_zero, List.getD_cons_succ]
      refine wd_append z.up2 rfl _ _ 45 rfl Tryd.underlying45 elemMember rfl rfl (news := [.int .i64 d, .slice (some ⟨tb, 0, none⟩) (count s) (count s)]) (m := 1) (by rfl) (fun j u hj => block_news (Wd.heap1 z.up2) j u hj) (by simp [Value.oneCell']) (by unfold maxLen; omega) (by omega) ?_
      intro lv2 z _
      obtain ⟨base2, cap2, rfl⟩ := Row.form z
      go_wp2_with fail
      go_frame
      refine ⟨⟨z.drop.drop.drop.up1.drop, rfl⟩, mix_reads [12, 13] (by kernel_rfl) ?_⟩
      simp only [pick, List.getD_cons_zero, List.getD_cons_succ]
      repeat (go_big_quiet_step (fail))
      refine wpQuiet_nil ?_
      unfold wpMix
      simp only [List.drop_succ_cons, List.drop_zero]
      go_wp2_with fail
      go_ret
      let r : RM := ⟨d, List.replicate (count s) false, tb, count s, madeCells (Value.bool false).cells (count s * 1)⟩
      have hr : r.Ok := by
        refine ⟨by simp [r], by show count s ≤ maxLen; unfold maxLen; omega, by simp [r, size_madeCells], fun j hj => ?_⟩
        have hj' : j < count s := by simpa [r] using hj
        show (madeCells #[Value.bool false] (count s * 1))[j]? = _
        rw [made_get _ _ _ (by omega)]
        simp [r, hj']
      have hv : r.v = .slice (some ⟨tb, 0, none⟩) (count s) (count s) := by
        show Value.slice _ (List.replicate (count s) false).length (count s) = _
        rw [List.length_replicate]
      obtain ⟨u, hu⟩ := big_snoc (f := RM.at) (R := R) (r := r) (z.set3 0 (.slice base2 (R.length + 1) cap2)).up1.drop.up3.up2
      obtain ⟨v, hv⟩ := At.cl (L := L) (p := p) (lv := .slice base2 (R.length + 1) cap2) (R := R ++ [r]) (fun r' hr' => by
        rcases List.mem_append.1 hr' with h | h
        · exact HOK.out r' h
        · simp at h; exact h ▸ hr) (u.down2.cast (by rw [cells_snoc, List.length_append, hv]; rfl))
      exact ⟨rfl, v.cast (by simp [abs, r]), hu.trans hv⟩

end Go.Proofs.YticilcmplgimpaaDoor.Ref06
