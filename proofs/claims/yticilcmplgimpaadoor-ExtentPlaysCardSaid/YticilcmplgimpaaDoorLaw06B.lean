/- The law of layer 6: shown. -/
import Derived.Test.YticilcmplgimpaaDoorLaw06
namespace Go.Proofs.YticilcmplgimpaaDoor.Law06
open Go Go.RowKit Go.Proofs.YticilcmplgimpaaDoor.Sl
open Go.Proofs.YticilcmplgimpaaDoor.Bits (ptr)
open Go.Proofs.YticilcmplgimpaaDoor.Ext (count codeTake nextTake codeFree nextFree toCode toNext index idxVal takeVal takeNext usedN roomN addCode addNext hasB sorted zero36)

theorem e_add : addCode [] 3 130 = 0 ∧ addNext [] 3 130 = [(3, [false, false])] := by decide
theorem e_t1 : takeVal [(3, [false, false])] 3 = .tuple #[.agg #[.int .i64 3, .int .i64 114], .int .i64 0] ∧ takeNext [(3, [false, false])] 3 = [(3, [true, false])] := ⟨rfl, rfl⟩
theorem e_t2 : takeVal [(3, [true, false])] 3 = .tuple #[.agg #[.int .i64 3, .int .i64 122], .int .i64 0] ∧ takeNext [(3, [true, false])] 3 = [(3, [true, true])] := ⟨rfl, rfl⟩
theorem e_t3 : takeVal [(3, [true, true])] 3 = .tuple #[.agg #[.int .i64 0, .int .i64 0], .int .i64 4] ∧ takeNext [(3, [true, true])] 3 = [(3, [true, true])] := ⟨rfl, rfl⟩
theorem e_t4 : takeVal [(3, [true, true])] 4 = .tuple #[.agg #[.int .i64 0, .int .i64 0], .int .i64 8] ∧ takeNext [(3, [true, true])] 4 = [(3, [true, true])] := ⟨rfl, rfl⟩
theorem e_i1 : idxVal (index 130) = .tuple #[.int .i64 2, .bool true] := rfl
theorem e_i2 : idxVal (index 115) = .tuple #[.int .i64 0, .bool false] := rfl
theorem e_c : (count 121 : Int) = 0 := rfl

set_option maxRecDepth 100000 in
set_option maxHeartbeats 2000000 in
theorem shown_calls {E : World} {L : List HProp} (hT : Bits.Table E) (x : Wd E L) :
    Calls Tryd.prog 4 #[] x.val fun e w' => e = .returned (.bool true) ∧ ∃ y : Wd E L, w' = y.val := by
  have ha := fun L p x => Ext.add_calls (E := E) (L := L) p [] 3 130 (by decide) (by decide) x
  rw [e_add.1, e_add.2] at ha
  have h1 := fun L p x => Ext.take_calls (E := E) (L := L) hT p [(3, [false, false])] 3 (by decide) x
  rw [e_t1.1, e_t1.2] at h1
  have h2 := fun L p x => Ext.take_calls (E := E) (L := L) hT p [(3, [true, false])] 3 (by decide) x
  rw [e_t2.1, e_t2.2] at h2
  have h3 := fun L p x => Ext.take_calls (E := E) (L := L) hT p [(3, [true, true])] 3 (by decide) x
  rw [e_t3.1, e_t3.2] at h3
  have h4 := fun L p x => Ext.take_calls (E := E) (L := L) hT p [(3, [true, true])] 4 (by decide) x
  rw [e_t4.1, e_t4.2] at h4
  have h5 := fun L x => Ext.index_calls (E := E) (L := L) x 130 (by decide) (by decide)
  rw [e_i1] at h5
  have h6 := fun L x => Ext.index_calls (E := E) (L := L) x 115 (by decide) (by decide)
  rw [e_i2] at h6
  have h7 := fun L x => Ext.count_calls (E := E) (L := L) x 121 (by decide) (by decide)
  rw [e_c] at h7
  have HA := Lib.hid ha; have H1 := Lib.hid h1; have H2 := Lib.hid h2; have H3 := Lib.hid h3; have H4 := Lib.hid h4; have H5 := Lib.hid h5; have H6 := Lib.hid h6; have H7 := Lib.hid h7
  clear hT ha h1 h2 h3 h4 h5 h6 h7
  go_enter Tryd.func4, Tryd.ntmps4
  go_wp2_with fail
  refine (Ext.new_calls x).mono ?_; rintro e w' ⟨p, rfl, z, rfl⟩
  go_wp2_with fail
  refine (HA.out _ p z).mono ?_; rintro e w' ⟨rfl, z, rfl⟩
  go_wp2_with fail
  refine (H1.out _ p z).mono ?_; rintro e w' ⟨rfl, z, rfl⟩
  go_wp2_with ((with_reducible refine galloc 36 ?_); go_must (refine wd_alloc z rfl 36 rfl (.agg #[.int .i64 0, .int .i64 0]) zero36 ?_; intro x1 z; simp only [Value.cells] at z))
  refine (H2.out _ p ((z.set0 0 (.int .i64 3)).set0 1 (.int .i64 114)).up1).mono ?_; rintro e w' ⟨rfl, z, rfl⟩
  go_wp2_with ((with_reducible refine galloc 36 ?_); go_must (refine wd_alloc z rfl 36 rfl (.agg #[.int .i64 0, .int .i64 0]) zero36 ?_; intro x2 z; simp only [Value.cells] at z))
  refine (H3.out _ p ((z.set0 0 (.int .i64 3)).set0 1 (.int .i64 122)).up1).mono ?_; rintro e w' ⟨rfl, z, rfl⟩
  go_wp2_with ((with_reducible refine galloc 36 ?_); go_must (refine wd_alloc z rfl 36 rfl (.agg #[.int .i64 0, .int .i64 0]) zero36 ?_; intro x3 z; simp only [Value.cells] at z))
  refine (H4.out _ p ((z.set0 0 (.int .i64 0)).set0 1 (.int .i64 0)).up1).mono ?_; rintro e w' ⟨rfl, z, rfl⟩
  go_wp2_with ((with_reducible refine galloc 36 ?_); go_must (refine wd_alloc z rfl 36 rfl (.agg #[.int .i64 0, .int .i64 0]) zero36 ?_; intro x4 z; simp only [Value.cells] at z))
  refine (H5.out _ ((z.set0 0 (.int .i64 0)).set0 1 (.int .i64 0))).mono ?_; rintro e w' ⟨rfl, z, rfl⟩
  go_wp2_with fail
  refine (H6.out _ z).mono ?_; rintro e w' ⟨rfl, z, rfl⟩
  go_wp2_with fail
  refine (H7.out _ z).mono ?_; rintro e w' ⟨rfl, z, rfl⟩
  go_wp2_with fail
  refine (Ext.place_calls z 2 (by decide) (by decide)).mono ?_; rintro e w' ⟨rfl, z, rfl⟩
  go_wp2_with fail
  go_ret
  exact ⟨rfl, z.drop.drop.drop.drop.drop, rfl⟩
end Go.Proofs.YticilcmplgimpaaDoor.Law06
