/- The law of layer 6: does. -/
import Derived.Test.YticilcmplgimpaaDoorLaw06B
set_option linter.unusedVariables false
namespace Go.Proofs.YticilcmplgimpaaDoor.Law06
open Go Go.RowKit Go.Proofs.YticilcmplgimpaaDoor.Sl
open Go.Proofs.YticilcmplgimpaaDoor.Bits (ptr)
open Go.Proofs.YticilcmplgimpaaDoor.Ext (count codeTake nextTake codeFree nextFree toCode toNext index idxVal takeVal takeNext usedN roomN addCode addNext hasB sorted zero36)

def i64r (n : Int) : Prop := -9223372036854775808 ≤ n ∧ n ≤ 9223372036854775807
/-- What a step leaves. -/
abbrev Left (E : World) (L : List HProp) (p q n : Nat) (w' : World) : Prop := ∃ A' B', Inv (n + 1) A' B' ∧ ∃ y : Wd E (Ext.At p A' :: Ref06.At q B' :: L), w' = y.val
/-- Two calls, one on each side, that answer the same. -/
structure Both (E : World) (p q n : Nat) (A B : Ms) (f g : FuncId) (args : List Value) (v : Value) : Prop where
  two : ∃ A' B', Inv (n + 1) A' B' ∧ (∀ L (x : Wd E (Ext.At p A :: L)), Calls Tryd.prog f (ptr p :: args).toArray x.val fun e w' => e = .returned v ∧ ∃ y : Wd E (Ext.At p A' :: L), w' = y.val) ∧
    (∀ L (x : Wd E (Ref06.At q B :: L)), Calls Tryd.prog g (ptr q :: args).toArray x.val fun e w' => e = .returned v ∧ ∃ y : Wd E (Ref06.At q B' :: L), w' = y.val)
section
variable {E : World} {n p q : Nat} {A B : Ms} (I : Inv n A B) (hn : n ≤ 1000)
include I hn
theorem lens : (∀ x ∈ A, x.2.length ≤ 65536) ∧ (∀ x ∈ B, x.2.length ≤ 65536) ∧ A.length ≤ 1000000 ∧ B.length ≤ 1000000 :=
  ⟨fun x hx => (I.all x hx).2.2, fun x hx => (I.allB x hx).2.2, by have := I.len; omega, by have := I.lenB; omega⟩
theorem both_add {d s : Int} (hd : i64r d) (hs : i64r s) : ∃ c : Int, Both E p q n A B 11 17 [.int .i64 d, .int .i64 s] (.int .i64 c) := by
  obtain ⟨_, _, h3, h4⟩ := lens I hn
  refine ⟨addCode A d s, ⟨_, _, I.add s hd.2, fun L x => Ext.add_calls p A d s hs.1 hs.2 x, fun L x => ?_⟩⟩
  rw [← I.addC]
  exact Ref06.add_calls q B d s hs.1 hs.2 h4 x
theorem both_takeAt {d s : Int} (hs : i64r s) : ∃ c : Int, Both E p q n A B 18 19 [.agg #[.int .i64 d, .int .i64 s]] (.int .i64 c) := by
  obtain ⟨h1, h2, h3, h4⟩ := lens I hn
  refine ⟨toCode codeTake A d s, ⟨_, _, I.toN nextTake nextTake_len d s, fun L x => Ext.takeAt_calls p A d s hs.1 hs.2 h1 x, fun L x => ?_⟩⟩
  rw [← I.to]
  exact Ref06.takeAt_calls q B d s h4 h2 x
theorem both_free {d s : Int} (hs : i64r s) : ∃ c : Int, Both E p q n A B 20 21 [.agg #[.int .i64 d, .int .i64 s]] (.int .i64 c) := by
  obtain ⟨h1, h2, h3, h4⟩ := lens I hn
  refine ⟨toCode codeFree A d s, ⟨_, _, I.toN nextFree nextFree_len d s, fun L x => Ext.free_calls p A d s hs.1 hs.2 h1 x, fun L x => ?_⟩⟩
  rw [← I.to]
  exact Ref06.free_calls q B d s h4 h2 x
theorem both_has {d s : Int} (hs : i64r s) : ∃ c : Bool, Both E p q n A B 22 23 [.agg #[.int .i64 d, .int .i64 s]] (.bool c) := by
  obtain ⟨h1, h2, h3, h4⟩ := lens I hn
  refine ⟨hasB A d s, ⟨A, B, I.more (by omega), fun L x => Ext.has_calls p A d s hs.1 hs.2 h1 x, fun L x => ?_⟩⟩
  rw [← I.has]
  exact Ref06.has_calls q B d s h4 h2 x
theorem both_take (hT : Bits.Table E) (d : Int) : ∃ a b c : Int, Both E p q n A B 12 24 [.int .i64 d] (.tuple #[.agg #[.int .i64 a, .int .i64 b], .int .i64 c]) := by
  obtain ⟨h1, h2, h3, h4⟩ := lens I hn
  obtain ⟨a, b, c, hv⟩ := takeVal_form A d
  refine ⟨a, b, c, ⟨_, _, I.take d, fun L x => ?_, fun L x => ?_⟩⟩
  · rw [← hv]
    exact Ext.take_calls hT p A d h1 x
  · rw [← hv, ← I.takeV]
    exact Ref06.take_calls q B d h4 h2 x
end
-- WALK BEGIN (printed by gen_law06c.py)
set_option maxRecDepth 100000 in
set_option maxHeartbeats 4000000 in
theorem does1 {E : World} {L : List HProp} (hT : Bits.Table E) {n : Nat} {A B : Ms} (I : Inv n A B) (hn : n ≤ 1000) (p q : Nat) (d s : Int) (hd : i64r d) (hs : i64r s) (x : Wd E (Ext.At p A :: Ref06.At q B :: L)) :
    Calls Tryd.prog 9 #[ptr p, ptr q, .agg #[.int .i64 1, .int .i64 d, .int .i64 s]] x.val fun e w' => e = .returned (.bool true) ∧ Left E L p q n w' := by
    obtain ⟨c, ⟨A', B', I', cp, cq⟩⟩ := both_add (E := E) (p := p) (q := q) I hn hd hs
    have CP := Lib.hid cp; have CQ := Lib.hid cq; have HI := Lib.hid I'
    clear cp cq I' hT hd hs I
    go_enter Tryd.func9, Tryd.ntmps9
    go_wp2_with (first
      | ((with_reducible refine gbox 29 ?_); go_must (refine wd_box x rfl 29 _ rfl #[.int .i64 1, .int .i64 d, .int .i64 s] rfl ?_; intro ob z))
      | ((with_reducible refine galloc 36 ?_); go_must (refine wd_alloc z rfl 36 rfl (.agg #[.int .i64 0, .int .i64 0]) zero36 ?_; intro eb z; simp only [Value.cells] at z; obtain ⟨z1, hz1⟩ : ∃ z1 : Wd E (pt eb (.cells #[.int .i64 d, .int .i64 s] 36 (0, 0)) :: pt ob (.cells #[.int .i64 1, .int .i64 d, .int .i64 s] 29 (0, 0)) :: Ext.At p A :: Ref06.At q B :: L), ((z.set0 0 (.int .i64 d)).set0 1 (.int .i64 s)).val = z1.val := ⟨(z.set0 0 (.int .i64 d)).set0 1 (.int .i64 s), rfl⟩)))
    try rw [hz1]
    clear hz1
    have ne : Nonempty (Wd E (pt eb (.cells #[.int .i64 d, .int .i64 s] 36 (0, 0)) :: pt ob (.cells #[.int .i64 1, .int .i64 d, .int .i64 s] 29 (0, 0)) :: L)) := ⟨z1.up2.drop.up2.drop⟩
    refine wp_region_wd_mix z1 (fun w' => ∃ y : Wd E (pt eb (.cells #[.int .i64 d, .int .i64 s] 36 (0, 0)) :: pt ob (.cells #[.int .i64 1, .int .i64 d, .int .i64 s] 29 (0, 0)) :: L), w' = y.val) 11
      [(0, true), (1, true), (2, true), (3, true), (4, true), (6, true), (7, true), (8, true), (9, true), (10, true), (5, false)] (by kernel_rfl) (by kernel_rfl)
      (fun c a d v w h => by cases d <;> exact h) ⟨z1.drew.up2.drop.up2.drop, rfl⟩ ?_
    refine mix_reads [0, 1, 2, 3, 4, 6, 7, 8, 9, 10] (by kernel_rfl) ?_
    simp only [pick, List.getD_cons_zero, List.getD_cons_succ]
    repeat (go_big_quiet_step (fail))
    refine wpQuiet_nil ?_
    refine mix_eff (by kernel_rfl) ?_
    simp only [List.getD_cons_zero, List.getD_cons_succ]
    go_wp2_with fail
    refine (CP.out _ z1.drew.up2).mono ?_; rintro e w' ⟨rfl, y, rfl⟩
    go_wp2_with fail
    refine ⟨⟨y.drop.up2.drop, rfl⟩, ?_⟩
    unfold wpMix
    simp only [List.drop_succ_cons, List.drop_zero]
    go_wp2_with fail
    refine (CQ.out _ y.up3).mono ?_; rintro e w' ⟨rfl, y, rfl⟩
    go_wp2_with fail
    go_ret
    exact ⟨by simp, A', B', HI.out, y.up1.up2.drop.up2.drop, rfl⟩
set_option maxRecDepth 100000 in
set_option maxHeartbeats 4000000 in
theorem does3 {E : World} {L : List HProp} (hT : Bits.Table E) {n : Nat} {A B : Ms} (I : Inv n A B) (hn : n ≤ 1000) (p q : Nat) (d s : Int) (hd : i64r d) (hs : i64r s) (x : Wd E (Ext.At p A :: Ref06.At q B :: L)) :
    Calls Tryd.prog 9 #[ptr p, ptr q, .agg #[.int .i64 3, .int .i64 d, .int .i64 s]] x.val fun e w' => e = .returned (.bool true) ∧ Left E L p q n w' := by
    obtain ⟨c, ⟨A', B', I', cp, cq⟩⟩ := both_takeAt (E := E) (p := p) (q := q) (d := d) I hn hs
    have CP := Lib.hid cp; have CQ := Lib.hid cq; have HI := Lib.hid I'
    clear cp cq I' hT hd hs I
    go_enter Tryd.func9, Tryd.ntmps9
    go_wp2_with (first
      | ((with_reducible refine gbox 29 ?_); go_must (refine wd_box x rfl 29 _ rfl #[.int .i64 3, .int .i64 d, .int .i64 s] rfl ?_; intro ob z))
      | ((with_reducible refine galloc 36 ?_); go_must (refine wd_alloc z rfl 36 rfl (.agg #[.int .i64 0, .int .i64 0]) zero36 ?_; intro eb z; simp only [Value.cells] at z; obtain ⟨z1, hz1⟩ : ∃ z1 : Wd E (pt eb (.cells #[.int .i64 d, .int .i64 s] 36 (0, 0)) :: pt ob (.cells #[.int .i64 3, .int .i64 d, .int .i64 s] 29 (0, 0)) :: Ext.At p A :: Ref06.At q B :: L), ((z.set0 0 (.int .i64 d)).set0 1 (.int .i64 s)).val = z1.val := ⟨(z.set0 0 (.int .i64 d)).set0 1 (.int .i64 s), rfl⟩)))
    try rw [hz1]
    clear hz1
    have ne : Nonempty (Wd E (pt eb (.cells #[.int .i64 d, .int .i64 s] 36 (0, 0)) :: pt ob (.cells #[.int .i64 3, .int .i64 d, .int .i64 s] 29 (0, 0)) :: L)) := ⟨z1.up2.drop.up2.drop⟩
    refine wp_region_wd_mix z1 (fun w' => ∃ y : Wd E (pt eb (.cells #[.int .i64 d, .int .i64 s] 36 (0, 0)) :: pt ob (.cells #[.int .i64 3, .int .i64 d, .int .i64 s] 29 (0, 0)) :: L), w' = y.val) 5
      [(0, true), (1, true), (3, true), (4, true), (2, false)] (by kernel_rfl) (by kernel_rfl)
      (fun c a d v w h => by cases d <;> exact h) ⟨z1.drew.up2.drop.up2.drop, rfl⟩ ?_
    refine mix_reads [0, 1, 3, 4] (by kernel_rfl) ?_
    simp only [pick, List.getD_cons_zero, List.getD_cons_succ]
    repeat (go_big_quiet_step (fail))
    refine wpQuiet_nil ?_
    refine mix_eff (by kernel_rfl) ?_
    simp only [List.getD_cons_zero, List.getD_cons_succ]
    go_wp2_with fail
    refine (CP.out _ z1.drew.up2).mono ?_; rintro e w' ⟨rfl, y, rfl⟩
    go_wp2_with fail
    refine ⟨⟨y.drop.up2.drop, rfl⟩, ?_⟩
    unfold wpMix
    simp only [List.drop_succ_cons, List.drop_zero]
    go_wp2_with fail
    refine (CQ.out _ y.up3).mono ?_; rintro e w' ⟨rfl, y, rfl⟩
    go_wp2_with fail
    go_ret
    exact ⟨by simp, A', B', HI.out, y.up1.up2.drop.up2.drop, rfl⟩
set_option maxRecDepth 100000 in
set_option maxHeartbeats 4000000 in
theorem does4 {E : World} {L : List HProp} (hT : Bits.Table E) {n : Nat} {A B : Ms} (I : Inv n A B) (hn : n ≤ 1000) (p q : Nat) (d s : Int) (hd : i64r d) (hs : i64r s) (x : Wd E (Ext.At p A :: Ref06.At q B :: L)) :
    Calls Tryd.prog 9 #[ptr p, ptr q, .agg #[.int .i64 4, .int .i64 d, .int .i64 s]] x.val fun e w' => e = .returned (.bool true) ∧ Left E L p q n w' := by
    obtain ⟨c, ⟨A', B', I', cp, cq⟩⟩ := both_free (E := E) (p := p) (q := q) (d := d) I hn hs
    have CP := Lib.hid cp; have CQ := Lib.hid cq; have HI := Lib.hid I'
    clear cp cq I' hT hd hs I
    go_enter Tryd.func9, Tryd.ntmps9
    go_wp2_with (first
      | ((with_reducible refine gbox 29 ?_); go_must (refine wd_box x rfl 29 _ rfl #[.int .i64 4, .int .i64 d, .int .i64 s] rfl ?_; intro ob z))
      | ((with_reducible refine galloc 36 ?_); go_must (refine wd_alloc z rfl 36 rfl (.agg #[.int .i64 0, .int .i64 0]) zero36 ?_; intro eb z; simp only [Value.cells] at z; obtain ⟨z1, hz1⟩ : ∃ z1 : Wd E (pt eb (.cells #[.int .i64 d, .int .i64 s] 36 (0, 0)) :: pt ob (.cells #[.int .i64 4, .int .i64 d, .int .i64 s] 29 (0, 0)) :: Ext.At p A :: Ref06.At q B :: L), ((z.set0 0 (.int .i64 d)).set0 1 (.int .i64 s)).val = z1.val := ⟨(z.set0 0 (.int .i64 d)).set0 1 (.int .i64 s), rfl⟩)))
    try rw [hz1]
    clear hz1
    have ne : Nonempty (Wd E (pt eb (.cells #[.int .i64 d, .int .i64 s] 36 (0, 0)) :: pt ob (.cells #[.int .i64 4, .int .i64 d, .int .i64 s] 29 (0, 0)) :: L)) := ⟨z1.up2.drop.up2.drop⟩
    refine wp_region_wd_mix z1 (fun w' => ∃ y : Wd E (pt eb (.cells #[.int .i64 d, .int .i64 s] 36 (0, 0)) :: pt ob (.cells #[.int .i64 4, .int .i64 d, .int .i64 s] 29 (0, 0)) :: L), w' = y.val) 5
      [(0, true), (1, true), (3, true), (4, true), (2, false)] (by kernel_rfl) (by kernel_rfl)
      (fun c a d v w h => by cases d <;> exact h) ⟨z1.drew.up2.drop.up2.drop, rfl⟩ ?_
    refine mix_reads [0, 1, 3, 4] (by kernel_rfl) ?_
    simp only [pick, List.getD_cons_zero, List.getD_cons_succ]
    repeat (go_big_quiet_step (fail))
    refine wpQuiet_nil ?_
    refine mix_eff (by kernel_rfl) ?_
    simp only [List.getD_cons_zero, List.getD_cons_succ]
    go_wp2_with fail
    refine (CP.out _ z1.drew.up2).mono ?_; rintro e w' ⟨rfl, y, rfl⟩
    go_wp2_with fail
    refine ⟨⟨y.drop.up2.drop, rfl⟩, ?_⟩
    unfold wpMix
    simp only [List.drop_succ_cons, List.drop_zero]
    go_wp2_with fail
    refine (CQ.out _ y.up3).mono ?_; rintro e w' ⟨rfl, y, rfl⟩
    go_wp2_with fail
    go_ret
    exact ⟨by simp, A', B', HI.out, y.up1.up2.drop.up2.drop, rfl⟩
set_option maxRecDepth 100000 in
set_option maxHeartbeats 4000000 in
theorem does5 {E : World} {L : List HProp} (hT : Bits.Table E) {n : Nat} {A B : Ms} (I : Inv n A B) (hn : n ≤ 1000) (p q : Nat) (d s : Int) (hd : i64r d) (hs : i64r s) (x : Wd E (Ext.At p A :: Ref06.At q B :: L)) :
    Calls Tryd.prog 9 #[ptr p, ptr q, .agg #[.int .i64 5, .int .i64 d, .int .i64 s]] x.val fun e w' => e = .returned (.bool true) ∧ Left E L p q n w' := by
    obtain ⟨c, ⟨A', B', I', cp, cq⟩⟩ := both_has (E := E) (p := p) (q := q) (d := d) I hn hs
    have CP := Lib.hid cp; have CQ := Lib.hid cq; have HI := Lib.hid I'
    clear cp cq I' hT hd hs I
    go_enter Tryd.func9, Tryd.ntmps9
    go_wp2_with (first
      | ((with_reducible refine gbox 29 ?_); go_must (refine wd_box x rfl 29 _ rfl #[.int .i64 5, .int .i64 d, .int .i64 s] rfl ?_; intro ob z))
      | ((with_reducible refine galloc 36 ?_); go_must (refine wd_alloc z rfl 36 rfl (.agg #[.int .i64 0, .int .i64 0]) zero36 ?_; intro eb z; simp only [Value.cells] at z; obtain ⟨z1, hz1⟩ : ∃ z1 : Wd E (pt eb (.cells #[.int .i64 d, .int .i64 s] 36 (0, 0)) :: pt ob (.cells #[.int .i64 5, .int .i64 d, .int .i64 s] 29 (0, 0)) :: Ext.At p A :: Ref06.At q B :: L), ((z.set0 0 (.int .i64 d)).set0 1 (.int .i64 s)).val = z1.val := ⟨(z.set0 0 (.int .i64 d)).set0 1 (.int .i64 s), rfl⟩)))
    try rw [hz1]
    clear hz1
    have ne : Nonempty (Wd E (pt eb (.cells #[.int .i64 d, .int .i64 s] 36 (0, 0)) :: pt ob (.cells #[.int .i64 5, .int .i64 d, .int .i64 s] 29 (0, 0)) :: L)) := ⟨z1.up2.drop.up2.drop⟩
    refine wp_region_wd_mix z1 (fun w' => ∃ y : Wd E (pt eb (.cells #[.int .i64 d, .int .i64 s] 36 (0, 0)) :: pt ob (.cells #[.int .i64 5, .int .i64 d, .int .i64 s] 29 (0, 0)) :: L), w' = y.val) 5
      [(0, true), (1, true), (3, true), (4, true), (2, false)] (by kernel_rfl) (by kernel_rfl)
      (fun c a d v w h => by cases d <;> exact h) ⟨z1.drew.up2.drop.up2.drop, rfl⟩ ?_
    refine mix_reads [0, 1, 3, 4] (by kernel_rfl) ?_
    simp only [pick, List.getD_cons_zero, List.getD_cons_succ]
    repeat (go_big_quiet_step (fail))
    refine wpQuiet_nil ?_
    refine mix_eff (by kernel_rfl) ?_
    simp only [List.getD_cons_zero, List.getD_cons_succ]
    go_wp2_with fail
    refine (CP.out _ z1.drew.up2).mono ?_; rintro e w' ⟨rfl, y, rfl⟩
    go_wp2_with fail
    refine ⟨⟨y.drop.up2.drop, rfl⟩, ?_⟩
    unfold wpMix
    simp only [List.drop_succ_cons, List.drop_zero]
    go_wp2_with fail
    refine (CQ.out _ y.up3).mono ?_; rintro e w' ⟨rfl, y, rfl⟩
    go_wp2_with fail
    go_ret
    exact ⟨by simp, A', B', HI.out, y.up1.up2.drop.up2.drop, rfl⟩
set_option maxRecDepth 100000 in
set_option maxHeartbeats 4000000 in
theorem does_else {E : World} {L : List HProp} (hT : Bits.Table E) {n : Nat} {A B : Ms} (I : Inv n A B) (hn : n ≤ 1000) (p q : Nat) (k d s : Int) (h1 : k ≠ 1) (h3 : k ≠ 3) (h4 : k ≠ 4) (h5 : k ≠ 5) (x : Wd E (Ext.At p A :: Ref06.At q B :: L)) :
    Calls Tryd.prog 9 #[ptr p, ptr q, .agg #[.int .i64 k, .int .i64 d, .int .i64 s]] x.val fun e w' => e = .returned (.bool true) ∧ Left E L p q n w' := by
    obtain ⟨a, b, c, ⟨A', B', I', cp, cq⟩⟩ := both_take (E := E) (p := p) (q := q) I hn hT d
    have CP := Lib.hid cp; have CQ := Lib.hid cq; have HI := Lib.hid I'
    have b1 : (k == 1) = false := by simp [h1]
    have b3 : (k == 3) = false := by simp [h3]
    have b4 : (k == 4) = false := by simp [h4]
    have b5 : (k == 5) = false := by simp [h5]
    clear h1 h3 h4 h5
    clear cp cq I' hT I
    go_enter Tryd.func9, Tryd.ntmps9
    go_wp2_with (first
      | ((with_reducible refine gbox 29 ?_); go_must (refine wd_box x rfl 29 _ rfl #[.int .i64 k, .int .i64 d, .int .i64 s] rfl ?_; intro ob z))
      | ((with_reducible refine galloc 36 ?_); go_must (refine wd_alloc z rfl 36 rfl (.agg #[.int .i64 0, .int .i64 0]) zero36 ?_; intro eb z; simp only [Value.cells] at z; obtain ⟨z1, hz1⟩ : ∃ z1 : Wd E (pt eb (.cells #[.int .i64 d, .int .i64 s] 36 (0, 0)) :: pt ob (.cells #[.int .i64 k, .int .i64 d, .int .i64 s] 29 (0, 0)) :: Ext.At p A :: Ref06.At q B :: L), ((z.set0 0 (.int .i64 d)).set0 1 (.int .i64 s)).val = z1.val := ⟨(z.set0 0 (.int .i64 d)).set0 1 (.int .i64 s), rfl⟩)))
    try rw [hz1]
    clear hz1
    go_wp2_with fail
    refine (CP.out _ z1.up2).mono ?_; rintro e w' ⟨rfl, y, rfl⟩
    go_wp2_with ((with_reducible refine galloc 36 ?_); go_must (refine wd_alloc y rfl 36 rfl (.agg #[.int .i64 0, .int .i64 0]) zero36 ?_; intro xb y; simp only [Value.cells] at y))
    refine (CQ.out _ ((y.set0 0 (.int .i64 a)).set0 1 (.int .i64 b)).up4).mono ?_; rintro e w' ⟨rfl, y, rfl⟩
    go_wp2_with ((with_reducible refine galloc 36 ?_); go_must (refine wd_alloc y rfl 36 rfl (.agg #[.int .i64 0, .int .i64 0]) zero36 ?_; intro yb y; simp only [Value.cells] at y))
    go_ret
    exact ⟨by simp, A', B', HI.out, ((y.set0 0 (.int .i64 a)).set0 1 (.int .i64 b)).drop.up1.drop.up1.up2.drop.up2.drop, rfl⟩
theorem does_calls {E : World} {L : List HProp} (hT : Bits.Table E) {n : Nat} {A B : Ms} (I : Inv n A B) (hn : n ≤ 1000) (p q : Nat) (k d s : Int) (hd : i64r d) (hs : i64r s) (x : Wd E (Ext.At p A :: Ref06.At q B :: L)) :
    Calls Tryd.prog 9 #[ptr p, ptr q, .agg #[.int .i64 k, .int .i64 d, .int .i64 s]] x.val fun e w' => e = .returned (.bool true) ∧ Left E L p q n w' := by
  by_cases h1 : k = 1
  · subst h1; exact does1 hT I hn p q d s hd hs x
  by_cases h3 : k = 3
  · subst h3; exact does3 hT I hn p q d s hd hs x
  by_cases h4 : k = 4
  · subst h4; exact does4 hT I hn p q d s hd hs x
  by_cases h5 : k = 5
  · subst h5; exact does5 hT I hn p q d s hd hs x
  exact does_else hT I hn p q k d s h1 h3 h4 h5 x
-- WALK END
end Go.Proofs.YticilcmplgimpaaDoor.Law06
