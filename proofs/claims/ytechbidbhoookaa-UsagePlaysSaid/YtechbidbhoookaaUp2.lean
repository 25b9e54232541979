/- The law of layer 14: numbers, does (printed by gen_up2.py). -/
import Derived.Test.YtechbidbhoookaaUp1
import Derived.Test.YtechbidbhoookaaUse12
import Derived.Test.YtechbidbhoookaaUse13
import Derived.Test.YtechbidbhoookaaUse8
import Derived.Test.YtechbidbhoookaaUse11
import Derived.Test.YtechbidbhoookaaUse7
set_option linter.unusedVariables false
set_option linter.unusedSectionVars false
namespace Go.Proofs.Ytechbidbhoookaa.Up
open Go Go.RowKit Go.Proofs.Ytechbidbhoookaa.Sl
open Go.Proofs.Ytechbidbhoookaa.Use (ptr Tb Lv optVal ints ints_get putCode clearCode openCode dropCode openNext dropNext clearNext setSlot without holeOf)
open Go.Proofs.Ytechbidbhoookaa.Rf (Gs offG withoutF openNextF dropCodeF putNextF clearNextF Fits)

abbrev i64r (n : Int) : Prop := -9223372036854775808 ≤ n ∧ n ≤ 9223372036854775807
set_option maxRecDepth 100000 in
set_option maxHeartbeats 1000000 in
theorem numbers_calls {E : World} {L : List HProp} {A1 A2 : HProp} {va vb : Value} {xs : List Int} (hA : Lies 3 A1 va xs.length (ints xs)) (hB : Lies 3 A2 vb xs.length (ints xs)) (hn : xs.length ≤ 1000000) (x : Wd E (A1 :: A2 :: L)) :
    Calls Try.prog 29 #[va, vb] x.val fun e w' => e = .returned (.bool true) ∧ ∃ y : Wd E (A1 :: A2 :: L), w' = y.val := by
  obtain ⟨b1, c1, rfl, hb1⟩ := hA
  obtain ⟨b2, c2, rfl, hb2⟩ := hB
  have HB1 := Lib.hid hb1; have HB2 := Lib.hid hb2
  clear hb1 hb2
  go_enter Try.func29, Try.ntmps29
  go_wp2_with fail
  go_loopw [5] (fun n wr => ∃ k : Nat, k ≤ xs.length ∧ n = .int .i64 (k : Int) ∧ ∃ u : Wd E (A1 :: A2 :: L), wr = u.val) (fun n _ => xs.length - (intOf n).toNat)
  case atStart => exact ⟨0, by omega, rfl, x, rfl⟩
  case round =>
    obtain ⟨k, hk, rfl, u, rfl⟩ := hrel
    by_cases hlt : k < xs.length
    · obtain ⟨bb1, rfl, cur1, rfl, hc1⟩ := HB1.out (by omega)
      obtain ⟨bb2, rfl, cur2, rfl, hc2⟩ := HB2.out (by omega)
      have hc1 := hc1 _ _ (ints_get hlt)
      have hc2 := hc2 _ _ (ints_get hlt)
      generalize xs.getD k 0 = d at hc1 hc2
      go_wp2_with fail
      have ne : Nonempty (Wd E (pt bb1 (.cells cur1 3 (0, 0)) :: pt bb2 (.cells cur2 3 (0, 0)) :: L)) := ⟨u⟩
      refine wp_region_wd (L := pt bb1 (.cells cur1 3 (0, 0)) :: pt bb2 (.cells cur2 3 (0, 0)) :: L) u (by kernel_rfl) (by kernel_rfl) ?_
      repeat (go_big_quiet_step (fail))
      refine wpQuiet_nil ?_
      intro u
      go_wp2_with fail
      refine ⟨⟨k + 1, by omega, rfl, u, rfl⟩, by simp [intOf]; omega⟩
    · go_wp2_with fail
      go_ret
      exact ⟨rfl, u, rfl⟩
/-- A step of both sides: what they answer, and where it leaves them. -/
abbrev Left (E : World) (L : List HProp) (p q n : Nat) (w' : World) : Prop := ∃ (T : Tb) (G : Gs) (l : Lv), Rel (n + 1) T G l ∧ ∃ y : Wd E (Use.At p T :: Rf.At q G l :: L), w' = y.val
section
variable {E : World} {n : Nat} {T : Tb} {G : Gs} {l : Lv} (R : Rel n T G l) (hn : n ≤ 190) (p q : Nat)
include R hn
theorem put_either (g s b : Int) (hb : i64r b) : ∃ c T', Rel (n + 1) T' G (putNextF G l g s b) ∧ Rf.putCodeF G l g s b = c ∧ (∀ (L : List HProp) (x : Wd E (Use.At p T :: L)), Calls Try.prog 12 #[ptr p, .int .i64 g, .int .i64 s, .int .i64 b] x.val fun e w' => e = .returned (.int .i64 c) ∧ ∃ y : Wd E (Use.At p T' :: L), w' = y.val) := by
  refine ⟨putCode T g s b, _, R.putted g s b hb.2, R.putC g s b, fun L x => ?_⟩
  by_cases h : putCode T g s b = 0
  · rw [if_pos h, h]; exact Use.put_taken R.good p g s b hb.2 h x
  · rw [if_neg h]; exact Use.put_refused R.good p g s b h x
end
set_option maxRecDepth 100000 in
set_option maxHeartbeats 4000000 in
theorem does1 {E : World} {L : List HProp} {n : Nat} {T : Tb} {G : Gs} {l : Lv} (R : Rel n T G l) (hn : n ≤ 190) (p q : Nat) (g s b m : Int) (hg : i64r g) (hb : i64r b) (x : Wd E (Use.At p T :: Rf.At q G l :: L)) :
    Calls Try.prog 9 #[ptr p, ptr q, .agg #[.int .i64 1, .int .i64 g, .int .i64 s, .int .i64 b, .int .i64 m]] x.val fun e w' => e = .returned (.bool true) ∧ Left E L p q n w' := by
    have hF := R.fits (by omega)
    have I' := R.opened g m hg.2
    have cp := fun L x => Use.open_calls (E := E) (L := L) R.good p g m x
    have cq := fun L x => Rf.open_calls (E := E) (L := L) (l := l) q hF.hn g m x
    rw [R.openC] at cq
    have CP := Lib.hid cp; have CQ := Lib.hid cq; have HI := Lib.hid I'
    clear cp cq I' hF R hg hb
    go_enter Try.func9, Try.ntmps9
    go_wp2_with ((with_reducible refine gbox 29 ?_); go_must (refine wd_box x rfl 29 _ rfl #[.int .i64 1, .int .i64 g, .int .i64 s, .int .i64 b, .int .i64 m] rfl ?_; intro ob z))
    have ne : Nonempty (Wd E (pt ob (.cells #[.int .i64 1, .int .i64 g, .int .i64 s, .int .i64 b, .int .i64 m] 29 (0, 0)) :: L)) := ⟨z.up1.drop.up1.drop⟩
    refine wp_region_wd_mix z (fun w' => ∃ y : Wd E (pt ob (.cells #[.int .i64 1, .int .i64 g, .int .i64 s, .int .i64 b, .int .i64 m] 29 (0, 0)) :: L), w' = y.val) 11
      [(0, true), (1, true), (2, true), (3, true), (4, true), (6, true), (7, true), (8, true), (9, true), (10, true), (5, false)] (by kernel_rfl) (by kernel_rfl)
      (fun c a d v w h => by cases d <;> exact h) ⟨z.drew.up1.drop.up1.drop, rfl⟩ ?_
    refine mix_reads [0, 1, 2, 3, 4, 6, 7, 8, 9, 10] (by kernel_rfl) ?_
    simp only [pick, List.getD_cons_zero, List.getD_cons_succ]
    repeat (go_big_quiet_step (fail))
    refine wpQuiet_nil ?_
    refine mix_eff (by kernel_rfl) ?_
    simp only [List.getD_cons_zero, List.getD_cons_succ]
    go_wp2_with fail
    refine (CP.out _ z.drew.up1).mono ?_; rintro e w' ⟨rfl, y, rfl⟩
    go_wp2_with fail
    refine ⟨⟨y.drop.up1.drop, rfl⟩, ?_⟩
    unfold wpMix
    simp only [List.drop_succ_cons, List.drop_zero]
    go_wp2_with fail
    refine (CQ.out _ (y.ord [2, 0, 1])).mono ?_; rintro e w' ⟨rfl, y, rfl⟩
    go_wp2_with fail
    go_ret
    exact ⟨by simp, _, _, _, HI.out, (y.ord [2, 1, 0]).drop, rfl⟩
set_option maxRecDepth 100000 in
set_option maxHeartbeats 4000000 in
theorem does2 {E : World} {L : List HProp} {n : Nat} {T : Tb} {G : Gs} {l : Lv} (R : Rel n T G l) (hn : n ≤ 190) (p q : Nat) (g s b m : Int) (hg : i64r g) (hb : i64r b) (x : Wd E (Use.At p T :: Rf.At q G l :: L)) :
    Calls Try.prog 9 #[ptr p, ptr q, .agg #[.int .i64 2, .int .i64 g, .int .i64 s, .int .i64 b, .int .i64 m]] x.val fun e w' => e = .returned (.bool true) ∧ Left E L p q n w' := by
    have hF := R.fits (by omega)
    obtain ⟨c, T', G', l', I', cp, cq⟩ : ∃ (c : Int) (T' : Tb) (G' : Gs) (l' : Lv), Rel (n + 1) T' G' l' ∧ (∀ (L : List HProp) (x : Wd E (Use.At p T :: L)), Calls Try.prog 22 #[ptr p, .int .i64 g] x.val fun e w' => e = .returned (.int .i64 c) ∧ ∃ y : Wd E (Use.At p T' :: L), w' = y.val) ∧
        (∀ (L : List HProp) (x : Wd E (Rf.At q G l :: L)), Calls Try.prog 23 #[ptr q, .int .i64 g] x.val fun e w' => e = .returned (.int .i64 c) ∧ ∃ y : Wd E (Rf.At q G' l' :: L), w' = y.val) :=
      ⟨dropCode T g, _, _, _, R.dropped g, fun L x => Use.drop_calls (E := E) (L := L) R.good p g x, fun L x => by rw [← R.dropC]; exact Rf.drop_calls (E := E) (L := L) q hF.hn hF.hl g x⟩
    have CP := Lib.hid cp; have CQ := Lib.hid cq; have HI := Lib.hid I'
    clear cp cq I' hF R hg hb
    go_enter Try.func9, Try.ntmps9
    go_wp2_with ((with_reducible refine gbox 29 ?_); go_must (refine wd_box x rfl 29 _ rfl #[.int .i64 2, .int .i64 g, .int .i64 s, .int .i64 b, .int .i64 m] rfl ?_; intro ob z))
    have ne : Nonempty (Wd E (pt ob (.cells #[.int .i64 2, .int .i64 g, .int .i64 s, .int .i64 b, .int .i64 m] 29 (0, 0)) :: L)) := ⟨z.up1.drop.up1.drop⟩
    refine wp_region_wd_mix z (fun w' => ∃ y : Wd E (pt ob (.cells #[.int .i64 2, .int .i64 g, .int .i64 s, .int .i64 b, .int .i64 m] 29 (0, 0)) :: L), w' = y.val) 7
      [(0, true), (1, true), (2, true), (4, true), (5, true), (6, true), (3, false)] (by kernel_rfl) (by kernel_rfl)
      (fun c a d v w h => by cases d <;> exact h) ⟨z.drew.up1.drop.up1.drop, rfl⟩ ?_
    refine mix_reads [0, 1, 2, 4, 5, 6] (by kernel_rfl) ?_
    simp only [pick, List.getD_cons_zero, List.getD_cons_succ]
    repeat (go_big_quiet_step (fail))
    refine wpQuiet_nil ?_
    refine mix_eff (by kernel_rfl) ?_
    simp only [List.getD_cons_zero, List.getD_cons_succ]
    go_wp2_with fail
    refine (CP.out _ z.drew.up1).mono ?_; rintro e w' ⟨rfl, y, rfl⟩
    go_wp2_with fail
    refine ⟨⟨y.drop.up1.drop, rfl⟩, ?_⟩
    unfold wpMix
    simp only [List.drop_succ_cons, List.drop_zero]
    go_wp2_with fail
    refine (CQ.out _ (y.ord [2, 0, 1])).mono ?_; rintro e w' ⟨rfl, y, rfl⟩
    go_wp2_with fail
    go_ret
    exact ⟨by simp, _, _, _, HI.out, (y.ord [2, 1, 0]).drop, rfl⟩
set_option maxRecDepth 100000 in
set_option maxHeartbeats 4000000 in
theorem does3 {E : World} {L : List HProp} {n : Nat} {T : Tb} {G : Gs} {l : Lv} (R : Rel n T G l) (hn : n ≤ 190) (p q : Nat) (g s b m : Int) (hg : i64r g) (hb : i64r b) (x : Wd E (Use.At p T :: Rf.At q G l :: L)) :
    Calls Try.prog 9 #[ptr p, ptr q, .agg #[.int .i64 3, .int .i64 g, .int .i64 s, .int .i64 b, .int .i64 m]] x.val fun e w' => e = .returned (.bool true) ∧ Left E L p q n w' := by
    have hF := R.fits (by omega)
    obtain ⟨c, T', I', hc, cp⟩ := put_either (E := E) R hn p g s b hb
    have cq := fun L x => Rf.put_calls (E := E) (L := L) q hF.hn hF.hl g s b x
    rw [hc] at cq
    clear hc
    have CP := Lib.hid cp; have CQ := Lib.hid cq; have HI := Lib.hid I'
    clear cp cq I' hF R hg hb
    go_enter Try.func9, Try.ntmps9
    go_wp2_with ((with_reducible refine gbox 29 ?_); go_must (refine wd_box x rfl 29 _ rfl #[.int .i64 3, .int .i64 g, .int .i64 s, .int .i64 b, .int .i64 m] rfl ?_; intro ob z))
    have ne : Nonempty (Wd E (pt ob (.cells #[.int .i64 3, .int .i64 g, .int .i64 s, .int .i64 b, .int .i64 m] 29 (0, 0)) :: L)) := ⟨z.up1.drop.up1.drop⟩
    refine wp_region_wd_mix z (fun w' => ∃ y : Wd E (pt ob (.cells #[.int .i64 3, .int .i64 g, .int .i64 s, .int .i64 b, .int .i64 m] 29 (0, 0)) :: L), w' = y.val) 15
      [(0, true), (1, true), (2, true), (3, true), (4, true), (5, true), (6, true), (8, true), (9, true), (10, true), (11, true), (12, true), (13, true), (14, true), (7, false)] (by kernel_rfl) (by kernel_rfl)
      (fun c a d v w h => by cases d <;> exact h) ⟨z.drew.up1.drop.up1.drop, rfl⟩ ?_
    refine mix_reads [0, 1, 2, 3, 4, 5, 6, 8, 9, 10, 11, 12, 13, 14] (by kernel_rfl) ?_
    simp only [pick, List.getD_cons_zero, List.getD_cons_succ]
    repeat (go_big_quiet_step (fail))
    refine wpQuiet_nil ?_
    refine mix_eff (by kernel_rfl) ?_
    simp only [List.getD_cons_zero, List.getD_cons_succ]
    go_wp2_with fail
    refine (CP.out _ z.drew.up1).mono ?_; rintro e w' ⟨rfl, y, rfl⟩
    go_wp2_with fail
    refine ⟨⟨y.drop.up1.drop, rfl⟩, ?_⟩
    unfold wpMix
    simp only [List.drop_succ_cons, List.drop_zero]
    go_wp2_with fail
    refine (CQ.out _ (y.ord [2, 0, 1])).mono ?_; rintro e w' ⟨rfl, y, rfl⟩
    go_wp2_with fail
    go_ret
    exact ⟨by simp, _, _, _, HI.out, (y.ord [2, 1, 0]).drop, rfl⟩
set_option maxRecDepth 100000 in
set_option maxHeartbeats 4000000 in
theorem does4 {E : World} {L : List HProp} {n : Nat} {T : Tb} {G : Gs} {l : Lv} (R : Rel n T G l) (hn : n ≤ 190) (p q : Nat) (g s b m : Int) (hg : i64r g) (hb : i64r b) (x : Wd E (Use.At p T :: Rf.At q G l :: L)) :
    Calls Try.prog 9 #[ptr p, ptr q, .agg #[.int .i64 4, .int .i64 g, .int .i64 s, .int .i64 b, .int .i64 m]] x.val fun e w' => e = .returned (.bool true) ∧ Left E L p q n w' := by
    have hF := R.fits (by omega)
    have I' := R.cleared g s
    have cp := fun L x => Use.clear_calls (E := E) (L := L) R.good p g s x
    have cq := fun L x => Rf.clear_calls (E := E) (L := L) q hF.hn hF.hl g s x
    rw [R.clearC] at cq
    have CP := Lib.hid cp; have CQ := Lib.hid cq; have HI := Lib.hid I'
    clear cp cq I' hF R hg hb
    go_enter Try.func9, Try.ntmps9
    go_wp2_with ((with_reducible refine gbox 29 ?_); go_must (refine wd_box x rfl 29 _ rfl #[.int .i64 4, .int .i64 g, .int .i64 s, .int .i64 b, .int .i64 m] rfl ?_; intro ob z))
    have ne : Nonempty (Wd E (pt ob (.cells #[.int .i64 4, .int .i64 g, .int .i64 s, .int .i64 b, .int .i64 m] 29 (0, 0)) :: L)) := ⟨z.up1.drop.up1.drop⟩
    refine wp_region_wd_mix z (fun w' => ∃ y : Wd E (pt ob (.cells #[.int .i64 4, .int .i64 g, .int .i64 s, .int .i64 b, .int .i64 m] 29 (0, 0)) :: L), w' = y.val) 11
      [(0, true), (1, true), (2, true), (3, true), (4, true), (6, true), (7, true), (8, true), (9, true), (10, true), (5, false)] (by kernel_rfl) (by kernel_rfl)
      (fun c a d v w h => by cases d <;> exact h) ⟨z.drew.up1.drop.up1.drop, rfl⟩ ?_
    refine mix_reads [0, 1, 2, 3, 4, 6, 7, 8, 9, 10] (by kernel_rfl) ?_
    simp only [pick, List.getD_cons_zero, List.getD_cons_succ]
    repeat (go_big_quiet_step (fail))
    refine wpQuiet_nil ?_
    refine mix_eff (by kernel_rfl) ?_
    simp only [List.getD_cons_zero, List.getD_cons_succ]
    go_wp2_with fail
    refine (CP.out _ z.drew.up1).mono ?_; rintro e w' ⟨rfl, y, rfl⟩
    go_wp2_with fail
    refine ⟨⟨y.drop.up1.drop, rfl⟩, ?_⟩
    unfold wpMix
    simp only [List.drop_succ_cons, List.drop_zero]
    go_wp2_with fail
    refine (CQ.out _ (y.ord [2, 0, 1])).mono ?_; rintro e w' ⟨rfl, y, rfl⟩
    go_wp2_with fail
    go_ret
    exact ⟨by simp, _, _, _, HI.out, (y.ord [2, 1, 0]).drop, rfl⟩
set_option maxRecDepth 100000 in
set_option maxHeartbeats 4000000 in
theorem does_else {E : World} {L : List HProp} {n : Nat} {T : Tb} {G : Gs} {l : Lv} (R : Rel n T G l) (hn : n ≤ 190) (p q : Nat) (k g s b m : Int) (h1 : k ≠ 1) (h2 : k ≠ 2) (h3 : k ≠ 3) (h4 : k ≠ 4) (hg : i64r g) (hb : i64r b) (x : Wd E (Use.At p T :: Rf.At q G l :: L)) :
    Calls Try.prog 9 #[ptr p, ptr q, .agg #[.int .i64 k, .int .i64 g, .int .i64 s, .int .i64 b, .int .i64 m]] x.val fun e w' => e = .returned (.bool true) ∧ Left E L p q n w' := by
    have hF := R.fits (by omega)
    obtain ⟨a, ok, hv⟩ : ∃ (a : Int) (ok : Bool), optVal (holeOf T g) = .tuple #[.int .i64 a, .bool ok] := by
      cases holeOf T g with
      | none => exact ⟨_, _, rfl⟩
      | some a => exact ⟨_, _, rfl⟩
    have hp := fun L x => Use.hole_calls (E := E) (L := L) R.good p g x
    have hq : ∀ (L : List HProp) (x : Wd E (Rf.At q G l :: L)), Calls Try.prog 26 #[ptr q, .int .i64 g] x.val fun e w' => e = .returned (optVal (holeOf T g)) ∧ ∃ y : Wd E (Rf.At q G l :: L), w' = y.val := fun L x => by
      obtain ⟨A1, A2, vG, vL, hA1, hA2, ⟨y, hy⟩, b1, b2, bk⟩ := Rf.At.rd x
      rw [hy, ← R.hole]
      refine (Rf.hole_calls q hA1 hA2 hF g y).mono ?_
      rintro e w' ⟨rfl, y, rfl⟩
      exact ⟨rfl, bk _ _ y⟩
    rw [hv] at hp hq
    obtain ⟨c, T', I', hc, cp⟩ := put_either (E := E) R hn p g a b hb
    have cq := fun L x => Rf.put_calls (E := E) (L := L) q hF.hn hF.hl g a b x
    rw [hc] at cq
    have HP := Lib.hid hp; have HQ := Lib.hid hq
    have CP := Lib.hid cp; have CQ := Lib.hid cq; have HI := Lib.hid I'
    have b1 : (k == 1) = false := by simp [h1]
    have b2 : (k == 2) = false := by simp [h2]
    have b3 : (k == 3) = false := by simp [h3]
    have b4 : (k == 4) = false := by simp [h4]
    clear cp cq I' hF R hg hb hc hv hp hq h1 h2 h3 h4
    go_enter Try.func9, Try.ntmps9
    go_wp2_with ((with_reducible refine gbox 29 ?_); go_must (refine wd_box x rfl 29 _ rfl #[.int .i64 k, .int .i64 g, .int .i64 s, .int .i64 b, .int .i64 m] rfl ?_; intro ob z))
    refine (HP.out _ z.up1).mono ?_; rintro e w' ⟨rfl, y, rfl⟩
    go_wp2_with fail
    refine (HQ.out _ (y.ord [2, 0, 1])).mono ?_; rintro e w' ⟨rfl, y, rfl⟩
    go_wp2_with fail
    obtain ⟨z, hz⟩ : ∃ z : Wd E (pt ob (.cells #[.int .i64 k, .int .i64 g, .int .i64 s, .int .i64 b, .int .i64 m] 29 (0, 0)) :: Use.At p T :: Rf.At q G l :: L), y.val = z.val := ⟨y.ord [2, 1, 0], rfl⟩
    rw [hz]
    clear hz
    have ne : Nonempty (Wd E (pt ob (.cells #[.int .i64 k, .int .i64 g, .int .i64 s, .int .i64 b, .int .i64 m] 29 (0, 0)) :: L)) := ⟨z.up1.drop.up1.drop⟩
    refine wp_region_wd_mix z (fun w' => ∃ y : Wd E (pt ob (.cells #[.int .i64 k, .int .i64 g, .int .i64 s, .int .i64 b, .int .i64 m] 29 (0, 0)) :: L), w' = y.val) 22
      [(0, true), (1, true), (2, true), (3, true), (4, true), (5, true), (6, true), (7, true), (8, true), (9, true), (10, true), (11, true), (12, true), (13, true), (14, true), (16, true), (17, true), (18, true), (19, true), (20, true), (21, true), (15, false)] (by kernel_rfl) (by kernel_rfl)
      (fun c a d v w h => by cases d <;> exact h) ⟨z.drew.up1.drop.up1.drop, rfl⟩ ?_
    refine mix_reads [0, 1, 2, 3, 4, 5, 6, 7, 8, 9, 10, 11, 12, 13, 14, 16, 17, 18, 19, 20, 21] (by kernel_rfl) ?_
    simp only [pick, List.getD_cons_zero, List.getD_cons_succ]
    repeat (go_big_quiet_step (fail))
    refine wpQuiet_nil ?_
    refine mix_eff (by kernel_rfl) ?_
    simp only [List.getD_cons_zero, List.getD_cons_succ]
    go_wp2_with fail
    refine (CP.out _ z.drew.up1).mono ?_; rintro e w' ⟨rfl, y, rfl⟩
    go_wp2_with fail
    refine ⟨⟨y.drop.up1.drop, rfl⟩, ?_⟩
    unfold wpMix
    simp only [List.drop_succ_cons, List.drop_zero]
    go_wp2_with fail
    refine (CQ.out _ (y.ord [2, 0, 1])).mono ?_; rintro e w' ⟨rfl, y, rfl⟩
    go_wp2_with fail
    go_ret
    exact ⟨by simp, _, _, _, HI.out, (y.ord [2, 1, 0]).drop, rfl⟩
theorem does_calls {E : World} {L : List HProp} {n : Nat} {T : Tb} {G : Gs} {l : Lv} (R : Rel n T G l) (hn : n ≤ 190) (p q : Nat) (k g s b m : Int) (hg : i64r g) (hb : i64r b) (x : Wd E (Use.At p T :: Rf.At q G l :: L)) :
    Calls Try.prog 9 #[ptr p, ptr q, .agg #[.int .i64 k, .int .i64 g, .int .i64 s, .int .i64 b, .int .i64 m]] x.val fun e w' => e = .returned (.bool true) ∧ Left E L p q n w' := by
  by_cases h1 : k = 1
  · subst h1; exact does1 R hn p q g s b m hg hb x
  by_cases h2 : k = 2
  · subst h2; exact does2 R hn p q g s b m hg hb x
  by_cases h3 : k = 3
  · subst h3; exact does3 R hn p q g s b m hg hb x
  by_cases h4 : k = 4
  · subst h4; exact does4 R hn p q g s b m hg hb x
  exact does_else R hn p q k g s b m h1 h2 h3 h4 hg hb x
end Go.Proofs.Ytechbidbhoookaa.Up

