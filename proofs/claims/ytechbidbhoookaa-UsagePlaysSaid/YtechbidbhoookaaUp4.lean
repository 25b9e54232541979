/- The law of layer 14: shown. -/
import Derived.Test.YtechbidbhoookaaUp3
set_option linter.unusedVariables false
set_option linter.unusedSectionVars false
namespace Go.Proofs.Ytechbidbhoookaa.Up
open Go Go.RowKit Go.Proofs.Ytechbidbhoookaa.Sl
open Go.Proofs.Ytechbidbhoookaa.Use (ptr Tb Lv optVal ints ints_get holeOf blocksOf slotsN findVal blockOf empt openCode openNext putCode setSlot without clearCode clearNext live)

def T1 : Tb := [(3, [-1, -1, -1, -1])]
def T2 : Tb := [(3, [-1, -1, -1, -1]), (5, [-1, -1])]
def T3 : Tb := [(3, [-1, 7, -1, -1]), (5, [-1, -1])]
def T4 : Tb := [(3, [-1, 7, -1, -1]), (5, [8, -1])]
def T5 : Tb := [(3, [-1, -1, -1, -1]), (5, [8, 7])]
theorem g0 : Use.Good [] := rel_nil.good
theorem g1 : Use.Good T1 := ⟨by decide, by decide, by decide, by decide, by decide⟩
theorem g2 : Use.Good T2 := ⟨by decide, by decide, by decide, by decide, by decide⟩
theorem g3 : Use.Good T3 := ⟨by decide, by decide, by decide, by decide, by decide⟩
theorem g4 : Use.Good T4 := ⟨by decide, by decide, by decide, by decide, by decide⟩
theorem g5 : Use.Good T5 := ⟨by decide, by decide, by decide, by decide, by decide⟩
section
variable {E : World} {L : List HProp} (p : Nat)
theorem s1 (x : Wd E (Use.At p [] :: L)) : Calls Try.prog 11 #[ptr p, .int .i64 3, .int .i64 4] x.val fun e w' => e = .returned (.int .i64 0) ∧ ∃ y : Wd E (Use.At p T1 :: L), w' = y.val := Use.open_calls g0 p 3 4 x
theorem s2 (x : Wd E (Use.At p T1 :: L)) : Calls Try.prog 11 #[ptr p, .int .i64 5, .int .i64 2] x.val fun e w' => e = .returned (.int .i64 0) ∧ ∃ y : Wd E (Use.At p T2 :: L), w' = y.val := Use.open_calls g1 p 5 2 x
theorem s3 (x : Wd E (Use.At p T2 :: L)) : Calls Try.prog 12 #[ptr p, .int .i64 3, .int .i64 1, .int .i64 7] x.val fun e w' => e = .returned (.int .i64 0) ∧ ∃ y : Wd E (Use.At p T3 :: L), w' = y.val := Use.put_taken g2 p 3 1 7 (by decide) (by decide) x
theorem s4 (x : Wd E (Use.At p T3 :: L)) : Calls Try.prog 12 #[ptr p, .int .i64 5, .int .i64 0, .int .i64 8] x.val fun e w' => e = .returned (.int .i64 0) ∧ ∃ y : Wd E (Use.At p T4 :: L), w' = y.val := Use.put_taken g3 p 5 0 8 (by decide) (by decide) x
theorem s5 (x : Wd E (Use.At p T4 :: L)) : Calls Try.prog 12 #[ptr p, .int .i64 5, .int .i64 1, .int .i64 7] x.val fun e w' => e = .returned (.int .i64 0) ∧ ∃ y : Wd E (Use.At p T5 :: L), w' = y.val := Use.put_taken g4 p 5 1 7 (by decide) (by decide) x
theorem s6 (x : Wd E (Use.At p T5 :: L)) : Calls Try.prog 13 #[ptr p, .int .i64 7] x.val fun e w' => e = .returned (.tuple #[.int .i64 5, .int .i64 1, .bool true]) ∧ ∃ y : Wd E (Use.At p T5 :: L), w' = y.val := Use.find_calls g5 p 7 x
theorem s7 (x : Wd E (Use.At p T5 :: L)) : Calls Try.prog 14 #[ptr p, .int .i64 5] x.val fun e w' => e = .returned (.tuple #[.int .i64 0, .bool false]) ∧ ∃ y : Wd E (Use.At p T5 :: L), w' = y.val := Use.hole_calls g5 p 5 x
theorem s8 {sb : Nat} (x : Wd E (Use.At p T5 :: pt sb (.cells #[.int .i64 5, .int .i64 3, .int .i64 9] 3 (0, 0)) :: L)) : Calls Try.prog 15 #[ptr p, .slice (some ⟨sb, 0, none⟩) 3 3] x.val fun e w' => e = .returned (.tuple #[.int .i64 3, .bool true]) ∧ ∃ y : Wd E (Use.At p T5 :: pt sb (.cells #[.int .i64 5, .int .i64 3, .int .i64 9] 3 (0, 0)) :: L), w' = y.val :=
  Use.emptiest_calls g5 p (gs := [5, 3, 9]) ⟨_, _, rfl, fun _ => ⟨sb, rfl, _, rfl, fun j u hj => by simpa using hj⟩⟩ (by decide) x
theorem s9 (x : Wd E (Use.At p T5 :: L)) : Calls Try.prog 16 #[ptr p, .int .i64 5, .int .i64 0] x.val fun e w' => e = .returned (.tuple #[.int .i64 8, .bool true]) ∧ ∃ y : Wd E (Use.At p T5 :: L), w' = y.val := Use.block_calls g5 p 5 0 x
theorem s10 (x : Wd E (Use.At p T5 :: L)) : Calls Try.prog 17 #[ptr p, .int .i64 3] x.val fun e w' => e = .returned (.int .i64 0) ∧ ∃ y : Wd E (Use.At p T5 :: L), w' = y.val := Use.count_calls g5 p 3 x
theorem s11 (x : Wd E (Use.At p T5 :: L)) : Calls Try.prog 12 #[ptr p, .int .i64 5, .int .i64 0, .int .i64 9] x.val fun e w' => e = .returned (.int .i64 9) ∧ ∃ y : Wd E (Use.At p T5 :: L), w' = y.val := Use.put_refused g5 p 5 0 9 (by decide) x
theorem s12 (x : Wd E (Use.At p T5 :: L)) : Calls Try.prog 18 #[ptr p, .int .i64 3, .int .i64 1] x.val fun e w' => e = .returned (.int .i64 9) ∧ ∃ y : Wd E (Use.At p T5 :: L), w' = y.val := Use.clear_calls g5 p 3 1 x
end
set_option maxRecDepth 100000 in
set_option maxHeartbeats 4000000 in
theorem shown_calls {E : World} {L : List HProp} (x : Wd E L) :
    Calls Try.prog 4 #[] x.val fun e w' => e = .returned (.bool true) ∧ ∃ y : Wd E L, w' = y.val := by
  go_enter Try.func4, Try.ntmps4
  go_wp2_with fail
  refine (Use.new_calls x).mono ?_; rintro e w' ⟨p, rfl, z, rfl⟩
  go_wp2_with fail
  refine (s1 p z).mono ?_; rintro e w' ⟨rfl, z, rfl⟩
  go_wp2_with fail
  refine (s2 p z).mono ?_; rintro e w' ⟨rfl, z, rfl⟩
  go_wp2_with fail
  refine (s3 p z).mono ?_; rintro e w' ⟨rfl, z, rfl⟩
  go_wp2_with fail
  refine (s4 p z).mono ?_; rintro e w' ⟨rfl, z, rfl⟩
  go_wp2_with fail
  refine (s5 p z).mono ?_; rintro e w' ⟨rfl, z, rfl⟩
  go_wp2_with fail
  refine (s6 p z).mono ?_; rintro e w' ⟨rfl, z, rfl⟩
  go_wp2_with fail
  refine (s7 p z).mono ?_; rintro e w' ⟨rfl, z, rfl⟩
  go_wp2_with ((with_reducible refine gbuildSlice 40 ?_); go_must (refine wd_buildSlice z rfl 40 3 3 _ rfl #[.int .i64 5, .int .i64 3, .int .i64 9] (fun w => by kernel_rfl) ?_; intro sb z))
  refine (s8 p z.up1).mono ?_; rintro e w' ⟨rfl, z, rfl⟩
  go_wp2_with fail
  refine (s9 p z).mono ?_; rintro e w' ⟨rfl, z, rfl⟩
  go_wp2_with fail
  refine (s10 p z).mono ?_; rintro e w' ⟨rfl, z, rfl⟩
  go_wp2_with fail
  refine (s11 p z).mono ?_; rintro e w' ⟨rfl, z, rfl⟩
  go_wp2_with fail
  refine (s12 p z).mono ?_; rintro e w' ⟨rfl, z, rfl⟩
  go_wp2_with fail
  go_ret
  exact ⟨rfl, z.drop.drop, rfl⟩
end Go.Proofs.Ytechbidbhoookaa.Up
