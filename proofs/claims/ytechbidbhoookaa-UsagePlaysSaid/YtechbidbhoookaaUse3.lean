/- Package usage, layer 14: Blocks, Count, Hole. -/
import Derived.Test.YtechbidbhoookaaUse2
import Derived.Test.YtechbidbhoookaaShC
set_option linter.unusedVariables false
namespace Go.Proofs.Ytechbidbhoookaa.Use
open Go Go.RowKit Go.Proofs.Ytechbidbhoookaa.Sl

def blocksOf (T : Tb) (g : Int) : List Int := match aget T g with
  | none => []
  | some l => kept l
def holeOf (T : Tb) (g : Int) : Option Int := match aget T g with
  | none => none
  | some l => (l.findIdx? fun x => decide (x = -1)).map fun i => (i : Int)
section
variable {E : World} {L : List HProp} {T : Tb} (hT : Good T) (p : Nat)
include hT
set_option maxRecDepth 100000 in
set_option maxHeartbeats 1000000 in
theorem blocks_calls (g : Int) (x : Wd E (At p T :: L)) :
    Calls Try.prog 30 #[ptr p, .int .i64 g] x.val fun e w' => ∃ v, e = .returned v ∧ ∃ y : Wd E (Row 3 1 v (blocksOf T g).length (ints (blocksOf T g)) :: At p T :: L), w' = y.val := by
  obtain ⟨S, hG, hF, y, hy⟩ := At.op x
  rw [hy]
  have HC := Lib.hid (fun L (y : Opn E S p L) => At.cl hG hF y)
  cases ha : aget T g with
  | none =>
    have e1 : blocksOf T g = [] := by unfold blocksOf; rw [ha]
    rw [e1]
    have hlook := hG.none ha
    unfold LookG at hlook
    clear ha hG hF e1 hy hT
    go_enter Try.func30, Try.ntmps30
    go_wp2_with fail
    refine (clone_nil y).mono ?_; rintro e w' ⟨rfl, y, rfl⟩
    go_wp2_with fail
    refine (deleteFunc_nil y).mono ?_; rintro e w' ⟨rfl, y, rfl⟩
    go_wp2_with fail
    go_ret
    obtain ⟨u, hu⟩ := HC.out _ y
    obtain ⟨v, hv⟩ := Row.nil (T := 3) (k := 1) u
    exact ⟨_, rfl, v, hu.trans hv⟩
  | some l =>
    have e1 : blocksOf T g = kept l := by unfold blocksOf; rw [ha]
    rw [e1]
    have hlen := lens_of hT ha
    obtain ⟨R1, r, R2, hR, hid, rfl, hok, _, hlook⟩ := hG.some ha
    unfold LookG at hlook
    obtain ⟨z, hz⟩ := opn1 hR y
    rw [hz]
    have HR := Lib.hid hR; have HT := Lib.hid hok.take
    clear ha hG hF e1 hy hT hR hid hok hz
    go_enter Try.func30, Try.ntmps30
    go_wp2_with fail
    refine (clone_calls HT.out (by omega) z).mono ?_; rintro e w' ⟨v, rfl, -, z, rfl⟩
    go_wp2_with fail
    refine (deleteFunc_calls (by omega) (by omega) z).mono ?_; rintro e w' ⟨v', rfl, z, rfl⟩
    go_wp2_with fail
    go_ret
    obtain ⟨u, hu⟩ := cl1' (L := Row 3 1 v' (kept r.l).length (ints (kept r.l)) :: L) HR.out (z.down5)
    obtain ⟨w, hw⟩ := HC.out _ u
    exact ⟨_, rfl, w.up1, hu.trans hw⟩
theorem blocks_len (g : Int) : (blocksOf T g).length ≤ 4096 := by
  unfold blocksOf
  cases h : aget T g with
  | none => simp
  | some l =>
    have h1 := lens_of hT h
    have h2 : (kept l).length ≤ l.length := List.length_filter_le _ _
    dsimp only
    omega
set_option maxRecDepth 100000 in
set_option maxHeartbeats 1000000 in
theorem count_calls (g : Int) (x : Wd E (At p T :: L)) :
    Calls Try.prog 17 #[ptr p, .int .i64 g] x.val fun e w' => e = .returned (.int .i64 ((blocksOf T g).length : Int)) ∧ ∃ y : Wd E (At p T :: L), w' = y.val := by
  have HB := Lib.hid (fun x => blocks_calls (E := E) (L := L) hT p g x)
  have hl := blocks_len hT g
  clear hT
  go_enter Try.func17, Try.ntmps17
  go_wp2_with fail
  refine (HB.out x).mono ?_; rintro e w' ⟨v, rfl, z, rfl⟩
  obtain ⟨base, cap, rfl⟩ := Row.form z
  go_wp2_with fail
  go_ret
  exact ⟨rfl, z.drop, rfl⟩
set_option maxRecDepth 100000 in
set_option maxHeartbeats 1000000 in
theorem hole_calls (g : Int) (x : Wd E (At p T :: L)) :
    Calls Try.prog 14 #[ptr p, .int .i64 g] x.val fun e w' => e = .returned (optVal (holeOf T g)) ∧ ∃ y : Wd E (At p T :: L), w' = y.val := by
  obtain ⟨S, hG, hF, y, hy⟩ := At.op x
  rw [hy]
  have HC := Lib.hid (fun L (y : Opn E S p L) => At.cl hG hF y)
  cases ha : aget T g with
  | none =>
    have e1 : holeOf T g = none := by unfold holeOf; rw [ha]
    rw [e1]
    have hlook := hG.none ha
    unfold LookG at hlook
    have HI : ∀ x : Opn E S p L, Calls Try.prog 39 #[.slice none 0 0, .int .i64 (-1)] x.val fun e w' => e = .returned (.int .i64 (-1)) ∧ ∃ y : Opn E S p L, w' = y.val := by
      intro x
      go_enter Try.func39, Try.ntmps39
      go_wp2_with fail
      go_loop [8] (fun n => n = .int .i64 0) (fun _ => 0)
      case atStart => rfl
      case round =>
        subst hrel
        go_wp2_with fail
        go_ret
        exact ⟨rfl, x, rfl⟩
    have HI := Lib.hid HI
    clear ha hG hF e1 hy hT
    go_enter Try.func14, Try.ntmps14
    go_wp2_with fail
    refine (HI.out y).mono ?_; rintro e w' ⟨rfl, y, rfl⟩
    go_wp2_with fail
    refine bodyPost_ret (v := .tuple #[.int .i64 0, .bool false]) (by simp [results, Try.results14, go_sem]) rfl ⟨rfl, HC.out _ y⟩
  | some l =>
    have hlen := lens_of hT ha
    have e1 : holeOf T g = (l.findIdx? fun x => decide (x = -1)).map fun i => (i : Int) := by unfold holeOf; rw [ha]
    obtain ⟨R1, r, R2, hR, hid, rfl, hok, _, hlook⟩ := hG.some ha
    unfold LookG at hlook
    obtain ⟨z, hz⟩ := opn1 hR y
    rw [hz, e1]
    have hi := fun z => index_calls (E := E) (L := big UM.at (R1 ++ R2) :: S.pg :: S.pw :: S.hd p :: L) (b := r.b) (cap := r.cap) (cur := r.cur) hok.take (by omega) (-1) z
    have HR := Lib.hid hR
    clear ha hG hF e1 hy hT hR hid hok hz
    cases hf : r.l.findIdx? (fun x => decide (x = -1)) with
    | none =>
      rw [hf, show idxInt none = -1 from rfl] at hi
      have HI := Lib.hid hi
      clear hi hf
      go_enter Try.func14, Try.ntmps14
      go_wp2_with fail
      refine (HI.out z).mono ?_; rintro e w' ⟨rfl, z, rfl⟩
      go_wp2_with fail
      refine bodyPost_ret (v := .tuple #[.int .i64 0, .bool false]) (by simp [results, Try.results14, go_sem]) rfl ⟨rfl, ?_⟩
      obtain ⟨u, hu⟩ := cl1' HR.out z
      obtain ⟨w, hw⟩ := HC.out _ u
      exact ⟨w, hu.trans hw⟩
    | some i =>
      rw [hf, show idxInt (some i) = (i : Int) from rfl] at hi
      have hil : i < r.l.length := by rw [List.findIdx?_eq_some_iff_getElem] at hf; exact hf.1
      have HI := Lib.hid hi
      clear hi hf
      go_enter Try.func14, Try.ntmps14
      go_wp2_with fail
      refine (HI.out z).mono ?_; rintro e w' ⟨rfl, z, rfl⟩
      go_wp2_with fail
      refine bodyPost_ret (v := .tuple #[.int .i64 i, .bool true]) (by simp [results, Try.results14, go_sem]) rfl ⟨rfl, ?_⟩
      obtain ⟨u, hu⟩ := cl1' HR.out z
      obtain ⟨w, hw⟩ := HC.out _ u
      exact ⟨w, hu.trans hw⟩
end
end Go.Proofs.Ytechbidbhoookaa.Use
