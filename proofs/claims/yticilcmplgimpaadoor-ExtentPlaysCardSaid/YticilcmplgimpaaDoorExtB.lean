/- Package extent: TakeAt, Free, Has, Used, Room. -/
import Derived.Test.YticilcmplgimpaaDoorExt
import Derived.Shelf.Abstract
namespace Go.Proofs.YticilcmplgimpaaDoor.Ext
open Go Go.RowKit Go.Proofs.YticilcmplgimpaaDoor.Sl
open Go.Proofs.YticilcmplgimpaaDoor.Bits (ptr obj)

def codeTake (l : List Bool) (i : Nat) : Int := if l.getD i false then 9 else 0
def nextTake (l : List Bool) (i : Nat) : List Bool := if l.getD i false then l else l.set i true
def codeFree (l : List Bool) (i : Nat) : Int := if l.getD i false then 0 else 9
def nextFree (l : List Bool) (i : Nat) : List Bool := if l.getD i false then l.set i false else l
theorem change_take (E : World) : Change E 36 codeTake nextTake := fun L b l i hl hi y => by
  have h := Bits.takeAt_any b l i hl y
  have e : (0 : Int) ≤ i ∧ (i : Int) < l.length := by omega
  have e1 : Bits.takeCode l i = codeTake l i := by unfold Bits.takeCode codeTake; rw [if_pos e]; simp
  have e2 : Bits.takeNext l i = nextTake l i := by
    unfold Bits.takeNext nextTake
    rw [e1]; unfold codeTake
    cases hb : l.getD i false <;> simp
  rw [e1, e2] at h
  exact h
theorem change_free (E : World) : Change E 38 codeFree nextFree := fun L b l i hl hi y => by
  have h := Bits.free_any b l i hl y
  have e : (0 : Int) ≤ i ∧ (i : Int) < l.length := by omega
  have e1 : Bits.freeCode l i = codeFree l i := by unfold Bits.freeCode codeFree; rw [if_pos e]; simp
  have e2 : Bits.freeNext l i = nextFree l i := by
    unfold Bits.freeNext nextFree
    rw [e1]; unfold codeFree
    cases hb : l.getD i false <;> simp
  rw [e1, e2] at h
  exact h
set_option maxHeartbeats 400000 in
theorem change_has (E : World) : Change E 39 codeFree (fun l _ => l) := fun L b l i hl hi y => by
  have h := fun y => Bits.has_yes (E := E) (L := pt b (obj l) :: L) y b l i (fun y => Wd.heap0 y) hl hi
  unfold codeFree
  cases hb : l.getD i false with
  | true =>
    rw [hb] at h
    have H := Lib.hid h
    clear h hb
    go_enter Tryd.func39, Tryd.ntmps39
    go_wp2_with fail
    refine (H.out y).mono ?_; rintro e w' ⟨rfl, y, rfl⟩
    go_wp2_with fail
    go_ret
    exact ⟨rfl, y, rfl⟩
  | false =>
    rw [hb] at h
    have H := Lib.hid h
    clear h hb
    go_enter Tryd.func39, Tryd.ntmps39
    go_wp2_with fail
    refine (H.out y).mono ?_; rintro e w' ⟨rfl, y, rfl⟩
    go_wp2_with fail
    go_ret
    exact ⟨rfl, y, rfl⟩
theorem enters_take : ∀ args w, (callFunc 36 args).run Tryd.prog w = .ok (.enter 36 args) w := Go.Proofs.enters_of Tryd.func36 (by kernel_rfl) rfl
theorem enters_free : ∀ args w, (callFunc 38 args).run Tryd.prog w = .ok (.enter 38 args) w := Go.Proofs.enters_of Tryd.func38 (by kernel_rfl) rfl
theorem enters_has : ∀ args w, (callFunc 39 args).run Tryd.prog w = .ok (.enter 39 args) w := Go.Proofs.enters_of Tryd.func39 (by kernel_rfl) rfl

section
variable {E : World} {L : List HProp} (p : Nat) (A : List (Int × List Bool)) (d s : Int) (hs0 : -9223372036854775808 ≤ s) (hs1 : s ≤ 9223372036854775807) (hA : ∀ x ∈ A, x.2.length ≤ 65536) (x : Wd E (At p A :: L))
include hs0 hs1 hA
set_option maxHeartbeats 400000 in
theorem takeAt_calls : Calls Tryd.prog 18 #[ptr p, .agg #[.int .i64 d, .int .i64 s]] x.val fun e w' => e = .returned (.int .i64 (toCode codeTake A d s)) ∧ ∃ y : Wd E (At p (toNext nextTake A d s) :: L), w' = y.val := by
  have H := Lib.hid (fun L' y => to_calls (E := E) (L := L') p A d s _ _ _ (change_take E) enters_take hs0 hs1 hA y)
  clear hA
  go_enter Tryd.func18, Tryd.ntmps18
  go_wp2_with ((with_reducible refine gbox 36 ?_); go_must (refine wd_box x rfl 36 _ rfl #[.int .i64 d, .int .i64 s] rfl ?_; intro b1 z))
  refine (H.out _ z.up1).mono ?_; rintro e w' ⟨rfl, y, rfl⟩
  go_wp2_with fail
  go_ret
  exact ⟨rfl, y.up1.drop, rfl⟩
set_option maxHeartbeats 400000 in
theorem free_calls : Calls Tryd.prog 20 #[ptr p, .agg #[.int .i64 d, .int .i64 s]] x.val fun e w' => e = .returned (.int .i64 (toCode codeFree A d s)) ∧ ∃ y : Wd E (At p (toNext nextFree A d s) :: L), w' = y.val := by
  have H := Lib.hid (fun L' y => to_calls (E := E) (L := L') p A d s _ _ _ (change_free E) enters_free hs0 hs1 hA y)
  clear hA
  go_enter Tryd.func20, Tryd.ntmps20
  go_wp2_with ((with_reducible refine gbox 36 ?_); go_must (refine wd_box x rfl 36 _ rfl #[.int .i64 d, .int .i64 s] rfl ?_; intro b1 z))
  refine (H.out _ z.up1).mono ?_; rintro e w' ⟨rfl, y, rfl⟩
  go_wp2_with fail
  go_ret
  exact ⟨rfl, y.up1.drop, rfl⟩
end
theorem zeroChange (w : World) : (zeroValue 67).run Tryd.prog w = .ok (.agg #[.nilFunc]) w := by kernel_rfl
theorem aput_same {A : List (Int × List Bool)} {d : Int} {l : List Bool} (h : aget A d = some l) : aput A d l = A := by
  unfold aget at h
  unfold aput
  cases hi : aidx A d with
  | none => 
    unfold aidx at hi
    rw [List.findIdx?_eq_none_iff] at hi
    cases hf : A.find? fun x => decide (x.1 = d) with
    | none => rw [hf] at h; cases h
    | some r =>
      have h1 := List.mem_of_find?_eq_some hf
      have h2 := List.find?_some hf
      have := hi r h1
      rw [this] at h2; cases h2
  | some i =>
    unfold aidx at hi
    have hi2 := hi
    rw [List.findIdx?_eq_some_iff_getElem] at hi
    obtain ⟨hlt, h1, h2⟩ := hi
    have hf : A.find? (fun x => decide (x.1 = d)) = some A[i] := by
      rw [List.find?_eq_some_iff_getElem]
      exact ⟨h1, i, hlt, rfl, fun j hj => by simpa using h2 j hj⟩
    rw [hf] at h
    simp at h h1
    apply List.ext_getElem?
    intro j
    rw [List.getElem?_set]
    by_cases e : i = j
    · subst e
      simp [hlt, ← h, ← h1]
    · simp [e]
theorem toNext_id (A : List (Int × List Bool)) (d s : Int) : toNext (fun l _ => l) A d s = A := by
  unfold toNext
  cases ha : aget A d with
  | none => rfl
  | some l =>
    dsimp only
    cases index s with
    | none => rfl
    | some i => dsimp only; rw [aput_same ha]; split <;> rfl
def hasB (A : List (Int × List Bool)) (d s : Int) : Bool := toCode codeFree A d s == 0
set_option maxHeartbeats 400000 in
theorem has_calls {E : World} {L : List HProp} (p : Nat) (A : List (Int × List Bool)) (d s : Int) (hs0 : -9223372036854775808 ≤ s) (hs1 : s ≤ 9223372036854775807) (hA : ∀ x ∈ A, x.2.length ≤ 65536) (x : Wd E (At p A :: L)) :
    Calls Tryd.prog 22 #[ptr p, .agg #[.int .i64 d, .int .i64 s]] x.val fun e w' => e = .returned (.bool (hasB A d s)) ∧ ∃ y : Wd E (At p A :: L), w' = y.val := by
  have H := Lib.hid (fun L' y => to_calls (E := E) (L := L') p A d s _ _ _ (change_has E) enters_has hs0 hs1 hA y)
  clear hA
  unfold hasB
  go_enter Tryd.func22, Tryd.ntmps22
  go_wp2_with (first
    | ((with_reducible refine gbox 36 ?_); go_must (refine wd_box x rfl 36 _ rfl #[.int .i64 d, .int .i64 s] rfl ?_; intro b1 z))
    | ((with_reducible refine galloc 67 ?_); go_must (refine wd_alloc z rfl 67 rfl (.agg #[.nilFunc]) zeroChange ?_; intro b2 z; simp only [Value.cells] at z)))
  refine (H.out _ (z.set0 0 (.func (.func 39) #[] #[])).up2).mono ?_; rintro e w' ⟨rfl, y, rfl⟩
  go_wp2_with fail
  go_ret
  exact ⟨rfl, Wd.back (x := y.down2.drop.drop) (by rw [toNext_id])⟩

/-! ### Used, Room -/
def usedN (A : List (Int × List Bool)) (d : Int) : Int := match aget A d with
  | none => 0
  | some l => l.count true
def roomN (A : List (Int × List Bool)) (d : Int) : Int := match aget A d with
  | none => 0
  | some l => (l.length : Int) - l.count true
section
variable {E : World} {L : List HProp} (p : Nat) (A : List (Int × List Bool)) (d : Int) (hA : ∀ x ∈ A, x.2.length ≤ 65536) (x : Wd E (At p A :: L))
set_option maxHeartbeats 400000 in
theorem used_calls : Calls Tryd.prog 27 #[ptr p, .int .i64 d] x.val fun e w' => e = .returned (.int .i64 (usedN A d)) ∧ ∃ y : Wd E (At p A :: L), w' = y.val := by
  unfold usedN
  cases ha : aget A d with
  | none =>
    obtain ⟨m, es, clock, R, hR, rfl, hl, z, hz⟩ := open_none x ha
    rw [hz]
    have HR := Lib.hid hR
    clear ha hz hR
    go_enter Tryd.func27, Tryd.ntmps27
    go_wp2_with fail
    go_ret
    exact ⟨rfl, shut HR.out z⟩
  | some l =>
    obtain ⟨m, es, clock, b, R1, R2, hR, hA', h1, hl, z, hz⟩ := open_some x ha
    rw [hz]
    have HR := Lib.hid hR; have HA := Lib.hid hA'
    clear ha hz hR hA'
    dsimp only
    go_enter Tryd.func27, Tryd.ntmps27
    go_wp2_with fail
    refine (Bits.count_calls z b l (fun y => Wd.heap0 y)).mono ?_; rintro e w' ⟨rfl, y, rfl⟩
    go_wp2_with fail
    go_ret
    exact ⟨rfl, shut_same HR.out HA.out y⟩
include hA in
set_option maxHeartbeats 400000 in
theorem room_calls : Calls Tryd.prog 29 #[ptr p, .int .i64 d] x.val fun e w' => e = .returned (.int .i64 (roomN A d)) ∧ ∃ y : Wd E (At p A :: L), w' = y.val := by
  unfold roomN
  cases ha : aget A d with
  | none =>
    obtain ⟨m, es, clock, R, hR, rfl, hl, z, hz⟩ := open_none x ha
    rw [hz]
    have HR := Lib.hid hR
    clear ha hz hR hA
    go_enter Tryd.func29, Tryd.ntmps29
    go_wp2_with fail
    go_ret
    exact ⟨rfl, shut HR.out z⟩
  | some l =>
    have hlen : l.length ≤ 65536 := hA _ (aget_mem ha)
    have hcnt := Bits.count_le l
    obtain ⟨m, es, clock, b, R1, R2, hR, hA', h1, hl, z, hz⟩ := open_some x ha
    rw [hz]
    have HR := Lib.hid hR; have HA := Lib.hid hA'
    clear ha hz hR hA' hA
    dsimp only
    go_enter Tryd.func29, Tryd.ntmps29
    go_wp2_with fail
    refine (Bits.len_calls z b l (fun y => Wd.heap0 y)).mono ?_; rintro e w' ⟨rfl, y, rfl⟩
    go_wp2_with fail
    refine (Bits.count_calls y b l (fun y => Wd.heap0 y)).mono ?_; rintro e w' ⟨rfl, y, rfl⟩
    go_wp2_with fail
    go_ret
    exact ⟨rfl, shut_same HR.out HA.out y⟩
end
end Go.Proofs.YticilcmplgimpaaDoor.Ext
