/- The law of layer 6: what the two sides say of each other (plain). -/
import Derived.Test.YticilcmplgimpaaDoorExtC
import Derived.Test.YticilcmplgimpaaDoorRef06G
import Derived.Test.YticilcmplgimpaaDoorRef06B
import Derived.Test.YticilcmplgimpaaDoorRef06E
import Derived.Test.YticilcmplgimpaaDoorRef06F
namespace Go.Proofs.YticilcmplgimpaaDoor.Law06
open Go Go.RowKit Go.Proofs.YticilcmplgimpaaDoor.Sl
open Go.Proofs.YticilcmplgimpaaDoor.Bits (ptr)
open Go.Proofs.YticilcmplgimpaaDoor.Ext (count codeTake nextTake codeFree nextFree toCode toNext index takeVal takeNext usedN roomN addCode addNext hasB sorted)

abbrev Ms := List (Int × List Bool)
theorem aget_iff {A : Ms} (hnd : (A.map (·.1)).Nodup) (d : Int) (l : List Bool) : aget A d = some l ↔ (d, l) ∈ A := by
  refine ⟨Ext.aget_mem, fun h => ?_⟩
  unfold aget
  induction A with
  | nil => simp at h
  | cons x A ih =>
    rw [List.map_cons, List.nodup_cons] at hnd
    by_cases hx : x.1 = d
    · rw [List.find?_cons_of_pos (by simpa using hx)]
      rcases List.mem_cons.1 h with e | h
      · rw [← e]; rfl
      · exact absurd (List.mem_map.2 ⟨(d, l), h, hx.symm⟩) hnd.1
    · rw [List.find?_cons_of_neg (by simpa using hx)]
      rcases List.mem_cons.1 h with e | h
      · exact absurd (by rw [← e]) hx
      · exact ih hnd.2 h
theorem aget_perm {A B : Ms} (hp : A.Perm B) (hnd : (A.map (·.1)).Nodup) (d : Int) : aget B d = aget A d := by
  have hndB : (B.map (·.1)).Nodup := (hp.map _).nodup_iff.1 hnd
  cases h : aget A d with
  | some l => exact (aget_iff hndB d l).2 (hp.mem_iff.1 ((aget_iff hnd d l).1 h))
  | none =>
    cases h' : aget B d with
    | none => rfl
    | some l =>
      rw [(aget_iff hnd d l).2 (hp.mem_iff.2 ((aget_iff hndB d l).1 h'))] at h
      cases h
theorem aput_map {A : Ms} {d : Int} {l0 : List Bool} (l : List Bool) (hnd : (A.map (·.1)).Nodup) (h : aget A d = some l0) : aput A d l = A.map fun x => if x.1 = d then (d, l) else x := by
  unfold aput aidx
  induction A with
  | nil => cases h
  | cons x A ih =>
    rw [List.map_cons, List.nodup_cons] at hnd
    by_cases hx : x.1 = d
    · rw [List.findIdx?_cons]
      simp only [hx, decide_true, if_pos, List.set_cons_zero, List.map_cons]
      congr 1
      symm
      refine (List.map_congr_left fun y hy => ?_).trans (List.map_id A)
      rw [if_neg]
      · rfl
      · intro e
        exact hnd.1 (List.mem_map.2 ⟨y, hy, by rw [e, hx]⟩)
    · have h' : aget A d = some l0 := by
        unfold aget at h ⊢
        rw [List.find?_cons_of_neg (by simpa using hx)] at h
        exact h
      have ih' := ih hnd.2 h'
      rw [List.findIdx?_cons]
      simp only [hx, decide_false, List.map_cons, if_neg, Bool.false_eq_true, not_false_eq_true]
      cases hi : A.findIdx? fun x => decide (x.1 = d) with
      | none =>
        rw [hi] at ih'
        dsimp only [Option.map_none] at ih' ⊢
        rw [← ih']
        rfl
      | some i =>
        rw [hi] at ih'
        dsimp only [Option.map_some] at ih' ⊢
        rw [List.set_cons_succ, ih']
structure Inv (n : Nat) (A B : Ms) : Prop where
  perm : A.Perm B
  nodup : (A.map (·.1)).Nodup
  all : ∀ x ∈ A, 0 ≤ x.1 ∧ x.1 ≤ 9223372036854775807 ∧ x.2.length ≤ 65536
  len : A.length ≤ n
section
variable {n : Nat} {A B : Ms} (I : Inv n A B)
include I
theorem Inv.lenB : B.length ≤ n := by have := I.len; rw [I.perm.length_eq] at this; exact this
theorem Inv.nodupB : (B.map (·.1)).Nodup := (I.perm.map _).nodup_iff.1 I.nodup
theorem Inv.allB : ∀ x ∈ B, 0 ≤ x.1 ∧ x.1 ≤ 9223372036854775807 ∧ x.2.length ≤ 65536 := fun x hx => I.all x (I.perm.mem_iff.2 hx)
theorem Inv.get (d : Int) : aget B d = aget A d := aget_perm I.perm I.nodup d
theorem Inv.used (d : Int) : usedN B d = usedN A d := by unfold usedN; rw [I.get]
theorem Inv.room (d : Int) : roomN B d = roomN A d := by unfold roomN; rw [I.get]
theorem Inv.to (code : List Bool → Nat → Int) (d s : Int) : toCode code B d s = toCode code A d s := by unfold toCode; rw [I.get]
theorem Inv.has (d s : Int) : hasB B d s = hasB A d s := by unfold hasB; rw [I.to]
theorem Inv.takeV (d : Int) : takeVal B d = takeVal A d := by unfold takeVal; rw [I.get]
theorem Inv.addC (d s : Int) : addCode B d s = addCode A d s := by unfold addCode; rw [I.get]
theorem Inv.sort : sorted B = sorted A := by
  have h : ∀ A : Ms, (sorted A).Pairwise (· ≤ ·) := fun A => by
    have := List.pairwise_mergeSort (le := fun x y : Int => decide (x ≤ y)) (by intro a b c; simp; omega) (by intro a b; simp; omega) (A.map (·.1))
    exact this.imp (fun h => of_decide_eq_true h)
  have hp : (sorted B).Perm (sorted A) := (Ref06.sorted_perm B).trans ((I.perm.map _).symm.trans (Ref06.sorted_perm A).symm)
  exact hp.eq_of_pairwise (fun a b _ _ h1 h2 => by omega) (h B) (h A)
theorem Inv.more {m : Nat} (h : n ≤ m) : Inv m A B := ⟨I.perm, I.nodup, I.all, Nat.le_trans I.len h⟩
theorem Inv.left {A' : Ms} (h : A'.Perm A) : Inv n A' B := ⟨h.trans I.perm, (h.map _).nodup_iff.2 I.nodup, fun x hx => I.all x (h.mem_iff.1 hx), by rw [h.length_eq]; exact I.len⟩
theorem Inv.put {d : Int} {l0 l : List Bool} (h : aget A d = some l0) (hl : l.length = l0.length) : Inv n (aput A d l) (aput B d l) := by
  have hB : aget B d = some l0 := by rw [I.get, h]
  have hkeys : (aput A d l).map (·.1) = A.map (·.1) := by
    rw [aput_map l I.nodup h, List.map_map]
    refine List.map_congr_left fun x _ => ?_
    by_cases e : x.1 = d
    · simp [e]
    · simp [e]
  have hmem := (aget_iff I.nodup d l0).1 h
  refine ⟨?_, by rw [hkeys]; exact I.nodup, fun x hx => ?_, ?_⟩
  · rw [aput_map l I.nodup h, aput_map l I.nodupB hB]
    exact I.perm.map _
  · rw [aput_map l I.nodup h, List.mem_map] at hx
    obtain ⟨y, hy, rfl⟩ := hx
    by_cases e : y.1 = d
    · rw [if_pos e]
      have := I.all _ hmem
      exact ⟨this.1, this.2.1, by simp only [hl]; exact this.2.2⟩
    · rw [if_neg e]; exact I.all y hy
  · have := congrArg List.length hkeys
    simp at this
    rw [this]; exact I.len
theorem Inv.add {d : Int} (s : Int) (hd : d ≤ 9223372036854775807) : Inv (n + 1) (addNext A d s) (addNext B d s) := by
  unfold addNext
  rw [I.addC]
  by_cases h : addCode A d s = 0
  · rw [if_pos h, if_pos h]
    have h1 : ¬ (d < 0 ∨ s < 0 ∨ 4096 < s) := fun hh => by unfold addCode at h; rw [if_pos hh] at h; cases h
    have h2 : aget A d = none := by
      cases e : aget A d with
      | none => rfl
      | some l => unfold addCode at h; rw [if_neg h1, e] at h; cases h
    have hnm : ∀ x ∈ A, x.1 ≠ d := fun x hx e => by
      subst e
      have := (aget_iff I.nodup x.1 x.2).2 hx
      rw [h2] at this; cases this
    refine ⟨I.perm.append_right _, ?_, fun x hx => ?_, by simp; exact I.len⟩
    · rw [List.map_append, List.nodup_append]
      refine ⟨I.nodup, by simp, fun a ha b hb e => ?_⟩
      obtain ⟨x, hx, rfl⟩ := List.mem_map.1 ha
      simp at hb
      exact hnm x hx (by rw [e, hb])
    · rcases List.mem_append.1 hx with hx | hx
      · exact I.all x hx
      · simp at hx
        subst hx
        refine ⟨by simp only; omega, hd, ?_⟩
        simp only [List.length_replicate]
        unfold count
        split <;> omega
  · rw [if_neg h, if_neg h]
    exact I.more (by omega)
theorem Inv.take (d : Int) : Inv (n + 1) (takeNext A d) (takeNext B d) := by
  unfold takeNext
  rw [I.get]
  cases h : aget A d with
  | none => exact I.more (by omega)
  | some l =>
    dsimp only
    cases hl : Bits.least l with
    | none => exact I.more (by omega)
    | some i => exact (I.put h (by simp)).more (by omega)
theorem Inv.toN (next : List Bool → Nat → List Bool) (hn : ∀ l i, (next l i).length = l.length) (d s : Int) : Inv (n + 1) (toNext next A d s) (toNext next B d s) := by
  unfold toNext
  rw [I.get]
  cases h : aget A d with
  | none => exact I.more (by omega)
  | some l =>
    dsimp only
    cases hi : index s with
    | none => exact I.more (by omega)
    | some i =>
      dsimp only
      by_cases hlt : i < l.length
      · rw [if_pos hlt, if_pos hlt]
        exact (I.put h (hn l i)).more (by omega)
      · rw [if_neg hlt, if_neg hlt]
        exact I.more (by omega)
end
theorem takeVal_form (A : Ms) (d : Int) : ∃ d' s' c : Int, takeVal A d = .tuple #[.agg #[.int .i64 d', .int .i64 s'], .int .i64 c] := by
  unfold takeVal
  cases aget A d with
  | none => exact ⟨_, _, _, rfl⟩
  | some l =>
    dsimp only
    cases Bits.least l with
    | none => exact ⟨_, _, _, rfl⟩
    | some i => exact ⟨_, _, _, rfl⟩
theorem nextTake_len (l : List Bool) (i : Nat) : (nextTake l i).length = l.length := by unfold nextTake; split <;> simp
theorem nextFree_len (l : List Bool) (i : Nat) : (nextFree l i).length = l.length := by unfold nextFree; split <;> simp
end Go.Proofs.YticilcmplgimpaaDoor.Law06
