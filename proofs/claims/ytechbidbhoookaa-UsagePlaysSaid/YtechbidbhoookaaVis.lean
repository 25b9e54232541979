/- Going over a map: who has been visited. -/
import Derived.Test.YtechbidbhoookaaMaps
import Derived.Test.YtechbidbhoookaaOrd
namespace Go.Proofs.Ytechbidbhoookaa.Sl
open Go Go.RowKit

theorem nodup_range_len {l : List Nat} {n : Nat} (hn : l.Nodup) (h : ∀ j ∈ l, j < n) : l.length ≤ n := by
  have hp : (l ++ (List.range n).filter fun j => !l.contains j).Perm (List.range n) := by
    rw [List.perm_ext_iff_of_nodup]
    · intro a
      simp only [List.mem_append, List.mem_filter, List.mem_range]
      constructor
      · rintro (ha | ha)
        · exact h a ha
        · exact ha.1
      · intro ha
        by_cases hc : a ∈ l
        · exact .inl hc
        · exact .inr ⟨ha, by simpa using hc⟩
    · rw [List.nodup_append]
      refine ⟨hn, List.nodup_range.filter _, fun a ha b hb e => ?_⟩
      subst e
      simp at hb
      exact hb.2 ha
    · exact List.nodup_range
  have := hp.length_eq
  simp at this
  omega
def bornAt (es : Array MapEntry) (j : Nat) : Nat := (es.toList.getD j default).born
/-- The entries whose stamps have been seen are V's, in this order. -/
def Vis {α : Type} [Inhabited α] (es : Array MapEntry) (R : List α) (seen : Array Nat) (V : List α) : Prop :=
  ∃ idxs : List Nat, idxs.Nodup ∧ (∀ j ∈ idxs, j < R.length) ∧ seen.toList = idxs.map (bornAt es) ∧ V = idxs.map fun j => R.getD j default
section
variable {α : Type} [Inhabited α] {es : Array MapEntry} {R : List α} {seen : Array Nat} {V : List α} {κ : Type} {enc : κ → Value} {clock : Nat} {kf : α → κ} {vf : α → Value}
omit [Inhabited α] in
theorem reads_len (hR : Reads enc es clock (R.map fun r => (kf r, vf r))) : es.toList.length = R.length := by
  have := congrArg List.length hR.eq; simpa using this
theorem vis_nil (es : Array MapEntry) (R : List α) : Vis es R #[] [] := ⟨[], by simp, by simp, by simp, by simp⟩
theorem vis_step (hR : Reads enc es clock (R.map fun r => (kf r, vf r))) (hV : Vis es R seen V) {e : MapEntry} (he : e ∈ unseen es seen) :
    ∃ r, r ∈ R ∧ e ∈ es ∧ e.key = enc (kf r) ∧ e.val = vf r ∧ Vis es R (seen.push e.born) (V ++ [r]) ∧ V.length < R.length ∧ ((R.map kf).Nodup → kf r ∉ V.map kf) ∧ (∀ x ∈ V, x ∈ R) := by
  unfold unseen at he
  rw [Array.mem_filter] at he
  obtain ⟨hes, hns⟩ := he
  obtain ⟨j, hj, hje⟩ := List.getElem_of_mem (show e ∈ es.toList by simpa using hes)
  have hl := reads_len hR
  have hjR : j < R.length := by omega
  obtain ⟨idxs, h1, h2, h3, h4⟩ := hV
  have hbj : bornAt es j = e.born := by unfold bornAt; rw [List.getD_eq_getElem?_getD, List.getElem?_eq_getElem hj, hje]; rfl
  have hni : j ∉ idxs := fun hmem => by
    have : e.born ∈ seen.toList := by rw [h3, List.mem_map]; exact ⟨j, hmem, hbj⟩
    simp at hns
    exact hns (by simpa using this)
  have hnd : (j :: idxs).Nodup := List.nodup_cons.2 ⟨hni, h1⟩
  have hlen := nodup_range_len hnd (n := R.length) (fun i hi => by
    rcases List.mem_cons.1 hi with rfl | hi
    · exact hjR
    · exact h2 i hi)
  have hkv := congrArg (fun l => l[j]?) hR.eq
  simp only [List.getElem?_map, List.getElem?_eq_getElem hj, List.getElem?_eq_getElem hjR, Option.map_some, Option.some.injEq, Prod.mk.injEq, hje] at hkv
  have hgd : R.getD j default = R[j] := by rw [List.getD_eq_getElem?_getD, List.getElem?_eq_getElem hjR]; rfl
  refine ⟨R[j], List.getElem_mem hjR, hes, hkv.1, hkv.2, ⟨idxs ++ [j], ?_, ?_, ?_, ?_⟩, ?_, ?_, ?_⟩
  · rw [List.nodup_append]; exact ⟨h1, by simp, fun a ha b hb e => by simp at hb; subst hb; subst e; exact hni ha⟩
  · intro i hi
    rcases List.mem_append.1 hi with hi | hi
    · exact h2 i hi
    · simp at hi; subst hi; exact hjR
  · simp [h3, hbj]
  · simp only [h4, List.map_append, List.map_cons, List.map_nil, hgd]
  · rw [h4, List.length_map]; simp at hlen; omega
  · intro hk hmem
    rw [h4, List.map_map, List.mem_map] at hmem
    obtain ⟨i, hi, hie⟩ := hmem
    have hiR := h2 i hi
    have hgi : R.getD i default = R[i] := by rw [List.getD_eq_getElem?_getD, List.getElem?_eq_getElem hiR]; rfl
    simp only [Function.comp, hgi] at hie
    have hij : i ≠ j := fun e => hni (e ▸ hi)
    rcases Nat.lt_or_gt_of_ne hij with h | h
    · have := List.pairwise_iff_getElem.1 hk i j (by simpa using hiR) (by simpa using hjR) h
      simp at this; exact this hie
    · have := List.pairwise_iff_getElem.1 hk j i (by simpa using hjR) (by simpa using hiR) h
      simp at this; exact this hie.symm
  · intro x hx
    rw [h4, List.mem_map] at hx
    obtain ⟨i, hi, rfl⟩ := hx
    have hiR := h2 i hi
    rw [List.getD_eq_getElem?_getD, List.getElem?_eq_getElem hiR]
    exact List.getElem_mem hiR
theorem vis_done (hR : Reads enc es clock (R.map fun r => (kf r, vf r))) (hV : Vis es R seen V) (h : unseen es seen = #[]) : V.Perm R := by
  obtain ⟨idxs, h1, h2, h3, h4⟩ := hV
  have hl := reads_len hR
  have hp : idxs.Perm (List.range R.length) := by
    rw [List.perm_ext_iff_of_nodup h1 List.nodup_range]
    intro j
    rw [List.mem_range]
    refine ⟨h2 j, fun hj => ?_⟩
    have hj' : j < es.toList.length := by omega
    have hmem : es.toList[j] ∈ es := by have := List.getElem_mem hj'; simp
    have hs : es.toList[j].born ∈ seen.toList := by
      by_cases hc : seen.contains es.toList[j].born = true
      · simpa using hc
      · have : es.toList[j] ∈ unseen es seen := by
          unfold unseen
          rw [Array.mem_filter]
          exact ⟨hmem, by simpa using hc⟩
        rw [h] at this
        simp at this
    rw [h3, List.mem_map] at hs
    obtain ⟨i, hi, hie⟩ := hs
    have hi' : i < es.toList.length := by have := h2 i hi; omega
    have hb : bornAt es i = es.toList[i].born := by unfold bornAt; rw [List.getD_eq_getElem?_getD, List.getElem?_eq_getElem hi']; rfl
    rw [hb] at hie
    have hij : i = j := by
      rcases Nat.lt_trichotomy i j with h' | h' | h'
      · have := List.pairwise_iff_getElem.1 hR.one i j (by simpa using hi') (by simpa using hj') h'
        simp at this hie; exact absurd hie this
      · exact h'
      · have := List.pairwise_iff_getElem.1 hR.one j i (by simpa using hj') (by simpa using hi') h'
        simp at this hie; exact absurd hie.symm this
    exact hij ▸ hi
  rw [h4]
  refine (hp.map _).trans ?_
  have : (List.range R.length).map (fun j => R.getD j default) = R := by
    apply List.ext_getElem
    · simp
    · intro i hi1 hi2
      simp [List.getD_eq_getElem?_getD, List.getElem?_eq_getElem hi2]
  rw [this]
end
end Go.Proofs.Ytechbidbhoookaa.Sl
