/- Lists of pairs whose keys are unlike: what stays where one is put, taken away, or where they are in another order. -/
import Derived.Test.YtechbidbhoookaaMaps
namespace Go.Proofs.Ytechbidbhoookaa.Sl
section
variable {κ α : Type} [DecidableEq κ]
theorem aget_mem' {A : List (κ × α)} {d : κ} {l : α} (h : aget A d = some l) : (d, l) ∈ A := by
  unfold aget at h
  cases hf : A.find? fun x => decide (x.1 = d) with
  | none => rw [hf] at h; cases h
  | some r =>
    rw [hf] at h
    have h1 := List.find?_some hf
    have h2 := List.mem_of_find?_eq_some hf
    have h3 : r.1 = d := by simpa using h1
    have h4 : r.2 = l := by simpa using h
    rw [← h3, ← h4]; exact h2
theorem aget_iff {A : List (κ × α)} (hnd : (A.map (·.1)).Nodup) (d : κ) (l : α) : aget A d = some l ↔ (d, l) ∈ A := by
  refine ⟨aget_mem', fun h => ?_⟩
  unfold aget
  induction A with
  | nil => simp at h
  | cons x A ih =>
    rw [List.map_cons, List.nodup_cons] at hnd
    by_cases hx : x.1 = d
    · rw [List.find?_cons_of_pos (by simpa using hx)]
      rcases List.mem_cons.1 h with e | h
      · rw [← e]; rfl
      · exact absurd (List.mem_map.2 ⟨(d, l), h, hx.symm⟩) hnd.1
    · rw [List.find?_cons_of_neg (by simpa using hx)]
      rcases List.mem_cons.1 h with e | h
      · exact absurd (by rw [← e]) hx
      · exact ih hnd.2 h
theorem aget_none_iff {A : List (κ × α)} (d : κ) : aget A d = none ↔ ∀ x ∈ A, x.1 ≠ d := by
  unfold aget
  rw [Option.map_eq_none_iff, List.find?_eq_none]
  simp
theorem aget_of_mem_iff {A B : List (κ × α)} (hA : (A.map (·.1)).Nodup) (hB : (B.map (·.1)).Nodup) (h : ∀ x, x ∈ A ↔ x ∈ B) (d : κ) : aget B d = aget A d := by
  cases h1 : aget A d with
  | some l => exact (aget_iff hB d l).2 ((h _).1 ((aget_iff hA d l).1 h1))
  | none =>
    cases h2 : aget B d with
    | none => rfl
    | some l =>
      rw [(aget_iff hA d l).2 ((h _).2 ((aget_iff hB d l).1 h2))] at h1
      cases h1
theorem aget_perm {A B : List (κ × α)} (hp : A.Perm B) (hnd : (A.map (·.1)).Nodup) (d : κ) : aget B d = aget A d :=
  aget_of_mem_iff hnd ((hp.map _).nodup_iff.1 hnd) (fun _ => hp.mem_iff) d
theorem aput_map {A : List (κ × α)} {d : κ} {l0 : α} (l : α) (hnd : (A.map (·.1)).Nodup) (h : aget A d = some l0) : aput A d l = A.map fun x => if x.1 = d then (d, l) else x := by
  unfold aput aidx
  induction A with
  | nil => cases h
  | cons x A ih =>
    rw [List.map_cons, List.nodup_cons] at hnd
    by_cases hx : x.1 = d
    · rw [List.findIdx?_cons]
      simp only [hx, decide_true, if_pos, List.set_cons_zero, List.map_cons]
      congr 1
      symm
      refine (List.map_congr_left fun y hy => ?_).trans (List.map_id A)
      rw [if_neg]
      · rfl
      · intro e
        exact hnd.1 (List.mem_map.2 ⟨y, hy, by rw [e, hx]⟩)
    · have h' : aget A d = some l0 := by
        unfold aget at h ⊢
        rw [List.find?_cons_of_neg (by simpa using hx)] at h
        exact h
      have ih' := ih hnd.2 h'
      rw [List.findIdx?_cons]
      simp only [hx, decide_false, List.map_cons, if_neg, Bool.false_eq_true, not_false_eq_true]
      cases hi : A.findIdx? fun x => decide (x.1 = d) with
      | none =>
        rw [hi] at ih'
        dsimp only [Option.map_none] at ih' ⊢
        rw [← ih']
        rfl
      | some i =>
        rw [hi] at ih'
        dsimp only [Option.map_some] at ih' ⊢
        rw [List.set_cons_succ, ih']
theorem aput_new {A : List (κ × α)} {d : κ} (l : α) (h : aget A d = none) : aput A d l = A ++ [(d, l)] := by
  have : aidx A d = none := by
    unfold aidx
    rw [List.findIdx?_eq_none_iff]
    intro x hx
    simpa using (aget_none_iff d).1 h x hx
  unfold aput
  rw [this]
theorem aput_keys {A : List (κ × α)} {d : κ} {l0 : α} (l : α) (hnd : (A.map (·.1)).Nodup) (h : aget A d = some l0) : (aput A d l).map (·.1) = A.map (·.1) := by
  rw [aput_map l hnd h, List.map_map]
  refine List.map_congr_left fun x _ => ?_
  by_cases e : x.1 = d
  · simp [e]
  · simp [e]
theorem aput_nodup {A : List (κ × α)} (d : κ) (l : α) (hnd : (A.map (·.1)).Nodup) : ((aput A d l).map (·.1)).Nodup := by
  cases h : aget A d with
  | some l0 => rw [aput_keys l hnd h]; exact hnd
  | none =>
    rw [aput_new l h, List.map_append, List.nodup_append]
    refine ⟨hnd, by simp, fun a ha b hb e => ?_⟩
    obtain ⟨x, hx, rfl⟩ := List.mem_map.1 ha
    simp at hb
    exact (aget_none_iff d).1 h x hx (by rw [e, hb])
theorem mem_aput {A : List (κ × α)} (d : κ) (l : α) (hnd : (A.map (·.1)).Nodup) (x : κ × α) : x ∈ aput A d l ↔ x = (d, l) ∨ (x.1 ≠ d ∧ x ∈ A) := by
  cases h : aget A d with
  | some l0 =>
    rw [aput_map l hnd h, List.mem_map]
    constructor
    · rintro ⟨y, hy, rfl⟩
      by_cases e : y.1 = d
      · left; rw [if_pos e]
      · right; rw [if_neg e]; exact ⟨e, hy⟩
    · rintro (rfl | ⟨h1, h2⟩)
      · exact ⟨(d, l0), (aget_iff hnd d l0).1 h, by simp⟩
      · exact ⟨x, h2, by rw [if_neg h1]⟩
  | none =>
    rw [aput_new l h, List.mem_append, List.mem_singleton]
    constructor
    · rintro (hx | rfl)
      · exact .inr ⟨(aget_none_iff d).1 h x hx, hx⟩
      · exact .inl rfl
    · rintro (rfl | ⟨_, hx⟩)
      · exact .inr rfl
      · exact .inl hx
theorem aput_perm {A B : List (κ × α)} (d : κ) (l : α) (hp : A.Perm B) (hnd : (A.map (·.1)).Nodup) : (aput A d l).Perm (aput B d l) := by
  have hB := (hp.map (·.1)).nodup_iff.1 hnd
  cases h : aget A d with
  | some l0 =>
    rw [aput_map l hnd h, aput_map l hB (by rw [aget_perm hp hnd]; exact h)]
    exact hp.map _
  | none =>
    rw [aput_new l h, aput_new l (by rw [aget_perm hp hnd]; exact h)]
    exact hp.append_right _
theorem adel_filter {A : List (κ × α)} (d : κ) (hnd : (A.map (·.1)).Nodup) : adel A d = A.filter fun x => decide (x.1 ≠ d) := by
  unfold adel aidx
  induction A with
  | nil => rfl
  | cons x A ih =>
    rw [List.map_cons, List.nodup_cons] at hnd
    have ih' := ih hnd.2
    by_cases hx : x.1 = d
    · rw [List.findIdx?_cons]
      simp only [hx, decide_true, if_pos, List.eraseIdx_cons_zero]
      rw [List.filter_cons_of_neg (by simp [hx])]
      symm
      rw [List.filter_eq_self]
      intro y hy
      simp only [ne_eq, decide_not, Bool.not_eq_eq_eq_not, Bool.not_true, decide_eq_false_iff_not]
      intro e
      exact hnd.1 (List.mem_map.2 ⟨y, hy, by rw [e, hx]⟩)
    · rw [List.findIdx?_cons, List.filter_cons_of_pos (by simp [hx])]
      simp only [hx, decide_false, if_neg, Bool.false_eq_true, not_false_eq_true]
      cases hi : A.findIdx? fun x => decide (x.1 = d) with
      | none =>
        rw [hi] at ih'
        dsimp only [Option.map_none] at ih' ⊢
        rw [← ih']
      | some i =>
        rw [hi] at ih'
        dsimp only [Option.map_some] at ih' ⊢
        rw [List.eraseIdx_cons_succ, ih']
theorem adel_nodup {A : List (κ × α)} (d : κ) (hnd : (A.map (·.1)).Nodup) : ((adel A d).map (·.1)).Nodup := by
  rw [adel_filter d hnd]
  exact hnd.sublist (List.filter_sublist.map _)
theorem mem_adel {A : List (κ × α)} (d : κ) (hnd : (A.map (·.1)).Nodup) (x : κ × α) : x ∈ adel A d ↔ x.1 ≠ d ∧ x ∈ A := by
  rw [adel_filter d hnd, List.mem_filter]
  simp [and_comm]
theorem adel_perm {A B : List (κ × α)} (d : κ) (hp : A.Perm B) (hnd : (A.map (·.1)).Nodup) : (adel A d).Perm (adel B d) := by
  rw [adel_filter d hnd, adel_filter d ((hp.map (·.1)).nodup_iff.1 hnd)]
  exact hp.filter _
theorem aget_aput {A : List (κ × α)} (d e : κ) (l : α) (hnd : (A.map (·.1)).Nodup) : aget (aput A d l) e = if e = d then some l else aget A e := by
  by_cases he : e = d
  · subst he
    rw [if_pos rfl]
    exact (aget_iff (aput_nodup e l hnd) e l).2 ((mem_aput e l hnd _).2 (.inl rfl))
  · rw [if_neg he]
    cases h : aget A e with
    | some x => exact (aget_iff (aput_nodup d l hnd) e x).2 ((mem_aput d l hnd _).2 (.inr ⟨he, (aget_iff hnd e x).1 h⟩))
    | none =>
      rw [aget_none_iff] at h ⊢
      intro x hx
      rcases (mem_aput d l hnd x).1 hx with rfl | ⟨_, hx⟩
      · exact fun e' => he e'.symm
      · exact h x hx
theorem aget_adel {A : List (κ × α)} (d e : κ) (hnd : (A.map (·.1)).Nodup) : aget (adel A d) e = if e = d then none else aget A e := by
  by_cases he : e = d
  · subst he
    rw [if_pos rfl, aget_none_iff]
    intro x hx
    exact ((mem_adel e hnd x).1 hx).1
  · rw [if_neg he]
    cases h : aget A e with
    | some x => exact (aget_iff (adel_nodup d hnd) e x).2 ((mem_adel d hnd _).2 ⟨he, (aget_iff hnd e x).1 h⟩)
    | none =>
      rw [aget_none_iff] at h ⊢
      intro x hx
      exact h x ((mem_adel d hnd x).1 hx).2
end
end Go.Proofs.Ytechbidbhoookaa.Sl
