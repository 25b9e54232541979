/- Package usage, layer 14: maps.DeleteFunc of a group's blocks. -/
import Derived.Test.YtechbidbhoookaaUse8
import Derived.Deep.LoopGhost
set_option linter.unusedVariables false
namespace Go.Proofs.Ytechbidbhoookaa.Use
open Go Go.RowKit Go.Proofs.Ytechbidbhoookaa.Sl

abbrev Wh := List (Int × Int × Int)
/-- What is left of W where the keys V have been visited. -/
def leftOf (W : Wh) (g : Int) (V : List Int) : Wh := W.filter fun x => !(decide (x.2.1 = g) && decide (x.1 ∈ V))
structure Going (es : Array MapEntry) (c : Nat) (seen : Array Nat) (W : Wh) (g : Int) (V : List Int) : Prop where
  reads : Reads encI es c (pairsW (leftOf W g V))
  seen : ∀ e ∈ es.toList, ∀ k : Int, e.key = .int .i64 k → (seen.contains e.born = true ↔ k ∈ V)
  nodup : V.Nodup
  sub : ∀ k ∈ V, k ∈ W.map (·.1)
theorem entry_mem {es : Array MapEntry} {c : Nat} {W : Wh} (h : Reads encI es c (pairsW W)) {e : MapEntry} (he : e ∈ es.toList) : ∃ k x, (k, x) ∈ W ∧ e.key = .int .i64 k ∧ e.val = spot x := by
  have : (e.key, e.val) ∈ es.toList.map (fun e => (e.key, e.val)) := List.mem_map.2 ⟨e, he, rfl⟩
  rw [h.eq, pairsW, List.map_map, List.mem_map] at this
  obtain ⟨y, hy, hye⟩ := this
  simp only [Function.comp, Prod.mk.injEq] at hye
  exact ⟨y.1, y.2, hy, hye.1.symm, hye.2.symm⟩
theorem entry_inj {es : Array MapEntry} {c : Nat} {W : Wh} (hW : (W.map (·.1)).Nodup) (h : Reads encI es c (pairsW W)) {e e' : MapEntry} (he : e ∈ es.toList) (he' : e' ∈ es.toList) (hk : e.key = e'.key) : e = e' := by
  obtain ⟨i, hi, rfl⟩ := List.getElem_of_mem he
  obtain ⟨j, hj, rfl⟩ := List.getElem_of_mem he'
  have hkeys : (es.toList.map (·.key)) = W.map fun x => Value.int .i64 x.1 := by
    have := congrArg (List.map Prod.fst) h.eq
    simpa [pairsW, Function.comp_def] using this
  have hnd : (es.toList.map (·.key)).Nodup := by
    rw [hkeys]
    have : (W.map fun x => Value.int .i64 x.1) = (W.map (·.1)).map fun n => Value.int .i64 n := by simp [Function.comp_def]
    rw [this]
    refine List.Pairwise.map _ (fun a b h e => h ?_) hW
    simpa using e
  have e1 : i = j := by
    rcases Nat.lt_trichotomy i j with h' | h' | h'
    · have := List.pairwise_iff_getElem.1 hnd i j (by simpa using hi) (by simpa using hj) h'
      simp at this; exact absurd hk this
    · exact h'
    · have := List.pairwise_iff_getElem.1 hnd j i (by simpa using hj) (by simpa using hi) h'
      simp at this; exact absurd hk.symm this
  subst e1; rfl
theorem born_inj {es : Array MapEntry} {c : Nat} {W : Wh} (h : Reads encI es c (pairsW W)) {e e' : MapEntry} (he : e ∈ es.toList) (he' : e' ∈ es.toList) (hk : e.born = e'.born) : e = e' := by
  obtain ⟨i, hi, rfl⟩ := List.getElem_of_mem he
  obtain ⟨j, hj, rfl⟩ := List.getElem_of_mem he'
  have hnd := h.one
  have e1 : i = j := by
    rcases Nat.lt_trichotomy i j with h' | h' | h'
    · have := List.pairwise_iff_getElem.1 hnd i j (by simpa using hi) (by simpa using hj) h'
      simp at this; exact absurd hk this
    · exact h'
    · have := List.pairwise_iff_getElem.1 hnd j i (by simpa using hj) (by simpa using hi) h'
      simp at this; exact absurd hk.symm this
  subst e1; rfl
theorem leftOf_keys {W : Wh} (g : Int) (V : List Int) (hW : (W.map (·.1)).Nodup) : ((leftOf W g V).map (·.1)).Nodup := hW.sublist (List.filter_sublist.map _)
theorem left_same {W : Wh} {g k : Int} {x : Int × Int} {V : List Int} (hW : (W.map (·.1)).Nodup) (hm : (k, x) ∈ W) (hx : x.1 ≠ g) : leftOf W g (V ++ [k]) = leftOf W g V := by
  unfold leftOf
  refine List.filter_congr fun y hy => ?_
  congr 1
  by_cases e : y.1 = k
  · have : y = (k, x) := by
      have h1 := (aget_iff hW k x).2 hm
      have h2 := (aget_iff hW k y.2).2 (by rw [← e]; exact hy)
      rw [h1] at h2
      rw [Option.some.inj h2, ← e]
    subst this
    simp [hx]
  · simp [e]
theorem left_del {W : Wh} {g k : Int} {x : Int × Int} {V : List Int} (hW : (W.map (·.1)).Nodup) (hm : (k, x) ∈ leftOf W g V) (hx : x.1 = g) : leftOf W g (V ++ [k]) = adel (leftOf W g V) k := by
  rw [adel_filter k (leftOf_keys g V hW)]
  unfold leftOf at hm ⊢
  rw [List.filter_filter]
  refine List.filter_congr fun y hy => ?_
  rw [List.mem_filter] at hm
  by_cases e : y.1 = k
  · have : y = (k, x) := by
      have h1 := (aget_iff hW k x).2 hm.1
      have h2 := (aget_iff hW k y.2).2 (by rw [← e]; exact hy)
      rw [h1] at h2
      rw [Option.some.inj h2, ← e]
    subst this
    simp [hx]
  · simp [e]
theorem going_start {es : Array MapEntry} {c : Nat} {W : Wh} (g : Int) (h : Reads encI es c (pairsW W)) : Going es c #[] W g [] := by
  refine ⟨?_, fun e _ k _ => by simp, by simp, by simp⟩
  have : leftOf W g [] = W := by unfold leftOf; rw [List.filter_eq_self]; intro x _; simp
  rw [this]; exact h
theorem nodup_len {A B : List Int} (hA : A.Nodup) (hB : B.Nodup) (h : ∀ k ∈ A, k ∈ B) : A.length ≤ B.length := by
  have hp : (B.filter fun k => decide (k ∈ A)).Perm A := by
    rw [List.perm_ext_iff_of_nodup (hB.filter _) hA]
    intro k
    rw [List.mem_filter]
    simp only [decide_eq_true_eq]
    exact ⟨fun h => h.2, fun hk => ⟨h k hk, hk⟩⟩
  rw [← hp.length_eq]
  exact List.length_filter_le _ _
theorem mem_delEs {es : Array MapEntry} {A : List (Int × Value)} {k : Int} {e : MapEntry} (h : e ∈ (delEs es A k).toList) : e ∈ es.toList := by
  unfold delEs at h
  cases hi : aidx A k with
  | none => rw [hi] at h; exact h
  | some i =>
    rw [hi] at h
    dsimp only at h
    by_cases hlt : i < es.size
    · have hm : (es.eraseIdxIfInBounds i).toList = es.toList.eraseIdx i := by simp [Array.eraseIdxIfInBounds, hlt]
      rw [hm] at h
      exact List.mem_of_mem_eraseIdx h
    · simp [Array.eraseIdxIfInBounds, hlt] at h
      simpa using h
theorem going_step {es : Array MapEntry} {c : Nat} {seen : Array Nat} {W : Wh} {g : Int} {V : List Int} (hW : (W.map (·.1)).Nodup) (G : Going es c seen W g V) {e : MapEntry} (he : e ∈ unseen es seen) :
    ∃ k x, e ∈ es ∧ e.key = .int .i64 k ∧ e.val = spot x ∧ V.length < W.length ∧ (x.1 ≠ g → Going es c (seen.push e.born) W g (V ++ [k])) ∧
      (x.1 = g → Going (delEs es (pairsW (leftOf W g V)) k) c (seen.push e.born) W g (V ++ [k])) := by
  unfold unseen at he
  rw [Array.mem_filter] at he
  obtain ⟨hes, hns⟩ := he
  have hel : e ∈ es.toList := by simpa using hes
  obtain ⟨k, x, hkx, hkey, hval⟩ := entry_mem G.reads hel
  have hkW : (k, x) ∈ W := by unfold leftOf at hkx; exact (List.mem_filter.1 hkx).1
  have hkV : k ∉ V := fun h => by
    have := (G.seen e hel k hkey).2 h
    rw [this] at hns; cases hns
  have hLk := leftOf_keys g V hW
  have hnd : (V ++ [k]).Nodup := by
    rw [List.nodup_append]
    exact ⟨G.nodup, by simp, fun a ha b hb e => hkV (by simp at hb; rw [← hb, ← e]; exact ha)⟩
  have hsub : ∀ a ∈ V ++ [k], a ∈ W.map (·.1) := fun a ha => by
    rcases List.mem_append.1 ha with ha | ha
    · exact G.sub a ha
    · simp at ha; subst ha; exact List.mem_map.2 ⟨_, hkW, rfl⟩
  have hlen := nodup_len hnd hW hsub
  simp only [List.length_append, List.length_singleton, List.length_map] at hlen
  have hpush : ∀ e' ∈ es.toList, e' ≠ e → ((seen.push e.born).contains e'.born = true ↔ seen.contains e'.born = true) := fun e' he' hne => by
    have hb : e'.born ≠ e.born := fun h => hne (born_inj G.reads he' hel h)
    simp [hb]
  refine ⟨k, x, hes, hkey, hval, by omega, fun hx => ⟨?_, ?_, hnd, hsub⟩, fun hx => ⟨?_, ?_, hnd, hsub⟩⟩
  · rw [left_same hW hkW hx]; exact G.reads
  · intro e' he' k' hk'
    by_cases h : e' = e
    · subst h
      rw [hkey] at hk'
      simp only [Value.int.injEq, true_and] at hk'
      simp [hk']
    · have hne : k' ≠ k := fun h2 => h (entry_inj hLk G.reads he' hel (by rw [hk', hkey, h2]))
      rw [hpush e' he' h, G.seen e' he' k' hk']
      simp [hne]
  · rw [left_del hW hkx hx, ← pairsW_del]; exact G.reads.del k
  · intro e' he' k' hk'
    have hdel := G.reads.del k
    rw [pairsW_del] at hdel
    obtain ⟨k2, x2, h2, hk2, _⟩ := entry_mem hdel he'
    rw [hk'] at hk2
    have hkk : k' = k2 := by simpa using hk2
    subst hkk
    have hne : k' ≠ k := ((mem_adel k hLk _).1 h2).1
    have hin : e' ∈ es.toList := mem_delEs he'
    have hne2 : e' ≠ e := fun h => hne (by rw [h, hkey] at hk'; simpa using hk'.symm)
    rw [hpush e' hin hne2, G.seen e' hin k' hk']
    simp [hne]
theorem going_end {es : Array MapEntry} {c : Nat} {seen : Array Nat} {W : Wh} {g : Int} {V : List Int} (G : Going es c seen W g V) (h : unseen es seen = #[]) : leftOf W g V = W.filter fun x => decide (x.2.1 ≠ g) := by
  have hall : ∀ x ∈ leftOf W g V, x.1 ∈ V := fun x hx => by
    have hkeys := congrArg (fun l => l.map Prod.fst) G.reads.eq
    have hm : Value.int .i64 x.1 ∈ (es.toList.map fun e => (e.key, e.val)).map Prod.fst := by
      rw [G.reads.eq, pairsW]
      simp only [List.map_map, List.mem_map, Function.comp]
      exact ⟨x, hx, rfl⟩
    rw [List.map_map, List.mem_map] at hm
    obtain ⟨e, he, hk⟩ := hm
    refine (G.seen e he x.1 hk).1 ?_
    by_cases hc : seen.contains e.born = true
    · exact hc
    · have : e ∈ unseen es seen := by
        unfold unseen
        rw [Array.mem_filter]
        exact ⟨by simpa using he, by simpa using hc⟩
      rw [h] at this
      simp at this
  unfold leftOf at hall ⊢
  refine List.filter_congr fun x hx => ?_
  by_cases e : x.2.1 = g
  · by_cases hV : x.1 ∈ V
    · simp [e, hV]
    · exact absurd (hall x (List.mem_filter.2 ⟨hx, by simp [hV]⟩)) hV
  · simp [e]
end Go.Proofs.Ytechbidbhoookaa.Use
