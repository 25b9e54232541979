/- Package usage, layer 14: the table as plain data. -/
import Derived.Test.YtechbidbhoookaaAssoc
namespace Go.Proofs.Ytechbidbhoookaa.Use
open Go.Proofs.Ytechbidbhoookaa.Sl

/-- The groups: of each slot the block, or -1. -/
abbrev Tb := List (Int × List Int)
abbrev Lv := List (Int × Int × Int)
def livesFrom (g : Int) : List Int → Nat → Lv
  | [], _ => []
  | b :: l, i => if 0 ≤ b then (g, (i : Int), b) :: livesFrom g l (i + 1) else livesFrom g l (i + 1)
/-- All live slots: group, slot, block. -/
def live (T : Tb) : Lv := T.flatMap fun x => livesFrom x.1 x.2 0
theorem mem_livesFrom {g : Int} {l : List Int} {i : Nat} {x : Int × Int × Int} : x ∈ livesFrom g l i ↔ x.1 = g ∧ 0 ≤ x.2.2 ∧ ∃ j : Nat, x.2.1 = ((i + j : Nat) : Int) ∧ l[j]? = some x.2.2 := by
  induction l generalizing i with
  | nil => simp [livesFrom]
  | cons b l ih =>
    have key : (∃ j : Nat, x.2.1 = ((i + j : Nat) : Int) ∧ (b :: l)[j]? = some x.2.2) ↔ (x.2.1 = (i : Int) ∧ b = x.2.2) ∨ ∃ j : Nat, x.2.1 = ((i + 1 + j : Nat) : Int) ∧ l[j]? = some x.2.2 := by
      constructor
      · rintro ⟨j, h1, h2⟩
        cases j with
        | zero => left; exact ⟨by simpa using h1, by simpa using h2⟩
        | succ j => right; exact ⟨j, by rw [h1]; omega, by simpa using h2⟩
      · rintro (⟨h1, h2⟩ | ⟨j, h1, h2⟩)
        · exact ⟨0, by simpa using h1, by simpa using h2⟩
        · exact ⟨j + 1, by rw [h1]; omega, by simpa using h2⟩
    rw [key]
    unfold livesFrom
    by_cases hb : 0 ≤ b
    · rw [if_pos hb, List.mem_cons, ih]
      constructor
      · rintro (rfl | ⟨h1, h2, h3⟩)
        · exact ⟨rfl, hb, .inl ⟨rfl, rfl⟩⟩
        · exact ⟨h1, h2, .inr h3⟩
      · rintro ⟨h1, h2, ⟨h3, h4⟩ | h3⟩
        · left
          obtain ⟨a, s, c⟩ := x
          simp only at h1 h3 h4
          rw [h1, h3, h4]
        · right; exact ⟨h1, h2, h3⟩
    · rw [if_neg hb, ih]
      constructor
      · rintro ⟨h1, h2, h3⟩
        exact ⟨h1, h2, .inr h3⟩
      · rintro ⟨h1, h2, ⟨h3, h4⟩ | h3⟩
        · exact absurd h2 (by rw [← h4]; exact hb)
        · exact ⟨h1, h2, h3⟩
theorem mem_live {T : Tb} {x : Int × Int × Int} : x ∈ live T ↔ ∃ l, (x.1, l) ∈ T ∧ 0 ≤ x.2.2 ∧ ∃ j : Nat, x.2.1 = (j : Int) ∧ l[j]? = some x.2.2 := by
  unfold live
  rw [List.mem_flatMap]
  constructor
  · rintro ⟨y, hy, hx⟩
    rw [mem_livesFrom] at hx
    obtain ⟨h1, h2, j, h3, h4⟩ := hx
    exact ⟨y.2, by rw [h1]; exact hy, h2, j, by simpa using h3, h4⟩
  · rintro ⟨l, hl, h2, j, h3, h4⟩
    exact ⟨_, hl, mem_livesFrom.2 ⟨rfl, h2, j, by simpa using h3, h4⟩⟩
theorem livesFrom_nodup (g : Int) (l : List Int) (i : Nat) : (livesFrom g l i).Nodup := by
  induction l generalizing i with
  | nil => simp [livesFrom]
  | cons b l ih =>
    unfold livesFrom
    split
    · rw [List.nodup_cons]
      refine ⟨fun h => ?_, ih _⟩
      rw [mem_livesFrom] at h
      obtain ⟨_, _, j, h1, _⟩ := h
      simp only at h1
      omega
    · exact ih _
theorem live_nodup {T : Tb} (hk : (T.map (·.1)).Nodup) : (live T).Nodup := by
  induction T with
  | nil => simp [live]
  | cons x T ih =>
    rw [List.map_cons, List.nodup_cons] at hk
    unfold live
    rw [List.flatMap_cons, List.nodup_append]
    refine ⟨livesFrom_nodup _ _ _, ih hk.2, fun a ha b hb e => ?_⟩
    rw [mem_livesFrom] at ha
    obtain ⟨l, hl, _⟩ := mem_live.1 hb
    exact hk.1 (List.mem_map.2 ⟨_, hl, by rw [← e]; exact ha.1⟩)
theorem livesFrom_len (g : Int) (l : List Int) (i : Nat) : (livesFrom g l i).length ≤ l.length := by
  induction l generalizing i with
  | nil => simp [livesFrom]
  | cons b l ih =>
    unfold livesFrom
    have := ih (i + 1)
    split <;> simp <;> omega
theorem live_len {T : Tb} (h : ∀ x ∈ T, x.2.length ≤ 4096) : (live T).length ≤ T.length * 4096 := by
  induction T with
  | nil => simp [live]
  | cons x T ih =>
    have h1 := ih (fun y hy => h y (by simp [hy]))
    have h2 := livesFrom_len x.1 x.2 0
    have h3 := h x (by simp)
    unfold live at h1 ⊢
    rw [List.flatMap_cons, List.length_append, List.length_cons]
    omega
theorem live_perm {T U : Tb} (h : T.Perm U) (hk : (T.map (·.1)).Nodup) : (live T).Perm (live U) := by
  rw [List.perm_ext_iff_of_nodup (live_nodup hk) (live_nodup ((h.map (·.1)).nodup_iff.1 hk))]
  intro x
  rw [mem_live, mem_live]
  exact exists_congr fun l => and_congr h.mem_iff Iff.rfl
/-- A right table. -/
structure Good (T : Tb) : Prop where
  keys : (T.map (·.1)).Nodup
  ids : ∀ x ∈ T, 0 ≤ x.1 ∧ x.1 ≤ 9223372036854775807
  lens : ∀ x ∈ T, 1 ≤ x.2.length ∧ x.2.length ≤ 4096
  vals : ∀ x ∈ T, ∀ b ∈ x.2, -1 ≤ b ∧ b ≤ 9223372036854775807
  uniq : ((live T).map (·.2.2)).Nodup
/-- A slot is set. -/
def setSlot (T : Tb) (g : Int) (s : Nat) (v : Int) : Tb := match aget T g with
  | none => T
  | some l => aput T g (l.set s v)
theorem live_set {T : Tb} (hk : (T.map (·.1)).Nodup) {g : Int} {l : List Int} (hl : aget T g = some l) {s : Nat} (hs : s < l.length) (v : Int) :
    (live (setSlot T g s v)).Perm ((live T).filter (fun x => decide ¬ (x.1 = g ∧ x.2.1 = (s : Int))) ++ if 0 ≤ v then [(g, (s : Int), v)] else []) := by
  unfold setSlot
  rw [hl]
  dsimp only
  have hk' := aput_nodup g (l.set s v) hk
  have hlm := (aget_iff hk g l).1 hl
  have hone : ∀ l', (g, l') ∈ T → l' = l := fun l' h => by
    have := (aget_iff hk g l').2 h
    rw [hl] at this; exact (Option.some.inj this).symm
  rw [List.perm_ext_iff_of_nodup (live_nodup hk')]
  · intro x
    rw [mem_live, List.mem_append, List.mem_filter, mem_live]
    simp only [decide_eq_true_eq]
    constructor
    · rintro ⟨l', hl', h0, j, hj, hv⟩
      rcases (mem_aput g (l.set s v) hk _).1 hl' with e | ⟨hne, hm⟩
      · rw [Prod.mk.injEq] at e
        obtain ⟨e1, e2⟩ := e
        subst e2
        rw [List.getElem?_set] at hv
        by_cases hjs : s = j
        · subst hjs
          rw [if_pos rfl, if_pos hs] at hv
          right
          have hv' := Option.some.inj hv
          rw [if_pos (by rw [hv']; exact h0)]
          obtain ⟨a, b, c⟩ := x
          simp only at e1 hj hv'
          rw [e1, hj, hv']
          simp
        · rw [if_neg hjs] at hv
          left
          refine ⟨⟨l, by rw [e1]; exact hlm, h0, j, hj, hv⟩, fun h => hjs ?_⟩
          have := h.2
          omega
      · left
        exact ⟨⟨l', hm, h0, j, hj, hv⟩, fun h => hne h.1⟩
    · rintro (⟨⟨l', hl', h0, j, hj, hv⟩, hn⟩ | hx)
      · by_cases e : x.1 = g
        · rw [e] at hl'
          have := hone _ hl'
          subst this
          refine ⟨l'.set s v, (mem_aput g _ hk _).2 (.inl (by rw [e])), h0, j, hj, ?_⟩
          rw [List.getElem?_set, if_neg (fun h => hn ⟨e, by rw [hj, h]⟩)]
          exact hv
        · exact ⟨l', (mem_aput g _ hk _).2 (.inr ⟨e, hl'⟩), h0, j, hj, hv⟩
      · by_cases h0 : 0 ≤ v
        · rw [if_pos h0] at hx
          simp only [List.mem_singleton] at hx
          subst hx
          refine ⟨l.set s v, (mem_aput g _ hk _).2 (.inl rfl), h0, s, rfl, ?_⟩
          rw [List.getElem?_set, if_pos rfl, if_pos hs]
        · rw [if_neg h0] at hx; simp at hx
  · rw [List.nodup_append]
    refine ⟨(live_nodup hk).filter _, by split <;> simp, fun a ha b hb e => ?_⟩
    by_cases h0 : 0 ≤ v
    · rw [if_pos h0] at hb
      simp only [List.mem_singleton] at hb
      rw [List.mem_filter] at ha
      have := ha.2
      simp only [decide_eq_true_eq] at this
      exact this (by rw [e, hb]; exact ⟨rfl, rfl⟩)
    · rw [if_neg h0] at hb; simp at hb
theorem live_drop {T : Tb} (hk : (T.map (·.1)).Nodup) (g : Int) : live (adel T g) = (live T).filter fun x => decide (x.1 ≠ g) := by
  rw [adel_filter g hk]
  unfold live
  clear hk
  induction T with
  | nil => rfl
  | cons x T ih =>
    rw [List.flatMap_cons, List.filter_append, ← ih]
    by_cases e : x.1 = g
    · rw [List.filter_cons_of_neg (by simp [e])]
      have : (livesFrom x.1 x.2 0).filter (fun y => decide (y.1 ≠ g)) = [] := by
        rw [List.filter_eq_nil_iff]
        intro y hy
        rw [mem_livesFrom] at hy
        simp [hy.1, e]
      rw [this, List.nil_append]
    · rw [List.filter_cons_of_pos (by simp [e]), List.flatMap_cons]
      congr 1
      symm
      rw [List.filter_eq_self]
      intro y hy
      rw [mem_livesFrom] at hy
      simp [hy.1, e]
theorem live_snoc (T : Tb) (g : Int) (n : Nat) : live (T ++ [(g, List.replicate n (-1))]) = live T := by
  unfold live
  rw [List.flatMap_append]
  have : ∀ i, livesFrom g (List.replicate n (-1)) i = [] := by
    induction n with
    | zero => intro i; rfl
    | succ n ih => intro i; rw [List.replicate_succ]; unfold livesFrom; rw [if_neg (by decide)]; exact ih _
  simp [this]
end Go.Proofs.Ytechbidbhoookaa.Use
