/- Package usage, layer 14: Put, Clear. -/
import Derived.Test.YtechbidbhoookaaUse2
set_option linter.unusedVariables false
namespace Go.Proofs.Ytechbidbhoookaa.Use
open Go Go.RowKit Go.Proofs.Ytechbidbhoookaa.Sl

/-! ### Plain -/
def putCode (T : Tb) (g s b : Int) : Int := if inCode T g s ≠ 0 then inCode T g s else if b < 0 then 1 else if (blockOf T g s).isSome then 9 else 0
/-- The block taken out of where it is. -/
def without (T : Tb) (b : Int) : Tb := match findOf T b with
  | none => T
  | some x => setSlot T x.1 x.2.toNat (-1)
def putNext (T : Tb) (g s b : Int) : Tb := if putCode T g s b = 0 then setSlot (without T b) g s.toNat b else T
def clearCode (T : Tb) (g s : Int) : Int := if inCode T g s ≠ 0 then inCode T g s else if (blockOf T g s).isSome then 0 else 9
def clearNext (T : Tb) (g s : Int) : Tb := if clearCode T g s = 0 then setSlot T g s.toNat (-1) else T
theorem in_zero {T : Tb} {g s : Int} (h : inCode T g s = 0) : ∃ l, aget T g = some l ∧ ∃ j : Nat, s = (j : Int) ∧ j < l.length := by
  unfold inCode at h
  cases ha : aget T g with
  | none => rw [ha] at h; cases h
  | some l =>
    rw [ha] at h
    dsimp only at h
    split at h
    · cases h
    · exact ⟨l, rfl, s.toNat, by omega, by omega⟩
theorem block_at {T : Tb} {g : Int} {l : List Int} {j : Nat} (ha : aget T g = some l) (hj : j < l.length) : blockOf T g (j : Int) = if l.getD j 0 = -1 then none else some (l.getD j 0) := by
  unfold blockOf
  rw [ha]
  dsimp only
  rw [if_neg (by omega), Int.toNat_natCast]
theorem find_iff {T : Tb} (hT : Good T) {b : Int} {x : Int × Int} : findOf T b = some x ↔ (x.1, x.2, b) ∈ live T := by
  unfold findOf
  rw [aget_iff (by rw [whereOf_keys]; exact hT.uniq)]
  obtain ⟨g, s⟩ := x
  exact mem_whereOf
theorem find_none {T : Tb} {b : Int} (h : findOf T b = none) : ∀ x ∈ live T, x.2.2 ≠ b := by
  unfold findOf at h
  rw [aget_none_iff] at h
  intro x hx e
  exact h (x.2.2, x.1, x.2.1) (mem_whereOf.2 hx) e
theorem find_slot {T : Tb} (hT : Good T) {b : Int} {x : Int × Int} (h : findOf T b = some x) : 0 ≤ b ∧ ∃ l, aget T x.1 = some l ∧ ∃ j : Nat, x.2 = (j : Int) ∧ j < l.length ∧ l.getD j 0 = b := by
  obtain ⟨l, hl, h0, j, hj, hv⟩ := mem_live.1 ((find_iff hT).1 h)
  have hjl : j < l.length := by
    by_cases h : j < l.length
    · exact h
    · rw [List.getElem?_eq_none (by omega)] at hv; cases hv
  exact ⟨h0, l, (aget_iff hT.keys _ _).2 hl, j, hj, hjl, by rw [List.getD_eq_getElem?_getD, hv]; rfl⟩
theorem setSlot_good {T : Tb} (hT : Good T) {g : Int} {l : List Int} (hl : aget T g = some l) {s : Nat} (hs : s < l.length) {v : Int} (hv : -1 ≤ v ∧ v ≤ 9223372036854775807)
    (hfree : ∀ x ∈ live T, x.2.2 = v → x.1 = g ∧ x.2.1 = (s : Int)) : Good (setSlot T g s v) := by
  have hp := live_set hT.keys hl hs v
  have e : setSlot T g s v = aput T g (l.set s v) := by unfold setSlot; rw [hl]
  have hm := aget_mem' hl
  refine ⟨by rw [e]; exact aput_nodup _ _ hT.keys, fun x hx => ?_, fun x hx => ?_, fun x hx b hb => ?_, ?_⟩
  · rw [e, mem_aput _ _ hT.keys] at hx
    rcases hx with rfl | ⟨_, hx⟩
    · have h9 := hT.ids _ hm; exact h9
    · exact hT.ids _ hx
  · rw [e, mem_aput _ _ hT.keys] at hx
    rcases hx with rfl | ⟨_, hx⟩
    · simpa using hT.lens _ hm
    · exact hT.lens _ hx
  · rw [e, mem_aput _ _ hT.keys] at hx
    rcases hx with rfl | ⟨_, hx⟩
    · rcases List.mem_or_eq_of_mem_set hb with hb | rfl
      · exact hT.vals _ hm _ hb
      · exact hv
    · exact hT.vals _ hx _ hb
  · rw [(hp.map _).nodup_iff, List.map_append, List.nodup_append]
    refine ⟨hT.uniq.sublist (List.filter_sublist.map _), by split <;> simp, fun a ha b hb e => ?_⟩
    subst e
    obtain ⟨x, hx, rfl⟩ := List.mem_map.1 ha
    rw [List.mem_filter] at hx
    obtain ⟨hx, hne⟩ := hx
    simp only [decide_eq_true_eq] at hne
    split at hb
    · simp only [List.map_cons, List.map_nil, List.mem_singleton] at hb
      exact hne (hfree x hx hb)
    · simp at hb
theorem without_good {T : Tb} (hT : Good T) (b : Int) : Good (without T b) := by
  unfold without
  cases h : findOf T b with
  | none => exact hT
  | some x =>
    obtain ⟨_, l, hl, j, hj, hjl, _⟩ := find_slot hT h
    dsimp only
    rw [hj, Int.toNat_natCast]
    refine setSlot_good hT hl hjl (by omega) fun y hy e => ?_
    obtain ⟨_, _, h0, _⟩ := mem_live.1 hy
    omega
theorem without_live {T : Tb} (hT : Good T) (b : Int) : (live (without T b)).Perm ((live T).filter fun x => decide (x.2.2 ≠ b)) := by
  unfold without
  cases h : findOf T b with
  | none =>
    dsimp only
    have : (live T).filter (fun x => decide (x.2.2 ≠ b)) = live T := by
      rw [List.filter_eq_self]
      intro x hx
      simpa using find_none h x hx
    rw [this]
  | some x =>
    obtain ⟨_, l, hl, j, hj, hjl, _⟩ := find_slot hT h
    dsimp only
    rw [hj, Int.toNat_natCast]
    refine (live_set hT.keys hl hjl (-1)).trans ?_
    rw [if_neg (by decide), List.append_nil]
    refine List.Perm.of_eq (List.filter_congr fun y hy => ?_)
    congr 1
    have hx := (find_iff hT).1 h
    rw [eq_iff_iff]
    constructor
    · intro hn e
      have h2 : findOf T b = some (y.1, y.2.1) := (find_iff hT).2 (by rw [← e]; exact hy)
      rw [h] at h2
      have h3 := Option.some.inj h2
      exact hn ⟨by rw [h3], by rw [← hj, h3]⟩
    · rintro hne ⟨h1, h2⟩
      refine hne ?_
      obtain ⟨l1, hl1, _, j1, hj1, hv1⟩ := mem_live.1 hy
      obtain ⟨l2, hl2, _, j2, hj2, hv2⟩ := mem_live.1 hx
      simp only at hl2 hj2 hv2
      have e1 := (aget_iff hT.keys _ _).2 hl1
      have e2 := (aget_iff hT.keys _ _).2 hl2
      rw [h1, e2] at e1
      have e3 := Option.some.inj e1
      subst e3
      have e4 : j1 = j2 := by omega
      subst e4
      rw [hv2] at hv1
      exact (Option.some.inj hv1).symm
theorem aget_set {T : Tb} (hT : Good T) {g : Int} {l : List Int} (hl : aget T g = some l) (s : Nat) (v : Int) (e : Int) : aget (setSlot T g s v) e = if e = g then some (l.set s v) else aget T e := by
  have : setSlot T g s v = aput T g (l.set s v) := by unfold setSlot; rw [hl]
  rw [this, aget_aput _ _ _ hT.keys]
theorem without_get {T : Tb} (hT : Good T) (b : Int) {g : Int} {l : List Int} (hl : aget T g = some l) : ∃ l1, aget (without T b) g = some l1 ∧ l1.length = l.length ∧ ∀ j, l.getD j 0 = -1 → l1.getD j 0 = -1 := by
  unfold without
  cases h : findOf T b with
  | none => exact ⟨l, hl, rfl, fun j hj => hj⟩
  | some x =>
    obtain ⟨_, l', hl', j', hj', hjl', _⟩ := find_slot hT h
    dsimp only
    rw [aget_set hT hl']
    by_cases e : g = x.1
    · subst e
      rw [hl] at hl'
      have := Option.some.inj hl'
      subst this
      refine ⟨_, if_pos rfl, by simp, fun j hj => ?_⟩
      rw [List.getD_eq_getElem?_getD] at hj ⊢
      rw [List.getElem?_set]
      by_cases e : x.2.toNat = j
      · rw [if_pos e]; split <;> rename_i h
        · rfl
        · exfalso; omega
      · rw [if_neg e]; exact hj
    · exact ⟨l, by rw [if_neg e]; exact hl, rfl, fun j hj => hj⟩
/-- What Put leaves, where it is taken. -/
theorem put_good {T : Tb} (hT : Good T) {g s b : Int} (hb : b ≤ 9223372036854775807) (h : putCode T g s b = 0) :
    Good (setSlot (without T b) g s.toNat b) ∧ (live (setSlot (without T b) g s.toNat b)).Perm ((live T).filter (fun x => decide (x.2.2 ≠ b)) ++ [(g, s, b)]) := by
  unfold putCode at h
  have hin : inCode T g s = 0 := by
    by_cases e : inCode T g s = 0
    · exact e
    · rw [if_pos e] at h; exact absurd h e
  rw [if_neg (by simpa using hin)] at h
  have h0 : ¬ b < 0 := fun e => by rw [if_pos e] at h; cases h
  rw [if_neg h0] at h
  obtain ⟨l, hl, j, rfl, hj⟩ := in_zero hin
  have hdead : l.getD j 0 = -1 := by
    rw [block_at hl hj] at h
    by_cases e : l.getD j 0 = -1
    · exact e
    · rw [if_neg e] at h; cases h
  have hT1 := without_good hT b
  have hp1 := without_live hT b
  obtain ⟨l1, hl1, hlen, hd1⟩ := without_get hT b hl
  have hj1 : j < l1.length := by omega
  rw [Int.toNat_natCast]
  refine ⟨setSlot_good hT1 hl1 hj1 ⟨by omega, hb⟩ fun x hx e => ?_, (live_set hT1.keys hl1 hj1 b).trans ?_⟩
  · have := hp1.mem_iff.1 hx
    rw [List.mem_filter] at this
    simp [e] at this
  · rw [if_pos (by omega)]
    refine List.Perm.append_right _ ?_
    have : (live (without T b)).filter (fun x => decide ¬(x.1 = g ∧ x.2.1 = (j : Int))) = live (without T b) := by
      rw [List.filter_eq_self]
      intro x hx
      simp only [decide_eq_true_eq]
      rintro ⟨e1, e2⟩
      obtain ⟨l2, hl2, h02, j2, hj2, hv2⟩ := mem_live.1 hx
      have e3 := (aget_iff hT1.keys _ _).2 hl2
      rw [e1, hl1] at e3
      have e4 := Option.some.inj e3
      subst e4
      have e5 : j2 = j := by omega
      subst e5
      have := hd1 j2 hdead
      rw [List.getD_eq_getElem?_getD, hv2] at this
      simp at this
      omega
    rw [this]
    exact hp1
theorem clear_good {T : Tb} (hT : Good T) {g s : Int} (h : clearCode T g s = 0) :
    Good (setSlot T g s.toNat (-1)) ∧ (live (setSlot T g s.toNat (-1))).Perm ((live T).filter (fun x => decide ¬ (x.1 = g ∧ x.2.1 = s))) := by
  unfold clearCode at h
  have hin : inCode T g s = 0 := by
    by_cases e : inCode T g s = 0
    · exact e
    · rw [if_pos e] at h; exact absurd h e
  obtain ⟨l, hl, j, rfl, hj⟩ := in_zero hin
  rw [Int.toNat_natCast]
  refine ⟨setSlot_good hT hl hj (by omega) fun x hx e => ?_, (live_set hT.keys hl hj (-1)).trans ?_⟩
  · obtain ⟨_, _, h0, _⟩ := mem_live.1 hx
    omega
  · rw [if_neg (by decide), List.append_nil]
end Go.Proofs.Ytechbidbhoookaa.Use
