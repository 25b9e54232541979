/- The law of layer 14: each step keeps what the two sides say of each other (plain). -/
import Derived.Test.YtechbidbhoookaaUp0
set_option linter.unusedVariables false
set_option linter.unusedSectionVars false
namespace Go.Proofs.Ytechbidbhoookaa.Up
open Go Go.RowKit Go.Proofs.Ytechbidbhoookaa.Sl
open Go.Proofs.Ytechbidbhoookaa.Use (Tb Lv live slotsN inCode blockOf findOf putCode clearCode openCode dropCode openNext dropNext clearNext setSlot without kept holeOf blocksOf empt emptStep cnt)
open Go.Proofs.Ytechbidbhoookaa.Rf (Gs slotsF blockF findF inF openCodeF openNextF offG dropCodeF putCodeF putNextF clearCodeF clearNextF withoutF goes blocksF blocksN holeF emptF emptS sortedG Fits)

theorem lensOf_set {T : Tb} (hk : (T.map (·.1)).Nodup) (g : Int) (s : Nat) (v : Int) : lensOf (setSlot T g s v) = lensOf T := by
  unfold setSlot
  cases h : aget T g with
  | none => rfl
  | some l =>
    dsimp only
    rw [aput_map _ hk h]
    unfold lensOf
    rw [List.map_map]
    refine List.map_congr_left fun x hx => ?_
    by_cases e : x.1 = g
    · have h2 := (aget_iff hk x.1 x.2).2 hx
      rw [e, h] at h2
      have h3 := Option.some.inj h2
      simp [e, ← h3]
    · simp [e]
theorem set_length {T : Tb} (hk : (T.map (·.1)).Nodup) (g : Int) (s : Nat) (v : Int) : (setSlot T g s v).length = T.length := by
  have := congrArg List.length (lensOf_set hk g s v)
  simpa [lensOf] using this
theorem lensOf_without {T : Tb} (hk : (T.map (·.1)).Nodup) (b : Int) : lensOf (without T b) = lensOf T := by
  unfold without
  cases findOf T b with
  | none => rfl
  | some x => exact lensOf_set hk _ _ _
section
variable {n : Nat} {T : Tb} {G : Gs} {l : Lv} (R : Rel n T G l)
include R
theorem Rel.opened (g m : Int) (hg : g ≤ 9223372036854775807) : Rel (n + 1) (openNext T g m) (openNextF G g m) l := by
  unfold openNext openNextF
  rw [R.openC]
  by_cases h : openCode T g m = 0
  · rw [if_pos h, if_pos h]
    have hg2 := Use.open_good R.good hg h
    have hm : 1 ≤ m := by
      unfold openCode at h
      by_cases h1 : g < 0 ∨ m < 1 ∨ 4096 < m
      · rw [if_pos h1] at h; cases h
      · omega
    refine ⟨hg2, ?_, by rw [Use.live_snoc]; exact R.lives, by rw [List.length_append]; have := R.len; simp; omega⟩
    have e : lensOf (T ++ [(g, List.replicate m.toNat (-1))]) = lensOf T ++ [(g, m)] := by
      unfold lensOf
      rw [List.map_append]
      simp
      omega
    rw [e]
    exact R.perm.append_right _
  · rw [if_neg h, if_neg h]; exact R.more (by omega)
theorem Rel.dropped (g : Int) : Rel (n + 1) (dropNext T g) (if dropCodeF G g = 0 then offG G g else G) (if dropCodeF G g = 0 then withoutF l g (-1) (-1) else l) := by
  unfold dropNext
  rw [R.dropC]
  by_cases h : dropCode T g = 0
  · rw [if_pos h, if_pos h, if_pos h]
    refine ⟨Use.drop_good R.good g, ?_, ?_, ?_⟩
    · rw [adel_filter g R.good.keys]
      unfold offG
      refine (R.perm.filter _).trans (List.Perm.of_eq ?_)
      unfold lensOf
      rw [List.filter_map]
      rfl
    · rw [Use.live_drop R.good.keys]
      have e : withoutF l g (-1) (-1) = l.filter fun x => decide (x.1 ≠ g) := by
        unfold withoutF
        refine List.filter_congr fun x _ => ?_
        congr 1
        unfold goes
        rw [eq_iff_iff]
        constructor
        · intro h e; exact h (.inl ⟨e, .inl (by decide)⟩)
        · rintro h (⟨e, _⟩ | ⟨e, _⟩)
          · exact h e
          · omega
      rw [e]
      exact R.lives.filter _
    · rw [adel_filter g R.good.keys]
      have := List.length_filter_le (fun x => decide (x.1 ≠ g)) T
      have := R.len
      omega
  · rw [if_neg h, if_neg h, if_neg h]; exact R.more (by omega)
theorem Rel.putted (g s b : Int) (hb : b ≤ 9223372036854775807) : Rel (n + 1) (if putCode T g s b = 0 then setSlot (without T b) g s.toNat b else T) G (putNextF G l g s b) := by
  unfold putNextF
  rw [R.putC]
  by_cases h : putCode T g s b = 0
  · rw [if_pos h, if_pos h]
    obtain ⟨h1, h2⟩ := Use.put_good R.good hb h
    have hwk := (Use.without_good R.good b).keys
    have h0 : 0 ≤ b := by
      unfold putCode at h
      by_cases hi : inCode T g s ≠ 0
      · rw [if_pos hi] at h; exact absurd h hi
      · rw [if_neg hi] at h
        by_cases hn : b < 0
        · rw [if_pos hn] at h; cases h
        · omega
    refine ⟨h1, ?_, ?_, ?_⟩
    · rw [lensOf_set hwk, lensOf_without R.good.keys]; exact R.perm
    · refine List.Perm.trans ?_ h2.symm
      refine List.Perm.append_right _ ?_
      have e : withoutF l (-1) (-1) b = l.filter fun x => decide (x.2.2 ≠ b) := by
        unfold withoutF
        refine List.filter_congr fun x hx => ?_
        congr 1
        unfold goes
        have hx0 := R.memL hx
        rw [eq_iff_iff]
        constructor
        · intro h e; exact h (.inr ⟨h0, e⟩)
        · rintro h (⟨e, _⟩ | ⟨_, e⟩)
          · omega
          · exact h e
      rw [e]
      exact R.lives.filter _
    · rw [set_length hwk]
      have := congrArg List.length (lensOf_without R.good.keys b)
      simp only [lensOf, List.length_map] at this
      rw [this]
      have := R.len; omega
  · rw [if_neg h, if_neg h]; exact R.more (by omega)
theorem Rel.cleared (g s : Int) : Rel (n + 1) (clearNext T g s) G (clearNextF G l g s) := by
  unfold clearNext clearNextF
  rw [R.clearC]
  by_cases h : clearCode T g s = 0
  · rw [if_pos h, if_pos h]
    obtain ⟨h1, h2⟩ := Use.clear_good R.good h
    have h0 : 0 ≤ s := by
      unfold clearCode at h
      by_cases hi : inCode T g s ≠ 0
      · rw [if_pos hi] at h; exact absurd h hi
      · obtain ⟨_, _, j, rfl, _⟩ := Use.in_zero (by simpa using hi)
        omega
    refine ⟨h1, ?_, ?_, ?_⟩
    · rw [lensOf_set R.good.keys]; exact R.perm
    · refine List.Perm.trans ?_ h2.symm
      have e : withoutF l g s (-1) = l.filter fun x => decide ¬ (x.1 = g ∧ x.2.1 = s) := by
        unfold withoutF
        refine List.filter_congr fun x hx => ?_
        congr 1
        unfold goes
        rw [eq_iff_iff]
        constructor
        · rintro h ⟨e1, e2⟩; exact h (.inl ⟨e1, .inr e2⟩)
        · rintro h (⟨e1, e2 | e2⟩ | ⟨e, _⟩)
          · omega
          · exact h ⟨e1, e2⟩
          · omega
      rw [e]
      exact R.lives.filter _
    · rw [set_length R.good.keys]; have := R.len; omega
  · rw [if_neg h, if_neg h]; exact R.more (by omega)
end
theorem rel_nil : Rel 0 [] [] [] := ⟨⟨by simp, by simp, by simp, by simp, by simp [live]⟩, List.Perm.refl _, List.Perm.refl _, by simp⟩
end Go.Proofs.Ytechbidbhoookaa.Up
