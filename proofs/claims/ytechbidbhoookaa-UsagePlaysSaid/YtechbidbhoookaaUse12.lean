/- Package usage, layer 14: Open, plain. -/
import Derived.Test.YtechbidbhoookaaUse11
import Derived.Test.YtechbidbhoookaaRep
set_option linter.unusedVariables false
set_option linter.unusedSectionVars false
namespace Go.Proofs.Ytechbidbhoookaa.Use
open Go Go.RowKit Go.Proofs.Ytechbidbhoookaa.Sl

def openCode (T : Tb) (g n : Int) : Int := if g < 0 ∨ n < 1 ∨ 4096 < n then 1 else if (aget T g).isSome then 9 else 0
def openNext (T : Tb) (g n : Int) : Tb := if openCode T g n = 0 then T ++ [(g, List.replicate n.toNat (-1))] else T
theorem open_good {T : Tb} (hT : Good T) {g n : Int} (hg : g ≤ 9223372036854775807) (h : openCode T g n = 0) : Good (T ++ [(g, List.replicate n.toNat (-1))]) := by
  unfold openCode at h
  have h1 : ¬ (g < 0 ∨ n < 1 ∨ 4096 < n) := fun e => by rw [if_pos e] at h; cases h
  rw [if_neg h1] at h
  have h2 : aget T g = none := by
    cases e : aget T g with
    | none => rfl
    | some l => rw [e] at h; cases h
  refine ⟨?_, fun x hx => ?_, fun x hx => ?_, fun x hx b hb => ?_, by rw [live_snoc]; exact hT.uniq⟩
  · rw [← aput_new _ h2]; exact aput_nodup _ _ hT.keys
  · rcases List.mem_append.1 hx with hx | hx
    · exact hT.ids x hx
    · simp at hx; subst hx; exact ⟨by simp only; omega, hg⟩
  · rcases List.mem_append.1 hx with hx | hx
    · exact hT.lens x hx
    · simp at hx; subst hx; simp; omega
  · rcases List.mem_append.1 hx with hx | hx
    · exact hT.vals x hx b hb
    · simp at hx; subst hx
      have := List.eq_of_mem_replicate hb
      omega
section
variable {E : World} {L : List HProp} {T : Tb} (hT : Good T) (p : Nat)
include hT
set_option maxRecDepth 100000 in
set_option maxHeartbeats 2000000 in
theorem open_refused (g n : Int) (h : openCode T g n ≠ 0) (x : Wd E (At p T :: L)) :
    Calls Try.prog 11 #[ptr p, .int .i64 g, .int .i64 n] x.val fun e w' => e = .returned (.int .i64 (openCode T g n)) ∧ ∃ y : Wd E (At p T :: L), w' = y.val := by
  by_cases hbad : g < 0 ∨ n < 1 ∨ 4096 < n
  · have e0 : openCode T g n = 1 := by unfold openCode; rw [if_pos hbad]
    rw [e0]
    clear h e0 hT
    by_cases h1 : g < 0
    · clear hbad
      go_enter Try.func11, Try.ntmps11
      go_wp2_with fail
      go_ret
      exact ⟨rfl, x, rfl⟩
    · by_cases h2 : n < 1
      · clear hbad
        go_enter Try.func11, Try.ntmps11
        go_wp2_with fail
        go_ret
        exact ⟨rfl, x, rfl⟩
      · have h3 : 4096 < n := by omega
        clear hbad
        go_enter Try.func11, Try.ntmps11
        go_wp2_with fail
        go_ret
        exact ⟨rfl, x, rfl⟩
  · obtain ⟨S, hG, hF, y, hy⟩ := At.op x
    rw [hy]
    have HC := Lib.hid (fun (y : Opn E S p L) => At.cl hG hF y)
    have e0 : openCode T g n = if (aget T g).isSome then 9 else 0 := by unfold openCode; rw [if_neg hbad]
    cases ha : aget T g with
    | none => rw [e0, ha] at h; exact absurd rfl h
    | some l =>
      rw [ha] at e0
      rw [show openCode T g n = 9 from e0]
      obtain ⟨R1, r, R2, hR, hid, hl, hok, h1, hlook⟩ := hG.some ha
      unfold LookG at hlook
      have b1 : ¬ g < 0 := fun h => hbad (.inl h)
      have b2 : ¬ n < 1 := fun h => hbad (.inr (.inl h))
      have b3 : ¬ 4096 < n := fun h => hbad (.inr (.inr h))
      clear h e0 hT hbad hG hF hy ha hR hid hl hok h1
      go_enter Try.func11, Try.ntmps11
      go_wp2_with fail
      go_ret
      exact ⟨rfl, HC.out y⟩
end
end Go.Proofs.Ytechbidbhoookaa.Use
