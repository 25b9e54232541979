/- The atoms in another order. -/
import Derived.Test.YtechbidbhoookaaSl
namespace Go.Proofs.Ytechbidbhoookaa.Sl
open Go Go.RowKit
def ordL (is : List Nat) (L : List HProp) : List HProp := is.map (fun i => L.getD i emp) ++ L.drop is.length
theorem ordL_perm {is : List Nat} {L : List HProp} (h1 : (L.take is.length).length = is.length) (h2 : is.isPerm (List.range is.length) = true) : L.Perm (ordL is L) := by
  have hl : is.length ≤ L.length := by rw [List.length_take] at h1; omega
  have hp : is.Perm (List.range is.length) := List.isPerm_iff.1 h2
  unfold ordL
  have e : (List.range is.length).map (fun i => L.getD i emp) = L.take is.length := by
    apply List.ext_getElem
    · simp; omega
    · intro i h h'
      have hi : i < is.length := by simpa using h
      simp [List.getD_eq_getElem?_getD, List.getElem?_eq_getElem (show i < L.length by omega)]
  refine List.Perm.trans (List.Perm.of_eq (List.take_append_drop is.length L).symm) ?_
  rw [← e]
  exact (hp.map _).symm.append_right _
/-- The atoms in another order: is says which comes first, and so on. -/
def Wd.ord {E : World} {L : List HProp} (x : Wd E L) (is : List Nat) (h1 : (L.take is.length).length = is.length := by rfl) (h2 : is.isPerm (List.range is.length) = true := by rfl) : Wd E (ordL is L) :=
  x.perm _ (ordL_perm h1 h2)
end Go.Proofs.Ytechbidbhoookaa.Sl
