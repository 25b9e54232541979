/- delete of a key, in the separation layer. -/
import Derived.Test.YtechbidbhoookaaMaps
namespace Go.Proofs.Ytechbidbhoookaa.Sl
open Go Go.RowKit
section
variable {P : Program} {K V T : TypeId} {κ : Type} [DecidableEq κ] {enc : κ → Value} {w : World} {b : Nat} {es : Array MapEntry} {clock : Nat} {A : List (κ × Value)}
/-- The entries behind a delete. -/
def delEs (es : Array MapEntry) (A : List (κ × Value)) (k : κ) : Array MapEntry := match aidx A k with
  | some i => es.eraseIdxIfInBounds i
  | none => es
theorem Reads.del (hR : Reads enc es clock A) (k : κ) : Reads enc (delEs es A k) clock (adel A k) := by
  unfold delEs adel
  cases h : aidx A k with
  | none => exact hR
  | some i =>
    have hlen : es.toList.length = A.length := by have := congrArg List.length hR.eq; simpa using this
    have hi : i < A.length := by
      unfold aidx at h
      rw [List.findIdx?_eq_some_iff_getElem] at h
      exact h.1
    have hm : (es.eraseIdxIfInBounds i).toList = es.toList.eraseIdx i := by simp [Array.eraseIdxIfInBounds]; split <;> simp_all
    dsimp only
    refine ⟨?_, ?_, ?_⟩
    · rw [hm]
      simp only [List.eraseIdx_eq_take_drop_succ, List.map_append, List.map_take, List.map_drop, hR.eq]
    · intro e he
      rw [hm] at he
      exact hR.born e (List.mem_of_mem_eraseIdx he)
    · rw [hm]
      exact hR.one.sublist ((List.eraseIdx_sublist _ _).map _)
theorem run_delete_is (ty : TypeId) (Y : KeyLaw P K enc) (hT : P.underlying T = some (.map K V)) (hb : w.heap[b]? = some (.map es clock)) (hR : Reads enc es clock A) (k : κ) :
    (Builtin.delete_ #[T, K] ty #[.map (some b), enc k]).run P w = .ok (.tuple #[]) (putObj w b (.map (delEs es A k) clock)) := by
  unfold Builtin.delete_ delEs
  simp only [Sem.run_bind, List.getElem?_toArray, List.getElem?_cons_zero, List.getElem?_cons_succ, run_underlying hT, Result.andThen_ok, run_getMap hb, Y.check, Y.find k es.toList A w hR.eq]
  cases h : aidx A k with
  | none => simp [setObj, Sem.run, hb, putObj]
  | some i => simp [setObj, Sem.run, hb, putObj]
end
section
variable {E : World} {L : List HProp} {P : Program} {ops : Array Oper} {rest : List Oper} {o : Oper} {a : Act} {Q : Exit → Act → World → Prop} {K V T : TypeId} {κ : Type} [DecidableEq κ] {enc : κ → Value}
theorem wd_delete {m : Nat} {es : Array MapEntry} {c : Nat} {A : List (κ × Value)} (x : Wd E (pt m (.map es c) :: L)) (hgd : o.guard = none) (hdst : o.dst = none) (mo ko : Operand) (ho : o.op = .call { callee := .builtin .delete, args := #[mo, ko], argTypes := #[T, K] })
    (Y : KeyLaw P K enc) (hT : P.underlying T = some (.map K V)) (hR : Reads enc es c A) (k : κ) (hm : a.eval mo = .map (some m)) (hk : a.eval ko = enc k)
    (h : ∀ y : Wd E (pt m (.map (delEs es A k) c) :: L), wpList P ops Q rest a y.val) : wpList P ops Q (o :: rest) a x.val := by
  have hr := run_delete_is (P := P) o.type Y hT (Wd.heap0 x) hR k
  exact wpList_plain hgd fun _ hK => by
    unfold Oper.wp execOp
    simp only [ho, resolve, invoke, builtin, Sem.run_bind, Sem.run_pure, Result.andThen_ok, List.map_toArray, List.map_cons, List.map_nil, hm, hk]
    rw [hr]
    refine hK _ _ ?_
    rw [hdst]
    exact h (x.put0 _)
end
end Go.Proofs.Ytechbidbhoookaa.Sl
