/- A store into a map, as a law of the walk. -/
import Derived.Test.YtechbidbhoookaaMaps
namespace Go.Proofs.Ytechbidbhoookaa.Sl
open Go Go.RowKit
section
variable {E : World} {L : List HProp} {P : Program} {ops : Array Oper} {rest : List Oper} {o : Oper} {a : Act} {Q : Exit → Act → World → Prop}
theorem wd_mapUpdate {m : Nat} {es es' : Array MapEntry} {c c' : Nat} (x : Wd E (pt m (.map es c) :: L)) (hgd : o.guard = none) (hdst : o.dst = none) (T : TypeId) (mo ko vo : Operand) (ho : o.op = .mapUpdate T mo ko vo) (kv vv : Value)
    (hm : a.eval mo = .map (some m)) (hk : a.eval ko = kv) (hv : a.eval vo = vv)
    (hrun : ∀ w : World, w.heap[m]? = some (.map es c) → (Instr.mapUpdate T (.map (some m)) kv vv).run P w = .ok () (putObj w m (.map es' c')))
    (h : ∀ y : Wd E (pt m (.map es' c') :: L), wpList P ops Q rest a y.val) : wpList P ops Q (o :: rest) a x.val := by
  have hr := hrun x.val (Wd.heap0 x)
  exact wpList_plain hgd fun _ hK => by
    unfold Oper.wp execOp
    simp only [ho, hm, hk, hv, Sem.run_bind, hr, Result.andThen_ok, Sem.run_pure]
    refine hK _ _ ?_
    rw [hdst]
    exact h (x.put0 _)
theorem wd_makeMap (x : Wd E L) (hgd : o.guard = none) (T : TypeId) (ho : o.op = .makeMap T none)
    (h : ∀ m, ∀ y : Wd E (pt m (.map #[] 0) :: L), wpList P ops Q rest (a.put o.dst (.map (some m))) y.val) : wpList P ops Q (o :: rest) a x.val :=
  wpList_plain hgd fun _ hK => by
    have hr : ∀ w : World, (Instr.makeMap T none).run P w = .ok (.map (some w.heap.size)) (w.alloc (.map #[] 0)) := fun w => rfl
    unfold Oper.wp execOp
    simp only [ho, Option.map_none, Sem.run_bind, hr, Result.andThen_ok, Sem.run_pure]
    exact hK _ _ (h _ (x.new _))
end
end Go.Proofs.Ytechbidbhoookaa.Sl
