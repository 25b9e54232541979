/- Laws of the walk at the level of wpList: whole rows loaded and stored, a new variable of a large type. -/
import Derived.Test.YtechbidbhoookaaRegion
namespace Go.Proofs.Ytechbidbhoookaa.Sl
open Go Go.RowKit
section
variable {P : Program} {ops : Array Oper} {rest : List Oper} {o : Oper} {a : Act} {w : World} {Q : Exit → Act → World → Prop}
theorem wd_alloc_at (hgd : o.guard = none) (T : TypeId) (ho : o.op = .alloc T) (z : Value) (hz : ∀ w, (zeroValue T).run P w = .ok z w)
    (h : wpList P ops Q rest (a.put o.dst (.pointer (some ⟨w.heap.size, 0, none⟩))) (w.alloc (.cells z.cells T))) : wpList P ops Q (o :: rest) a w :=
  wpList_plain hgd fun _ hK => by
    unfold Oper.wp execOp
    simp only [ho, Instr.alloc, Sem.run_bind, hz, Result.andThen_ok]
    exact hK _ _ h
theorem wd_box_at (hgd : o.guard = none) (T : TypeId) (v : Operand) (ho : o.op = .box T v)
    (h : wpList P ops Q rest (a.put o.dst (.pointer (some ⟨w.heap.size, 0, none⟩))) (w.alloc (.cells (a.eval v).cells T))) : wpList P ops Q (o :: rest) a w :=
  wpList_plain hgd fun _ hK => by
    unfold Oper.wp execOp
    simp only [ho, Instr.box, Sem.run_bind]
    exact hK _ _ h
theorem wd_build_at (hgd : o.guard = none) (T : TypeId) (ps : Array (Nat × Operand)) (ho : o.op = .build T ps) (z : Value)
    (hz : ∀ w, (Instr.build T (ps.map fun (i, x) => (i, a.eval x))).run P w = .ok z w)
    (h : wpList P ops Q rest (a.put o.dst z) w) : wpList P ops Q (o :: rest) a w :=
  wpList_plain hgd fun _ hK => by
    unfold Oper.wp execOp
    simp only [ho, Sem.run_bind, hz, Result.andThen_ok]
    exact hK _ _ h
theorem wd_store_row (hgd : o.guard = none) (hdst : o.dst = none) (ty : TypeId) (x v : Operand) (ho : o.op = .store ty x v)
    (g : Nat) (hx : a.eval x = .pointer (some ⟨g, 0, none⟩)) (t : TypeId) (old cells : Array Value) (hg : w.heap[g]? = some (.cells old t (0, 0)))
    (hv : a.eval v = .agg cells) (hi : (P.info? ty).map (·.size) = some cells.size) (hs : old.size = cells.size) (h1 : cells.all (·.oneCell') = true)
    (h : wpList P ops Q rest a (w.setRow g cells)) : wpList P ops Q (o :: rest) a w :=
  wpList_plain hgd fun _ hK => by
    unfold Oper.wp execOp
    simp only [ho, hx, hv, Instr.storeAt, Instr.sureAddr, Sem.run_bind, Sem.run_pure, Result.andThen_ok, run_storeVar_row w g t ty old cells hg hi hs h1]
    refine hK _ _ ?_
    rw [hdst]
    exact h
/-- A new variable: its block is named. -/
theorem wd_alloc {E : World} {L : List HProp} (x : Wd E L) (hgd : o.guard = none) (T : TypeId) (ho : o.op = .alloc T) (z : Value) (hz : ∀ w, (zeroValue T).run P w = .ok z w)
    (h : ∀ b, ∀ y : Wd E (pt b (.cells z.cells T) :: L), wpList P ops Q rest (a.put o.dst (.pointer (some ⟨b, 0, none⟩))) y.val) : wpList P ops Q (o :: rest) a x.val :=
  wd_alloc_at hgd T ho z hz (h _ (x.new _))
theorem wd_box {E : World} {L : List HProp} (x : Wd E L) (hgd : o.guard = none) (T : TypeId) (v : Operand) (ho : o.op = .box T v) (cs : Array Value) (hv : (a.eval v).cells = cs)
    (h : ∀ b, ∀ y : Wd E (pt b (.cells cs T) :: L), wpList P ops Q rest (a.put o.dst (.pointer (some ⟨b, 0, none⟩))) y.val) : wpList P ops Q (o :: rest) a x.val :=
  wd_box_at hgd T v ho (by rw [hv]; exact h _ (x.new _))
end
/-! Guards: 'with_reducible refine gload T ?_' goes through just at a load of type T. -/
section
variable {P : Program} {ops : Array Oper} {rest : List Oper} {a : Act} {w : World} {Q : Exit → Act → World → Prop} {d : Option Tmp} {t : TypeId} {p : String} {af : Array Edge} {g : Option (Nat × Bool)}
theorem gload (T : TypeId) {x : Operand} (h : wpList P ops Q (⟨d, .load T x, t, p, af, g⟩ :: rest) a w) : wpList P ops Q (⟨d, .load T x, t, p, af, g⟩ :: rest) a w := h
theorem gstore (T : TypeId) {x y : Operand} (h : wpList P ops Q (⟨d, .store T x y, t, p, af, g⟩ :: rest) a w) : wpList P ops Q (⟨d, .store T x y, t, p, af, g⟩ :: rest) a w := h
theorem galloc (T : TypeId) (h : wpList P ops Q (⟨d, .alloc T, t, p, af, g⟩ :: rest) a w) : wpList P ops Q (⟨d, .alloc T, t, p, af, g⟩ :: rest) a w := h
theorem gbox (T : TypeId) {x : Operand} (h : wpList P ops Q (⟨d, .box T x, t, p, af, g⟩ :: rest) a w) : wpList P ops Q (⟨d, .box T x, t, p, af, g⟩ :: rest) a w := h
theorem gbuild (T : TypeId) {x : Array (Nat × Operand)} (h : wpList P ops Q (⟨d, .build T x, t, p, af, g⟩ :: rest) a w) : wpList P ops Q (⟨d, .build T x, t, p, af, g⟩ :: rest) a w := h
theorem gbuildSlice (T : TypeId) {n : Nat} {x : Array (Nat × Operand)} (h : wpList P ops Q (⟨d, .buildSlice T n x, t, p, af, g⟩ :: rest) a w) : wpList P ops Q (⟨d, .buildSlice T n x, t, p, af, g⟩ :: rest) a w := h
theorem gmakeMap (T : TypeId) {x : Option Operand} (h : wpList P ops Q (⟨d, .makeMap T x, t, p, af, g⟩ :: rest) a w) : wpList P ops Q (⟨d, .makeMap T x, t, p, af, g⟩ :: rest) a w := h
theorem gmakeSlice (T : TypeId) {x y : Operand} (h : wpList P ops Q (⟨d, .makeSlice T x y, t, p, af, g⟩ :: rest) a w) : wpList P ops Q (⟨d, .makeSlice T x y, t, p, af, g⟩ :: rest) a w := h
theorem gslice (T : TypeId) {x : Operand} {l h' m : Option Operand} (h : wpList P ops Q (⟨d, .slice T x l h' m, t, p, af, g⟩ :: rest) a w) : wpList P ops Q (⟨d, .slice T x l h' m, t, p, af, g⟩ :: rest) a w := h
theorem glookup (T : TypeId) {x y : Operand} {ok : Bool} (h : wpList P ops Q (⟨d, .lookup T x y ok, t, p, af, g⟩ :: rest) a w) : wpList P ops Q (⟨d, .lookup T x y ok, t, p, af, g⟩ :: rest) a w := h
theorem gmapUpdate (T : TypeId) {x y z : Operand} (h : wpList P ops Q (⟨d, .mapUpdate T x y z, t, p, af, g⟩ :: rest) a w) : wpList P ops Q (⟨d, .mapUpdate T x y z, t, p, af, g⟩ :: rest) a w := h
theorem grange (T : TypeId) {x : Operand} (h : wpList P ops Q (⟨d, .range T x, t, p, af, g⟩ :: rest) a w) : wpList P ops Q (⟨d, .range T x, t, p, af, g⟩ :: rest) a w := h
theorem gnext {x : Operand} {s : Bool} (h : wpList P ops Q (⟨d, .next x s, t, p, af, g⟩ :: rest) a w) : wpList P ops Q (⟨d, .next x s, t, p, af, g⟩ :: rest) a w := h
theorem gentry {x : Operand} (h : wpList P ops Q (⟨d, .entry x, t, p, af, g⟩ :: rest) a w) : wpList P ops Q (⟨d, .entry x, t, p, af, g⟩ :: rest) a w := h
theorem gbuiltin (b : Builtin) {xs : Array Operand} {ts : Array TypeId} (h : wpList P ops Q (⟨d, .call ⟨.builtin b, xs, ts⟩, t, p, af, g⟩ :: rest) a w) : wpList P ops Q (⟨d, .call ⟨.builtin b, xs, ts⟩, t, p, af, g⟩ :: rest) a w := h
theorem gconvert (s T : TypeId) {x : Operand} (h : wpList P ops Q (⟨d, .convert s T x, t, p, af, g⟩ :: rest) a w) : wpList P ops Q (⟨d, .convert s T x, t, p, af, g⟩ :: rest) a w := h
end
theorem Wd.setRow_back {E : World} {L : List HProp} {b : Nat} {c : Array Value} {T : TypeId} {fz : Nat × Nat} (x : Wd E (pt b (.cells c T fz) :: L)) (cs : Array Value) :
    ∃ y : Wd E (pt b (.cells cs T fz) :: L), x.val.setRow b cs = y.val := by
  have h := x.sat.head.2
  refine ⟨⟨_, x.sat.put (w' := x.val.setRow b cs) (.cells cs T fz) ?_ rfl rfl rfl⟩, rfl⟩
  apply Array.ext_getElem?
  intro i
  simp only [World.setRow, Array.getElem?_modify, Array.getElem?_setIfInBounds]
  by_cases e : b = i
  · subst e
    have hlt : b < x.val.heap.size := by
      by_cases h' : b < x.val.heap.size
      · exact h'
      · rw [Array.getElem?_eq_none (by omega)] at h; cases h
    rw [h]; simp [hlt]
  · simp [e]
end Go.Proofs.Ytechbidbhoookaa.Sl
