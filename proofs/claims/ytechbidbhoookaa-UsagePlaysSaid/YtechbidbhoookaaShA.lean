/- The builtins copy and clear, in the separation layer. -/
import Derived.Test.YtechbidbhoookaaSlice
import Derived.Laws.CopyRow
namespace Go.Proofs.Ytechbidbhoookaa.Sl
open Go Go.RowKit
theorem run_clear_row {P : Program} (w : World) (t e ty : TypeId) (z : Value) (ht : P.underlying t = some (.slice e)) (hv : ∀ w, (zeroValue e).run P w = .ok z w) (hz : z.cells = #[z]) (h1 : z.oneCell' = true) (g o n c : Nat) (cur : Array Value) (T : TypeId)
    (hn : 0 < n) (hg : w.heap[g]? = some (.cells cur T (0, 0))) (hfit : o + n ≤ cur.size) :
    (Builtin.clear_ #[t] ty #[.slice (some ⟨g, o, none⟩) n c]).run P w = .ok (.tuple #[]) (w.setRow g (cur.toList.take o ++ List.replicate n z ++ cur.toList.drop (o + n)).toArray) := by
  have hzc : (Builtin.zeroCells z.cells n).toList = List.replicate n z := by
    rw [hz]
    apply List.ext_getElem
    · simp [Builtin.zeroCells]
    · intro i h1 h2
      simp [Builtin.zeroCells, Nat.mod_one]
  have hst := run_storeCells_at P g o T (List.replicate n z) 0 cur w hg (by simpa using hfit) (fun v hv' => by rw [List.eq_of_mem_replicate hv']; exact h1)
  obtain ⟨m, rfl⟩ : ∃ m, n = m + 1 := ⟨n - 1, by omega⟩
  simp only [List.length_replicate, Nat.add_zero] at hst
  simp [Builtin.clear_, run_underlying ht, hv, hzc, hst]
section
variable {E : World} {L : List HProp} {P : Program} {ops : Array Oper} {rest : List Oper} {o : Oper} {a : Act} {Q : Exit → Act → World → Prop}
theorem wd_clear {g k n c : Nat} {cur : Array Value} {T : TypeId} (x : Wd E (pt g (.cells cur T (0, 0)) :: L)) (hgd : o.guard = none) (s : Operand) (t e : TypeId) (ho : o.op = .call { callee := .builtin .clear, args := #[s], argTypes := #[t] })
    (z : Value) (ht : P.underlying t = some (.slice e)) (hv : ∀ w, (zeroValue e).run P w = .ok z w) (hz : z.cells = #[z]) (h1 : z.oneCell' = true) (hs : a.eval s = .slice (some ⟨g, k, none⟩) n c) (hn : 0 < n) (hfit : k + n ≤ cur.size)
    (h : ∀ y : Wd E (pt g (.cells (cur.toList.take k ++ List.replicate n z ++ cur.toList.drop (k + n)).toArray T (0, 0)) :: L), wpList P ops Q rest (a.put o.dst (.tuple #[])) y.val) : wpList P ops Q (o :: rest) a x.val := by
  obtain ⟨y, hy⟩ := x.setRow_back (cur.toList.take k ++ List.replicate n z ++ cur.toList.drop (k + n)).toArray
  have hr := run_clear_row (P := P) x.val t e o.type z ht hv hz h1 g k n c cur T hn (Wd.heap0 x) hfit
  rw [hy] at hr
  exact wpList_plain hgd fun _ hK => by
    unfold Oper.wp execOp
    simp only [ho, resolve, invoke, builtin, Sem.run_bind, Sem.run_pure, Result.andThen_ok, List.map_toArray, List.map_cons, List.map_nil, hs]
    rw [hr]
    exact hK _ _ (h y)
/-- copy out of the block itself, or any other one: what is read is known cell by cell. -/
theorem wd_copy {g k dl dc sl sc : Nat} {ad : Addr} {cur : Array Value} {T : TypeId} {cs : List Value} (x : Wd E (pt g (.cells cur T (0, 0)) :: L)) (hgd : o.guard = none) (d s : Operand) (t e : TypeId) (ho : o.op = .call { callee := .builtin .copy, args := #[d, s], argTypes := #[t, t] })
    (ht : P.underlying t = some (.slice e)) (he : (P.info? e).map (·.size) = some 1) (hd : a.eval d = .slice (some ⟨g, k, none⟩) dl dc) (hs : a.eval s = .slice (some ad) sl sc)
    (hn : cs.length = Nat.min sl dl) (hsrc : ∀ j v, cs[j]? = some v → x.val.cell? (ad.add j) = some v) (hfit : k + cs.length ≤ cur.size) (h1 : ∀ v ∈ cs, v.oneCell' = true)
    (h : ∀ y : Wd E (pt g (.cells (cur.toList.take k ++ cs ++ cur.toList.drop (k + cs.length)).toArray T (0, 0)) :: L), wpList P ops Q rest (a.put o.dst (.int .i64 (cs.length : Int))) y.val) : wpList P ops Q (o :: rest) a x.val := by
  obtain ⟨y, hy⟩ := x.setRow_back (cur.toList.take k ++ cs ++ cur.toList.drop (k + cs.length)).toArray
  have hr := run_copy_row (P := P) x.val t t o.type e g k dl dc ad sl sc cur T cs ht he (Wd.heap0 x) hn hsrc hfit h1
  rw [hy] at hr
  exact wpList_plain hgd fun _ hK => by
    unfold Oper.wp execOp
    simp only [ho, resolve, invoke, builtin, Sem.run_bind, Sem.run_pure, Result.andThen_ok, List.map_toArray, List.map_cons, List.map_nil, hd, hs]
    rw [hr]
    exact hK _ _ (h y)
end
end Go.Proofs.Ytechbidbhoookaa.Sl
