/- append of whatever slice, empty or not. -/
import Derived.Test.YtechbidbhoookaaSlice
namespace Go.Proofs.Ytechbidbhoookaa.Sl
open Go Go.RowKit
section
variable {E : World} {L : List HProp} {T : TypeId} {k n : Nat} {v : Value} {vs : List Value}
theorem Row.room (x : Wd E (Row T k v n vs :: L)) : ∃ base cap, v = .slice base n cap ∧ n ≤ cap := by
  obtain ⟨hb, h, ⟨h1, h2, hd, hu, ⟨hl, hx⟩, y⟩, hw⟩ := x.sat
  rcases hx with ⟨rfl, rfl, _⟩ | ⟨b, cap, cur, rfl, hc, _⟩
  · exact ⟨none, 0, rfl, Nat.le_refl 0⟩
  · exact ⟨_, _, rfl, hc⟩
theorem run_append_zero {P : Program} {t ty e : TypeId} {base xb : Option Addr} {cap c bytes : Nat} (w : World) (ht : P.underlying t = some (.slice e)) (hE : Elem P e k bytes) (hc : n ≤ cap) :
    (Builtin.append_ #[t, t] ty #[.slice base n cap, .slice xb 0 c]).run P w = .ok (.slice base n cap) w := by
  obtain ⟨i, z, hi, hz, hsize, hby, hzs⟩ := hE.ex
  cases base <;> cases xb <;> simp [Builtin.append_, run_underlying ht, sizeOf, typeInfo, hi, Builtin.lenOf, Builtin.firstCells, loadCells, loadCellsFrom, hc, storeCells]
theorem wd_append2 {P : Program} {ops : Array Oper} {rest : List Oper} {o : Oper} {a : Act} {Q : Exit → Act → World → Prop} {bytes m c : Nat} {xb : Option Addr} {news : List Value} (x : Wd E (Row T k v n vs :: L)) (hgd : o.guard = none) (s xo : Operand) (t : TypeId)
    (ho : o.op = .call { callee := .builtin .append, args := #[s, xo], argTypes := #[t, t] }) (ht : P.underlying t = some (.slice T)) (hE : Elem P T k bytes)
    (hs : a.eval s = v) (hx : a.eval xo = .slice xb m c)
    (hl : news.length = m * k) (hnews : 0 < m → ∃ ad, xb = some ad ∧ ∀ j u, news[j]? = some u → x.val.cell? (ad.add j) = some u) (h1 : ∀ u ∈ news, u.oneCell' = true)
    (h63 : n + m ≤ maxLen) (hbytes : (n + m) * bytes ≤ 140737488355328)
    (h : ∀ sb sc, ∀ y : Wd E (Row T k (.slice sb (n + m) sc) (n + m) (vs ++ news) :: L), wpList P ops Q rest (a.put o.dst (.slice sb (n + m) sc)) y.val) : wpList P ops Q (o :: rest) a x.val := by
  by_cases hm : 0 < m
  · obtain ⟨ad, rfl, hn⟩ := hnews hm
    refine wd_append x hgd s xo t ho ht hE hs hx hl hn h1 h63 hbytes (fun v' y _ => ?_)
    obtain ⟨sb, sc, rfl⟩ := Row.form y
    exact h sb sc y
  · have hm0 : m = 0 := by omega
    subst hm0
    have hn : news = [] := List.eq_nil_of_length_eq_zero (by simpa using hl)
    subst hn
    obtain ⟨base, cap, rfl, hc⟩ := Row.room x
    have hr := run_append_zero (ty := o.type) (base := base) (xb := xb) (c := c) x.val ht hE hc
    exact wpList_plain hgd fun _ hK => by
      unfold Oper.wp execOp
      simp only [ho, resolve, invoke, builtin, Sem.run_bind, Sem.run_pure, Result.andThen_ok, List.map_toArray, List.map_cons, List.map_nil, hs, hx]
      rw [hr]
      exact hK _ _ (h base cap (x.cast (by simp)))
/-- What a slice that lies there has, for append. -/
theorem Lies.news {A : HProp} {xb : Option Addr} {c : Nat} (hA : Lies T A (.slice xb n c) n vs) {E : World} {L : List HProp} (w : World) (hw : ∃ y : Wd E (A :: L), w = y.val) : 0 < n → ∃ ad, xb = some ad ∧ ∀ j u, vs[j]? = some u → w.cell? (ad.add j) = some u := by
  intro hn
  obtain ⟨base, cap, hv, hb⟩ := hA
  obtain ⟨b, rfl, cur, rfl, hcur⟩ := hb hn
  simp only [Value.slice.injEq] at hv
  obtain ⟨rfl, _, rfl⟩ := hv
  obtain ⟨y, rfl⟩ := hw
  exact ⟨_, rfl, fun j u hj => by
    have hadd : (⟨b, 0, none⟩ : Addr).add j = ⟨b, j, none⟩ := by unfold Addr.add; split <;> simp_all
    rw [hadd, Wd.cell0 y]
    exact hcur j u hj⟩
end
end Go.Proofs.Ytechbidbhoookaa.Sl
