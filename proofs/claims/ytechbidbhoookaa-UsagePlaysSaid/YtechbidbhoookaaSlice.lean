/- Slices of the call's own, in the separation layer. -/
import Derived.Test.YtechbidbhoookaaMix
namespace Go.Proofs.Ytechbidbhoookaa.Sl
open Go Go.RowKit

/-- v is a slice of n elements (k cells each, of type T) that holds vs, in a block of its own; nil only where it is empty. -/
def Row (T : TypeId) (k : Nat) (v : Value) (n : Nat) (vs : List Value) : HProp := fun h => vs.length = n * k ∧
  ((v = .slice none 0 0 ∧ n = 0 ∧ emp h) ∨ ∃ b cap cur, v = .slice (some ⟨b, 0, none⟩) n cap ∧ n ≤ cap ∧ cap ≤ maxLen ∧ cur.size = cap * k ∧ cur.toList.take (n * k) = vs ∧ pt b (.cells cur T (0, 0)) h)
section
variable {E : World} {L : List HProp} {T : TypeId} {k n : Nat} {v : Value} {vs : List Value}
theorem Sat.head_imp {A B : HProp} {w : World} (H : Sat E (A :: L) w) (h : ∀ hp, A hp → B hp) : Sat E (B :: L) w := H.imp fun _ x => star_mono h (fun _ y => y) x
theorem Row.length (x : Wd E (Row T k v n vs :: L)) : vs.length = n * k := by
  obtain ⟨hb, h, ⟨h1, h2, hd, hu, hx, y⟩, hw⟩ := x.sat
  exact hx.1
theorem Row.form (x : Wd E (Row T k v n vs :: L)) : ∃ base cap, v = .slice base n cap := by
  obtain ⟨hb, h, ⟨h1, h2, hd, hu, ⟨hl, hx⟩, y⟩, hw⟩ := x.sat
  rcases hx with ⟨rfl, rfl, _⟩ | ⟨b, cap, cur, rfl, _⟩
  · exact ⟨none, 0, rfl⟩
  · exact ⟨_, _, rfl⟩
/-- A row that is not empty, opened. -/
theorem Row.op (x : Wd E (Row T k v n vs :: L)) (hn : 0 < n) :
    ∃ b cap cur, v = .slice (some ⟨b, 0, none⟩) n cap ∧ n ≤ cap ∧ cap ≤ maxLen ∧ cur.size = cap * k ∧ cur.toList.take (n * k) = vs ∧ ∃ y : Wd E (pt b (.cells cur T (0, 0)) :: L), x.val = y.val := by
  obtain ⟨hb, h, ⟨h1, h2, hd, hu, ⟨hl, hx⟩, y⟩, hw⟩ := x.sat
  rcases hx with ⟨_, h0, _⟩ | ⟨b, cap, cur, hv, hc, hm, hs, ht, hp⟩
  · omega
  · exact ⟨b, cap, cur, hv, hc, hm, hs, ht, ⟨x.val, hb, h, ⟨h1, h2, hd, hu, hp, y⟩, hw⟩, rfl⟩
theorem Row.cl {b cap : Nat} {cur : Array Value} (hc : n ≤ cap) (hm : cap ≤ maxLen) (hs : cur.size = cap * k) (x : Wd E (pt b (.cells cur T (0, 0)) :: L)) :
    ∃ y : Wd E (Row T k (.slice (some ⟨b, 0, none⟩) n cap) n (cur.toList.take (n * k)) :: L), x.val = y.val :=
  ⟨⟨x.val, x.sat.head_imp fun h hp => ⟨by
    rw [List.length_take, Array.length_toList, hs]
    have : n * k ≤ cap * k := Nat.mul_le_mul_right k hc
    omega, .inr ⟨b, cap, cur, rfl, hc, hm, hs, rfl, hp⟩⟩⟩, rfl⟩
theorem Row.nil (x : Wd E L) : ∃ y : Wd E (Row T k (.slice none 0 0) 0 [] :: L), x.val = y.val :=
  ⟨⟨x.val, Sat.head_imp x.addEmp.sat fun h hp => ⟨by simp, .inl ⟨rfl, rfl, hp⟩⟩⟩, rfl⟩
/-- What a law of the kit says of a slice of the call's own. -/
theorem Row.of_own {x : Wd E L} {w : World} (hr : w.ownsRow x.val.heap.size T k v n vs) (hb : Below x.val.heap.size x.val w) : ∃ y : Wd E (Row T k v n vs :: L), w = y.val := by
  obtain ⟨hl, ⟨rfl, rfl⟩ | ⟨g, cap, cur, rfl, hg, hgb, hc, hm, hs, ht⟩⟩ := hr
  · obtain ⟨y, hy⟩ := Row.nil (T := T) (k := k) (⟨w, x.kept hb⟩ : Wd E L)
    have hvs : vs = [] := List.eq_nil_of_length_eq_zero (by simpa using hl)
    subst hvs
    exact ⟨y, hy⟩
  · subst ht
    exact Row.cl (n := n) hc hm hs (⟨w, x.kept_new hb hg hgb⟩ : Wd E (pt g (.cells cur T (0, 0)) :: L))
/-- The element type's row of the table. -/
structure Elem (P : Program) (e : TypeId) (k bytes : Nat) : Prop where
  ex : ∃ i z, P.info? e = some i ∧ i.zero = some z ∧ i.size = k ∧ i.bytes = bytes ∧ z.cells.size = k
theorem Elem.mk' {P : Program} {e : TypeId} {k bytes : Nat} (z : Value) (h : (P.info? e).map (fun i => (i.zero, i.size, i.bytes)) = some (some z, k, bytes)) (hz : z.cells.size = k) : Elem P e k bytes := by
  cases hi : P.info? e with
  | none => rw [hi] at h; cases h
  | some i =>
    rw [hi] at h
    simp only [Option.map_some, Option.some.injEq, Prod.mk.injEq] at h
    exact ⟨i, z, hi, h.1, h.2.1, h.2.2, hz⟩
theorem run_append_row {P : Program} {t ty e : TypeId} {bytes m c : Nat} {ad : Addr} {news : List Value} (x : Wd E (Row e k v n vs :: L)) (ht : P.underlying t = some (.slice e)) (hE : Elem P e k bytes)
    (hl : news.length = m * k) (hnews : ∀ j u, news[j]? = some u → x.val.cell? (ad.add j) = some u) (h1 : ∀ u ∈ news, u.oneCell' = true)
    (h63 : n + m ≤ maxLen) (hbytes : (n + m) * bytes ≤ 140737488355328) :
    ∃ v', ∃ y : Wd E (Row e k v' (n + m) (vs ++ news) :: L), (Builtin.append_ #[t, t] ty #[v, .slice (some ad) m c]).run P x.val = .ok v' y.val ∧ (v' = .slice none 0 0 → v = .slice none 0 0 ∧ m = 0) := by
  obtain ⟨i, z, hi, hz, hsize, hby, hzs⟩ := hE.ex
  subst hsize
  subst hby
  have hsmall : n + m ≤ 9223372036854775807 := by simp only [maxLen] at h63; omega
  have hvl := Row.length x
  have hlen : (vs ++ news).length = (n + m) * i.size := by rw [List.length_append, hvl, hl, Nat.add_mul]
  have grown : ∀ (old : Nat) (x' : Wd E L), x'.val = x.val.drew → ∃ y : Wd E (Row e i.size (.slice (some ⟨x.val.heap.size, 0, none⟩) (n + m) (grownCap x.val (n + m) old e)) (n + m) (vs ++ news) :: L),
      x.val.drew.alloc (.cells (vs.toArray ++ news.toArray ++ Builtin.zeroCells z.cells (grownCap x.val (n + m) old e - (n + m))) e) = y.val := by
    intro old x' hx'
    have hge := grownCap_ge x.val (n + m) old e
    have hcm : grownCap x.val (n + m) old e ≤ maxLen := grownCap_le_maxLen x.val (n + m) old e h63
    have hcs : (vs.toArray ++ news.toArray ++ Builtin.zeroCells z.cells (grownCap x.val (n + m) old e - (n + m))).size = grownCap x.val (n + m) old e * i.size := by
      simp only [Array.size_append, List.size_toArray, size_zeroCells, hzs, hvl, hl, ← Nat.add_mul]
      congr 1
      omega
    have ht : (vs.toArray ++ news.toArray ++ Builtin.zeroCells z.cells (grownCap x.val (n + m) old e - (n + m))).toList.take ((n + m) * i.size) = vs ++ news := by
      simp only [Array.toList_append, List.append_assoc]
      rw [← List.append_assoc, ← hlen]
      exact List.take_left
    have hsz : x'.val.heap.size = x.val.heap.size := by rw [hx']; rfl
    obtain ⟨y, hy⟩ := Row.cl (n := n + m) hge hcm hcs (x'.newAt (.cells _ e) x.val.heap.size hsz)
    have hy' : x'.val.alloc (.cells (vs.toArray ++ news.toArray ++ Builtin.zeroCells z.cells (grownCap x.val (n + m) old e - (n + m))) e) = y.val := hy
    rw [hx'] at hy'
    exact ⟨y.cast (by rw [ht]), hy'⟩
  by_cases hn : 0 < n
  · obtain ⟨g, cap, cur, rfl, hnc, hcm, hcs, htake, y, hy⟩ := Row.op x hn
    have hg : x.val.heap[g]? = some (.cells cur e (0, 0)) := by rw [hy]; exact Wd.heap0 y
    by_cases hroom : n + m ≤ cap
    · have hfit : n * i.size + news.length ≤ cur.size := by rw [hl, hcs, ← Nat.add_mul]; exact Nat.mul_le_mul_right _ hroom
      have hr := run_append_room (P := P) x.val t ty e i ht hi g n cap cur hg ad m c news hl hnews h1 hroom hfit
      obtain ⟨y2, hy2⟩ := Wd.setRow_back y (cur.toList.take (n * i.size) ++ news ++ cur.toList.drop (n * i.size + news.length)).toArray
      rw [← hy] at hy2
      obtain ⟨y3, hy3⟩ := Row.cl (n := n + m) (k := i.size) hroom hcm (by
        simp only [List.size_toArray, List.length_append, List.length_take, List.length_drop, Array.length_toList]
        omega) y2
      have htk : (cur.toList.take (n * i.size) ++ news ++ cur.toList.drop (n * i.size + news.length)).toArray.toList.take ((n + m) * i.size) = vs ++ news := by
        rw [htake, ← hlen]
        exact List.take_left
      exact ⟨_, y3.cast (by rw [htk]), by rw [hr, hy2, hy3]; rfl, by simp⟩
    · have holds : ∀ j u, vs[j]? = some u → x.val.cell? ((⟨g, 0, none⟩ : Addr).add j) = some u := fun j u hj => by
        have hadd : (⟨g, 0, none⟩ : Addr).add j = ⟨g, j, none⟩ := by unfold Addr.add; split <;> simp_all
        rw [hadd, Wd.cell_of hg]
        rw [← htake, List.getElem?_take] at hj
        split at hj
        · simpa using hj
        · cases hj
      have hr := run_append_grow (P := P) x.val t ty e i z ht hi hz ⟨g, 0, none⟩ n cap vs hvl holds ad m c news hl hnews (by omega) (by omega) (growslice_fits (by omega) hbytes)
      obtain ⟨y2, hy2⟩ := grown cap x.drop.drew rfl
      exact ⟨_, y2, by rw [hr, hy2], by simp⟩
  · have hn0 : n = 0 := by omega
    subst hn0
    have hvs : vs = [] := List.eq_nil_of_length_eq_zero (by simpa using hvl)
    subst hvs
    obtain ⟨hb, h, ⟨h1', h2', hd, hu, ⟨_, hx⟩, hy⟩, hw⟩ := x.sat
    rcases hx with ⟨rfl, _, he⟩ | ⟨g, cap, cur, rfl, hnc, hcm, hcs, htake, hp⟩
    · by_cases hm : m = 0
      · subst hm
        have hn : news = [] := List.eq_nil_of_length_eq_zero (by simpa using hl)
        subst hn
        refine ⟨.slice none 0 0, x.cast (by simp), ?_, fun _ => ⟨rfl, rfl⟩⟩
        show _ = Result.ok _ x.val
        simp [Builtin.append_, run_underlying ht, sizeOf, typeInfo, hi, Builtin.lenOf, Builtin.firstCells, loadCells, loadCellsFrom]
      · have hr := run_append_nil (P := P) x.val t ty e i z ht hi hz ad m c news hl hnews (by omega) (by omega) (by have hb := hbytes; simp only [Nat.zero_add] at hb; omega)
        obtain ⟨y2, hy2⟩ := grown 0 x.drop.drew rfl
        simp only [Nat.zero_add, Array.empty_append] at hy2
        refine ⟨.slice (some ⟨x.val.heap.size, 0, none⟩) m (grownCap x.val m 0 e), y2.cast (by rw [Nat.zero_add]), ?_, by simp [hm]⟩
        rw [hr]
        exact congrArg (Result.ok _) hy2
    · have hg : x.val.heap[g]? = some (.cells cur e (0, 0)) := by
        refine (hw g _ ?_).2
        rw [hu g, hp g]; simp
      let y : Wd E (pt g (.cells cur e (0, 0)) :: L) := ⟨x.val, hb, h, ⟨h1', h2', hd, hu, hp, hy⟩, hw⟩
      by_cases hroom : 0 + m ≤ cap
      · have hfit : 0 * i.size + news.length ≤ cur.size := by rw [hl, hcs, ← Nat.add_mul]; exact Nat.mul_le_mul_right _ hroom
        have hr := run_append_room (P := P) x.val t ty e i ht hi g 0 cap cur hg ad m c news hl hnews h1 hroom hfit
        obtain ⟨y2, hy2⟩ := Wd.setRow_back y (cur.toList.take (0 * i.size) ++ news ++ cur.toList.drop (0 * i.size + news.length)).toArray
        obtain ⟨y3, hy3⟩ := Row.cl (n := 0 + m) (k := i.size) hroom hcm (by
          simp only [List.size_toArray, List.length_append, List.length_take, List.length_drop, Array.length_toList]
          omega) y2
        have htk : (cur.toList.take (0 * i.size) ++ news ++ cur.toList.drop (0 * i.size + news.length)).toArray.toList.take ((0 + m) * i.size) = [] ++ news := by
          rw [htake, ← hlen]
          exact List.take_left
        exact ⟨_, y3.cast (by rw [htk]), by rw [hr]; exact congrArg (Result.ok _) (hy2.trans hy3), by simp⟩
      · have hr := run_append_grow (P := P) x.val t ty e i z ht hi hz ⟨g, 0, none⟩ 0 cap [] (by simp) (fun j u hj => by simp at hj) ad m c news hl hnews (by omega) (by omega) (growslice_fits (by omega) hbytes)
        obtain ⟨y2, hy2⟩ := grown cap x.drop.drew rfl
        exact ⟨_, y2, by rw [hr, hy2], by simp⟩
theorem wd_append {P : Program} {ops : Array Oper} {rest : List Oper} {o : Oper} {a : Act} {Q : Exit → Act → World → Prop} {bytes m c : Nat} {ad : Addr} {news : List Value} (x : Wd E (Row T k v n vs :: L)) (hgd : o.guard = none) (s xo : Operand) (t : TypeId)
    (ho : o.op = .call { callee := .builtin .append, args := #[s, xo], argTypes := #[t, t] }) (ht : P.underlying t = some (.slice T)) (hE : Elem P T k bytes)
    (hs : a.eval s = v) (hx : a.eval xo = .slice (some ad) m c)
    (hl : news.length = m * k) (hnews : ∀ j u, news[j]? = some u → x.val.cell? (ad.add j) = some u) (h1 : ∀ u ∈ news, u.oneCell' = true)
    (h63 : n + m ≤ maxLen) (hbytes : (n + m) * bytes ≤ 140737488355328)
    (h : ∀ v', ∀ y : Wd E (Row T k v' (n + m) (vs ++ news) :: L), (v' = .slice none 0 0 → v = .slice none 0 0 ∧ m = 0) → wpList P ops Q rest (a.put o.dst v') y.val) : wpList P ops Q (o :: rest) a x.val := by
  obtain ⟨v', y, hr, hn⟩ := run_append_row (P := P) (ty := o.type) x ht hE hl hnews h1 h63 hbytes
  exact wpList_plain hgd fun _ hK => by
    unfold Oper.wp execOp
    simp only [ho, resolve, invoke, builtin, Sem.run_bind, Sem.run_pure, Result.andThen_ok, List.map_toArray, List.map_cons, List.map_nil, hs, hx]
    rw [hr]
    exact hK _ _ (h v' y hn)
/-- A row, opened for reading: A is its block (or whatever it is, where it is empty). -/
def Lies (T : TypeId) (A : HProp) (v : Value) (n : Nat) (vs : List Value) : Prop :=
  ∃ base cap, v = .slice base n cap ∧ (0 < n → ∃ b, base = some ⟨b, 0, none⟩ ∧ ∃ cur, A = pt b (.cells cur T (0, 0)) ∧ ∀ (j : Nat) (u : Value), vs[j]? = some u → cur[j]? = some u)
theorem Row.read (x : Wd E (Row T k v n vs :: L)) :
    ∃ A, Lies T A v n vs ∧ (∃ y : Wd E (A :: L), x.val = y.val) ∧ ∀ (E' : World) (L' : List HProp) (z : Wd E' (A :: L')), ∃ u : Wd E' (Row T k v n vs :: L'), z.val = u.val := by
  by_cases hn : 0 < n
  · obtain ⟨b, cap, cur, rfl, hc, hm, hs, ht, y, hy⟩ := Row.op x hn
    refine ⟨_, ⟨_, _, rfl, fun _ => ⟨b, rfl, cur, rfl, fun j u hj => ?_⟩⟩, ⟨y, hy⟩, fun E' L' z => ?_⟩
    · rw [← ht, List.getElem?_take] at hj
      split at hj
      · simpa using hj
      · cases hj
    · obtain ⟨u, hu⟩ := Row.cl (n := n) (k := k) hc hm hs z
      exact ⟨u.cast (by rw [ht]), hu⟩
  · have hn0 : n = 0 := by omega
    subst hn0
    obtain ⟨hb, h, ⟨h1, h2, hd, hu, ⟨hl, hx⟩, y⟩, hw⟩ := x.sat
    refine ⟨Row T k v 0 vs, ?_, ⟨x, rfl⟩, fun E' L' z => ⟨z, rfl⟩⟩
    rcases hx with ⟨rfl, _, _⟩ | ⟨b, cap, cur, rfl, _⟩
    · exact ⟨none, 0, rfl, fun h => absurd h (by omega)⟩
    · exact ⟨some ⟨b, 0, none⟩, cap, rfl, fun h => absurd h (by omega)⟩
end
/-! ### Many blocks at once -/
def big {α : Type} (f : α → HProp) (R : List α) : HProp := stars (R.map f)
section
variable {E : World} {L : List HProp} {α : Type} {f : α → HProp}
theorem big_nil (x : Wd E L) : ∃ y : Wd E (big f [] :: L), x.val = y.val := ⟨x.addEmp, rfl⟩
theorem big_out {R1 R2 : List α} {r : α} (y : Wd E (big f (R1 ++ r :: R2) :: L)) : ∃ z : Wd E (f r :: big f (R1 ++ R2) :: L), y.val = z.val := by
  have h1 := y.sat.stars
  simp only [List.map_append, List.map_cons, List.append_assoc, List.cons_append] at h1
  have h2 := h1.perm List.perm_middle
  have h3 : Sat E ((R1 ++ R2).map f ++ (f r :: L)) y.val := h2.perm (by
    simp only [List.map_append, List.append_assoc]
    rw [← List.append_assoc, ← List.append_assoc]
    exact List.perm_middle.symm)
  exact ⟨Wd.up1 ⟨y.val, h3.mkStars⟩, rfl⟩
theorem big_in {R1 R2 : List α} {r : α} (z : Wd E (f r :: big f (R1 ++ R2) :: L)) : ∃ y : Wd E (big f (R1 ++ r :: R2) :: L), z.val = y.val := by
  have h1 : Sat E (big f (R1 ++ R2) :: f r :: L) z.val := z.up1.sat
  have h2 := h1.stars
  have h3 : Sat E ((R1 ++ r :: R2).map f ++ L) z.val := h2.perm (by
    simp only [List.map_append, List.map_cons, List.append_assoc, List.cons_append]
    rw [← List.append_assoc]
    refine List.perm_middle.trans ?_
    rw [List.append_assoc]
    exact List.perm_middle.symm)
  exact ⟨⟨z.val, h3.mkStars⟩, rfl⟩
theorem big_snoc {R : List α} {r : α} (z : Wd E (f r :: big f R :: L)) : ∃ y : Wd E (big f (R ++ [r]) :: L), z.val = y.val := by
  exact big_in (R1 := R) (R2 := []) (r := r) (z.cast (by simp) : Wd E (f r :: big f (R ++ []) :: L))
theorem big_at {R : List α} {r : α} {b : Nat} {o : Obj} (hf : f r = pt b o) (hr : r ∈ R) (y : Wd E (big f R :: L)) : y.val.heap[b]? = some o := by
  obtain ⟨R1, R2, rfl⟩ := List.append_of_mem hr
  obtain ⟨z, hz⟩ := big_out y
  rw [hz]
  exact (z.cast (by rw [hf]) : Wd E (pt b o :: big f (R1 ++ R2) :: L)).get 0 rfl
end
theorem block_news {w : World} {b : Nat} {cs : Array Value} {T : TypeId} {fz : Nat × Nat} (h : w.heap[b]? = some (.cells cs T fz)) (j : Nat) (u : Value) (hj : cs.toList[j]? = some u) : w.cell? ((⟨b, 0, none⟩ : Addr).add j) = some u := by
  have hadd : (⟨b, 0, none⟩ : Addr).add j = ⟨b, j, none⟩ := by unfold Addr.add; split <;> simp_all
  rw [hadd, Wd.cell_of h]
  simpa using hj
/-! ### make, a literal slice -/
section
variable {E : World} {L : List HProp} {P : Program} {ops : Array Oper} {rest : List Oper} {o : Oper} {a : Act} {Q : Exit → Act → World → Prop}
theorem made_get (z : Value) (n j : Nat) (h : j < n) : (madeCells #[z] n)[j]? = some z := by
  simp [madeCells, h, Nat.mod_one]
theorem wd_make (x : Wd E L) (hgd : o.guard = none) (t e : TypeId) (lo co : Operand) (ho : o.op = .makeSlice t lo co) (ht : P.underlying t = some (.slice e)) (z : Value) (k bytes : Nat)
    (hi : (P.info? e).map (fun i => (i.zero, i.size, i.bytes)) = some (some z, k, bytes)) (c : Nat) (hl : a.eval lo = .int .i64 (c : Int)) (hc : a.eval co = .int .i64 (c : Int)) (hb : bytes * c ≤ 281474976710656) (h63 : c ≤ maxLen)
    (h : ∀ b, ∀ y : Wd E (pt b (.cells (madeCells z.cells (c * k)) e) :: L), wpList P ops Q rest (a.put o.dst (.slice (some ⟨b, 0, none⟩) c c)) y.val) : wpList P ops Q (o :: rest) a x.val := by
  cases hq : P.info? e with
  | none => rw [hq] at hi; cases hi
  | some i =>
    rw [hq] at hi
    simp only [Option.map_some, Option.some.injEq, Prod.mk.injEq] at hi
    obtain ⟨h1, h2, h3⟩ := hi
    subst h2
    subst h3
    have hb' : (i.bytes : Int) * (c : Int) ≤ 281474976710656 := by
      have h' : ((i.bytes * c : Nat) : Int) ≤ 281474976710656 := by omega
      rw [Int.natCast_mul] at h'
      exact h'
    have hr := run_make (P := P) x.val t e i z ht hq h1 .i64 .i64 (c : Int) (c : Int) (by omega) (by omega) hb' (by unfold maxLen at h63; omega)
    exact wpList_plain hgd fun _ hK => by
      unfold Oper.wp execOp
      simp only [ho, hl, hc, Sem.run_bind, hr, Result.andThen_ok, Int.toNat_natCast]
      exact hK _ _ (h _ (x.new _))
theorem wd_buildSlice (x : Wd E L) (hgd : o.guard = none) (t e : TypeId) (n : Nat) (ps : Array (Nat × Operand)) (ho : o.op = .buildSlice t n ps) (cs : Array Value)
    (hr : ∀ w, (Instr.buildSlice t n (ps.map fun (i, x) => (i, a.eval x))).run P w = .ok (.slice (some ⟨w.heap.size, 0, none⟩) n n) (w.alloc (.cells cs e)))
    (h : ∀ b, ∀ y : Wd E (pt b (.cells cs e) :: L), wpList P ops Q rest (a.put o.dst (.slice (some ⟨b, 0, none⟩) n n)) y.val) : wpList P ops Q (o :: rest) a x.val :=
  wpList_plain hgd fun _ hK => by
    unfold Oper.wp execOp
    simp only [ho, Sem.run_bind, hr, Result.andThen_ok]
    exact hK _ _ (h _ (x.new _))
end
end Go.Proofs.Ytechbidbhoookaa.Sl
