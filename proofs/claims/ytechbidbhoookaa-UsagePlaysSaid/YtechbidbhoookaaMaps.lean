/- Maps in the separation layer: what their blocks read as; look up, store, delete, length; going over one. -/
import Derived.Test.YtechbidbhoookaaLaws
namespace Go.Proofs.Ytechbidbhoookaa.Sl
open Go Go.RowKit

/-- What a list of pairs says of a key. -/
def aget {κ : Type} [DecidableEq κ] {α : Type} (A : List (κ × α)) (k : κ) : Option α := (A.find? fun x => decide (x.1 = k)).map (·.2)
def aidx {κ : Type} [DecidableEq κ] {α : Type} (A : List (κ × α)) (k : κ) : Option Nat := A.findIdx? fun x => decide (x.1 = k)
def aput {κ : Type} [DecidableEq κ] {α : Type} (A : List (κ × α)) (k : κ) (v : α) : List (κ × α) := match aidx A k with
  | some i => A.set i (k, v)
  | none => A ++ [(k, v)]
def adel {κ : Type} [DecidableEq κ] {α : Type} (A : List (κ × α)) (k : κ) : List (κ × α) := match aidx A k with
  | some i => A.eraseIdx i
  | none => A

/-- A block's entries read as the list A (keys by enc). -/
structure Reads {κ : Type} (enc : κ → Value) (es : Array MapEntry) (clock : Nat) (A : List (κ × Value)) : Prop where
  eq : es.toList.map (fun e => (e.key, e.val)) = A.map fun x => (enc x.1, x.2)
  born : ∀ e ∈ es.toList, e.born < clock
  one : (es.toList.map (·.born)).Nodup
/-- The block of a map. -/
def MapIs {κ : Type} (enc : κ → Value) (b : Nat) (A : List (κ × Value)) : HProp := ex fun es => ex fun clock => star (fact (Reads enc es clock A)) (pt b (.map es clock))

theorem MapIs.op {κ : Type} {enc : κ → Value} {b : Nat} {A : List (κ × Value)} {E : World} {L : List HProp} (x : Wd E (MapIs enc b A :: L)) :
    ∃ es clock, Reads enc es clock A ∧ ∃ y : Wd E (pt b (.map es clock) :: L), x.val = y.val := by
  obtain ⟨es, H⟩ := x.sat.ex
  obtain ⟨clock, H⟩ := H.ex
  have H2 : Sat E (fact (Reads enc es clock A) :: pt b (.map es clock) :: L) x.val := H.imp fun _ h => star_assoc h
  obtain ⟨h, H3⟩ := H2.fact
  exact ⟨es, clock, h, ⟨x.val, H3⟩, rfl⟩
theorem MapIs.cl {κ : Type} {enc : κ → Value} {b : Nat} {A : List (κ × Value)} {E : World} {L : List HProp} {es : Array MapEntry} {clock : Nat} (h : Reads enc es clock A) (x : Wd E (pt b (.map es clock) :: L)) :
    ∃ y : Wd E (MapIs enc b A :: L), x.val = y.val :=
  ⟨⟨x.val, Sat.mkEx es (Sat.mkEx clock ((Sat.mkFact h x.sat).imp fun _ h => star_assoc' h))⟩, rfl⟩

/-- The laws of a key's type. -/
structure KeyLaw (P : Program) (K : TypeId) {κ : Type} [DecidableEq κ] (enc : κ → Value) : Prop where
  inj : ∀ a b, enc a = enc b → a = b
  check : ∀ e k w, (Instr.checkKey e 10000 K (enc k)).run P w = .ok () w
  find : ∀ (k : κ) (es : List MapEntry) (A : List (κ × Value)) (w : World), es.map (fun e => (e.key, e.val)) = A.map (fun x => (enc x.1, x.2)) →
    (Instr.findKey K (enc k) es).run P w = .ok ((aidx A k).map fun i => (i, (A.getD i (k, undef)).2)) w
  stays : ∀ k w, (Instr.keyThatStays (enc k) (enc k)).run P w = .ok (enc k) w

theorem findNow_int (k : Int) : ∀ (es : List MapEntry) (A : List (Int × Value)) (i : Nat), es.map (fun e => (e.key, e.val)) = A.map (fun x => (Value.int .i64 x.1, x.2)) →
    Instr.findNow (.int .i64) (.int .i64 k) es i = some ((aidx A k).map fun j => (i + j, (A.getD j (k, undef)).2))
  | [], A, i, h => by
    cases A with
    | nil => rfl
    | cons a A => simp at h
  | e :: es, A, i, h => by
    cases A with
    | nil => simp at h
    | cons a A =>
      simp only [List.map_cons, List.cons.injEq, Prod.mk.injEq] at h
      obtain ⟨⟨h1, h2⟩, h3⟩ := h
      have ih := findNow_int k es A (i + 1) h3
      unfold Instr.findNow
      rw [h1]
      unfold Instr.sameNow
      by_cases hk : a.1 = k
      · simp [hk, aidx, List.findIdx?_cons, h2]
      · have hk' : ¬ k = a.1 := fun e => hk e.symm
        simp only [if_true, show (k == a.1) = false by simp [hk']]
        rw [ih]
        simp only [aidx, List.findIdx?_cons, hk, decide_false, Bool.false_eq_true, if_false, Option.map_map]
        congr 2
        funext j
        simp
        omega
theorem int_law {P : Program} {K : TypeId} (hK : P.underlying K = some (.int .i64)) : KeyLaw P K (fun n : Int => Value.int .i64 n) where
  inj := fun a b h => by simpa using h
  check := fun e k w => by
    unfold Instr.checkKey
    simp [run_underlying hK]
  find := fun k es A w h => by
    unfold Instr.findKey
    simp only [Sem.run_bind, run_underlying hK, Result.andThen_ok, findNow_int k es A 0 h, Nat.zero_add]
    rfl
  stays := fun k w => by
    unfold Instr.keyThatStays
    simp [Instr.sameBits]

section
variable {P : Program} {K V T : TypeId} {κ : Type} [DecidableEq κ] {enc : κ → Value} {w : World} {b : Nat} {es : Array MapEntry} {clock : Nat} {A : List (κ × Value)}
theorem aget_idx (A : List (κ × Value)) (k : κ) : aget A k = (aidx A k).map fun i => (A.getD i (k, undef)).2 := by
  unfold aget aidx
  induction A with
  | nil => rfl
  | cons a A ih =>
    by_cases h : a.1 = k
    · simp [List.findIdx?_cons, h]
    · simp only [List.find?_cons, List.findIdx?_cons, h, decide_false, Bool.false_eq_true, if_false, ih, Option.map_map]
      congr 1
theorem run_getMap (h : w.heap[b]? = some (.map es clock)) : (getObj b).run P w = .ok (.map es clock) w := by
  unfold getObj
  simp only [Sem.run, h]
theorem run_lookup_is (Y : KeyLaw P K enc) (hT : P.underlying T = some (.map K V)) (hb : w.heap[b]? = some (.map es clock)) (hR : Reads enc es clock A) (k : κ) (z : Value) (hz : (zeroValue V).run P w = .ok z w) (ok : Bool) :
    (Instr.lookup T (.map (some b)) (enc k) ok).run P w = .ok (if ok then .tuple #[(aget A k).getD z, .bool (aget A k).isSome] else (aget A k).getD z) w := by
  unfold Instr.lookup
  simp only [Sem.run_bind, run_underlying hT, Result.andThen_ok, run_getMap hb, Sem.run_pure, Y.check, Y.find k es.toList A w hR.eq]
  rw [aget_idx]
  cases h : aidx A k with
  | none => simp [hz]
  | some i => simp
theorem run_lookup_nil (Y : KeyLaw P K enc) (hT : P.underlying T = some (.map K V)) (k : κ) (z : Value) (hz : (zeroValue V).run P w = .ok z w) (ok : Bool) :
    (Instr.lookup T (.map none) (enc k) ok).run P w = .ok (if ok then .tuple #[z, .bool false] else z) w := by
  unfold Instr.lookup
  have hf := Y.find k [] [] w rfl
  simp only [Sem.run_bind, run_underlying hT, Result.andThen_ok, Sem.run_pure, Y.check, hf]
  simp [aidx, hz]
omit [DecidableEq κ] in
theorem run_len_map (hT : P.underlying T = some (.map K V)) (hb : w.heap[b]? = some (.map es clock)) (hR : Reads enc es clock A) :
    (Builtin.len_ #[T] V #[.map (some b)]).run P w = .ok (.int .i64 A.length) w := by
  have h := congrArg List.length hR.eq
  simp at h
  unfold Builtin.len_
  simp [run_underlying hT, run_getMap hb, goInt, h]
/-- The entries behind a store. -/
def putEs (enc : κ → Value) (es : Array MapEntry) (clock : Nat) (A : List (κ × Value)) (k : κ) (v : Value) : Array MapEntry := match aidx A k with
  | some i => es.modify i fun e => { e with key := enc k, val := v }
  | none => es.push { key := enc k, val := v, born := clock }
def putClock (clock : Nat) (A : List (κ × Value)) (k : κ) : Nat := match aidx A k with
  | some _ => clock
  | none => clock + 1
theorem aidx_spec {A : List (κ × Value)} {k : κ} {i : Nat} (h : aidx A k = some i) : ∃ hi : i < A.length, (A[i]).1 = k := by
  unfold aidx at h
  rw [List.findIdx?_eq_some_iff_getElem] at h
  obtain ⟨hi, h1, _⟩ := h
  exact ⟨hi, by simpa using h1⟩
theorem Reads.put (hR : Reads enc es clock A) (k : κ) (v : Value) : Reads enc (putEs enc es clock A k v) (putClock clock A k) (aput A k v) := by
  have hlen : es.toList.length = A.length := by have := congrArg List.length hR.eq; simpa using this
  unfold putEs putClock aput
  cases h : aidx A k with
  | none =>
    refine ⟨?_, ?_, ?_⟩
    · simp [hR.eq]
    · intro e he
      simp at he
      rcases he with he | rfl
      · have := hR.born e (by simpa using he); show e.born < clock + 1; omega
      · show clock < clock + 1; omega
    · simp only [Array.toList_push, List.map_append, List.map_cons, List.map_nil, List.nodup_append]
      refine ⟨hR.one, by simp, fun a ha c hc => ?_⟩
      simp at hc ha
      obtain ⟨e, he, rfl⟩ := ha
      have := hR.born e (by simpa using he)
      omega
  | some i =>
    obtain ⟨hi, hk⟩ := aidx_spec h
    have hm : (es.modify i fun e => { e with key := enc k, val := v }).toList = es.toList.modify i fun e => { e with key := enc k, val := v } := by simp
    refine ⟨?_, ?_, ?_⟩
    · rw [hm]
      apply List.ext_getElem?
      intro j
      have hj := congrArg (fun l => l[j]?) hR.eq
      simp only [List.getElem?_map, List.getElem?_modify, List.getElem?_set] at hj ⊢
      by_cases e : i = j
      · subst e
        have : i < es.toList.length := by omega
        simp [hi, show i < es.size by simpa using this]
      · simp [e] at hj ⊢
        simpa using hj
    · rw [hm]
      intro e he
      obtain ⟨j, hj, rfl⟩ := List.getElem_of_mem he
      rw [List.getElem_modify]
      have hj' : j < es.toList.length := by simpa using hj
      split
      · exact hR.born es.toList[j] (List.getElem_mem hj')
      · exact hR.born _ (List.getElem_mem hj')
    · rw [hm]
      have : (es.toList.modify i fun e => { e with key := enc k, val := v }).map (·.born) = es.toList.map (·.born) := by
        apply List.ext_getElem?
        intro j
        simp only [List.getElem?_map, List.getElem?_modify]
        cases es.toList[j]? <;> simp
        split <;> rfl
      rw [this]
      exact hR.one
theorem run_mapUpdate_is (Y : KeyLaw P K enc) (hT : P.underlying T = some (.map K V)) (hb : w.heap[b]? = some (.map es clock)) (hR : Reads enc es clock A) (k : κ) (v : Value) :
    (Instr.mapUpdate T (.map (some b)) (enc k) v).run P w = .ok () (putObj w b (.map (putEs enc es clock A k v) (putClock clock A k))) := by
  unfold Instr.mapUpdate
  simp only [Sem.run_bind, run_underlying hT, Result.andThen_ok, run_getMap hb, Y.check, Y.find k es.toList A w hR.eq]
  unfold putEs putClock
  cases h : aidx A k with
  | none => simp [setObj, Sem.run, hb, putObj]
  | some i =>
    obtain ⟨hi, hk⟩ := aidx_spec h
    have hlen : es.toList.length = A.length := by have := congrArg List.length hR.eq; simpa using this
    have hj := congrArg (fun l => l[i]?) hR.eq
    have hi' : i < es.size := by simp at hlen; omega
    simp [hi, hi', hk] at hj
    simp [hi', hj.1, Y.stays, setObj, Sem.run, hb, putObj]
end
/-! ### Going over a map -/
section
variable {P : Program} {ops : Array Oper} {rest : List Oper} {o : Oper} {a : Act} {Q : Exit → Act → World → Prop} {T K V : TypeId} {ix : Operand}
theorem wd_range {E : World} {L : List HProp} (x : Wd E L) {m : Nat} {es : Array MapEntry} {clock : Nat} (hgd : o.guard = none) (ho : o.op = .range T ix) (hT : P.underlying T = some (.map K V)) (hx : a.eval ix = .map (some m)) (hm : x.val.heap[m]? = some (.map es clock))
    (h : ∀ it, ∀ y : Wd E (pt it (.mapIter (some m) clock #[] clock) :: L), wpList P ops Q rest (a.put o.dst (.pointer (some ⟨it, 0, none⟩))) y.val) : wpList P ops Q (o :: rest) a x.val :=
  wpList_plain hgd fun _ hK => by
    unfold Oper.wp execOp
    simp only [ho, hx, Instr.range, Sem.run_bind, run_underlying hT, Result.andThen_ok, run_getMap hm, Sem.run_pure, run_newObj]
    exact hK _ _ (h _ (x.new _))
def unseen (es : Array MapEntry) (seen : Array Nat) : Array MapEntry := es.filter fun e => !seen.contains e.born
theorem wd_next {E : World} {L : List HProp} {m it : Nat} {es : Array MapEntry} {clock : Nat} {seen : Array Nat} (x : Wd E (pt it (.mapIter (some m) clock seen clock) :: L)) (hgd : o.guard = none) (ho : o.op = .next ix false)
    (hx : a.eval ix = .pointer (some ⟨it, 0, none⟩)) (hm : x.val.heap[m]? = some (.map es clock)) (hb : ∀ e ∈ es.toList, e.born < clock)
    (h0 : unseen es seen = #[] → wpList P ops Q rest (a.put o.dst (.tuple #[.bool false])) x.val)
    (h1 : ∀ e ∈ unseen es seen, ∀ y : Wd E (pt it (.mapIter (some m) clock (seen.push e.born) clock) :: L), wpList P ops Q rest (a.put o.dst (.tuple #[.bool true, e.key, e.val])) y.val) : wpList P ops Q (o :: rest) a x.val :=
  wpList_plain hgd fun _ hK => by
    unfold Oper.wp execOp
    have hit := Wd.heap0 x
    have hbad : (!seen.isEmpty && !es.isEmpty && es.all (·.born ≥ clock)) = false := by
      by_cases he : es.isEmpty = true
      · simp [he]
      · have : es.all (·.born ≥ clock) = false := by
          cases hall : es.all (·.born ≥ clock) with
          | false => rfl
          | true =>
            have hsz : 0 < es.size := by
              rcases Nat.eq_zero_or_pos es.size with h | h
              · exact absurd (by simp [Array.eq_empty_of_size_eq_zero h]) he
              · exact h
            have h1 := Array.all_eq_true.1 hall 0 hsz
            have h2 := hb es[0] (by simp)
            simp at h1; omega
        simp [this]
    have hold : (es.filter fun e => !seen.contains e.born).filter (·.born < clock) = unseen es seen := by
      show Array.filter (fun x => decide (x.born < clock)) (unseen es seen) = unseen es seen
      rw [Array.filter_eq_self]
      intro e he
      have := hb e (by simpa using (Array.mem_filter.1 he).1)
      simpa using this
    have hnew : (es.filter fun e => !seen.contains e.born).filter (·.born ≥ clock) = #[] := by
      rw [Array.filter_eq_empty_iff]
      intro e he
      have := hb e (by simpa using (Array.mem_filter.1 he).1)
      simp; omega
    have hgetIt : (getObj it).run P x.val = .ok (.mapIter (some m) clock seen clock) x.val := by
      unfold getObj; simp only [Sem.run, hit]
    simp only [ho, hx, Instr.next, Sem.run_bind, hgetIt, Result.andThen_ok, run_getMap hm, hbad, Bool.false_eq_true, if_false, Sem.run_pure, hold, hnew, Array.append_empty]
    by_cases he : unseen es seen = #[]
    · rw [he]
      have hc : (choose (.mapNext 1) : Sem Nat).run P x.val = .ok 0 x.val := by simp [choose, Sem.run, Question.forced]
      simp only [List.size_toArray, List.length_nil, Array.isEmpty, decide_true, if_true, List.map_toArray, List.map_nil, Array.append_empty, List.length_cons, Nat.zero_add, hc, Result.andThen_ok]
      exact hK _ _ (h0 he)
    · have hie : (unseen es seen).isEmpty = false := by simpa using he
      have hsz : 0 < (unseen es seen).size := by
        rcases Nat.eq_zero_or_pos (unseen es seen).size with h | h
        · exact absurd (Array.eq_empty_of_size_eq_zero h) he
        · exact h
      simp only [hie, Bool.false_eq_true, if_false, Array.empty_append, Array.size_map]
      have hc : ∃ k, ∃ y : Wd E (pt it (.mapIter (some m) clock seen clock) :: L), k < (unseen es seen).size ∧ (choose (.mapNext (unseen es seen).size) : Sem Nat).run P x.val = .ok k y.val := by
        by_cases hf : (unseen es seen).size ≤ 1
        · exact ⟨0, x, hsz, by simp [choose, Sem.run, Question.forced, hf]⟩
        · exact ⟨x.val.tape x.val.drawn (.mapNext (unseen es seen).size) % (unseen es seen).size, x.drew, Nat.mod_lt _ hsz, by simp [choose, Sem.run, Question.forced, hf, Question.cut]; rfl⟩
      obtain ⟨k, y, hk, hrun⟩ := hc
      have hgy := Wd.heap0 y
      simp only [hrun, Result.andThen_ok, Array.getElem?_map, hk, Array.getElem?_eq_getElem, Option.map_some]
      have hset : (setObj it (.mapIter (some m) clock (seen.push ((unseen es seen)[k]).born) clock)).run P y.val = .ok () (putObj y.val it (.mapIter (some m) clock (seen.push ((unseen es seen)[k]).born) clock)) := by
        unfold setObj; simp only [Sem.run, hgy]; rfl
      simp only [Sem.run_bind, hset, Result.andThen_ok, Sem.run_pure]
      exact hK _ _ (h1 _ (Array.getElem_mem hk) (y.put0 _))
theorem run_entry {it m : Nat} {es : Array MapEntry} {clock since : Nat} {seen : Array Nat} {e : MapEntry} (w : World) (hit : w.heap[it]? = some (.mapIter (some m) since (seen.push e.born) clock)) (hm : w.heap[m]? = some (.map es clock))
    (he : e ∈ es) (hone : (es.toList.map (·.born)).Nodup) : (Instr.entry (.pointer (some ⟨it, 0, none⟩))).run P w = .ok (.tuple #[e.key, e.val]) w := by
  have hf : es.find? (·.born == e.born) = some e := by
    rw [← Array.find?_toList]
    obtain ⟨i, hi, hie⟩ := List.getElem_of_mem (show e ∈ es.toList by simpa using he)
    rw [List.find?_eq_some_iff_getElem]
    refine ⟨by simp, i, hi, hie, fun j hj => ?_⟩
    have := List.pairwise_iff_getElem.1 hone j i (by simp; simp at hi; omega) (by simpa using hi) hj
    simp only [List.getElem_map, hie] at this
    simpa using this
  unfold Instr.entry
  have h1 : (getObj it).run P w = .ok (.mapIter (some m) since (seen.push e.born) clock) w := by unfold getObj; simp only [Sem.run, hit]
  simp [h1, run_getMap hm, hf]
end
end Go.Proofs.Ytechbidbhoookaa.Sl
