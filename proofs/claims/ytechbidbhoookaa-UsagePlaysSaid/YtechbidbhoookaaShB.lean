/- Package slices at ints: Index, Clone, IndexFunc and DeleteFunc (a predicate that tells whether a number is -1). -/
import Derived.Test.YtechbidbhoookaaShA
import Derived.Test.YtechbidbhoookaaUse1
namespace Go.Proofs.Ytechbidbhoookaa.Use
open Go Go.RowKit Go.Proofs.Ytechbidbhoookaa.Sl

/-- A block holds these numbers at its head. -/
def Holds (cur : Array Value) (vs : List Int) : Prop := ∀ j, j < vs.length → cur[j]? = some (.int .i64 (vs.getD j 0))
def idxInt : Option Nat → Int
  | none => -1
  | some i => i
theorem idx_some {vs : List Int} {v : Int} {k : Nat} (hk : k < vs.length) (h : vs.getD k 0 = v) (hno : ∀ j, j < k → vs.getD j 0 ≠ v) : vs.findIdx? (fun x => decide (x = v)) = some k := by
  rw [List.findIdx?_eq_some_iff_getElem]
  have e : ∀ j (hj : j < vs.length), vs.getD j 0 = vs[j] := fun j hj => by rw [List.getD_eq_getElem?_getD, List.getElem?_eq_getElem hj]; rfl
  exact ⟨hk, by simpa [← e k hk] using h, fun j hj => by simpa [← e j (by omega)] using hno j hj⟩
theorem idx_none {vs : List Int} {v : Int} (hno : ∀ j, j < vs.length → vs.getD j 0 ≠ v) : vs.findIdx? (fun x => decide (x = v)) = none := by
  rw [List.findIdx?_eq_none_iff]
  intro x hx
  obtain ⟨j, hj, rfl⟩ := List.getElem_of_mem hx
  have := hno j hj
  rw [List.getD_eq_getElem?_getD, List.getElem?_eq_getElem hj] at this
  simpa using this
set_option maxRecDepth 100000 in
set_option maxHeartbeats 1000000 in
theorem index_calls {E : World} {L : List HProp} {b cap : Nat} {cur : Array Value} {vs : List Int} (hc : Holds cur vs) (hn : vs.length ≤ 1000000) (v : Int) (x : Wd E (pt b (.cells cur 3 (0, 0)) :: L)) :
    Calls Try.prog 39 #[.slice (some ⟨b, 0, none⟩) vs.length cap, .int .i64 v] x.val fun e w' => e = .returned (.int .i64 (idxInt (vs.findIdx? fun x => decide (x = v)))) ∧ ∃ y : Wd E (pt b (.cells cur 3 (0, 0)) :: L), w' = y.val := by
  have HC := Lib.hid hc; clear hc
  go_enter Try.func39, Try.ntmps39
  go_wp2_with fail
  go_loop [8] (fun n => ∃ k : Nat, k ≤ vs.length ∧ (∀ j, j < k → vs.getD j 0 ≠ v) ∧ n = .int .i64 (k : Int)) (fun n => vs.length - (intOf n).toNat)
  case atStart => exact ⟨0, by omega, fun j hj => by omega, rfl⟩
  case round =>
    obtain ⟨k, hk, hno, rfl⟩ := hrel
    have HN := Lib.hid hno; clear hno
    by_cases hlt : k < vs.length
    · have hck := HC.out k hlt
      generalize hge : vs.getD k 0 = u at hck
      have HG := Lib.hid hge; clear hge
      by_cases he : v = u
      · have he' : (v == u) = true := by simpa using he
        have HE := Lib.hid he; clear he
        go_wp2_with fail
        go_ret
        rw [idx_some hlt (HG.out.trans HE.out.symm) HN.out]
        exact ⟨rfl, x, rfl⟩
      · have he' : (v == u) = false := by simpa using he
        have HE := Lib.hid he; clear he
        go_wp2_with fail
        go_round
        case rel =>
          refine ⟨k + 1, by omega, fun j hj => ?_, by go_num⟩
          by_cases h : j < k
          · exact HN.out j h
          · obtain rfl : j = k := by omega
            exact fun e => HE.out (by rw [← e, HG.out])
        case measure => simp [intOf]; omega
    · go_wp2_with fail
      go_ret
      rw [idx_none fun j hj => HN.out j (by omega)]
      exact ⟨rfl, x, rfl⟩

theorem elemI : Elem Try.prog 3 1 8 := Elem.mk' (.int .i64 0) (by kernel_rfl) rfl
abbrev ints (vs : List Int) : List Value := vs.map fun n => Value.int .i64 n
theorem ints_get {vs : List Int} {j : Nat} (h : j < vs.length) : (ints vs)[j]? = some (.int .i64 (vs.getD j 0)) := by
  rw [List.getElem?_map, List.getD_eq_getElem?_getD, List.getElem?_eq_getElem h]; rfl
theorem holds_news {w : World} {b : Nat} {T : TypeId} {cur : Array Value} {vs : List Int} (hc : Holds cur vs) (hb : w.heap[b]? = some (.cells cur T (0, 0))) (j : Nat) (v : Value) (hj : (ints vs)[j]? = some v) : w.cell? ((⟨b, 0, none⟩ : Addr).add j) = some v := by
  refine block_news hb j v ?_
  have hj' : j < vs.length := by
    by_cases h : j < vs.length
    · exact h
    · rw [List.getElem?_eq_none (by simp; omega)] at hj; cases hj
  rw [ints_get hj'] at hj
  rw [← hj]
  simpa using hc j hj'
set_option maxRecDepth 100000 in
set_option maxHeartbeats 1000000 in
theorem clone_nil {E : World} {L : List HProp} (x : Wd E L) :
    Calls Try.prog 20 #[.slice none 0 0] x.val fun e w' => e = .returned (.slice none 0 0) ∧ ∃ y : Wd E L, w' = y.val := by
  go_enter Try.func20, Try.ntmps20
  go_wp2_with fail
  go_ret
  exact ⟨rfl, x, rfl⟩
set_option maxRecDepth 100000 in
set_option maxHeartbeats 1000000 in
theorem clone_calls {E : World} {L : List HProp} {b cap : Nat} {cur : Array Value} {vs : List Int} (hc : Holds cur vs) (hn : vs.length ≤ 1000000) (x : Wd E (pt b (.cells cur 3 (0, 0)) :: L)) :
    Calls Try.prog 20 #[.slice (some ⟨b, 0, none⟩) vs.length cap] x.val fun e w' => ∃ v, e = .returned v ∧ v ≠ .slice none 0 0 ∧ ∃ y : Wd E (Row 3 1 v vs.length (ints vs) :: pt b (.cells cur 3 (0, 0)) :: L), w' = y.val := by
  have HC := Lib.hid hc; clear hc
  go_enter Try.func20, Try.ntmps20
  go_wp2_with (first
    | ((with_reducible refine gbuildSlice 40 ?_); go_must (refine wd_buildSlice x rfl 40 3 0 _ rfl #[] (fun w => by kernel_rfl) ?_; intro ob z; obtain ⟨z, hz⟩ := Row.cl (n := 0) (cap := 0) (k := 1) (by omega) (by unfold maxLen; omega) rfl z; rw [hz]; clear hz))
    | ((with_reducible refine gbuiltin .append ?_); go_must (refine wd_append z rfl _ _ 40 rfl Try.underlying40 elemI rfl rfl (news := ints vs) (m := vs.length) (by simp) (fun j v hj => holds_news HC.out (Wd.heap1 z) j v hj) (by intro u hu; obtain ⟨q, _, rfl⟩ := List.mem_map.1 hu; rfl) (by unfold maxLen; omega) (by omega) ?_; intro v2 z hnil)))
  go_ret
  have hne : v2 ≠ .slice none 0 0 := fun h => by cases (hnil h).1
  exact ⟨v2, rfl, hne, z.cast (by simp), rfl⟩

/-! ### DeleteFunc of what is -1 -/
set_option maxRecDepth 100000 in
set_option maxHeartbeats 1000000 in
theorem isDead_calls {E : World} {L : List HProp} (x : Wd E L) (n : Int) :
    Calls Try.prog 48 #[.int .i64 n] x.val fun e w' => e = .returned (.bool (n == -1)) ∧ ∃ y : Wd E L, w' = y.val := by
  go_enter Try.func48, Try.ntmps48
  go_wp2_with fail
  go_ret
  exact ⟨rfl, x, rfl⟩
abbrev deadF : Value := .func (.func 48) #[] #[]
set_option maxRecDepth 100000 in
set_option maxHeartbeats 1000000 in
theorem indexFunc_calls {E : World} {L : List HProp} {b cap : Nat} {cur : Array Value} {vs : List Int} (hc : Holds cur vs) (hn : vs.length ≤ 1000000) (x : Wd E (pt b (.cells cur 3 (0, 0)) :: L)) :
    Calls Try.prog 53 #[.slice (some ⟨b, 0, none⟩) vs.length cap, deadF] x.val fun e w' => e = .returned (.int .i64 (idxInt (vs.findIdx? fun x => decide (x = -1)))) ∧ ∃ y : Wd E (pt b (.cells cur 3 (0, 0)) :: L), w' = y.val := by
  have HC := Lib.hid hc; clear hc
  go_enter Try.func53, Try.ntmps53
  go_wp2_with fail
  go_loopw [8] (fun n wr => ∃ k : Nat, k ≤ vs.length ∧ (∀ j, j < k → vs.getD j 0 ≠ -1) ∧ n = .int .i64 (k : Int) ∧ ∃ u : Wd E (pt b (.cells cur 3 (0, 0)) :: L), wr = u.val) (fun n _ => vs.length - (intOf n).toNat)
  case atStart => exact ⟨0, by omega, fun j hj => by omega, rfl, x, rfl⟩
  case round =>
    obtain ⟨k, hk, hno, rfl, u, rfl⟩ := hrel
    have HN := Lib.hid hno; clear hno
    by_cases hlt : k < vs.length
    · have hck := HC.out k hlt
      generalize hge : vs.getD k 0 = v at hck
      have HG := Lib.hid hge; clear hge
      have HD := Lib.hid (fun (u : Wd E (pt b (.cells cur 3 (0, 0)) :: L)) => isDead_calls u v)
      by_cases he : v = -1
      · subst he
        go_wp2_with fail
        refine (HD.out u).mono ?_; rintro e w' ⟨rfl, u, rfl⟩
        go_wp2_with fail
        go_ret
        rw [idx_some hlt HG.out HN.out]
        exact ⟨rfl, u, rfl⟩
      · have he' : (v == -1) = false := by simpa using he
        rw [he'] at HD
        have HE := Lib.hid he; clear he he'
        go_wp2_with fail
        refine (HD.out u).mono ?_; rintro e w' ⟨rfl, u, rfl⟩
        go_wp2_with fail
        refine ⟨⟨k + 1, by omega, fun j hj => ?_, rfl, u, rfl⟩, by simp [intOf]; omega⟩
        by_cases h : j < k
        · exact HN.out j h
        · obtain rfl : j = k := by omega
          rw [HG.out]; exact HE.out
    · go_wp2_with fail
      go_ret
      rw [idx_none fun j hj => HN.out j (by omega)]
      exact ⟨rfl, u, rfl⟩
end Go.Proofs.Ytechbidbhoookaa.Use
