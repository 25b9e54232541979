/- Package bits: what its methods do to the block that holds a map of places. -/
import Derived.Test.YticilcmplgimpaaDoorSl
import Derived.Test.YticilcmplgimpaaDoorRows
import Derived.Test.YticilcmplgimpaaDoorLaws
import Derived.Lib.TrailingZeros
namespace Go.Proofs.YticilcmplgimpaaDoor.Bits
open Go Go.RowKit Go.Proofs.YticilcmplgimpaaDoor.Sl

/-- The number whose low k bits are f's. -/
def wd (f : Nat → Bool) : Nat → Nat
  | 0 => 0
  | k + 1 => wd f k + (if f k then 2 ^ k else 0)
theorem wd_lt (f : Nat → Bool) : ∀ k, wd f k < 2 ^ k
  | 0 => by simp [wd]
  | k + 1 => by
    have := wd_lt f k
    simp only [wd, Nat.pow_succ]
    split <;> omega
theorem testBit_wd (f : Nat → Bool) : ∀ k i, (wd f k).testBit i = (decide (i < k) && f i)
  | 0, i => by simp [wd]
  | k + 1, i => by
    have hlt := wd_lt f k
    have ih := testBit_wd f k i
    simp only [wd]
    by_cases hf : f k = true
    · rw [if_pos hf, Nat.add_comm]
      by_cases h : i < k
      · rw [Nat.testBit_two_pow_add_gt h, ih]
        simp [h, Nat.lt_succ_of_lt h]
      · by_cases h' : i = k
        · subst h'
          rw [Nat.testBit_two_pow_add_eq, ih]
          simp [hf]
        · rw [Nat.testBit_lt_two_pow (Nat.lt_of_lt_of_le (m := 2 ^ (k + 1)) (by rw [Nat.pow_succ]; omega) (Nat.pow_le_pow_right (by omega) (by omega)))]
          simp [show ¬ i < k + 1 by omega]
    · rw [if_neg hf, Nat.add_zero, ih]
      by_cases h : i < k
      · simp [h, Nat.lt_succ_of_lt h]
      · by_cases h' : i = k
        · subst h'; simp at hf; simp [hf]
        · simp [h, show ¬ i < k + 1 by omega]
def word (l : List Bool) (j : Nat) : Nat := wd (fun t => l.getD (64 * j + t) false) 64
theorem word_lt (l : List Bool) (j : Nat) : word l j < 18446744073709551616 := wd_lt _ 64
def arr (l : List Bool) : Array Value := ((List.range 1024).map fun j => Value.int .u64 (word l j)).toArray ++ #[.int .i64 (l.length : Int), .int .i64 (l.count true : Int)]
theorem arr_size (l : List Bool) : (arr l).size = 1026 := by simp [arr]
theorem arr_n (l : List Bool) : (arr l)[1024]? = some (.int .i64 (l.length : Int)) := by
  unfold arr; rw [Array.getElem?_append_right (by simp)]; simp
theorem arr_k (l : List Bool) : (arr l)[1025]? = some (.int .i64 (l.count true : Int)) := by
  unfold arr; rw [Array.getElem?_append_right (by simp)]; simp
theorem arr_w (l : List Bool) (j : Nat) (h : j < 1024) : (arr l)[j]? = some (.int .u64 (word l j : Int)) := by
  unfold arr; rw [Array.getElem?_append_left (by simpa using h)]; simp [h]
theorem arr_ext {c : Array Value} {l : List Bool} (hs : c.size = 1026) (hw : ∀ j, j < 1024 → c[j]? = some (.int .u64 (word l j : Int)))
    (hn : c[1024]? = some (.int .i64 (l.length : Int))) (hk : c[1025]? = some (.int .i64 (l.count true : Int))) : c = arr l := by
  apply Array.ext_getElem?
  intro i
  by_cases h : i < 1024
  · rw [hw i h, arr_w l i h]
  · by_cases h1 : i = 1024
    · rw [h1, hn, arr_n]
    · by_cases h2 : i = 1025
      · rw [h2, hk, arr_k]
      · rw [Array.getElem?_eq_none (by omega), Array.getElem?_eq_none (by rw [arr_size]; omega)]
/-- The block that is a map of places. -/
abbrev obj (l : List Bool) : Obj := .cells (arr l) 62 (0, 0)
abbrev ptr (b : Nat) : Value := .pointer (some ⟨b, 0, none⟩)

set_option maxHeartbeats 400000 in
theorem in_calls {E : World} {L : List HProp} (x : Wd E L) (b : Nat) (i n : Int) (hn : ∀ y : Wd E L, y.val.cell? ⟨b, 1024, none⟩ = some (.int .i64 n)) :
    Calls Tryd.prog 47 #[ptr b, .int .i64 i] x.val fun e w' => e = .returned (.bool (decide (0 ≤ i) && decide (i < n))) ∧ ∃ y : Wd E L, w' = y.val := by
  by_cases h0 : 0 ≤ i
  all_goals
    go_enter Tryd.func47, Tryd.ntmps47
    go_wp2
    go_ret
    exact ⟨by simp; try omega, x, rfl⟩

/-- A class of worlds in which block b is the map of the places l. -/
def At (E : World) (L : List HProp) (b : Nat) (l : List Bool) : Prop := ∀ y : Wd E L, y.val.heap[b]? = some (obj l)
theorem At.n {E : World} {L : List HProp} {b : Nat} {l : List Bool} (h : At E L b l) (y : Wd E L) : y.val.cell? ⟨b, 1024, none⟩ = some (.int .i64 (l.length : Int)) := by
  rw [Wd.cell_of (h y), arr_n]
theorem At.k {E : World} {L : List HProp} {b : Nat} {l : List Bool} (h : At E L b l) (y : Wd E L) : y.val.cell? ⟨b, 1025, none⟩ = some (.int .i64 (l.count true : Int)) := by
  rw [Wd.cell_of (h y), arr_k]
theorem At.w {E : World} {L : List HProp} {b : Nat} {l : List Bool} (h : At E L b l) (j : Nat) (hj : j < 1024) (y : Wd E L) : y.val.cell? ⟨b, j, none⟩ = some (.int .u64 (word l j : Int)) := by
  rw [Wd.cell_of (h y), arr_w l j hj]

theorem bit_word (l : List Bool) (i : Nat) : (bits .and .u64 ((word l (i / 64) : Int) / 2 ^ (i % 64)) 1 == 1) = l.getD i false := by
  have h1 : ((word l (i / 64) : Int) / 2 ^ (i % 64)) = ((word l (i / 64) / 2 ^ (i % 64) : Nat) : Int) := by simp
  have h2 : word l (i / 64) / 2 ^ (i % 64) < 18446744073709551616 := Nat.lt_of_le_of_lt (Nat.div_le_self _ _) (word_lt _ _)
  rw [h1, show (1 : Int) = ((1 : Nat) : Int) from rfl, u64_and_nat _ _ h2 (by omega), nat_mask1]
  have h3 := testBit_wd (fun t => l.getD (64 * (i / 64) + t) false) 64 (i % 64)
  rw [Nat.testBit_eq_decide_div_mod_eq] at h3
  have h4 : 64 * (i / 64) + i % 64 = i := Nat.div_add_mod i 64
  rw [h4] at h3
  simp only [show i % 64 < 64 by omega, decide_true, Bool.true_and] at h3
  rw [← h3]
  unfold word
  generalize wd _ 64 / 2 ^ (i % 64) % 2 = n
  by_cases e : n = 1
  · subst e; rfl
  · simp [e]; omega

set_option maxHeartbeats 400000 in
theorem has_yes {E : World} {L : List HProp} (x : Wd E L) (b : Nat) (l : List Bool) (i : Nat) (H : At E L b l) (hl : l.length ≤ 65536) (hi : i < l.length) :
    Calls Tryd.prog 40 #[ptr b, .int .i64 (i : Int)] x.val fun e w' => e = .returned (.bool (l.getD i false)) ∧ ∃ y : Wd E L, w' = y.val := by
  have hw := H.w (i / 64) (by omega)
  have hn := H.n
  go_enter Tryd.func40, Tryd.ntmps40
  go_wp2_with fail
  refine (in_calls x b _ _ hn).mono ?_; rintro e w' ⟨rfl, y, rfl⟩
  go_wp2_with fail
  go_ret
  exact ⟨congrArg (fun t => Ending.returned (.bool t)) (bit_word l i), y, rfl⟩
theorem has_no {E : World} {L : List HProp} (x : Wd E L) (b : Nat) (l : List Bool) (i : Int) (H : At E L b l) (hi : ¬ (0 ≤ i ∧ i < l.length)) :
    Calls Tryd.prog 40 #[ptr b, .int .i64 i] x.val fun e w' => e = .returned (.bool false) ∧ ∃ y : Wd E L, w' = y.val := by
  have hn := H.n
  have hf : (decide (0 ≤ i) && decide (i < (l.length : Int))) = false := by
    by_cases h : 0 ≤ i
    · have : ¬ i < (l.length : Int) := fun h' => hi ⟨h, h'⟩
      simp [this]
    · simp [h]
  go_enter Tryd.func40, Tryd.ntmps40
  go_wp2_with fail
  refine (in_calls x b _ _ hn).mono ?_; rintro e w' ⟨rfl, y, rfl⟩
  rw [hf]
  go_wp2_with fail
  go_ret
  exact ⟨rfl, y, rfl⟩
/-- Is place i there, and taken? -/
def hasB (l : List Bool) (i : Int) : Bool := if 0 ≤ i then l.getD i.toNat false else false
theorem has_any {E : World} {L : List HProp} (x : Wd E L) (b : Nat) (l : List Bool) (i : Int) (H : At E L b l) (hl : l.length ≤ 65536) :
    Calls Tryd.prog 40 #[ptr b, .int .i64 i] x.val fun e w' => e = .returned (.bool (hasB l i)) ∧ ∃ y : Wd E L, w' = y.val := by
  unfold hasB
  by_cases h : 0 ≤ i
  · obtain ⟨n, rfl⟩ := Int.eq_ofNat_of_zero_le h
    rw [if_pos h]
    by_cases h' : n < l.length
    · exact has_yes x b l n H hl h'
    · rw [show l.getD (n : Int).toNat false = false by simp [List.getElem?_eq_none (show l.length ≤ n by omega)]]
      exact has_no x b l _ H (by omega)
  · rw [if_neg h]
    exact has_no x b l _ H (by omega)

theorem wd_congr {f g : Nat → Bool} : ∀ k, (∀ t, t < k → f t = g t) → wd f k = wd g k
  | 0, _ => rfl
  | k + 1, h => by
    simp only [wd]
    rw [wd_congr k (fun t ht => h t (by omega)), h k (by omega)]
theorem word_set_other (l : List Bool) (i j : Nat) (v : Bool) (h : j ≠ i / 64) : word (l.set i v) j = word l j := by
  refine wd_congr 64 fun t ht => ?_
  simp only [List.getD_eq_getElem?_getD, List.getElem?_set]
  rw [if_neg (by omega)]
theorem word_set_true (l : List Bool) (i : Nat) (hi : i < l.length) : word (l.set i true) (i / 64) = word l (i / 64) ||| 2 ^ (i % 64) := by
  apply Nat.eq_of_testBit_eq
  intro t
  unfold word
  rw [Nat.testBit_or, testBit_wd, testBit_wd, Nat.testBit_two_pow]
  by_cases h : t < 64
  · by_cases h' : i % 64 = t
    · have e : 64 * (i / 64) + t = i := by omega
      simp [h, h', e, hi]
    · have e : i ≠ 64 * (i / 64) + t := by omega
      simp [h, h', e]
  · have : ¬ i % 64 = t := by omega
    simp [h, this]
theorem word_set_false (l : List Bool) (i : Nat) : word (l.set i false) (i / 64) = word l (i / 64) &&& (18446744073709551615 - 2 ^ (i % 64)) := by
  have hp : 2 ^ (i % 64) ≤ 18446744073709551615 := by
    have : 2 ^ (i % 64) < 2 ^ 64 := Nat.pow_lt_pow_right (by omega) (by omega)
    omega
  apply Nat.eq_of_testBit_eq
  intro t
  unfold word
  rw [Nat.testBit_and, testBit_wd, testBit_wd]
  have hq : (18446744073709551615 - 2 ^ (i % 64)).testBit t = (decide (t < 64) && !decide (i % 64 = t)) := by
    have h1 : (18446744073709551615 - 2 ^ (i % 64)) = 2 ^ 64 - (2 ^ (i % 64) + 1) := by omega
    rw [h1, Nat.testBit_two_pow_sub_succ (Nat.pow_lt_pow_right (by omega) (by omega)), Nat.testBit_two_pow]
  rw [hq]
  by_cases h : t < 64
  · by_cases h' : i % 64 = t
    · have e : 64 * (i / 64) + t = i := by omega
      simp only [h, h', e, List.getD_eq_getElem?_getD, List.getElem?_set]
      by_cases hi : i < l.length <;> simp [hi]
    · have e : i ≠ 64 * (i / 64) + t := by omega
      simp [h, h', e]
  · simp [h]
theorem or_int (l : List Bool) (i : Nat) : bits .or .u64 (word l (i / 64) : Int) (IntKind.u64.wrap (2 ^ (i % 64))) = ((word l (i / 64) ||| 2 ^ (i % 64) : Nat) : Int) := by
  have h2 : 2 ^ (i % 64) < 18446744073709551616 := by
    have : 2 ^ (i % 64) < 2 ^ 64 := Nat.pow_lt_pow_right (by omega) (by omega)
    omega
  have h1 : IntKind.u64.wrap (2 ^ (i % 64)) = ((2 ^ (i % 64) : Nat) : Int) := by
    have e : (2 : Int) ^ (i % 64) = ((2 ^ (i % 64) : Nat) : Int) := by simp
    rw [e, IntKind.wrap_u64, Int.emod_eq_of_lt (Int.natCast_nonneg _) (by omega)]
  rw [h1, u64_or_nat _ _ (word_lt _ _) h2]
theorem andNot_int (l : List Bool) (i : Nat) : bits .andNot .u64 (word l (i / 64) : Int) (IntKind.u64.wrap (2 ^ (i % 64))) = ((word l (i / 64) &&& (18446744073709551615 - 2 ^ (i % 64)) : Nat) : Int) := by
  have h2 : 2 ^ (i % 64) < 18446744073709551616 := by
    have : 2 ^ (i % 64) < 2 ^ 64 := Nat.pow_lt_pow_right (by omega) (by omega)
    omega
  have h1 : IntKind.u64.wrap (2 ^ (i % 64)) = ((2 ^ (i % 64) : Nat) : Int) := by
    have e : (2 : Int) ^ (i % 64) = ((2 ^ (i % 64) : Nat) : Int) := by simp
    rw [e, IntKind.wrap_u64, Int.emod_eq_of_lt (Int.natCast_nonneg _) (by omega)]
  rw [h1, u64_andNot_nat _ _ (word_lt _ _) h2]
theorem arr_set (l : List Bool) (i : Nat) (v : Bool) (X Y : Int) (hi : i < l.length) (hl : l.length ≤ 65536) (hX : X = (word (l.set i v) (i / 64) : Int)) (hY : Y = ((l.set i v).count true : Int)) :
    ((arr l).setIfInBounds (i / 64) (.int .u64 X)).setIfInBounds 1025 (.int .i64 Y) = arr (l.set i v) := by
  have hs := arr_size l
  apply arr_ext
  · simp [hs]
  · intro j hj
    rw [Array.getElem?_setIfInBounds, if_neg (by omega), Array.getElem?_setIfInBounds]
    by_cases h : i / 64 = j
    · rw [if_pos h, if_pos (by omega), hX, h]
    · rw [if_neg h, arr_w l j hj, word_set_other l i j v (fun e => h e.symm)]
  · rw [Array.getElem?_setIfInBounds, if_neg (by omega), Array.getElem?_setIfInBounds, if_neg (by omega), arr_n]
    simp
  · rw [Array.getElem?_setIfInBounds, if_pos rfl, if_pos (by simp [hs]), hY]
theorem count_le (l : List Bool) : l.count true ≤ l.length := List.count_le_length
theorem count_set_true (l : List Bool) (i : Nat) (hi : i < l.length) (hf : l.getD i false = false) : (l.set i true).count true = l.count true + 1 := by
  have h : l[i] = false := by simpa [List.getD_eq_getElem?_getD, hi] using hf
  rw [List.count_set hi, h]; simp
theorem count_set_false (l : List Bool) (i : Nat) (hi : i < l.length) (hf : l.getD i false = true) : (l.set i false).count true = l.count true - 1 ∧ 1 ≤ l.count true := by
  have h : l[i] = true := by simpa [List.getD_eq_getElem?_getD, hi] using hf
  have hm : true ∈ l := h ▸ List.getElem_mem hi
  have := List.count_pos_iff.2 hm
  rw [List.count_set hi, h]; simp; omega

set_option maxHeartbeats 400000 in
theorem takeAt_yes {E : World} {L : List HProp} (b : Nat) (l : List Bool) (i : Nat) (hl : l.length ≤ 65536) (hi : i < l.length) (hf : l.getD i false = false) (x : Wd E (pt b (obj l) :: L)) :
    Calls Tryd.prog 36 #[ptr b, .int .i64 (i : Int)] x.val fun e w' => e = .returned (.int .i64 0) ∧ ∃ y : Wd E (pt b (obj (l.set i true)) :: L), w' = y.val := by
  have H : At E (pt b (obj l) :: L) b l := fun y => Wd.heap0 y
  have hw := H.w (i / 64) (by omega)
  have hn := H.n
  have hk := arr_k l
  have hk' : ∀ v, ((arr l).setIfInBounds (i / 64) v)[1025]? = some (.int .i64 (l.count true : Int)) := fun v => by rw [Array.getElem?_setIfInBounds, if_neg (by omega), arr_k]
  have hc0 : (0 : Int) ≤ l.count true := by omega
  have hc1 : (l.count true : Int) ≤ 65536 := by have := count_le l; omega
  have hb := has_yes (i := i) (H := H) (hl := hl) (hi := hi)
  rw [hf] at hb
  go_enter Tryd.func36, Tryd.ntmps36
  go_wp2_with fail
  refine (in_calls x b _ _ hn).mono ?_; rintro e w' ⟨rfl, y, rfl⟩
  go_wp2_with fail
  refine (hb y).mono ?_; rintro e w' ⟨rfl, z, rfl⟩
  go_wp2_with fail
  refine wp_region_wd_tail z 14 (by kernel_rfl) (by kernel_rfl) ?_
  simp only [List.take_succ_cons, List.take_zero, List.drop_succ_cons, List.drop_zero]
  have ne : Nonempty (Wd E (pt b (obj l) :: L)) := ⟨z⟩
  repeat (go_big_quiet_step (fail))
  refine wpQuiet_nil ?_
  intro z
  go_wp2_with fail
  go_ret
  exact ⟨rfl, Wd.back (by rw [arr_set l i true _ _ hi hl (by rw [word_set_true l i hi, or_int]) (by rw [count_set_true l i hi hf]; simp)])⟩

/-- TakeAt's answer. -/
def takeCode (l : List Bool) (i : Int) : Int := if 0 ≤ i ∧ i < l.length then (if l.getD i.toNat false then 9 else 0) else 3
def takeNext (l : List Bool) (i : Int) : List Bool := if takeCode l i = 0 then l.set i.toNat true else l
def freeCode (l : List Bool) (i : Int) : Int := if 0 ≤ i ∧ i < l.length then (if l.getD i.toNat false then 0 else 9) else 3
def freeNext (l : List Bool) (i : Int) : List Bool := if freeCode l i = 0 then l.set i.toNat false else l
theorem inB (l : List Bool) (i : Int) : (decide (0 ≤ i) && decide (i < (l.length : Int))) = decide (0 ≤ i ∧ i < l.length) := by
  by_cases h : 0 ≤ i <;> simp [h]
set_option maxHeartbeats 400000 in
theorem takeAt_any {E : World} {L : List HProp} (b : Nat) (l : List Bool) (i : Int) (hl : l.length ≤ 65536) (x : Wd E (pt b (obj l) :: L)) :
    Calls Tryd.prog 36 #[ptr b, .int .i64 i] x.val fun e w' => e = .returned (.int .i64 (takeCode l i)) ∧ ∃ y : Wd E (pt b (obj (takeNext l i)) :: L), w' = y.val := by
  have H : At E (pt b (obj l) :: L) b l := fun y => Wd.heap0 y
  have hn := H.n
  by_cases hi : 0 ≤ i ∧ i < l.length
  · obtain ⟨n, rfl⟩ := Int.eq_ofNat_of_zero_le hi.1
    have hi' : n < l.length := by omega
    by_cases hf : l.getD n false = true
    · have e1 : takeCode l n = 9 := by unfold takeCode; rw [if_pos hi]; simp only [Int.toNat_natCast, hf]; rfl
      have e2 : takeNext l n = l := by unfold takeNext; rw [if_neg (by rw [e1]; decide)]
      rw [e1, e2]
      have hb := has_yes (i := n) (H := H) (hl := hl) (hi := hi')
      rw [hf] at hb
      have hd : (decide (0 ≤ (n : Int)) && decide ((n : Int) < (l.length : Int))) = true := by rw [inB]; simp [hi']
      clear hi
      go_enter Tryd.func36, Tryd.ntmps36
      go_wp2_with fail
      refine (in_calls x b _ _ hn).mono ?_; rintro e w' ⟨rfl, y, rfl⟩
      rw [hd]
      go_wp2_with fail
      refine (hb y).mono ?_; rintro e w' ⟨rfl, z, rfl⟩
      go_wp2_with fail
      go_ret
      exact ⟨rfl, z, rfl⟩
    · have hf' : l.getD n false = false := by simpa using hf
      have e1 : takeCode l n = 0 := by unfold takeCode; rw [if_pos hi]; simp only [Int.toNat_natCast, hf']; rfl
      have e2 : takeNext l n = l.set n true := by unfold takeNext; rw [if_pos e1]; simp
      rw [e1, e2]
      exact takeAt_yes b l n hl hi' hf' x
  · have e1 : takeCode l i = 3 := by unfold takeCode; rw [if_neg hi]
    have e2 : takeNext l i = l := by unfold takeNext; rw [if_neg (by rw [e1]; decide)]
    have hd : (decide (0 ≤ i) && decide (i < (l.length : Int))) = false := by rw [inB]; simpa using hi
    rw [e1, e2]
    clear hi
    go_enter Tryd.func36, Tryd.ntmps36
    go_wp2_with fail
    refine (in_calls x b _ _ hn).mono ?_; rintro e w' ⟨rfl, y, rfl⟩
    rw [hd]
    go_wp2_with fail
    go_ret
    exact ⟨rfl, y, rfl⟩

set_option maxHeartbeats 400000 in
theorem free_yes {E : World} {L : List HProp} (b : Nat) (l : List Bool) (i : Nat) (hl : l.length ≤ 65536) (hi : i < l.length) (hf : l.getD i false = true) (x : Wd E (pt b (obj l) :: L)) :
    Calls Tryd.prog 38 #[ptr b, .int .i64 (i : Int)] x.val fun e w' => e = .returned (.int .i64 0) ∧ ∃ y : Wd E (pt b (obj (l.set i false)) :: L), w' = y.val := by
  have H : At E (pt b (obj l) :: L) b l := fun y => Wd.heap0 y
  have hw := H.w (i / 64) (by omega)
  have hn := H.n
  have hk := arr_k l
  have hk' : ∀ v, ((arr l).setIfInBounds (i / 64) v)[1025]? = some (.int .i64 (l.count true : Int)) := fun v => by rw [Array.getElem?_setIfInBounds, if_neg (by omega), arr_k]
  have hc0 : (1 : Int) ≤ l.count true := by have := (count_set_false l i hi hf).2; omega
  have hc1 : (l.count true : Int) ≤ 65536 := by have := count_le l; omega
  have hb := has_yes (i := i) (H := H) (hl := hl) (hi := hi)
  rw [hf] at hb
  go_enter Tryd.func38, Tryd.ntmps38
  go_wp2_with fail
  refine (in_calls x b _ _ hn).mono ?_; rintro e w' ⟨rfl, y, rfl⟩
  go_wp2_with fail
  refine (hb y).mono ?_; rintro e w' ⟨rfl, z, rfl⟩
  go_wp2_with fail
  refine wp_region_wd_tail z 14 (by kernel_rfl) (by kernel_rfl) ?_
  simp only [List.take_succ_cons, List.take_zero, List.drop_succ_cons, List.drop_zero]
  have ne : Nonempty (Wd E (pt b (obj l) :: L)) := ⟨z⟩
  repeat (go_big_quiet_step (fail))
  refine wpQuiet_nil ?_
  intro z
  go_wp2_with fail
  go_ret
  exact ⟨rfl, Wd.back (by rw [arr_set l i false _ _ hi hl (by rw [word_set_false l i, andNot_int]) (by rw [(count_set_false l i hi hf).1]; omega)])⟩
set_option maxHeartbeats 400000 in
theorem free_any {E : World} {L : List HProp} (b : Nat) (l : List Bool) (i : Int) (hl : l.length ≤ 65536) (x : Wd E (pt b (obj l) :: L)) :
    Calls Tryd.prog 38 #[ptr b, .int .i64 i] x.val fun e w' => e = .returned (.int .i64 (freeCode l i)) ∧ ∃ y : Wd E (pt b (obj (freeNext l i)) :: L), w' = y.val := by
  have H : At E (pt b (obj l) :: L) b l := fun y => Wd.heap0 y
  have hn := H.n
  by_cases hi : 0 ≤ i ∧ i < l.length
  · obtain ⟨n, rfl⟩ := Int.eq_ofNat_of_zero_le hi.1
    have hi' : n < l.length := by omega
    by_cases hf : l.getD n false = false
    · have e1 : freeCode l n = 9 := by unfold freeCode; rw [if_pos hi]; simp only [Int.toNat_natCast, hf]; rfl
      have e2 : freeNext l n = l := by unfold freeNext; rw [if_neg (by rw [e1]; decide)]
      rw [e1, e2]
      have hb := has_yes (i := n) (H := H) (hl := hl) (hi := hi')
      rw [hf] at hb
      have hd : (decide (0 ≤ (n : Int)) && decide ((n : Int) < (l.length : Int))) = true := by rw [inB]; simp [hi']
      clear hi
      go_enter Tryd.func38, Tryd.ntmps38
      go_wp2_with fail
      refine (in_calls x b _ _ hn).mono ?_; rintro e w' ⟨rfl, y, rfl⟩
      rw [hd]
      go_wp2_with fail
      refine (hb y).mono ?_; rintro e w' ⟨rfl, z, rfl⟩
      go_wp2_with fail
      go_ret
      exact ⟨rfl, z, rfl⟩
    · have hf' : l.getD n false = true := by simpa using hf
      have e1 : freeCode l n = 0 := by unfold freeCode; rw [if_pos hi]; simp only [Int.toNat_natCast, hf']; rfl
      have e2 : freeNext l n = l.set n false := by unfold freeNext; rw [if_pos e1]; simp
      rw [e1, e2]
      exact free_yes b l n hl hi' hf' x
  · have e1 : freeCode l i = 3 := by unfold freeCode; rw [if_neg hi]
    have e2 : freeNext l i = l := by unfold freeNext; rw [if_neg (by rw [e1]; decide)]
    have hd : (decide (0 ≤ i) && decide (i < (l.length : Int))) = false := by rw [inB]; simpa using hi
    rw [e1, e2]
    clear hi
    go_enter Tryd.func38, Tryd.ntmps38
    go_wp2_with fail
    refine (in_calls x b _ _ hn).mono ?_; rintro e w' ⟨rfl, y, rfl⟩
    rw [hd]
    go_wp2_with fail
    go_ret
    exact ⟨rfl, y, rfl⟩
theorem len_calls {E : World} {L : List HProp} (x : Wd E L) (b : Nat) (l : List Bool) (H : At E L b l) :
    Calls Tryd.prog 45 #[ptr b] x.val fun e w' => e = .returned (.int .i64 (l.length : Int)) ∧ ∃ y : Wd E L, w' = y.val := by
  have hn := H.n
  go_enter Tryd.func45, Tryd.ntmps45
  go_wp2_with fail
  go_ret
  exact ⟨rfl, x, rfl⟩
theorem count_calls {E : World} {L : List HProp} (x : Wd E L) (b : Nat) (l : List Bool) (H : At E L b l) :
    Calls Tryd.prog 44 #[ptr b] x.val fun e w' => e = .returned (.int .i64 (l.count true : Int)) ∧ ∃ y : Wd E L, w' = y.val := by
  have hn := H.k
  go_enter Tryd.func44, Tryd.ntmps44
  go_wp2_with fail
  go_ret
  exact ⟨rfl, x, rfl⟩

/-! ### New, Clone -/
def zarr : Array Value := (List.replicate 1024 (Value.int .u64 0)).toArray ++ #[.int .i64 0, .int .i64 0]
theorem zero_cells : Tryd.zeroCells62 = zarr := by kernel_rfl
theorem zarr_size : zarr.size = 1026 := by kernel_rfl
theorem zarr_w (j : Nat) (h : j < 1024) : zarr[j]? = some (.int .u64 0) := by
  unfold zarr
  rw [Array.getElem?_append_left (by simpa [-List.reduceReplicate] using h)]
  simp [-List.reduceReplicate, h]
theorem zero_map (w : World) : (zeroValue 62).run Tryd.prog w = .ok (.agg zarr) w := by kernel_rfl
theorem word_none (n j : Nat) : word (List.replicate n false) j = 0 := by
  apply Nat.eq_of_testBit_eq
  intro t
  unfold word
  rw [testBit_wd, Nat.zero_testBit]
  simp [List.getElem?_replicate]
  intro _
  split <;> rfl
theorem zero_arr (n : Nat) : Tryd.zeroCells62.setIfInBounds 1024 (.int .i64 (n : Int)) = arr (List.replicate n false) := by
  rw [zero_cells]
  apply arr_ext
  · simp [zarr_size]
  · intro j hj
    rw [word_none, Array.getElem?_setIfInBounds, if_neg (by omega), zarr_w j hj]; rfl
  · rw [Array.getElem?_setIfInBounds, if_pos rfl, if_pos (by rw [zarr_size]; omega)]; simp
  · rw [Array.getElem?_setIfInBounds, if_neg (by omega), List.count_replicate]
    show zarr[1025]? = _
    kernel_rfl
theorem arr_one (l : List Bool) : (arr l).all (·.oneCell') = true := by
  rw [Array.all_eq_true_iff_forall_mem]
  intro v hv
  unfold arr at hv
  simp at hv
  rcases hv with ⟨_, _, rfl⟩ | rfl | rfl <;> rfl
theorem info_map : (Tryd.prog.info? 62).map (·.size) = some 1026 := by kernel_rfl
set_option maxHeartbeats 400000 in
theorem new_calls {E : World} {L : List HProp} (x : Wd E L) (n : Nat) (hn : n ≤ 65536) :
    Calls Tryd.prog 31 #[.int .i64 (n : Int)] x.val fun e w' => ∃ b, e = .returned (ptr b) ∧ ∃ y : Wd E (pt b (obj (List.replicate n false)) :: L), w' = y.val := by
  go_enter Tryd.func31, Tryd.ntmps31
  go_wp2_with fail
  rw [zero_arr]
  go_ret
  exact ⟨_, rfl, x.new _, rfl⟩
set_option maxHeartbeats 400000 in
theorem clone_calls {E : World} {L : List HProp} (x : Wd E L) (b : Nat) (l : List Bool) (H : At E L b l) :
    Calls Tryd.prog 16 #[ptr b] x.val fun e w' => ∃ b', e = .returned (ptr b') ∧ ∃ y : Wd E (pt b' (obj l) :: L), w' = y.val := by
  have hs : (Tryd.prog.info? 62).map (·.size) = some (arr l).size := by rw [arr_size, info_map]
  go_enter Tryd.func16, Tryd.ntmps16
  go_wp2_with (first
    | ((with_reducible refine gload 62 ?_); refine wpList_load_row rfl 62 _ rfl b rfl 62 (arr l) (0, 0) _ (H _) Tryd.underlying62 rfl hs ?_)
    | ((with_reducible refine galloc 62 ?_); refine wd_alloc_at rfl 62 rfl (.agg zarr) zero_map ?_; rw [Wd.new_val]; simp only [Value.cells])
    | ((with_reducible refine gstore 62 ?_); go_must (refine wd_store_row rfl rfl 62 (.tmp 3) (.tmp 6) rfl x.val.heap.size rfl 62 zarr (arr l) (Wd.heap0 _) rfl hs (by rw [zarr_size, arr_size]) (arr_one l) ?_)))
  obtain ⟨y, hy⟩ := Wd.setRow_back (x.new (.cells zarr 62)) (arr l)
  rw [hy]
  go_ret
  exact ⟨_, rfl, y, rfl⟩

end Go.Proofs.YticilcmplgimpaaDoor.Bits
