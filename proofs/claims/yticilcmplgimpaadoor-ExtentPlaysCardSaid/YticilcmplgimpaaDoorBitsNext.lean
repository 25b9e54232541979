/- Package bits: the least free place (Next from nought, Take); math/bits.TrailingZeros64. -/
import Derived.Test.YticilcmplgimpaaDoorBits
import Derived.Lib.Hide
namespace Go.Proofs.YticilcmplgimpaaDoor.Bits
open Go Go.RowKit Go.Proofs.YticilcmplgimpaaDoor.Sl

/-- The table of math/bits lies in the base world. -/
def Table (E : World) : Prop := 0 < E.heap.size ∧ ∀ j, j < 64 → E.cell? ⟨0, j, none⟩ = some (.int .u8 (Lib.deBruijn64tab.getD j 0 : Nat))
theorem tz_key (x a : Nat) (hx : x < 18446744073709551616) (hx0 : x ≠ 0) (hlow : x &&& (18446744073709551616 - x) = a) :
    IntKind.u64.wrap (bits BinOp.and IntKind.u64 (x : Int) (IntKind.u64.wrap (-(x : Int))) * 285870213051353865) / 288230376151711744 = ((a * 285870213051353865 % 18446744073709551616 / 288230376151711744 : Nat) : Int) := by
  have e1 : IntKind.u64.wrap (-(x : Int)) = ((18446744073709551616 - x : Nat) : Int) := by rw [IntKind.wrap_u64]; omega
  rw [e1, u64_and_nat x _ hx (by omega), hlow, IntKind.wrap_u64]
  omega
set_option maxHeartbeats 1000000 in
theorem tz_core {E : World} {L : List HProp} (x : Wd E L) (n k idx : Nat) (hn0 : ((n : Int) == 0) = false)
    (key : IntKind.u64.wrap (bits BinOp.and IntKind.u64 (n : Int) (IntKind.u64.wrap (-(n : Int))) * 285870213051353865) / 288230376151711744 = (idx : Int))
    (hi : idx < 64) (hk : k < 64) (hcell : x.val.cell? ⟨0, idx, none⟩ = some (.int .u8 k)) :
    Calls Tryd.prog 51 #[.int .u64 (n : Int)] x.val fun e w' => e = .returned (.int .i64 k) ∧ ∃ y : Wd E L, w' = y.val := by
  go_enter Tryd.func51, Tryd.ntmps51
  go_wp2_with (simp only [key])
  go_ret
  exact ⟨rfl, x, rfl⟩
theorem tz_zero {E : World} {L : List HProp} (x : Wd E L) :
    Calls Tryd.prog 51 #[.int .u64 0] x.val fun e w' => e = .returned (.int .i64 64) ∧ ∃ y : Wd E L, w' = y.val := by
  go_enter Tryd.func51, Tryd.ntmps51
  go_wp2
  go_ret
  exact ⟨rfl, x, rfl⟩
theorem tz_calls {E : World} {L : List HProp} (hT : Table E) (x : Wd E L) (n : Nat) (hn : n < 18446744073709551616) :
    Calls Tryd.prog 51 #[.int .u64 (n : Int)] x.val fun e w' => e = .returned (.int .i64 (Lib.ctz 64 n : Nat)) ∧ ∃ y : Wd E L, w' = y.val := by
  by_cases hn0 : n = 0
  · subst hn0
    exact tz_zero x
  · obtain ⟨hlow, hk⟩ := Lib.lowest_bit 64 n hn0 hn
    obtain ⟨hi, htab⟩ := Lib.deBruijn64_at _ hk
    have hcell := hT.2 _ hi
    rw [htab] at hcell
    exact tz_core x n _ _ (by simp; omega) (tz_key n _ hn hn0 hlow) hi hk (by rw [x.base_cell _ _ _ hT.1]; exact hcell)
theorem ctz_bit (n : Nat) (h0 : n ≠ 0) (hn : n < 18446744073709551616) : n.testBit (Lib.ctz 64 n) = true ∧ (∀ j, j < Lib.ctz 64 n → n.testBit j = false) ∧ Lib.ctz 64 n < 64 := by
  obtain ⟨m, hm, hlt⟩ := Lib.ctzFrom_spec 64 n (by omega) hn
  have e : Lib.ctz 64 n = Lib.ctzFrom 64 n := by unfold Lib.ctz; rw [if_neg h0]
  rw [e]
  generalize Lib.ctzFrom 64 n = c at *
  refine ⟨?_, fun j hj => ?_, hlt⟩
  · rw [hm, Nat.testBit_two_pow_mul]
    simp
  · rw [hm, Nat.testBit_two_pow_mul]
    simp; omega
def least (l : List Bool) : Option Nat := l.findIdx? (· == false)
/-- What is free among the places of word k, as the machine has it. -/
def freeW (l : List Bool) (k : Nat) : Nat := 18446744073709551615 - word l k
theorem freeW_lt (l : List Bool) (k : Nat) : freeW l k < 18446744073709551616 := by unfold freeW; omega
theorem freeW_bit (l : List Bool) (k t : Nat) (ht : t < 64) : (freeW l k).testBit t = !l.getD (64 * k + t) false := by
  have h1 : freeW l k = 2 ^ 64 - (word l k + 1) := by unfold freeW; have := word_lt l k; omega
  rw [h1, Nat.testBit_two_pow_sub_succ (word_lt l k)]
  unfold word
  rw [testBit_wd]
  simp [ht]
/-- Where the machine finds the first free place from word k on (64 * (k + 1): none in this word). -/
theorem ctz_free (l : List Bool) (k : Nat) :
    (∀ j, 64 * k ≤ j → j < 64 * k + Lib.ctz 64 (freeW l k) → l.getD j false = true) ∧
    (freeW l k ≠ 0 → l.getD (64 * k + Lib.ctz 64 (freeW l k)) false = false ∧ Lib.ctz 64 (freeW l k) < 64) ∧ (freeW l k = 0 → Lib.ctz 64 (freeW l k) = 64) := by
  by_cases h : freeW l k = 0
  · refine ⟨fun j h1 h2 => ?_, fun h' => absurd h h', fun _ => by rw [h]; rfl⟩
    have e : Lib.ctz 64 (freeW l k) = 64 := by rw [h]; rfl
    rw [e] at h2
    have hb := freeW_bit l k (j - 64 * k) (by omega)
    rw [h, Nat.zero_testBit, show 64 * k + (j - 64 * k) = j by omega] at hb
    simpa using hb.symm
  · obtain ⟨h1, h2, h3⟩ := ctz_bit _ h (freeW_lt l k)
    refine ⟨fun j g1 g2 => ?_, fun _ => ⟨?_, h3⟩, fun h' => absurd h' h⟩
    · have hb := freeW_bit l k (j - 64 * k) (by omega)
      rw [h2 _ (by omega), show 64 * k + (j - 64 * k) = j by omega] at hb
      simpa using hb.symm
    · have hb := freeW_bit l k _ h3
      rw [h1] at hb
      simpa using hb.symm
theorem least_some (l : List Bool) (i : Nat) (hi : i < l.length) (hf : l.getD i false = false) (h : ∀ j, j < i → l.getD j false = true) : least l = some i := by
  unfold least
  rw [List.findIdx?_eq_some_iff_getElem]
  have e : l[i] = false := by simpa [List.getD_eq_getElem?_getD, hi] using hf
  refine ⟨hi, by simp [e], fun j hj => ?_⟩
  have := h j hj
  have e' : l[j] = true := by simpa [List.getD_eq_getElem?_getD, show j < l.length by omega] using this
  simp [e']
theorem least_none (l : List Bool) (h : ∀ j, j < l.length → l.getD j false = true) : least l = none := by
  unfold least
  rw [List.findIdx?_eq_none_iff]
  intro x hx
  obtain ⟨i, hi, rfl⟩ := List.getElem_of_mem hx
  have := h i hi
  have e' : l[i] = true := by simpa [List.getD_eq_getElem?_getD, hi] using this
  simp [e']

theorem xor_free (l : List Bool) (k : Nat) : bits .xor .u64 IntKind.u64.max (word l k : Int) = (freeW l k : Int) := by
  have hm : IntKind.u64.max = ((18446744073709551615 : Nat) : Int) := by decide
  rw [hm, u64_xor_nat _ _ (by omega) (word_lt l k)]
  congr 1
  apply Nat.eq_of_testBit_eq
  intro t
  have e : (18446744073709551615 : Nat) = 2 ^ 64 - 1 := by decide
  have h1 : freeW l k = 2 ^ 64 - (word l k + 1) := by unfold freeW; have := word_lt l k; omega
  rw [h1, Nat.testBit_two_pow_sub_succ (word_lt l k), Nat.testBit_xor, e, Nat.testBit_two_pow_sub_one]
  by_cases ht : t < 64
  · simp [ht]
  · have : (word l k).testBit t = false := Nat.testBit_lt_two_pow (Nat.lt_of_lt_of_le (m := 2 ^ 64) (word_lt l k) (Nat.pow_le_pow_right (by omega) (by omega)))
    simp [ht, this]
theorem and_all (n : Nat) (h : n < 18446744073709551616) : bits .and .u64 (n : Int) 18446744073709551615 = (n : Int) := by
  have hm : (18446744073709551615 : Int) = ((18446744073709551615 : Nat) : Int) := by decide
  rw [hm, u64_and_nat _ _ h (by omega)]
  congr 1
  have := Nat.and_two_pow_sub_one_of_lt_two_pow (n := 64) (x := n) (by omega)
  exact this
def NextIs (l : List Bool) (e : Ending) : Prop := match least l with
  | some i => e = .returned (.tuple #[.int .i64 (i : Int), .bool true])
  | none => e = .returned (.tuple #[.int .i64 0, .bool false])
theorem nextIs_some {l : List Bool} {i : Nat} (h : least l = some i) : NextIs l (.returned (.tuple #[.int .i64 (i : Int), .bool true])) := by unfold NextIs; rw [h]
theorem nextIs_none {l : List Bool} (h : least l = none) : NextIs l (.returned (.tuple #[.int .i64 0, .bool false])) := by unfold NextIs; rw [h]
set_option maxRecDepth 100000 in
set_option maxHeartbeats 2000000 in
theorem next_calls {E : World} {L : List HProp} (hT : Table E) (x : Wd E L) (b : Nat) (l : List Bool) (H : At E L b l) (hl : l.length ≤ 65536) :
    Calls Tryd.prog 46 #[ptr b, .int .i64 0] x.val fun e w' => NextIs l e ∧ ∃ y : Wd E L, w' = y.val := by
  have hn := H.n
  go_enter Tryd.func46, Tryd.ntmps46
  go_wp2_with fail
  go_loopw [6] (fun i wr => ∃ k : Nat, k ≤ 1024 ∧ (∀ j, j < 64 * k → j < l.length → l.getD j false = true) ∧ i = .int .i64 (k : Int) ∧ ∃ y : Wd E L, wr = y.val) (fun i _ => 1024 - (intOf i).toNat)
  case atStart => exact ⟨0, by omega, fun j hj => by omega, rfl, x, rfl⟩
  case round =>
    obtain ⟨k, hk, hall, rfl, y, rfl⟩ := hrel
    by_cases hc : k < 1024 ∧ 64 * k < l.length
    · obtain ⟨hc1, hc2⟩ := hc
      have hw := H.w k hc1
      have hx := xor_free l k
      have ha := and_all _ (freeW_lt l k)
      have g := ctz_free l k
      have hct : Lib.ctz 64 (freeW l k) ≤ 64 := by
        by_cases h : freeW l k = 0
        · have := g.2.2 h; omega
        · have := (g.2.1 h).2; omega
      have G := Lib.hid g; have HA := Lib.hid hall
      clear g hall
      by_cases hf : freeW l k = 0
      · have hf1 : ((freeW l k : Int) != 0) = false := by simp [hf]
        have hf2 : ((freeW l k : Int) == 0) = true := by simp [hf]
        have HF := Lib.hid hf; clear hf
        have HN : Hid (∀ j, j < 64 * (k + 1) → j < l.length → l.getD j false = true) := fun j h1 h2 => by
          by_cases h : j < 64 * k
          · exact HA.out j h h2
          · exact G.out.1 j (by omega) (by rw [G.out.2.2 HF.out]; omega)
        by_cases hk0 : k = 0
        · subst hk0
          go_wp2_with fail
          refine (tz_calls hT y _ (freeW_lt l 0)).mono ?_; rintro e w' ⟨rfl, y, rfl⟩
          go_wp2_with fail
          exact ⟨⟨1, by omega, HN.out, rfl, y, rfl⟩, by simp [intOf]⟩
        · have hk1 : ((k : Int) == 0) = false := by simp; omega
          go_wp2_with fail
          refine (tz_calls hT y _ (freeW_lt l k)).mono ?_; rintro e w' ⟨rfl, y, rfl⟩
          go_wp2_with fail
          exact ⟨⟨k + 1, by omega, HN.out, rfl, y, rfl⟩, by simp [intOf]; omega⟩
      · have hf1 : ((freeW l k : Int) != 0) = true := by simp; omega
        have hf2 : ((freeW l k : Int) == 0) = false := by simp; omega
        have HF := Lib.hid hf; clear hf
        by_cases hi : 64 * k + Lib.ctz 64 (freeW l k) < l.length
        · have hi' : (k : Int) * 64 + (Lib.ctz 64 (freeW l k) : Nat) < (l.length : Int) := by omega
          have HL : Hid (least l = some (64 * k + Lib.ctz 64 (freeW l k))) := least_some l _ hi (G.out.2.1 HF.out).1 (fun j hj => by
            by_cases h : j < 64 * k
            · exact HA.out j h (by omega)
            · exact G.out.1 j (by omega) (by omega))
          have HR := Lib.hid (nextIs_some HL.out)
          by_cases hk0 : k = 0
          · subst hk0
            go_wp2_with fail
            refine (tz_calls hT y _ (freeW_lt l 0)).mono ?_; rintro e w' ⟨rfl, y, rfl⟩
            go_wp2_with fail
            go_ret2
            have h := HR.out
            simp only [Nat.mul_zero, Nat.zero_add] at h
            exact ⟨h, y, rfl⟩
          · have hk1 : ((k : Int) == 0) = false := by simp; omega
            go_wp2_with fail
            refine (tz_calls hT y _ (freeW_lt l k)).mono ?_; rintro e w' ⟨rfl, y, rfl⟩
            go_wp2_with fail
            go_ret2
            have h := HR.out
            rw [show ((64 * k + Lib.ctz 64 (freeW l k) : Nat) : Int) = (k : Int) * 64 + (Lib.ctz 64 (freeW l k) : Nat) by omega] at h
            exact ⟨h, y, rfl⟩
        · have hi' : ¬ (k : Int) * 64 + (Lib.ctz 64 (freeW l k) : Nat) < (l.length : Int) := by omega
          have HN : Hid (∀ j, j < 64 * (k + 1) → j < l.length → l.getD j false = true) := fun j h1 h2 => by
            by_cases h : j < 64 * k
            · exact HA.out j h h2
            · exact G.out.1 j (by omega) (by omega)
          by_cases hk0 : k = 0
          · subst hk0
            go_wp2_with fail
            refine (tz_calls hT y _ (freeW_lt l 0)).mono ?_; rintro e w' ⟨rfl, y, rfl⟩
            go_wp2_with fail
            exact ⟨⟨1, by omega, HN.out, rfl, y, rfl⟩, by simp [intOf]⟩
          · have hk1 : ((k : Int) == 0) = false := by simp; omega
            go_wp2_with fail
            refine (tz_calls hT y _ (freeW_lt l k)).mono ?_; rintro e w' ⟨rfl, y, rfl⟩
            go_wp2_with fail
            exact ⟨⟨k + 1, by omega, HN.out, rfl, y, rfl⟩, by simp [intOf]; omega⟩
    · have HN : Hid (NextIs l (.returned (.tuple #[.int .i64 0, .bool false]))) := nextIs_none (least_none l fun j hj => hall j (by omega) hj)
      have HA := Lib.hid hall
      clear hall
      by_cases hc1 : k < 1024
      · have hc2 : ¬ (k : Int) * 64 < (l.length : Int) := by omega
        clear hc
        go_wp2_with fail
        go_ret2
        exact ⟨HN.out, y, rfl⟩
      · clear hc
        go_wp2_with fail
        go_ret2
        exact ⟨HN.out, y, rfl⟩

/-- Take: the least free place, if there is one, is taken. -/
def takeLeast (l : List Bool) : List Bool := match least l with
  | some i => l.set i true
  | none => l
theorem least_spec {l : List Bool} {i : Nat} (h : least l = some i) : i < l.length ∧ l.getD i false = false := by
  unfold least at h
  rw [List.findIdx?_eq_some_iff_getElem] at h
  obtain ⟨hi, h1, _⟩ := h
  exact ⟨hi, by simpa [List.getD_eq_getElem?_getD, hi] using h1⟩
set_option maxHeartbeats 400000 in
theorem take_calls {E : World} {L : List HProp} (hT : Table E) (b : Nat) (l : List Bool) (hl : l.length ≤ 65536) (x : Wd E (pt b (obj l) :: L)) :
    Calls Tryd.prog 32 #[ptr b] x.val fun e w' => NextIs l e ∧ ∃ y : Wd E (pt b (obj (takeLeast l)) :: L), w' = y.val := by
  have H : At E (pt b (obj l) :: L) b l := fun y => Wd.heap0 y
  unfold NextIs takeLeast
  cases hle : least l with
  | none =>
    have hc := next_calls hT x b l H hl
    unfold NextIs at hc
    rw [hle] at hc
    go_enter Tryd.func32, Tryd.ntmps32
    go_wp2_with fail
    refine hc.mono ?_; rintro e w' ⟨rfl, y, rfl⟩
    go_wp2_with fail
    go_ret2
    exact ⟨rfl, y, rfl⟩
  | some i =>
    have hc := next_calls hT x b l H hl
    unfold NextIs at hc
    rw [hle] at hc
    obtain ⟨hi, hf⟩ := least_spec hle
    have HT := Lib.hid (takeAt_yes (E := E) (L := L) b l i hl hi hf)
    clear hf hle
    go_enter Tryd.func32, Tryd.ntmps32
    go_wp2_with fail
    refine hc.mono ?_; rintro e w' ⟨rfl, y, rfl⟩
    go_wp2_with fail
    refine (HT.out y).mono ?_; rintro e w' ⟨rfl, z, rfl⟩
    go_wp2_with fail
    go_ret2
    exact ⟨rfl, z, rfl⟩

end Go.Proofs.YticilcmplgimpaaDoor.Bits
