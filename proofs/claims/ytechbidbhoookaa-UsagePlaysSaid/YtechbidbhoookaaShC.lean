/- Package slices at ints: DeleteFunc of what is -1. -/
import Derived.Test.YtechbidbhoookaaShB
namespace Go.Proofs.Ytechbidbhoookaa.Use
open Go Go.RowKit Go.Proofs.Ytechbidbhoookaa.Sl

/-- What is not -1. -/
def kept (vs : List Int) : List Int := vs.filter fun x => decide (x ≠ -1)
theorem kept_snoc (vs : List Int) (x : Int) : kept (vs ++ [x]) = if x = -1 then kept vs else kept vs ++ [x] := by
  unfold kept
  rw [List.filter_append]
  by_cases h : x = -1 <;> simp [h]
theorem take_snoc {vs : List Int} {k : Nat} (h : k < vs.length) : vs.take (k + 1) = vs.take k ++ [vs.getD k 0] := by
  rw [List.take_succ_eq_append_getElem h, List.getD_eq_getElem?_getD, List.getElem?_eq_getElem h]; rfl
theorem kept_all {vs : List Int} (h : ∀ x ∈ vs, x ≠ -1) : kept vs = vs := by
  unfold kept
  rw [List.filter_eq_self]
  intro x hx
  simpa using h x hx
theorem kept_first {vs : List Int} {k : Nat} (h : vs.findIdx? (fun x => decide (x = -1)) = some k) : k < vs.length ∧ kept (vs.take (k + 1)) = vs.take k := by
  rw [List.findIdx?_eq_some_iff_getElem] at h
  obtain ⟨hk, h1, h2⟩ := h
  refine ⟨hk, ?_⟩
  rw [take_snoc hk, kept_snoc, if_pos (by rw [List.getD_eq_getElem?_getD, List.getElem?_eq_getElem hk]; simpa using h1)]
  refine kept_all fun x hx => ?_
  obtain ⟨j, hj, rfl⟩ := List.getElem_of_mem hx
  rw [List.length_take] at hj
  have := h2 j (by omega)
  simpa using this
theorem kept_none {vs : List Int} (h : vs.findIdx? (fun x => decide (x = -1)) = none) : kept vs = vs := by
  rw [List.findIdx?_eq_none_iff] at h
  exact kept_all fun x hx => by simpa using h x hx
theorem holds_row {cur : Array Value} {vs : List Int} (h : cur.toList.take (vs.length * 1) = ints vs) : Holds cur vs := fun j hj => by
  have h1 := ints_get hj
  rw [← h, List.getElem?_take, if_pos (by omega)] at h1
  simpa using h1
theorem row_holds {cur : Array Value} {vs : List Int} (h : Holds cur vs) : cur.toList.take (vs.length * 1) = ints vs := by
  apply List.ext_getElem?
  intro j
  rw [List.getElem?_take]
  by_cases hj : j < vs.length
  · rw [if_pos (by omega), ints_get hj]
    simpa using h j hj
  · rw [if_neg (by omega), List.getElem?_eq_none (by simp; omega)]
set_option maxRecDepth 100000 in
set_option maxHeartbeats 1000000 in
theorem deleteFunc_nil {E : World} {L : List HProp} (x : Wd E L) :
    Calls Try.prog 47 #[.slice none 0 0, deadF] x.val fun e w' => e = .returned (.slice none 0 0) ∧ ∃ y : Wd E L, w' = y.val := by
  have HI : ∀ x : Wd E L, Calls Try.prog 53 #[.slice none 0 0, deadF] x.val fun e w' => e = .returned (.int .i64 (-1)) ∧ ∃ y : Wd E L, w' = y.val := by
    intro x
    go_enter Try.func53, Try.ntmps53
    go_wp2_with fail
    go_loop [8] (fun n => n = .int .i64 0) (fun _ => 0)
    case atStart => rfl
    case round =>
      subst hrel
      go_wp2_with fail
      go_ret
      exact ⟨rfl, x, rfl⟩
  have HI := Lib.hid HI
  go_enter Try.func47, Try.ntmps47
  go_wp2_with fail
  refine (HI.out x).mono ?_; rintro e w' ⟨rfl, x, rfl⟩
  go_wp2_with fail
  go_ret
  exact ⟨rfl, x, rfl⟩
set_option maxRecDepth 100000 in
set_option maxHeartbeats 2000000 in
theorem deleteFunc_calls {E : World} {L : List HProp} {v : Value} {vs : List Int} (hn : vs.length ≤ 1000000) (h0 : 0 < vs.length) (x : Wd E (Row 3 1 v vs.length (ints vs) :: L)) :
    Calls Try.prog 47 #[v, deadF] x.val fun e w' => ∃ v', e = .returned v' ∧ ∃ y : Wd E (Row 3 1 v' (kept vs).length (ints (kept vs)) :: L), w' = y.val := by
  obtain ⟨b, cap, cur, rfl, hcap, hmax, hsz, htk, z, hz⟩ := Row.op x h0
  have hcap' : (cap : Int) ≤ 9223372036854775807 := by unfold maxLen at hmax; omega
  have hh := holds_row htk
  have hi := fun z => indexFunc_calls (E := E) (L := L) (b := b) (cap := cap) hh hn z
  rw [hz]
  cases hf : vs.findIdx? (fun x => decide (x = -1)) with
  | none =>
    rw [hf, show idxInt none = -1 from rfl] at hi
    have HI := Lib.hid hi; have HF := Lib.hid (kept_none hf); have HT := Lib.hid htk; have HCAP := Lib.hid (And.intro hcap (And.intro hmax hsz))
    clear hi hf hz hh htk hcap hmax hsz
    go_enter Try.func47, Try.ntmps47
    go_wp2_with fail
    refine (HI.out z).mono ?_; rintro e w' ⟨rfl, z, rfl⟩
    go_wp2_with fail
    go_ret
    obtain ⟨u, hu⟩ := Row.cl (n := vs.length) (k := 1) HCAP.out.1 HCAP.out.2.1 HCAP.out.2.2 z
    exact ⟨_, rfl, u.cast (by rw [HF.out, HT.out]; rfl), hu⟩
  | some i0 =>
    rw [hf, show idxInt (some i0) = (i0 : Int) from rfl] at hi
    obtain ⟨hi0, hkf⟩ := kept_first hf
    have HI := Lib.hid hi; have HF := Lib.hid hkf; have HH := Lib.hid hh; have HSZ := Lib.hid (And.intro hsz hmax)
    clear hi hf hz hh htk hkf hsz hmax
    have hb : ((i0 : Int) == -1) = false := beq_eq_false_iff_ne.2 (by omega)
    go_enter Try.func47, Try.ntmps47
    go_wp2_with fail
    refine (HI.out z).mono ?_; rintro e w' ⟨rfl, z, rfl⟩
    go_wp2_with fail
    go_loopw [5, 6] (fun i j wr => ∃ (m k : Nat) (cur' : Array Value), k ≤ vs.length ∧ m < k ∧ m = (kept (vs.take k)).length ∧ cur'.size = cap ∧ Holds cur' (kept (vs.take k)) ∧ (∀ t, k ≤ t → t < vs.length → cur'[t]? = some (.int .i64 (vs.getD t 0))) ∧
      i = .int .i64 (m : Int) ∧ j = .int .i64 (k : Int) ∧ ∃ u : Wd E (pt b (.cells cur' 3 (0, 0)) :: L), wr = u.val) (fun _ j _ => vs.length - (intOf j).toNat)
    case atStart =>
      refine ⟨i0, i0 + 1, cur, by omega, by omega, ?_, by have := HSZ.out.1; omega, ?_, fun t _ ht => HH.out t ht, rfl, rfl, z, rfl⟩
      · rw [HF.out, List.length_take]; omega
      · rw [HF.out]
        intro t ht
        rw [List.length_take] at ht
        have := HH.out t (by omega)
        rw [this, List.getD_eq_getElem?_getD, List.getD_eq_getElem?_getD, List.getElem?_take, if_pos (by omega)]
    case round =>
      obtain ⟨m, k, cur', hk, hmk, hm, hsz, hh, hrest, rfl, rfl, u, rfl⟩ := hrel
      have HM := Lib.hid hm; have HH' := Lib.hid hh; have HR := Lib.hid hrest
      clear hm hh hrest
      by_cases hlt : k < vs.length
      · have hck := HR.out k (Nat.le_refl _) hlt
        have htake := take_snoc hlt
        generalize vs.getD k 0 = d at hck htake
        have HTK := Lib.hid htake; clear htake
        have HD := Lib.hid (fun (u : Wd E (pt b (.cells cur' 3 (0, 0)) :: L)) => isDead_calls u d)
        by_cases he : d = -1
        · have he' : (d == -1) = true := by simpa using he
          rw [he'] at HD
          have HE := Lib.hid he; clear he he'
          go_wp2_with fail
          refine (HD.out u).mono ?_; rintro e w' ⟨rfl, u, rfl⟩
          go_wp2_with fail
          refine ⟨⟨m, k + 1, cur', by omega, by omega, ?_, hsz, ?_, fun t ht h => HR.out t (by omega) h, rfl, rfl, u, rfl⟩, by simp [intOf]; omega⟩
          · rw [HTK.out, kept_snoc, if_pos HE.out]; exact HM.out
          · rw [HTK.out, kept_snoc, if_pos HE.out]; exact HH'.out
        · have he' : (d == -1) = false := by simpa using he
          rw [he'] at HD
          have HE := Lib.hid he; clear he he'
          obtain ⟨old, hcm⟩ : ∃ old, cur'[m]? = some old := ⟨_, Array.getElem?_eq_getElem (by omega)⟩
          go_wp2_with fail
          refine (HD.out u).mono ?_; rintro e w' ⟨rfl, u, rfl⟩
          go_wp2_with fail
          refine ⟨⟨m + 1, k + 1, cur'.setIfInBounds m (.int .i64 d), by omega, by omega, ?_, by simpa using hsz, ?_, fun t ht h => ?_, rfl, rfl, u.set0 m (.int .i64 d), rfl⟩, by simp [intOf]; omega⟩
          · rw [HTK.out, kept_snoc, if_neg HE.out, List.length_append, List.length_singleton, ← HM.out]
          · rw [HTK.out, kept_snoc, if_neg HE.out]
            intro t ht
            rw [List.length_append, List.length_singleton, ← HM.out] at ht
            rw [Array.getElem?_setIfInBounds]
            by_cases e : m = t
            · subst e
              rw [if_pos rfl, if_pos (by omega), List.getD_eq_getElem?_getD, List.getElem?_append_right (by rw [← HM.out]; omega), ← HM.out]
              simp
            · rw [if_neg e, HH'.out t (by rw [← HM.out]; omega), List.getD_eq_getElem?_getD, List.getD_eq_getElem?_getD, List.getElem?_append_left (by rw [← HM.out]; omega)]
          · rw [Array.getElem?_setIfInBounds, if_neg (by omega)]
            exact HR.out t (by omega) h
      · have hkn : k = vs.length := by omega
        subst hkn
        rw [List.take_length] at HM HH'
        go_wp2_with ((with_reducible refine gbuiltin .clear ?_); go_must (refine wd_clear u rfl _ 40 3 rfl (.int .i64 0) Try.underlying40 (fun w => by kernel_rfl) rfl rfl rfl (by omega) (by omega) ?_; intro u))
        go_ret
        obtain ⟨y, hy⟩ := Row.cl (n := m) (cap := cap) (k := 1) (by omega) HSZ.out.2 (by simp; omega) u
        refine ⟨_, rfl, y.cast ?_, hy⟩
        have e1 : ((cur'.toList.take m ++ List.replicate (vs.length - m) (Value.int .i64 0) ++ cur'.toList.drop (m + (vs.length - m))).toArray.toList.take (m * 1)) = ints (kept vs) := by
          have h1 := row_holds HH'.out
          rw [← HM.out] at h1
          rw [Nat.mul_one] at h1 ⊢
          rw [List.append_assoc, List.take_append_of_le_length (by rw [List.length_take, Array.length_toList]; omega), List.take_take, Nat.min_self]
          exact h1
        rw [e1, HM.out]
        rfl
end Go.Proofs.Ytechbidbhoookaa.Use
