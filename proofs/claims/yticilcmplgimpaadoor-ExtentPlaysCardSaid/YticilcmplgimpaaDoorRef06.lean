/- The reference of layer 6: what its functions do. -/
import Derived.Test.YticilcmplgimpaaDoorSlice
import Derived.Test.YticilcmplgimpaaDoorExtB
namespace Go.Proofs.YticilcmplgimpaaDoor.Ref06
open Go Go.RowKit Go.Proofs.YticilcmplgimpaaDoor.Sl
open Go.Proofs.YticilcmplgimpaaDoor.Bits (ptr)
open Go.Proofs.YticilcmplgimpaaDoor.Ext (count codeTake nextTake codeFree nextFree toCode toNext index takeVal takeNext usedN roomN addCode addNext)

/-- A member as the reference keeps it: its number, which are taken, the block of these and its capacity, the block's cells. -/
structure RM where
  d : Int
  l : List Bool
  tb : Nat
  cap : Nat
  cur : Array Value
  deriving Inhabited
structure RM.Ok (r : RM) : Prop where
  len : r.l.length ≤ r.cap
  max : r.cap ≤ maxLen
  size : r.cur.size = r.cap
  take : ∀ j, j < r.l.length → r.cur[j]? = some (.bool (r.l.getD j false))
abbrev RM.v (r : RM) : Value := .slice (some ⟨r.tb, 0, none⟩) r.l.length r.cap
abbrev RM.at (r : RM) : HProp := pt r.tb (.cells r.cur 4 (0, 0))
def cells (R : List RM) : List Value := R.flatMap fun r => [.int .i64 r.d, r.v]
def abs (R : List RM) : List (Int × List Bool) := R.map fun r => (r.d, r.l)
abbrev head (p : Nat) (lv : Value) : HProp := pt p (.cells #[lv] 47 (0, 0))
def At (p : Nat) (A : List (Int × List Bool)) : HProp := ex fun lv => ex fun R : List RM => star (fact (abs R = A ∧ ∀ r ∈ R, r.Ok)) (stars [Row 50 2 lv R.length (cells R), head p lv, big RM.at R])
theorem At.op {p : Nat} {A : List (Int × List Bool)} {E : World} {L : List HProp} (x : Wd E (At p A :: L)) :
    ∃ lv R, abs R = A ∧ (∀ r ∈ R, r.Ok) ∧ ∃ y : Wd E (Row 50 2 lv R.length (cells R) :: head p lv :: big RM.at R :: L), x.val = y.val := by
  obtain ⟨lv, H⟩ := x.sat.ex
  obtain ⟨R, H⟩ := H.ex
  have H2 : Sat E (fact (abs R = A ∧ ∀ r ∈ R, r.Ok) :: stars [Row 50 2 lv R.length (cells R), head p lv, big RM.at R] :: L) x.val := H.imp fun _ h => star_assoc h
  obtain ⟨h, H3⟩ := H2.fact
  exact ⟨lv, R, h.1, h.2, ⟨x.val, H3.stars⟩, rfl⟩
theorem At.cl {p : Nat} {E : World} {L : List HProp} {lv : Value} {R : List RM} (hk : ∀ r ∈ R, r.Ok) (x : Wd E (Row 50 2 lv R.length (cells R) :: head p lv :: big RM.at R :: L)) :
    ∃ y : Wd E (At p (abs R) :: L), x.val = y.val :=
  ⟨⟨x.val, Sat.mkEx lv (Sat.mkEx R ((Sat.mkFact ⟨rfl, hk⟩ (Sat.mkStars (M := [Row 50 2 lv R.length (cells R), head p lv, big RM.at R]) x.sat)).imp fun _ h => star_assoc' h))⟩, rfl⟩
theorem cells_get (R : List RM) (k : Nat) (h : k < R.length) : (cells R)[k * 2]? = some (.int .i64 (R[k]).d) ∧ (cells R)[k * 2 + 1]? = some (R[k]).v := by
  induction R generalizing k with
  | nil => simp at h
  | cons r R ih =>
    cases k with
    | zero => simp [cells]
    | succ k =>
      have h' : k < R.length := by simpa using h
      have := ih k h'
      unfold cells at this ⊢
      simp only [List.flatMap_cons, List.cons_append, List.nil_append, List.getElem_cons_succ]
      rw [show (k + 1) * 2 = k * 2 + 1 + 1 by omega]
      simpa using this
theorem cells_len (R : List RM) : (cells R).length = R.length * 2 := by
  induction R with
  | nil => rfl
  | cons r R ih => unfold cells at *; simp [ih]; omega

set_option maxHeartbeats 400000 in
theorem new_calls {E : World} {L : List HProp} (x : Wd E L) :
    Calls Tryd.prog 6 #[] x.val fun e w' => ∃ p, e = .returned (ptr p) ∧ ∃ y : Wd E (At p [] :: L), w' = y.val := by
  go_enter Tryd.func6, Tryd.ntmps6
  go_wp2
  go_ret
  rw [Wd.new_val]
  obtain ⟨y, hy⟩ := Row.nil (T := 50) (k := 2) ((x.new (.cells #[.slice none 0 0] 47)).addEmp.down1)
  obtain ⟨z, hz⟩ := At.cl (R := []) (fun r hr => by simp at hr) y
  exact ⟨_, rfl, z, hy.trans hz⟩
theorem place_calls {E : World} {L : List HProp} (x : Wd E L) (i : Int) (h0 : 0 ≤ i) (h1 : i ≤ 1000000000000000) :
    Calls Tryd.prog 41 #[.int .i64 i] x.val fun e w' => e = .returned (.int .i64 (114 + i * 8)) ∧ ∃ y : Wd E L, w' = y.val := by
  go_enter Tryd.func41, Tryd.ntmps41
  go_wp2
  go_ret
  exact ⟨rfl, x, rfl⟩
set_option maxHeartbeats 400000 in
theorem count_calls {E : World} {L : List HProp} (x : Wd E L) (s : Int) (h0 : -1000000000000 ≤ s) (h1 : s ≤ 1000000000000) :
    Calls Tryd.prog 34 #[.int .i64 s] x.val fun e w' => e = .returned (.int .i64 (count s : Int)) ∧ ∃ y : Wd E L, w' = y.val := by
  have hcs : (count s : Int) = if s < 114 then 0 else (s - 114) / 8 := by unfold count; split <;> omega
  go_enter Tryd.func34, Tryd.ntmps34
  have HC := Lib.hid hcs; clear hcs
  go_wp2_with fail
  go_loop [3] (fun n => ∃ k : Nat, k ≤ count s ∧ n = .int .i64 (k : Int)) (fun n => count s - (intOf n).toNat)
  case atStart => exact ⟨0, by omega, rfl⟩
  case round =>
    obtain ⟨k, hk, rfl⟩ := hrel
    have h2 : (k : Int) ≤ 1000000000000 := by
      have := HC.out; split at this <;> omega
    by_cases hlt : k < count s
    · have h3 : 114 + ((k : Int) + 1) * 8 ≤ s := by have := HC.out; split at this <;> omega
      go_wp2_with fail
      go_round
      case rel => exact ⟨k + 1, by omega, by go_num⟩
      case measure => simp [intOf]; omega
    · have h3 : ¬ 114 + ((k : Int) + 1) * 8 ≤ s := by have := HC.out; split at this <;> omega
      have hkc : k = count s := by omega
      have HK := Lib.hid hkc; clear hkc
      go_wp2_with fail
      go_ret
      exact ⟨congrArg (fun n : Nat => Ending.returned (.int .i64 (n : Int))) HK.out, x, rfl⟩
def atIdx (R : List RM) (d : Int) : Int := match R.findIdx? fun r => decide (r.d = d) with
  | some i => (i : Int)
  | none => -1
set_option maxRecDepth 100000 in
set_option maxHeartbeats 800000 in
theorem at_calls {E : World} {L : List HProp} {A : HProp} {lv : Value} {R : List RM} (p : Nat) (d : Int) (hA : Lies 50 A lv R.length (cells R)) (hR : R.length ≤ 1000000000) (x : Wd E (A :: head p lv :: L)) :
    Calls Tryd.prog 33 #[ptr p, .int .i64 d] x.val fun e w' => e = .returned (.int .i64 (atIdx R d)) ∧ ∃ y : Wd E (A :: head p lv :: L), w' = y.val := by
  obtain ⟨base, cap, rfl, hb⟩ := hA
  have HB := Lib.hid hb; clear hb
  go_enter Tryd.func33, Tryd.ntmps33
  go_wp2_with fail
  go_loop [5] (fun n => ∃ k : Nat, k ≤ R.length ∧ (∀ j, j < k → ∀ r, R[j]? = some r → r.d ≠ d) ∧ n = .int .i64 (k : Int)) (fun n => R.length - (intOf n).toNat)
  case atStart => exact ⟨0, by omega, fun j hj => by omega, rfl⟩
  case round =>
    obtain ⟨k, hk, hno, rfl⟩ := hrel
    have HN := Lib.hid hno; clear hno
    by_cases hlt : k < R.length
    · obtain ⟨b, rfl, cur, rfl, hcur⟩ := HB.out (by omega)
      have hc := hcur _ _ (cells_get R k hlt).1
      clear hcur
      by_cases hd : (R[k]).d = d
      · have hd' : ((R[k]).d == d) = true := by simp [hd]
        have HD := Lib.hid hd; clear hd
        go_wp2_with fail
        go_ret
        have hf : R.findIdx? (fun r => decide (r.d = d)) = some k := by
          rw [List.findIdx?_eq_some_iff_getElem]
          exact ⟨hlt, by simp [HD.out], fun j hj => by simpa using HN.out j hj _ (List.getElem?_eq_getElem (by omega))⟩
        have e : atIdx R d = (k : Int) := by unfold atIdx; rw [hf]
        rw [e]
        exact ⟨rfl, x, rfl⟩
      · have hd' : ((R[k]).d == d) = false := by simp [hd]
        have HD := Lib.hid hd; clear hd
        go_wp2_with fail
        go_round
        case rel =>
          refine ⟨k + 1, by omega, fun j hj r hr => ?_, by go_num⟩
          by_cases h : j < k
          · exact HN.out j h r hr
          · obtain rfl : j = k := by omega
            rw [List.getElem?_eq_getElem hlt] at hr
            cases hr
            exact HD.out
        case measure => simp [intOf]; omega
    · go_wp2_with fail
      go_ret
      have hf : R.findIdx? (fun r => decide (r.d = d)) = none := by
        rw [List.findIdx?_eq_none_iff]
        intro r hr
        obtain ⟨j, hj, rfl⟩ := List.getElem_of_mem hr
        simpa using HN.out j (by omega) _ (List.getElem?_eq_getElem hj)
      have e : atIdx R d = -1 := by unfold atIdx; rw [hf]
      rw [e]
      exact ⟨rfl, x, rfl⟩
theorem at_some {R : List RM} {d : Int} {l : List Bool} (h : aget (abs R) d = some l) : ∃ R1 r R2, R = R1 ++ r :: R2 ∧ r.d = d ∧ r.l = l ∧ (∀ x ∈ R1, x.d ≠ d) ∧ atIdx R d = (R1.length : Int) := by
  unfold aget abs at h
  rw [List.find?_map] at h
  cases hf : R.find? ((fun x : Int × List Bool => decide (x.1 = d)) ∘ fun r => (r.d, r.l)) with
  | none => rw [hf] at h; cases h
  | some r =>
    rw [hf] at h
    have hl : r.l = l := Option.some.inj h
    rw [List.find?_eq_some_iff_append] at hf
    obtain ⟨h1, R1, R2, rfl, h2⟩ := hf
    have hd : r.d = d := by simpa using h1
    refine ⟨R1, r, R2, rfl, hd, hl, fun x hx => by simpa using h2 x hx, ?_⟩
    have : (R1 ++ r :: R2).findIdx? (fun r => decide (r.d = d)) = some R1.length := by
      rw [List.findIdx?_eq_some_iff_getElem]
      refine ⟨by simp, by simpa using hd, fun j hj => ?_⟩
      have := h2 R1[j] (List.getElem_mem hj)
      simpa [List.getElem_append, hj] using this
    unfold atIdx
    rw [this]
theorem at_none {R : List RM} {d : Int} (h : aget (abs R) d = none) : atIdx R d = -1 := by
  unfold aget abs at h
  rw [List.find?_map] at h
  cases hf : R.find? ((fun x : Int × List Bool => decide (x.1 = d)) ∘ fun r => (r.d, r.l)) with
  | some r => rw [hf] at h; cases h
  | none =>
    have : R.findIdx? (fun r => decide (r.d = d)) = none := by
      rw [List.findIdx?_eq_none_iff]
      intro r hr
      simpa using List.find?_eq_none.1 hf r hr
    unfold atIdx
    rw [this]

end Go.Proofs.YticilcmplgimpaaDoor.Ref06
