/- The reference of layer 14: Block, in, Find. -/
import Derived.Test.YtechbidbhoookaaRf0
set_option linter.unusedVariables false
set_option linter.unusedSectionVars false
namespace Go.Proofs.Ytechbidbhoookaa.Rf
open Go Go.RowKit Go.Proofs.Ytechbidbhoookaa.Sl
open Go.Proofs.Ytechbidbhoookaa.Use (ptr Lv optVal)

def blockF (l : Lv) (g s : Int) : Option Int := (l.find? fun x => decide (x.1 = g ∧ x.2.1 = s)).map (·.2.2)
def findF (l : Lv) (b : Int) : Option (Int × Int) := (l.find? fun x => decide (x.2.2 = b)).map fun x => (x.1, x.2.1)
def findV : Option (Int × Int) → Value
  | none => .tuple #[.int .i64 0, .int .i64 0, .bool false]
  | some x => .tuple #[.int .i64 x.1, .int .i64 x.2, .bool true]
theorem find_at {α : Type} {l : List α} {p : α → Bool} {k : Nat} (hk : k < l.length) (h : p l[k] = true) (hno : ∀ j, j < k → ∀ r, l[j]? = some r → p r = false) : l.find? p = some l[k] := by
  rw [List.find?_eq_some_iff_getElem]
  exact ⟨h, k, hk, rfl, fun j hj => by simpa using hno j hj _ (List.getElem?_eq_getElem (by omega))⟩
theorem find_no {α : Type} {l : List α} {p : α → Bool} (hno : ∀ j, j < l.length → ∀ r, l[j]? = some r → p r = false) : l.find? p = none := by
  rw [List.find?_eq_none]
  intro x hx
  obtain ⟨j, hj, rfl⟩ := List.getElem_of_mem hx
  simpa using hno j hj _ (List.getElem?_eq_getElem hj)
theorem no_more {α : Type} {l : List α} {p : α → Bool} {k : Nat} (hk : k < l.length) (hno : ∀ j, j < k → ∀ r, l[j]? = some r → p r = false) (h : p l[k] = false) : ∀ j, j < k + 1 → ∀ r, l[j]? = some r → p r = false := fun j hj r hr => by
  by_cases hjk : j < k
  · exact hno j hjk r hr
  · obtain rfl : j = k := by omega
    rw [List.getElem?_eq_getElem hk] at hr
    cases hr
    exact h
def inF (G : Gs) (g s : Int) : Int := if slotsF G g = 0 then 8 else if s < 0 ∨ slotsF G g ≤ s then 3 else 0
section
variable {E : World} {L : List HProp} {A1 A2 : HProp} {vG vL : Value} {G : Gs} {l : Lv} (q : Nat)
set_option maxRecDepth 100000 in
set_option maxHeartbeats 2000000 in
theorem block_calls (hA : LieL A2 vL l) (hn : l.length ≤ 1000000) (g s : Int) (x : Opn E A1 A2 q vG vL L) :
    Calls Try.prog 35 #[ptr q, .int .i64 g, .int .i64 s] x.val fun e w' => e = .returned (optVal (blockF l g s)) ∧ ∃ y : Opn E A1 A2 q vG vL L, w' = y.val := by
  obtain ⟨base, cap, rfl, hb⟩ := hA
  have HB := Lib.hid hb; clear hb
  go_enter Try.func35, Try.ntmps35
  go_wp2_with fail
  go_loop [8] (fun n => ∃ k : Nat, k ≤ l.length ∧ (∀ j, j < k → ∀ r, l[j]? = some r → decide (r.1 = g ∧ r.2.1 = s) = false) ∧ n = .int .i64 (k : Int)) (fun n => l.length - (intOf n).toNat)
  case atStart => exact ⟨0, by omega, fun j hj => by omega, rfl⟩
  case round =>
    obtain ⟨k, hk, hno, rfl⟩ := hrel
    have HN := Lib.hid hno; clear hno
    by_cases hlt : k < l.length
    · obtain ⟨b, rfl, cur, rfl, hcur⟩ := HB.out (by omega)
      have hc := hcur _ _ (cellsL_get l k hlt).1
      have hc2 := hcur _ _ (cellsL_get l k hlt).2.1
      have hc3 := hcur _ _ (cellsL_get l k hlt).2.2
      clear hcur
      by_cases hd : (l[k]).1 = g ∧ (l[k]).2.1 = s
      · have hd1 : ((l[k]).1 == g) = true := by simp [hd.1]
        have hd2 : ((l[k]).2.1 == s) = true := by simp [hd.2]
        have HD := Lib.hid (show blockF l g s = some (l[k]).2.2 by unfold blockF; rw [find_at hlt (by simpa using hd) HN.out]; rfl); clear hd
        generalize (l[k]).1 = a at *
        generalize (l[k]).2.1 = b at *
        generalize (l[k]).2.2 = n at *
        go_wp2_with fail
        refine bodyPost_ret (v := .tuple #[.int .i64 n, .bool true]) (by simp [results, Try.results35, go_sem]) rfl ⟨by rw [HD.out]; rfl, x, rfl⟩
      · have HD := Lib.hid (no_more (p := fun r => decide (r.1 = g ∧ r.2.1 = s)) hlt HN.out (by simpa using hd))
        by_cases h1 : (l[k]).1 = g
        · have hd1 : ((l[k]).1 == g) = true := by simp [h1]
          have hd2 : ((l[k]).2.1 == s) = false := by simpa using fun e => hd ⟨h1, e⟩
          clear hd h1
          generalize (l[k]).1 = a at *
          generalize (l[k]).2.1 = b at *
          go_wp2_with fail
          go_round
          case rel => exact ⟨k + 1, by omega, HD.out, by go_num⟩
          case measure => simp [intOf]; omega
        · have hd1 : ((l[k]).1 == g) = false := by simp [h1]
          clear hd h1
          generalize (l[k]).1 = a at *
          go_wp2_with fail
          go_round
          case rel => exact ⟨k + 1, by omega, HD.out, by go_num⟩
          case measure => simp [intOf]; omega
    · have HD := Lib.hid (show blockF l g s = none by unfold blockF; rw [find_no (fun j hj => HN.out j (by omega))]; rfl)
      go_wp2_with fail
      refine bodyPost_ret (v := .tuple #[.int .i64 0, .bool false]) (by simp [results, Try.results35, go_sem]) rfl ⟨by rw [HD.out]; rfl, x, rfl⟩
set_option maxRecDepth 100000 in
set_option maxHeartbeats 2000000 in
theorem find_calls (hA : LieL A2 vL l) (hn : l.length ≤ 1000000) (b : Int) (x : Opn E A1 A2 q vG vL L) :
    Calls Try.prog 34 #[ptr q, .int .i64 b] x.val fun e w' => e = .returned (findV (findF l b)) ∧ ∃ y : Opn E A1 A2 q vG vL L, w' = y.val := by
  obtain ⟨base, cap, rfl, hb⟩ := hA
  have HB := Lib.hid hb; clear hb
  go_enter Try.func34, Try.ntmps34
  go_wp2_with fail
  go_loop [7] (fun n => ∃ k : Nat, k ≤ l.length ∧ (∀ j, j < k → ∀ r, l[j]? = some r → decide (r.2.2 = b) = false) ∧ n = .int .i64 (k : Int)) (fun n => l.length - (intOf n).toNat)
  case atStart => exact ⟨0, by omega, fun j hj => by omega, rfl⟩
  case round =>
    obtain ⟨k, hk, hno, rfl⟩ := hrel
    have HN := Lib.hid hno; clear hno
    by_cases hlt : k < l.length
    · obtain ⟨bb, rfl, cur, rfl, hcur⟩ := HB.out (by omega)
      have hc := hcur _ _ (cellsL_get l k hlt).1
      have hc2 := hcur _ _ (cellsL_get l k hlt).2.1
      have hc3 := hcur _ _ (cellsL_get l k hlt).2.2
      clear hcur
      by_cases hd : (l[k]).2.2 = b
      · have hd1 : ((l[k]).2.2 == b) = true := by simp [hd]
        have HD := Lib.hid (show findF l b = some ((l[k]).1, (l[k]).2.1) by unfold findF; rw [find_at hlt (by simpa using hd) HN.out]; rfl); clear hd
        generalize (l[k]).1 = a at *
        generalize (l[k]).2.1 = c at *
        generalize (l[k]).2.2 = n at *
        go_wp2_with fail
        have ne : Nonempty (Wd E (A1 :: pt bb (.cells cur 69 (0, 0)) :: hd q vG (.slice (some ⟨bb, 0, none⟩) l.length cap) :: L)) := ⟨x⟩
        refine wp_region_wd (L := A1 :: pt bb (.cells cur 69 (0, 0)) :: hd q vG (.slice (some ⟨bb, 0, none⟩) l.length cap) :: L) x (by kernel_rfl) (by kernel_rfl) ?_
        repeat (go_big_quiet_step (fail))
        refine wpQuiet_nil ?_
        intro x
        go_wp2_with fail
        refine bodyPost_ret (v := .tuple #[.int .i64 a, .int .i64 c, .bool true]) (by simp [results, Try.results34, go_sem]) rfl ⟨by rw [HD.out]; rfl, x, rfl⟩
      · have hd1 : ((l[k]).2.2 == b) = false := by simp [hd]
        have HD := Lib.hid (no_more (p := fun r => decide (r.2.2 = b)) hlt HN.out (by simpa using hd)); clear hd
        generalize (l[k]).2.2 = n at *
        go_wp2_with fail
        go_round
        case rel => exact ⟨k + 1, by omega, HD.out, by go_num⟩
        case measure => simp [intOf]; omega
    · have HD := Lib.hid (show findF l b = none by unfold findF; rw [find_no (fun j hj => HN.out j (by omega))]; rfl)
      go_wp2_with fail
      refine bodyPost_ret (v := .tuple #[.int .i64 0, .int .i64 0, .bool false]) (by simp [results, Try.results34, go_sem]) rfl ⟨by rw [HD.out]; rfl, x, rfl⟩
set_option maxRecDepth 100000 in
set_option maxHeartbeats 2000000 in
theorem in_calls (hA : LieG A1 vG G) (hn : G.length ≤ 1000000) (g s : Int) (x : Opn E A1 A2 q vG vL L) :
    Calls Try.prog 44 #[ptr q, .int .i64 g, .int .i64 s] x.val fun e w' => e = .returned (.int .i64 (inF G g s)) ∧ ∃ y : Opn E A1 A2 q vG vL L, w' = y.val := by
  have HS := Lib.hid (fun x => slots_calls (E := E) (L := L) (A2 := A2) (vL := vL) q hA hn g x)
  have e : inF G g s = if slotsF G g = 0 then 8 else if s < 0 ∨ slotsF G g ≤ s then 3 else 0 := rfl
  rw [e]
  generalize slotsF G g = n at *
  clear hA e
  by_cases h0 : n = 0
  · subst h0
    rw [if_pos rfl]
    go_enter Try.func44, Try.ntmps44
    go_wp2_with fail
    refine (HS.out x).mono ?_; rintro e w' ⟨rfl, x, rfl⟩
    go_wp2_with fail
    go_ret
    exact ⟨rfl, x, rfl⟩
  · rw [if_neg h0]
    have b0 : (n == 0) = false := by simp [h0]
    clear h0
    by_cases h1 : s < 0
    · rw [if_pos (.inl h1)]
      go_enter Try.func44, Try.ntmps44
      go_wp2_with fail
      refine (HS.out x).mono ?_; rintro e w' ⟨rfl, x, rfl⟩
      go_wp2_with fail
      go_ret
      exact ⟨rfl, x, rfl⟩
    · by_cases h2 : n ≤ s
      · rw [if_pos (.inr h2)]
        go_enter Try.func44, Try.ntmps44
        go_wp2_with fail
        refine (HS.out x).mono ?_; rintro e w' ⟨rfl, x, rfl⟩
        go_wp2_with fail
        go_ret
        exact ⟨rfl, x, rfl⟩
      · rw [if_neg (fun h => h.elim h1 h2)]
        go_enter Try.func44, Try.ntmps44
        go_wp2_with fail
        refine (HS.out x).mono ?_; rintro e w' ⟨rfl, x, rfl⟩
        go_wp2_with fail
        go_ret
        exact ⟨rfl, x, rfl⟩
end
end Go.Proofs.Ytechbidbhoookaa.Rf
