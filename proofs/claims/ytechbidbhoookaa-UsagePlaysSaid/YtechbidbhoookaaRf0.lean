/- The reference of layer 14: its table in memory; New, Slots, Block, in, Find. -/
import Derived.Test.YtechbidbhoookaaUse15
set_option linter.unusedVariables false
set_option linter.unusedSectionVars false
namespace Go.Proofs.Ytechbidbhoookaa.Rf
open Go Go.RowKit Go.Proofs.Ytechbidbhoookaa.Sl
open Go.Proofs.Ytechbidbhoookaa.Use (ptr Lv)

abbrev Gs := List (Int × Int)
def cellsG (G : Gs) : List Value := G.flatMap fun x => [.int .i64 x.1, .int .i64 x.2]
def cellsL (l : Lv) : List Value := l.flatMap fun x => [.int .i64 x.1, .int .i64 x.2.1, .int .i64 x.2.2]
theorem cellsG_get (R : Gs) (k : Nat) (h : k < R.length) : (cellsG R)[k * 2]? = some (.int .i64 (R[k]).1) ∧ (cellsG R)[k * 2 + 1]? = some (.int .i64 (R[k]).2) := by
  induction R generalizing k with
  | nil => simp at h
  | cons r R ih =>
    cases k with
    | zero => simp [cellsG]
    | succ k =>
      have h' : k < R.length := by simpa using h
      have := ih k h'
      unfold cellsG at this ⊢
      simp only [List.flatMap_cons, List.cons_append, List.nil_append, List.getElem_cons_succ]
      rw [show (k + 1) * 2 = k * 2 + 1 + 1 by omega]
      simpa using this
theorem cellsL_get (R : Lv) (k : Nat) (h : k < R.length) : (cellsL R)[k * 3]? = some (.int .i64 (R[k]).1) ∧ (cellsL R)[k * 3 + 1]? = some (.int .i64 (R[k]).2.1) ∧ (cellsL R)[k * 3 + 2]? = some (.int .i64 (R[k]).2.2) := by
  induction R generalizing k with
  | nil => simp at h
  | cons r R ih =>
    cases k with
    | zero => simp [cellsL]
    | succ k =>
      have h' : k < R.length := by simpa using h
      have := ih k h'
      unfold cellsL at this ⊢
      simp only [List.flatMap_cons, List.cons_append, List.nil_append, List.getElem_cons_succ]
      rw [show (k + 1) * 3 = k * 3 + 1 + 1 + 1 by omega]
      simpa using this
theorem cellsL_snoc (l : Lv) (x : Int × Int × Int) : cellsL (l ++ [x]) = cellsL l ++ [.int .i64 x.1, .int .i64 x.2.1, .int .i64 x.2.2] := by simp [cellsL]
theorem cellsG_snoc (l : Gs) (x : Int × Int) : cellsG (l ++ [x]) = cellsG l ++ [.int .i64 x.1, .int .i64 x.2] := by simp [cellsG]
theorem cellsG_len (R : Gs) : (cellsG R).length = R.length * 2 := by
  induction R with
  | nil => rfl
  | cons r R ih => unfold cellsG at *; simp [ih]; omega
theorem cellsL_len (R : Lv) : (cellsL R).length = R.length * 3 := by
  induction R with
  | nil => rfl
  | cons r R ih => unfold cellsL at *; simp [ih]; omega
abbrev RowG (v : Value) (G : Gs) : HProp := Row 64 2 v G.length (cellsG G)
abbrev RowL (v : Value) (l : Lv) : HProp := Row 69 3 v l.length (cellsL l)
abbrev hd (q : Nat) (vG vL : Value) : HProp := pt q (.cells #[vG, vL] 50 (0, 0))
def At (q : Nat) (G : Gs) (l : Lv) : HProp := ex fun vG => ex fun vL => stars [RowG vG G, RowL vL l, hd q vG vL]
theorem At.op {q : Nat} {G : Gs} {l : Lv} {E : World} {L : List HProp} (x : Wd E (At q G l :: L)) : ∃ vG vL, ∃ y : Wd E (RowG vG G :: RowL vL l :: hd q vG vL :: L), x.val = y.val := by
  obtain ⟨vG, H⟩ := x.sat.ex
  obtain ⟨vL, H⟩ := H.ex
  exact ⟨vG, vL, ⟨x.val, H.stars⟩, rfl⟩
theorem At.cl {q : Nat} {G : Gs} {l : Lv} {E : World} {L : List HProp} {vG vL : Value} (x : Wd E (RowG vG G :: RowL vL l :: hd q vG vL :: L)) : ∃ y : Wd E (At q G l :: L), x.val = y.val :=
  ⟨⟨x.val, Sat.mkEx vG (Sat.mkEx vL (Sat.mkStars (M := [RowG vG G, RowL vL l, hd q vG vL]) x.sat))⟩, rfl⟩
abbrev LieG (A : HProp) (v : Value) (G : Gs) : Prop := Lies 64 A v G.length (cellsG G)
abbrev LieL (A : HProp) (v : Value) (l : Lv) : Prop := Lies 69 A v l.length (cellsL l)
abbrev Opn (E : World) (A1 A2 : HProp) (q : Nat) (vG vL : Value) (L : List HProp) : Type := Wd E (A1 :: A2 :: hd q vG vL :: L)
/-- The table, open for reading; and shut again, its parts as they were or new. -/
theorem At.rd {q : Nat} {G : Gs} {l : Lv} {E : World} {L : List HProp} (x : Wd E (At q G l :: L)) : ∃ A1 A2 vG vL, LieG A1 vG G ∧ LieL A2 vL l ∧ (∃ y : Opn E A1 A2 q vG vL L, x.val = y.val) ∧
    (∀ (E' : World) (L' : List HProp) (z : Wd E' (A1 :: L')), ∃ u : Wd E' (RowG vG G :: L'), z.val = u.val) ∧ (∀ (E' : World) (L' : List HProp) (z : Wd E' (A2 :: L')), ∃ u : Wd E' (RowL vL l :: L'), z.val = u.val) ∧
    (∀ (E' : World) (L' : List HProp) (z : Opn E' A1 A2 q vG vL L'), ∃ u : Wd E' (At q G l :: L'), z.val = u.val) := by
  obtain ⟨vG, vL, y, hy⟩ := At.op x
  obtain ⟨A1, h1, ⟨z1, hz1⟩, b1⟩ := Row.read y
  obtain ⟨A2, h2, ⟨z2, hz2⟩, b2⟩ := Row.read z1.up1
  refine ⟨A1, A2, vG, vL, h1, h2, ⟨z2.up1, hy.trans (hz1.trans hz2)⟩, b1, b2, fun E' L' z => ?_⟩
  obtain ⟨u1, hu1⟩ := b1 E' _ z
  obtain ⟨u2, hu2⟩ := b2 E' _ u1.up1
  obtain ⟨u3, hu3⟩ := At.cl u2.up1
  exact ⟨u3, hu1.trans (hu2.trans hu3)⟩

set_option maxHeartbeats 400000 in
theorem new_calls {E : World} {L : List HProp} (x : Wd E L) :
    Calls Try.prog 6 #[] x.val fun e w' => ∃ p, e = .returned (ptr p) ∧ ∃ y : Wd E (At p [] [] :: L), w' = y.val := by
  go_enter Try.func6, Try.ntmps6
  go_wp2
  go_ret
  rw [Wd.new_val]
  obtain ⟨y, hy⟩ := Row.nil (T := 64) (k := 2) (x.new (.cells #[.slice none 0 0, .slice none 0 0] 50))
  obtain ⟨z, hz⟩ := Row.nil (T := 69) (k := 3) y
  obtain ⟨u, hu⟩ := At.cl (G := []) (l := []) z.up1
  exact ⟨_, rfl, u, hy.trans (hz.trans hu)⟩
def slotsF (G : Gs) (g : Int) : Int := (aget G g).getD 0
theorem aget_at {κ α : Type} [DecidableEq κ] {G : List (κ × α)} {g : κ} {k : Nat} (hk : k < G.length) (h : (G[k]).1 = g) (hno : ∀ j, j < k → ∀ r, G[j]? = some r → r.1 ≠ g) : aget G g = some (G[k]).2 := by
  have : G.find? (fun x => decide (x.1 = g)) = some G[k] := by
    rw [List.find?_eq_some_iff_getElem]
    exact ⟨by simpa using h, k, hk, rfl, fun j hj => by simpa using hno j hj _ (List.getElem?_eq_getElem (by omega))⟩
  unfold aget; rw [this]; rfl
theorem aget_no {κ α : Type} [DecidableEq κ] {G : List (κ × α)} {g : κ} (hno : ∀ j, j < G.length → ∀ r, G[j]? = some r → r.1 ≠ g) : aget G g = none := by
  rw [aget_none_iff]
  intro x hx
  obtain ⟨j, hj, rfl⟩ := List.getElem_of_mem hx
  exact hno j hj _ (List.getElem?_eq_getElem hj)
section
variable {E : World} {L : List HProp} {A1 A2 : HProp} {vG vL : Value} {G : Gs} {l : Lv} (q : Nat)
set_option maxRecDepth 100000 in
set_option maxHeartbeats 1000000 in
theorem slots_calls (hA : LieG A1 vG G) (hn : G.length ≤ 1000000) (g : Int) (x : Opn E A1 A2 q vG vL L) :
    Calls Try.prog 33 #[ptr q, .int .i64 g] x.val fun e w' => e = .returned (.int .i64 (slotsF G g)) ∧ ∃ y : Opn E A1 A2 q vG vL L, w' = y.val := by
  obtain ⟨base, cap, rfl, hb⟩ := hA
  have HB := Lib.hid hb; clear hb
  go_enter Try.func33, Try.ntmps33
  go_wp2_with fail
  go_loop [5] (fun n => ∃ k : Nat, k ≤ G.length ∧ (∀ j, j < k → ∀ r, G[j]? = some r → r.1 ≠ g) ∧ n = .int .i64 (k : Int)) (fun n => G.length - (intOf n).toNat)
  case atStart => exact ⟨0, by omega, fun j hj => by omega, rfl⟩
  case round =>
    obtain ⟨k, hk, hno, rfl⟩ := hrel
    have HN := Lib.hid hno; clear hno
    by_cases hlt : k < G.length
    · obtain ⟨b, rfl, cur, rfl, hcur⟩ := HB.out (by omega)
      have hc := hcur _ _ (cellsG_get G k hlt).1
      have hc2 := hcur _ _ (cellsG_get G k hlt).2
      clear hcur
      by_cases hd : (G[k]).1 = g
      · have hd' : ((G[k]).1 == g) = true := by simp [hd]
        have HD := Lib.hid (show slotsF G g = (G[k]).2 by unfold slotsF; rw [aget_at hlt hd HN.out]; rfl); clear hd
        generalize (G[k]).1 = id at *
        generalize (G[k]).2 = n at *
        go_wp2_with fail
        go_ret
        rw [HD.out]
        exact ⟨rfl, x, rfl⟩
      · have hd' : ((G[k]).1 == g) = false := by simp [hd]
        have HD := Lib.hid hd; clear hd
        go_wp2_with fail
        go_round
        case rel =>
          refine ⟨k + 1, by omega, fun j hj r hr => ?_, by go_num⟩
          by_cases h : j < k
          · exact HN.out j h r hr
          · obtain rfl : j = k := by omega
            rw [List.getElem?_eq_getElem hlt] at hr
            cases hr
            exact HD.out
        case measure => simp [intOf]; omega
    · have HD := Lib.hid (show slotsF G g = 0 by unfold slotsF; rw [aget_no (fun j hj => HN.out j (by omega))]; rfl)
      go_wp2_with fail
      go_ret
      rw [HD.out]
      exact ⟨rfl, x, rfl⟩
end
end Go.Proofs.Ytechbidbhoookaa.Rf
