/- Package usage, layer 14: the table in memory; New, in, Slots, Find. -/
import Derived.Test.YtechbidbhoookaaUse0
import Derived.Test.YtechbidbhoookaaSlice
import Derived.Test.YtechbidbhoookaaProg
import Derived.Laws.Cover3
namespace Go.Proofs.Ytechbidbhoookaa.Use
open Go Go.RowKit Go.Proofs.Ytechbidbhoookaa.Sl

abbrev ptr (b : Nat) : Value := .pointer (some ⟨b, 0, none⟩)
abbrev encI : Int → Value := fun n => .int .i64 n
theorem lawI : KeyLaw Try.prog 3 encI := int_law Try.underlying3
/-- A group: its number, what its slots have, the block of these and its capacity, the block's cells. -/
structure UM where
  id : Int
  l : List Int
  b : Nat
  cap : Nat
  cur : Array Value
  deriving Inhabited
structure UM.Ok (r : UM) : Prop where
  len : r.l.length ≤ r.cap
  max : r.cap ≤ maxLen
  size : r.cur.size = r.cap
  take : ∀ j, j < r.l.length → r.cur[j]? = some (.int .i64 (r.l.getD j 0))
abbrev UM.v (r : UM) : Value := .slice (some ⟨r.b, 0, none⟩) r.l.length r.cap
abbrev UM.at (r : UM) : HProp := pt r.b (.cells r.cur 3 (0, 0))
def pairsG (R : List UM) : List (Int × Value) := R.map fun r => (r.id, r.v)
def absU (R : List UM) : Tb := R.map fun r => (r.id, r.l)
def spot (x : Int × Int) : Value := .agg #[.int .i64 x.1, .int .i64 x.2]
def pairsW (W : List (Int × Int × Int)) : List (Int × Value) := W.map fun x => (x.1, spot x.2)
structure St where
  mg : Nat
  mw : Nat
  esG : Array MapEntry
  cG : Nat
  esW : Array MapEntry
  cW : Nat
  R : List UM
  W : List (Int × Int × Int)
structure St.G (S : St) (T : Tb) : Prop where
  rG : Reads encI S.esG S.cG (pairsG S.R)
  hR : absU S.R = T
  ok : ∀ r ∈ S.R, r.Ok
structure St.F (S : St) (T : Tb) : Prop where
  rW : Reads encI S.esW S.cW (pairsW S.W)
  one : (S.W.map (·.1)).Nodup
  mem : ∀ g s b, (b, g, s) ∈ S.W ↔ (g, s, b) ∈ live T
abbrev St.pg (S : St) : HProp := pt S.mg (.map S.esG S.cG)
abbrev St.pw (S : St) : HProp := pt S.mw (.map S.esW S.cW)
abbrev St.hd (S : St) (p : Nat) : HProp := pt p (.cells #[.map (some S.mg), .map (some S.mw)] 46 (0, 0))
/-- The table behind pointer p says T. -/
def At (p : Nat) (T : Tb) : HProp := ex fun S : St => star (fact (S.G T ∧ S.F T)) (stars [S.pg, S.pw, S.hd p, big UM.at S.R])
theorem At.op {p : Nat} {T : Tb} {E : World} {L : List HProp} (x : Wd E (At p T :: L)) :
    ∃ S : St, S.G T ∧ S.F T ∧ ∃ y : Wd E (S.pg :: S.pw :: S.hd p :: big UM.at S.R :: L), x.val = y.val := by
  obtain ⟨S, H⟩ := x.sat.ex
  have H2 : Sat E (fact (S.G T ∧ S.F T) :: stars [S.pg, S.pw, S.hd p, big UM.at S.R] :: L) x.val := H.imp fun _ h => star_assoc h
  obtain ⟨h, H3⟩ := H2.fact
  exact ⟨S, h.1, h.2, ⟨x.val, H3.stars⟩, rfl⟩
theorem At.cl {p : Nat} {T : Tb} {E : World} {L : List HProp} {S : St} (hG : S.G T) (hF : S.F T) (x : Wd E (S.pg :: S.pw :: S.hd p :: big UM.at S.R :: L)) :
    ∃ y : Wd E (At p T :: L), x.val = y.val :=
  ⟨⟨x.val, Sat.mkEx S ((Sat.mkFact ⟨hG, hF⟩ (Sat.mkStars (M := [S.pg, S.pw, S.hd p, big UM.at S.R]) x.sat)).imp fun _ h => star_assoc' h)⟩, rfl⟩
theorem zeroSlice (w : World) : (zeroValue 40).run Try.prog w = .ok (.slice none 0 0) w := by kernel_rfl
theorem zeroSpot (w : World) : (zeroValue 53).run Try.prog w = .ok (spot (0, 0)) w := by kernel_rfl
theorem get_pairsG (R : List UM) (d : Int) : aget (pairsG R) d = (R.find? fun x => decide (x.id = d)).map UM.v := by
  unfold aget pairsG
  induction R with
  | nil => rfl
  | cons r R ih => by_cases h : r.id = d <;> simp_all
theorem get_absU (R : List UM) (d : Int) : aget (absU R) d = (R.find? fun x => decide (x.id = d)).map UM.l := by
  unfold aget absU
  induction R with
  | nil => rfl
  | cons r R ih => by_cases h : r.id = d <;> simp_all
theorem get_pairsW (W : List (Int × Int × Int)) (d : Int) : aget (pairsW W) d = (aget W d).map spot := by
  unfold aget pairsW
  induction W with
  | nil => rfl
  | cons r R ih => by_cases h : r.1 = d <;> simp_all
@[go_sem] theorem eqNil (w : World) : (binOp .eql 40 (.slice none 0 0) (.slice none 0 0)).run Try.prog w = .ok (.bool true) w := by kernel_rfl
@[go_sem] theorem eqSome (w : World) (a : Addr) (n c : Nat) : (binOp .eql 40 (.slice (some a) n c) (.slice none 0 0)).run Try.prog w = .ok (.bool false) w := by kernel_rfl
@[go_sem] theorem neNil (w : World) : (binOp .neq 40 (.slice none 0 0) (.slice none 0 0)).run Try.prog w = .ok (.bool false) w := by kernel_rfl
@[go_sem] theorem neSome (w : World) (a : Addr) (n c : Nat) : (binOp .neq 40 (.slice (some a) n c) (.slice none 0 0)).run Try.prog w = .ok (.bool true) w := by kernel_rfl
/-- The look-up of a group. -/
abbrev LookG (S : St) (d : Int) (v : Value) : Prop := ∀ w : World, w.heap[S.mg]? = some (.map S.esG S.cG) → (Instr.lookup 43 (.map (some S.mg)) (.int .i64 d) false).run Try.prog w = .ok v w
theorem St.G.look {S : St} {T : Tb} (h : S.G T) (d : Int) : LookG S d (((S.R.find? fun x => decide (x.id = d)).map UM.v).getD (.slice none 0 0)) := fun w hm => by
  rw [run_lookup_is lawI Try.underlying43 hm h.rG d _ (zeroSlice _) false, get_pairsG]
  rfl
theorem St.G.none {S : St} {T : Tb} (h : S.G T) {d : Int} (hd : aget T d = none) : LookG S d (.slice none 0 0) := by
  have := h.look d
  rw [← h.hR, get_absU] at hd
  cases hf : S.R.find? fun x => decide (x.id = d) with
  | some r => rw [hf] at hd; cases hd
  | none => rw [hf] at this; exact this
theorem St.G.some {S : St} {T : Tb} (h : S.G T) {d : Int} {l : List Int} (hd : aget T d = some l) :
    ∃ R1 r R2, S.R = R1 ++ r :: R2 ∧ r.id = d ∧ r.l = l ∧ r.Ok ∧ (∀ x ∈ R1, x.id ≠ d) ∧ LookG S d r.v := by
  have hl := h.look d
  rw [← h.hR, get_absU] at hd
  cases hf : S.R.find? fun x => decide (x.id = d) with
  | none => rw [hf] at hd; cases hd
  | some r =>
    rw [hf] at hd hl
    have hf' := hf
    rw [List.find?_eq_some_iff_append] at hf'
    obtain ⟨h1, R1, R2, hR, h2⟩ := hf'
    exact ⟨R1, r, R2, hR, by simpa using h1, Option.some.inj hd, h.ok r (by rw [hR]; simp), fun x hx => by simpa using h2 x hx, hl⟩
/-- The look-up of a block. -/
theorem St.F.look {S : St} {T : Tb} (h : S.F T) (d : Int) (ok : Bool) (w : World) (hm : w.heap[S.mw]? = some (.map S.esW S.cW)) :
    (Instr.lookup 44 (.map (some S.mw)) (.int .i64 d) ok).run Try.prog w = .ok (if ok then .tuple #[spot ((aget S.W d).getD (0, 0)), .bool (aget S.W d).isSome] else spot ((aget S.W d).getD (0, 0))) w := by
  rw [run_lookup_is lawI Try.underlying44 hm h.rW d _ (zeroSpot _) ok, get_pairsW]
  cases aget S.W d <;> rfl

set_option maxHeartbeats 400000 in
theorem new_calls {E : World} {L : List HProp} (x : Wd E L) :
    Calls Try.prog 5 #[] x.val fun e w' => ∃ p, e = .returned (ptr p) ∧ ∃ y : Wd E (At p [] :: L), w' = y.val := by
  have hmm := @run_makeMap Try.prog
  go_enter Try.func5, Try.ntmps5
  go_wp2
  go_ret
  let S : St := ⟨x.val.heap.size, x.val.heap.size + 1, #[], 0, #[], 0, [], []⟩
  obtain ⟨y, hy⟩ := At.cl (p := x.val.heap.size + 1 + 1) (T := []) (S := S) ⟨⟨rfl, fun e he => by simp [S] at he, by simp [S]⟩, rfl, by simp [S]⟩ ⟨⟨rfl, fun e he => by simp [S] at he, by simp [S]⟩, by simp [S], by simp [S, live]⟩
    ((((x.new (.map #[] 0)).newAt (.map #[] 0) (x.val.heap.size + 1) (Wd.size_new _ _)).newAt (.cells #[.map (some x.val.heap.size), .map (some (x.val.heap.size + 1))] 46) (x.val.heap.size + 1 + 1) (by simp [Wd.newAt, World.size_alloc, Wd.new])).addEmp.up3.up3.up1.up3.down2)
  exact ⟨_, rfl, y, hy⟩

/-! ### in, Slots -/
def inCode (T : Tb) (g s : Int) : Int := match aget T g with
  | none => 8
  | some l => if s < 0 ∨ (l.length : Int) ≤ s then 3 else 0
def slotsN (T : Tb) (g : Int) : Int := match aget T g with
  | none => 0
  | some l => l.length
/-- The table lies open. -/
abbrev Opn (E : World) (S : St) (p : Nat) (L : List HProp) : Type := Wd E (S.pg :: S.pw :: S.hd p :: big UM.at S.R :: L)
section
variable {E : World} {L : List HProp} {S : St} {T : Tb} (p : Nat)
set_option maxRecDepth 100000 in
set_option maxHeartbeats 1000000 in
theorem in_open (hG : S.G T) (g s : Int) (hl : ∀ l, aget T g = some l → l.length ≤ 4096) (x : Opn E S p L) :
    Calls Try.prog 38 #[ptr p, .int .i64 g, .int .i64 s] x.val fun e w' => e = .returned (.int .i64 (inCode T g s)) ∧ ∃ y : Opn E S p L, w' = y.val := by
  cases ha : aget T g with
  | none =>
    have e1 : inCode T g s = 8 := by unfold inCode; rw [ha]
    rw [e1]
    have hlook := hG.none ha
    unfold LookG at hlook
    clear ha hl hG e1
    go_enter Try.func38, Try.ntmps38
    go_wp2_with fail
    go_ret
    exact ⟨rfl, x, rfl⟩
  | some l =>
    have hlen := hl l ha
    have e1 : inCode T g s = if s < 0 ∨ (l.length : Int) ≤ s then 3 else 0 := by unfold inCode; rw [ha]
    obtain ⟨R1, r, R2, hR, hid, rfl, hok, _, hlook⟩ := hG.some ha
    unfold LookG at hlook
    rw [e1]
    clear ha hl hG e1 hR hid hok
    by_cases h1 : s < 0
    · rw [if_pos (.inl h1)]
      go_enter Try.func38, Try.ntmps38
      go_wp2_with fail
      go_ret
      exact ⟨rfl, x, rfl⟩
    · by_cases h2 : (r.l.length : Int) ≤ s
      · rw [if_pos (.inr h2)]
        go_enter Try.func38, Try.ntmps38
        go_wp2_with fail
        go_ret
        exact ⟨rfl, x, rfl⟩
      · rw [if_neg (fun h => h.elim h1 h2)]
        go_enter Try.func38, Try.ntmps38
        go_wp2_with fail
        go_ret
        exact ⟨rfl, x, rfl⟩
end
end Go.Proofs.Ytechbidbhoookaa.Use
