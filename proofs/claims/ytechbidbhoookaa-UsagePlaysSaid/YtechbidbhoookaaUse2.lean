/- Package usage, layer 14: Slots, Find, Block. -/
import Derived.Test.YtechbidbhoookaaUse1
namespace Go.Proofs.Ytechbidbhoookaa.Use
open Go Go.RowKit Go.Proofs.Ytechbidbhoookaa.Sl

/-- Where each block is. -/
def whereOf (T : Tb) : List (Int × Int × Int) := (live T).map fun x => (x.2.2, x.1, x.2.1)
def findOf (T : Tb) (b : Int) : Option (Int × Int) := aget (whereOf T) b
theorem mem_whereOf {T : Tb} {g s b : Int} : (b, g, s) ∈ whereOf T ↔ (g, s, b) ∈ live T := by
  unfold whereOf
  rw [List.mem_map]
  constructor
  · rintro ⟨⟨a, c, d⟩, h, e⟩
    simp only [Prod.mk.injEq] at e
    obtain ⟨rfl, rfl, rfl⟩ := e
    exact h
  · intro h; exact ⟨_, h, rfl⟩
theorem whereOf_keys (T : Tb) : (whereOf T).map (·.1) = (live T).map (·.2.2) := by simp [whereOf]
theorem St.F.find {S : St} {T : Tb} (h : S.F T) (hT : Good T) (b : Int) : aget S.W b = findOf T b :=
  aget_of_mem_iff (by rw [whereOf_keys]; exact hT.uniq) h.one (fun x => by
    obtain ⟨c, g, s⟩ := x
    rw [mem_whereOf, h.mem]) b
def findVal (T : Tb) (b : Int) : Value := match findOf T b with
  | none => .tuple #[.int .i64 0, .int .i64 0, .bool false]
  | some x => .tuple #[.int .i64 x.1, .int .i64 x.2, .bool true]
def blockOf (T : Tb) (g s : Int) : Option Int := match aget T g with
  | none => none
  | some l => if s < 0 ∨ (l.length : Int) ≤ s then none else if l.getD s.toNat 0 = -1 then none else some (l.getD s.toNat 0)
def optVal : Option Int → Value
  | none => .tuple #[.int .i64 0, .bool false]
  | some b => .tuple #[.int .i64 b, .bool true]
/-- The table lies open, and one group's slots. -/
abbrev Opn1 (E : World) (S : St) (R1 : List UM) (r : UM) (R2 : List UM) (p : Nat) (L : List HProp) : Type := Wd E (r.at :: big UM.at (R1 ++ R2) :: S.pg :: S.pw :: S.hd p :: L)
theorem opn1 {E : World} {L : List HProp} {S : St} {R1 R2 : List UM} {r : UM} {p : Nat} (hR : S.R = R1 ++ r :: R2) (y : Opn E S p L) : ∃ z : Opn1 E S R1 r R2 p L, y.val = z.val := by
  obtain ⟨u, hu⟩ := big_out (f := UM.at) (R1 := R1) (R2 := R2) (r := r) ((y.cast (by rw [hR])).up3 : Wd E (big UM.at (R1 ++ r :: R2) :: S.pg :: S.pw :: S.hd p :: L))
  exact ⟨u, hu⟩
theorem cl1 {E : World} {L : List HProp} {S : St} {R1 R2 : List UM} {r : UM} {p : Nat} (z : Opn1 E S R1 r R2 p L) : ∃ y : Wd E (S.pg :: S.pw :: S.hd p :: big UM.at (R1 ++ r :: R2) :: L), z.val = y.val := by
  obtain ⟨u, hu⟩ := big_in (f := UM.at) (R1 := R1) (R2 := R2) (r := r) z
  exact ⟨u.down3, hu⟩
theorem cl1' {E : World} {L : List HProp} {S : St} {R1 R2 : List UM} {r : UM} {p : Nat} (hR : S.R = R1 ++ r :: R2) (z : Opn1 E S R1 r R2 p L) : ∃ y : Opn E S p L, z.val = y.val := by
  obtain ⟨y, hy⟩ := cl1 z
  exact ⟨y.cast (by rw [hR]), hy⟩
section
variable {E : World} {L : List HProp} {T : Tb} (hT : Good T) (p : Nat)
include hT
theorem lens_of {g : Int} {l : List Int} (h : aget T g = some l) : 1 ≤ l.length ∧ l.length ≤ 4096 := hT.lens _ (aget_mem' h)
set_option maxRecDepth 100000 in
set_option maxHeartbeats 1000000 in
theorem slots_calls (g : Int) (x : Wd E (At p T :: L)) :
    Calls Try.prog 32 #[ptr p, .int .i64 g] x.val fun e w' => e = .returned (.int .i64 (slotsN T g)) ∧ ∃ y : Wd E (At p T :: L), w' = y.val := by
  obtain ⟨S, hG, hF, y, hy⟩ := At.op x
  rw [hy]
  have HC := Lib.hid (fun (y : Opn E S p L) => At.cl hG hF y)
  cases ha : aget T g with
  | none =>
    have e1 : slotsN T g = 0 := by unfold slotsN; rw [ha]
    rw [e1]
    have hlook := hG.none ha
    unfold LookG at hlook
    clear ha hG hF e1 hy hT
    go_enter Try.func32, Try.ntmps32
    go_wp2_with fail
    go_ret
    exact ⟨rfl, HC.out y⟩
  | some l =>
    have e1 : slotsN T g = l.length := by unfold slotsN; rw [ha]
    rw [e1]
    have hlen := lens_of hT ha
    obtain ⟨R1, r, R2, hR, hid, rfl, hok, _, hlook⟩ := hG.some ha
    unfold LookG at hlook
    clear ha hG hF e1 hy hT hR hid hok
    go_enter Try.func32, Try.ntmps32
    go_wp2_with fail
    go_ret
    exact ⟨rfl, HC.out y⟩
set_option maxRecDepth 100000 in
set_option maxHeartbeats 1000000 in
theorem find_calls (b : Int) (x : Wd E (At p T :: L)) :
    Calls Try.prog 13 #[ptr p, .int .i64 b] x.val fun e w' => e = .returned (findVal T b) ∧ ∃ y : Wd E (At p T :: L), w' = y.val := by
  obtain ⟨S, hG, hF, y, hy⟩ := At.op x
  rw [hy]
  have HC := Lib.hid (fun (y : Opn E S p L) => At.cl hG hF y)
  have hv : ∃ (g s : Int) (ok : Bool), findVal T b = .tuple #[.int .i64 g, .int .i64 s, .bool ok] ∧ ∀ w : World, w.heap[S.mw]? = some (.map S.esW S.cW) →
      (Instr.lookup 44 (.map (some S.mw)) (.int .i64 b) true).run Try.prog w = .ok (.tuple #[.agg #[.int .i64 g, .int .i64 s], .bool ok]) w := by
    have hl := hF.look b true
    rw [hF.find hT b] at hl
    unfold findVal
    cases hf : findOf T b with
    | none => rw [hf] at hl; exact ⟨0, 0, false, rfl, hl⟩
    | some x => rw [hf] at hl; exact ⟨x.1, x.2, true, rfl, hl⟩
  obtain ⟨g, s, ok, hv, hlook⟩ := hv
  rw [hv]
  clear hv hG hF hT hy
  go_enter Try.func13, Try.ntmps13
  go_wp2_with ((with_reducible refine galloc 53 ?_); go_must (refine wd_alloc y rfl 53 rfl (.agg #[.int .i64 0, .int .i64 0]) zeroSpot ?_; intro rb z; simp only [Value.cells] at z))
  have ne : Nonempty (Wd E (pt rb (.cells #[.int .i64 g, .int .i64 s] 53 (0, 0)) :: S.pg :: S.pw :: S.hd p :: big UM.at S.R :: L)) := ⟨(z.set0 0 (.int .i64 g)).set0 1 (.int .i64 s)⟩
  refine wp_region_wd (L := pt rb (.cells #[.int .i64 g, .int .i64 s] 53 (0, 0)) :: S.pg :: S.pw :: S.hd p :: big UM.at S.R :: L) ((z.set0 0 (.int .i64 g)).set0 1 (.int .i64 s)) (by kernel_rfl) (by kernel_rfl) ?_
  repeat (go_big_quiet_step (fail))
  refine wpQuiet_nil ?_
  intro z
  go_wp2_with fail
  refine bodyPost_ret (v := .tuple #[.int .i64 g, .int .i64 s, .bool ok]) (by simp [results, Try.results13, go_sem]) rfl ⟨rfl, HC.out z.drop⟩
set_option maxRecDepth 100000 in
set_option maxHeartbeats 1000000 in
theorem block_calls (g s : Int) (x : Wd E (At p T :: L)) :
    Calls Try.prog 16 #[ptr p, .int .i64 g, .int .i64 s] x.val fun e w' => e = .returned (optVal (blockOf T g s)) ∧ ∃ y : Wd E (At p T :: L), w' = y.val := by
  obtain ⟨S, hG, hF, y, hy⟩ := At.op x
  rw [hy]
  have HC := Lib.hid (fun (y : Opn E S p L) => At.cl hG hF y)
  have HIN := Lib.hid (fun y => in_open (E := E) (L := L) p hG g s (fun l h => (lens_of hT h).2) y)
  by_cases hin : inCode T g s = 0
  · obtain ⟨l, ha, h0, h1⟩ : ∃ l, aget T g = some l ∧ 0 ≤ s ∧ s < l.length := by
      unfold inCode at hin
      cases ha : aget T g with
      | none => rw [ha] at hin; cases hin
      | some l =>
        rw [ha] at hin
        dsimp only at hin
        split at hin
        · cases hin
        · exact ⟨l, rfl, by omega, by omega⟩
    rw [hin] at HIN
    have hlen := lens_of hT ha
    obtain ⟨R1, r, R2, hR, hid, hl, hok, _, hlook⟩ := hG.some ha
    subst hl
    unfold LookG at hlook
    obtain ⟨j, rfl⟩ := Int.eq_ofNat_of_zero_le h0
    have hj : j < r.l.length := by omega
    have hc := hok.take j hj
    have e1 : blockOf T g (j : Int) = if r.l.getD j 0 = -1 then none else some (r.l.getD j 0) := by
      unfold blockOf; rw [ha]; dsimp only; rw [if_neg (by omega), Int.toNat_natCast]
    rw [e1]
    have HR := Lib.hid hR
    clear hin ha hG hF hT hy e1 hR hid hok h0 h1
    generalize r.l.getD j 0 = b at hc
    by_cases hb : b = -1
    · subst hb
      rw [if_pos rfl]
      go_enter Try.func16, Try.ntmps16
      go_wp2_with fail
      refine (HIN.out y).mono ?_; rintro e w' ⟨rfl, y, rfl⟩
      obtain ⟨z, hz⟩ := opn1 HR.out y
      rw [hz]
      clear hz
      go_wp2_with fail
      refine bodyPost_ret (v := .tuple #[.int .i64 0, .bool false]) (by simp [results, Try.results16, go_sem]) rfl ⟨rfl, ?_⟩
      obtain ⟨u, hu⟩ := cl1' HR.out z
      obtain ⟨v, hv⟩ := HC.out u
      exact ⟨v, hu.trans hv⟩
    · rw [if_neg hb]
      have hb' : (b == -1) = false := by simpa using hb
      clear hb
      go_enter Try.func16, Try.ntmps16
      go_wp2_with fail
      refine (HIN.out y).mono ?_; rintro e w' ⟨rfl, y, rfl⟩
      obtain ⟨z, hz⟩ := opn1 HR.out y
      rw [hz]
      clear hz
      go_wp2_with fail
      refine bodyPost_ret (v := .tuple #[.int .i64 b, .bool true]) (by simp [results, Try.results16, go_sem]) rfl ⟨rfl, ?_⟩
      obtain ⟨u, hu⟩ := cl1' HR.out z
      obtain ⟨v, hv⟩ := HC.out u
      exact ⟨v, hu.trans hv⟩
  · have e1 : blockOf T g s = none := by
      unfold inCode at hin
      unfold blockOf
      cases ha : aget T g with
      | none => rfl
      | some l =>
        rw [ha] at hin
        dsimp only at hin ⊢
        split at hin
        · rename_i h; rw [if_pos h]
        · exact absurd rfl hin
    rw [e1]
    have hb : (inCode T g s == 0) = false := by simpa using hin
    have hb2 : (inCode T g s != 0) = true := by simp [hin]
    generalize inCode T g s = c at *
    clear hG hF hT hy hin e1
    go_enter Try.func16, Try.ntmps16
    go_wp2_with fail
    refine (HIN.out y).mono ?_; rintro e w' ⟨rfl, y, rfl⟩
    go_wp2_with fail
    refine bodyPost_ret (v := .tuple #[.int .i64 0, .bool false]) (by simp [results, Try.results16, go_sem]) rfl ⟨rfl, HC.out y⟩
end
end Go.Proofs.Ytechbidbhoookaa.Use
