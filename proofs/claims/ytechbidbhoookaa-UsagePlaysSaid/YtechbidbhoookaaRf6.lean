/- The reference of layer 14: Blocks, Hole, Emptiest. -/
import Derived.Test.YtechbidbhoookaaRf5
set_option linter.unusedVariables false
set_option linter.unusedSectionVars false
namespace Go.Proofs.Ytechbidbhoookaa.Rf
open Go Go.RowKit Go.Proofs.Ytechbidbhoookaa.Sl
open Go.Proofs.Ytechbidbhoookaa.Use (ptr Lv optVal ints)

def blocksN (l : Lv) (g : Int) (n : Nat) : List Int := (List.range n).filterMap fun s : Nat => blockF l g (s : Int)
def blocksF (G : Gs) (l : Lv) (g : Int) : List Int := blocksN l g (slotsF G g).toNat
def holeF (G : Gs) (l : Lv) (g : Int) : Option Int := ((List.range (slotsF G g).toNat).find? fun s : Nat => (blockF l g (s : Int)).isNone).map fun s => (s : Int)
theorem blocksN_some {l : Lv} {g : Int} {n : Nat} {b : Int} (h : blockF l g (n : Int) = some b) : blocksN l g (n + 1) = blocksN l g n ++ [b] := by
  unfold blocksN; rw [List.range_succ, List.filterMap_append]; simp [h]
theorem blocksN_none {l : Lv} {g : Int} {n : Nat} (h : blockF l g (n : Int) = none) : blocksN l g (n + 1) = blocksN l g n := by
  unfold blocksN; rw [List.range_succ, List.filterMap_append]; simp [h]
theorem blocksN_len (l : Lv) (g : Int) (n : Nat) : (blocksN l g n).length ≤ n := by
  unfold blocksN
  have := List.length_filterMap_le (fun s : Nat => blockF l g (s : Int)) (List.range n)
  simpa using this
structure Fits (G : Gs) (l : Lv) : Prop where
  hn : G.length ≤ 100000
  hl : l.length ≤ 1000000
  hs : ∀ x ∈ G, 1 ≤ x.2 ∧ x.2 ≤ 4096
theorem Fits.slots {G : Gs} {l : Lv} (h : Fits G l) (g : Int) : ∃ n : Nat, slotsF G g = (n : Int) ∧ n ≤ 4096 := by
  unfold slotsF
  cases hg : aget G g with
  | none => exact ⟨0, rfl, by omega⟩
  | some s =>
    have := h.hs _ (aget_mem' hg)
    simp only at this
    exact ⟨s.toNat, by simp only [Option.getD_some]; omega, by omega⟩
section
variable {E : World} {L : List HProp} {A1 A2 : HProp} {vG vL : Value} {G : Gs} {l : Lv} (q : Nat)
set_option maxRecDepth 100000 in
set_option maxHeartbeats 2000000 in
theorem blocks_calls (hA1 : LieG A1 vG G) (hA2 : LieL A2 vL l) (hF : Fits G l) (g : Int) (x : Opn E A1 A2 q vG vL L) :
    Calls Try.prog 31 #[ptr q, .int .i64 g] x.val fun e w' => ∃ v, e = .returned v ∧ ∃ y : Wd E (Row 3 1 v (blocksF G l g).length (ints (blocksF G l g)) :: A1 :: A2 :: hd q vG vL :: L), w' = y.val := by
  obtain ⟨N, hN, hN2⟩ := hF.slots g
  have HS := Lib.hid (fun L x => slots_calls (E := E) (L := L) (A2 := A2) (vL := vL) q hA1 (by have := hF.hn; omega) g x)
  have HB := Lib.hid (fun L s x => block_calls (E := E) (L := L) (A1 := A1) (vG := vG) q hA2 hF.hl g s x)
  have e : blocksF G l g = blocksN l g N := by unfold blocksF; rw [hN, Int.toNat_natCast]
  rw [e]
  rw [hN] at HS
  clear hA1 hA2 hF e hN
  go_enter Try.func31, Try.ntmps31
  go_wp2_with ((with_reducible refine gbuildSlice 40 ?_); go_must (refine wd_buildSlice x rfl 40 3 0 _ rfl #[] (fun w => by kernel_rfl) ?_; intro ob x))
  obtain ⟨u, hu⟩ := Row.cl (n := 0) (cap := 0) (k := 1) (by omega) (by unfold maxLen; omega) rfl x
  rw [hu]
  clear hu
  go_loopw [5, 6, 7, 8] (fun o n _ _ wr => ∃ k : Nat, k ≤ N ∧ n = .int .i64 (k : Int) ∧ ∃ u : Wd E (Row 3 1 o (blocksN l g k).length (ints (blocksN l g k)) :: A1 :: A2 :: hd q vG vL :: L), wr = u.val) (fun _ n _ _ _ => N - (intOf n).toNat)
  case atStart => exact ⟨0, by omega, rfl, u, rfl⟩
  case round =>
    obtain ⟨k, hk, rfl, u, rfl⟩ := hrel
    have hlen := blocksN_len l g k
    by_cases hlt : k < N
    · go_wp2_with fail
      refine (HS.out _ (u.ord [1, 2, 3, 0])).mono ?_; rintro e w' ⟨rfl, u, rfl⟩
      go_wp2_with fail
      refine (HB.out _ (k : Int) u).mono ?_; rintro e w' ⟨rfl, u, rfl⟩
      cases hb : blockF l g (k : Int) with
      | none =>
        have HX := Lib.hid (blocksN_none hb); clear hb
        unfold optVal
        go_wp2_with fail
        exact ⟨⟨k + 1, by omega, rfl, (u.ord [3, 0, 1, 2]).cast (by rw [HX.out]; rfl), rfl⟩, by simp [intOf]; omega⟩
      | some b =>
        have HX := Lib.hid (blocksN_some hb); clear hb
        unfold optVal
        generalize hF : blocksN l g k = F at *
        clear hF
        go_wp2_with (first
          | ((with_reducible refine gbuildSlice 40 ?_); go_must (refine wd_buildSlice (u.ord [3, 0, 1, 2]) rfl 40 3 1 _ rfl #[.int .i64 b] (fun w => by kernel_rfl) ?_; intro nb u))
          | ((with_reducible refine gbuiltin .append ?_); go_must (refine wd_append u.up1 rfl _ _ 40 rfl Try.underlying40 Use.elemI rfl rfl (news := [.int .i64 b]) (m := 1) (by rfl) (fun j v hj => block_news (Wd.heap1 u.up1) j v hj) (by simp [Value.oneCell']) (by unfold maxLen; omega) (by omega) ?_; intro sl u _)))
        refine ⟨⟨k + 1, by omega, rfl, (u.up1.drop).cast (by rw [HX.out, List.length_append]; unfold ints; rw [List.map_append]; rfl), rfl⟩, by simp [intOf]; omega⟩
    · have hkN : k = N := by omega
      subst hkN
      obtain ⟨rb, rc, rfl⟩ := Row.form u
      go_wp2_with fail
      refine (HS.out _ (u.ord [1, 2, 3, 0])).mono ?_; rintro e w' ⟨rfl, u, rfl⟩
      go_wp2_with fail
      go_ret
      exact ⟨_, rfl, u.ord [3, 0, 1, 2], rfl⟩
set_option maxRecDepth 100000 in
set_option maxHeartbeats 2000000 in
theorem hole_calls (hA1 : LieG A1 vG G) (hA2 : LieL A2 vL l) (hF : Fits G l) (g : Int) (x : Opn E A1 A2 q vG vL L) :
    Calls Try.prog 26 #[ptr q, .int .i64 g] x.val fun e w' => e = .returned (optVal (holeF G l g)) ∧ ∃ y : Opn E A1 A2 q vG vL L, w' = y.val := by
  obtain ⟨N, hN, hN2⟩ := hF.slots g
  have HS := Lib.hid (fun L x => slots_calls (E := E) (L := L) (A2 := A2) (vL := vL) q hA1 (by have := hF.hn; omega) g x)
  have HB := Lib.hid (fun L s x => block_calls (E := E) (L := L) (A1 := A1) (vG := vG) q hA2 hF.hl g s x)
  have e : holeF G l g = ((List.range N).find? fun s : Nat => (blockF l g (s : Int)).isNone).map fun s => (s : Int) := by unfold holeF; rw [hN, Int.toNat_natCast]
  rw [e]
  rw [hN] at HS
  clear hA1 hA2 hF e hN
  go_enter Try.func26, Try.ntmps26
  go_wp2_with fail
  go_loopw [6, 7, 8] (fun n _ _ wr => ∃ k : Nat, k ≤ N ∧ n = .int .i64 (k : Int) ∧ (∀ j : Nat, j < k → (blockF l g (j : Int)).isNone = false) ∧ ∃ u : Opn E A1 A2 q vG vL L, wr = u.val) (fun n _ _ _ => N - (intOf n).toNat)
  case atStart => exact ⟨0, by omega, rfl, fun j hj => by omega, x, rfl⟩
  case round =>
    obtain ⟨k, hk, rfl, hno, u, rfl⟩ := hrel
    have HN := Lib.hid hno; clear hno
    by_cases hlt : k < N
    · go_wp2_with fail
      refine (HS.out _ u).mono ?_; rintro e w' ⟨rfl, u, rfl⟩
      go_wp2_with fail
      refine (HB.out _ (k : Int) u).mono ?_; rintro e w' ⟨rfl, u, rfl⟩
      cases hb : blockF l g (k : Int) with
      | none =>
        have HX := Lib.hid (show (List.range N).find? (fun s : Nat => (blockF l g (s : Int)).isNone) = some k by
          rw [List.find?_eq_some_iff_getElem]
          refine ⟨by simp [hb], k, by simpa using hlt, by simp, fun j hj => by simpa using HN.out j hj⟩)
        clear hb
        unfold optVal
        go_wp2_with fail
        refine bodyPost_ret (v := .tuple #[.int .i64 k, .bool true]) (by simp [results, Try.results26, go_sem]) rfl ⟨by rw [HX.out]; rfl, u, rfl⟩
      | some b =>
        have HX := Lib.hid (show ∀ j : Nat, j < k + 1 → (blockF l g (j : Int)).isNone = false from fun j hj => by
          by_cases h : j < k
          · exact HN.out j h
          · obtain rfl : j = k := by omega
            rw [hb]; rfl)
        clear hb
        unfold optVal
        go_wp2_with fail
        exact ⟨⟨k + 1, by omega, rfl, HX.out, u, rfl⟩, by simp [intOf]; omega⟩
    · have hkN : k = N := by omega
      subst hkN
      have HX := Lib.hid (show (List.range k).find? (fun s : Nat => (blockF l g (s : Int)).isNone) = none by
        rw [List.find?_eq_none]
        intro j hj
        have := HN.out j (by simpa using hj)
        simp [this])
      go_wp2_with fail
      refine (HS.out _ u).mono ?_; rintro e w' ⟨rfl, u, rfl⟩
      go_wp2_with fail
      refine bodyPost_ret (v := .tuple #[.int .i64 0, .bool false]) (by simp [results, Try.results26, go_sem]) rfl ⟨by rw [HX.out]; rfl, u, rfl⟩
end
end Go.Proofs.Ytechbidbhoookaa.Rf
