/- The reference of layer 14: Emptiest. -/
import Derived.Test.YtechbidbhoookaaRf6
set_option linter.unusedVariables false
set_option linter.unusedSectionVars false
namespace Go.Proofs.Ytechbidbhoookaa.Rf
open Go Go.RowKit Go.Proofs.Ytechbidbhoookaa.Sl
open Go.Proofs.Ytechbidbhoookaa.Use (ptr Lv optVal ints ints_get take_snoc)

def emptS (G : Gs) (l : Lv) (st : Int × Int) (g : Int) : Int × Int :=
  if slotsF G g > 0 ∧ (st.2 < 0 ∨ ((blocksF G l g).length : Int) < st.2 ∨ (((blocksF G l g).length : Int) = st.2 ∧ g < st.1)) then (g, ((blocksF G l g).length : Int)) else st
def emptF (G : Gs) (l : Lv) (gs : List Int) : Int × Int := gs.foldl (emptS G l) (0, -1)
theorem emptF_succ {G : Gs} {l : Lv} {gs : List Int} {k : Nat} (h : k < gs.length) : emptF G l (gs.take (k + 1)) = emptS G l (emptF G l (gs.take k)) (gs.getD k 0) := by
  unfold emptF
  rw [take_snoc h, List.foldl_append]
  rfl
theorem blocksF_len {G : Gs} {l : Lv} (hF : Fits G l) (g : Int) : (blocksF G l g).length ≤ 4096 := by
  obtain ⟨N, hN, hN2⟩ := hF.slots g
  unfold blocksF
  rw [hN, Int.toNat_natCast]
  have := blocksN_len l g N
  omega
theorem emptF_range {G : Gs} {l : Lv} (hF : Fits G l) (gs : List Int) : -1 ≤ (emptF G l gs).2 ∧ (emptF G l gs).2 ≤ 4096 := by
  unfold emptF
  suffices h : ∀ st : Int × Int, -1 ≤ st.2 ∧ st.2 ≤ 4096 → -1 ≤ (gs.foldl (emptS G l) st).2 ∧ (gs.foldl (emptS G l) st).2 ≤ 4096 from h _ ⟨by decide, by decide⟩
  induction gs with
  | nil => exact fun st h => h
  | cons g gs ih =>
    intro st h
    refine ih _ ?_
    unfold emptS
    have := blocksF_len hF g
    split
    · simp only; omega
    · exact h
section
variable {E : World} {L : List HProp} {A1 A2 A3 : HProp} {vG vL v : Value} {G : Gs} {l : Lv} {gs : List Int} (q : Nat)
set_option maxRecDepth 100000 in
set_option maxHeartbeats 4000000 in
theorem emptiest_calls (hA1 : LieG A1 vG G) (hA2 : LieL A2 vL l) (hF : Fits G l) (hA : Lies 3 A3 v gs.length (ints gs)) (hn : gs.length ≤ 1000000) (x : Wd E (A1 :: A2 :: hd q vG vL :: A3 :: L)) :
    Calls Try.prog 36 #[ptr q, v] x.val fun e w' => e = .returned (.tuple #[.int .i64 (emptF G l gs).1, .bool (decide ((emptF G l gs).2 ≥ 0))]) ∧ ∃ y : Wd E (A1 :: A2 :: hd q vG vL :: A3 :: L), w' = y.val := by
  obtain ⟨base, cap, rfl, hb⟩ := hA
  have HB := Lib.hid hb
  have HS := Lib.hid (fun g x => slots_calls (E := E) (L := A3 :: L) (A2 := A2) (vL := vL) q hA1 (by have := hF.hn; omega) g x)
  have HBL := Lib.hid (fun g x => blocks_calls (E := E) (L := A3 :: L) q hA1 hA2 hF g x)
  have HLN := Lib.hid (fun g => blocksF_len hF g)
  have HRG := Lib.hid (fun gs => emptF_range hF gs)
  clear hb hA1 hA2 hF
  go_enter Try.func36, Try.ntmps36
  go_wp2_with fail
  go_loopw [6, 7, 8, 9, 10] (fun be le n _ _ wr => ∃ k : Nat, k ≤ gs.length ∧ be = .int .i64 (emptF G l (gs.take k)).1 ∧ le = .int .i64 (emptF G l (gs.take k)).2 ∧ n = .int .i64 (k : Int) ∧ ∃ u : Wd E (A1 :: A2 :: hd q vG vL :: A3 :: L), wr = u.val) (fun _ _ n _ _ _ => gs.length - (intOf n).toNat)
  case atStart => exact ⟨0, by omega, rfl, rfl, rfl, x, rfl⟩
  case round =>
    obtain ⟨k, hk, rfl, rfl, rfl, u, rfl⟩ := hrel
    by_cases hlt : k < gs.length
    · obtain ⟨b, rfl, cur, rfl, hcur⟩ := HB.out (by omega)
      have hck := hcur _ _ (ints_get hlt)
      have hs := emptF_succ (G := G) (l := l) hlt
      obtain ⟨r1, r2⟩ := HRG.out (gs.take k)
      clear hcur
      generalize gs.getD k 0 = g at hck hs
      generalize emptF G l (gs.take k) = st at hs r1 r2 ⊢
      obtain ⟨be, le⟩ := st
      dsimp only at hs r1 r2 ⊢
      have hng := HLN.out g
      have HSG := Lib.hid (HS.out g); have HBG := Lib.hid (HBL.out g)
      unfold emptS at hs
      dsimp only at hs
      generalize (blocksF G l g).length = ng at hs hng HBG
      generalize slotsF G g = sl at hs HSG
      have key : (((ng : Int) == le) = true ∧ (ng : Int) = le) ∨ (((ng : Int) == le) = false ∧ ¬ (ng : Int) = le) := by
        by_cases h : (ng : Int) = le
        · left; simp [h]
        · right; simp [h]
      have hcase : (¬ sl > 0) ∨ (sl > 0 ∧ le < 0) ∨ (sl > 0 ∧ ¬ le < 0 ∧ (ng : Int) < le) ∨ (sl > 0 ∧ ¬ le < 0 ∧ ¬ (ng : Int) < le ∧ ((ng : Int) == le) = true ∧ g < be) ∨ (sl > 0 ∧ ¬ le < 0 ∧ ¬ (ng : Int) < le ∧ ((ng : Int) == le) = true ∧ ¬ g < be) ∨ (sl > 0 ∧ ¬ le < 0 ∧ ¬ (ng : Int) < le ∧ ((ng : Int) == le) = false) := by
        by_cases h1 : sl > 0 <;> by_cases h2 : le < 0 <;> by_cases h3 : (ng : Int) < le <;> by_cases h4 : g < be <;> rcases key with ⟨k1, _⟩ | ⟨k1, _⟩ <;> simp_all
      rcases hcase with h1 | ⟨h1, h2⟩ | ⟨h1, h2, h3⟩ | ⟨h1, h2, h3, h4, h5⟩ | ⟨h1, h2, h3, h4, h5⟩ | ⟨h1, h2, h3, h4⟩
      · have HX := Lib.hid (hs.trans (if_neg (fun h => h1 h.1)))
        clear hs key
        go_wp2_with fail
        refine (HBG.out u).mono ?_; rintro e w' ⟨rv, rfl, u, rfl⟩
        obtain ⟨rb, rc, rfl⟩ := Row.form u
        go_wp2_with fail
        refine (HSG.out u.drop).mono ?_; rintro e w' ⟨rfl, u, rfl⟩
        go_wp2_with fail
        exact ⟨⟨k + 1, by omega, by rw [HX.out], by rw [HX.out], rfl, u, rfl⟩, by simp [intOf]; omega⟩
      · have HX := Lib.hid (hs.trans (if_pos ⟨h1, .inl h2⟩))
        clear hs key
        go_wp2_with fail
        refine (HBG.out u).mono ?_; rintro e w' ⟨rv, rfl, u, rfl⟩
        obtain ⟨rb, rc, rfl⟩ := Row.form u
        go_wp2_with fail
        refine (HSG.out u.drop).mono ?_; rintro e w' ⟨rfl, u, rfl⟩
        go_wp2_with fail
        exact ⟨⟨k + 1, by omega, by rw [HX.out], by rw [HX.out], rfl, u, rfl⟩, by simp [intOf]; omega⟩
      · have HX := Lib.hid (hs.trans (if_pos ⟨h1, .inr (.inl h3)⟩))
        clear hs key
        go_wp2_with fail
        refine (HBG.out u).mono ?_; rintro e w' ⟨rv, rfl, u, rfl⟩
        obtain ⟨rb, rc, rfl⟩ := Row.form u
        go_wp2_with fail
        refine (HSG.out u.drop).mono ?_; rintro e w' ⟨rfl, u, rfl⟩
        go_wp2_with fail
        exact ⟨⟨k + 1, by omega, by rw [HX.out], by rw [HX.out], rfl, u, rfl⟩, by simp [intOf]; omega⟩
      · have HX := Lib.hid (hs.trans (if_pos ⟨h1, .inr (.inr ⟨by simpa using h4, h5⟩)⟩))
        clear hs key
        go_wp2_with fail
        refine (HBG.out u).mono ?_; rintro e w' ⟨rv, rfl, u, rfl⟩
        obtain ⟨rb, rc, rfl⟩ := Row.form u
        go_wp2_with fail
        refine (HSG.out u.drop).mono ?_; rintro e w' ⟨rfl, u, rfl⟩
        go_wp2_with fail
        exact ⟨⟨k + 1, by omega, by rw [HX.out], by rw [HX.out], rfl, u, rfl⟩, by simp [intOf]; omega⟩
      · have HX := Lib.hid (hs.trans (if_neg (fun h => h.2.elim h2 (fun h => h.elim h3 (fun h => h5 h.2)))))
        clear hs key
        go_wp2_with fail
        refine (HBG.out u).mono ?_; rintro e w' ⟨rv, rfl, u, rfl⟩
        obtain ⟨rb, rc, rfl⟩ := Row.form u
        go_wp2_with fail
        refine (HSG.out u.drop).mono ?_; rintro e w' ⟨rfl, u, rfl⟩
        go_wp2_with fail
        exact ⟨⟨k + 1, by omega, by rw [HX.out], by rw [HX.out], rfl, u, rfl⟩, by simp [intOf]; omega⟩
      · have hne : ¬ (ng : Int) = le := by simpa using h4
        have HX := Lib.hid (hs.trans (if_neg (fun h => h.2.elim h2 (fun h => h.elim h3 (fun h => hne h.1)))))
        clear hs key hne
        go_wp2_with fail
        refine (HBG.out u).mono ?_; rintro e w' ⟨rv, rfl, u, rfl⟩
        obtain ⟨rb, rc, rfl⟩ := Row.form u
        go_wp2_with fail
        refine (HSG.out u.drop).mono ?_; rintro e w' ⟨rfl, u, rfl⟩
        go_wp2_with fail
        exact ⟨⟨k + 1, by omega, by rw [HX.out], by rw [HX.out], rfl, u, rfl⟩, by simp [intOf]; omega⟩
    · have HX := Lib.hid (show gs.take k = gs by rw [List.take_of_length_le (by omega)])
      generalize hst : emptF G l (gs.take k) = st at *
      have HST := Lib.hid hst; clear hst
      obtain ⟨be, le⟩ := st
      dsimp only
      by_cases h0 : le ≥ 0
      · have hd : decide (le ≥ 0) = true := by simpa using h0
        go_wp2_with fail
        refine bodyPost_ret (v := .tuple #[.int .i64 be, .bool true]) (by simp [results, Try.results36, go_sem]) rfl ⟨?_, u, rfl⟩
        have h := HST.out
        rw [HX.out] at h
        rw [h]; dsimp only; rw [hd]
      · have hd : decide (le ≥ 0) = false := by simpa using h0
        go_wp2_with fail
        refine bodyPost_ret (v := .tuple #[.int .i64 be, .bool false]) (by simp [results, Try.results36, go_sem]) rfl ⟨?_, u, rfl⟩
        have h := HST.out
        rw [HX.out] at h
        rw [h]; dsimp only; rw [hd]
end
end Go.Proofs.Ytechbidbhoookaa.Rf
