/- Package usage, layer 14: Emptiest. -/
import Derived.Test.YtechbidbhoookaaUse3
set_option linter.unusedVariables false
namespace Go.Proofs.Ytechbidbhoookaa.Use
open Go Go.RowKit Go.Proofs.Ytechbidbhoookaa.Sl

abbrev cnt (T : Tb) (g : Int) : Nat := (blocksOf T g).length
def emptStep (T : Tb) (st : Int × Bool) (g : Int) : Int × Bool := match aget T g with
  | none => st
  | some _ => if st.2 = false ∨ cnt T g < cnt T st.1 ∨ (cnt T g = cnt T st.1 ∧ g < st.1) then (g, true) else st
def empt (T : Tb) (gs : List Int) : Int × Bool := gs.foldl (emptStep T) (0, false)
theorem empt_succ {T : Tb} {gs : List Int} {k : Nat} (h : k < gs.length) : empt T (gs.take (k + 1)) = emptStep T (empt T (gs.take k)) (gs.getD k 0) := by
  unfold empt
  rw [take_snoc h, List.foldl_append]
  rfl
section
variable {E : World} {L : List HProp} {T : Tb} (hT : Good T) (p : Nat)
include hT
set_option maxRecDepth 100000 in
set_option maxHeartbeats 2000000 in
theorem emptiest_calls {A1 : HProp} {v : Value} {gs : List Int} (hA : Lies 3 A1 v gs.length (ints gs)) (hn : gs.length ≤ 1000000) (x : Wd E (At p T :: A1 :: L)) :
    Calls Try.prog 15 #[ptr p, v] x.val fun e w' => e = .returned (.tuple #[.int .i64 (empt T gs).1, .bool (empt T gs).2]) ∧ ∃ y : Wd E (At p T :: A1 :: L), w' = y.val := by
  obtain ⟨base, cap, rfl, hb⟩ := hA
  have HB := Lib.hid hb
  have HCN := Lib.hid (fun (g : Int) (x : Wd E (At p T :: A1 :: L)) => count_calls (E := E) (L := A1 :: L) hT p g x)
  have HLN := Lib.hid (fun g => blocks_len hT g)
  have HNO := Lib.hid (fun (g : Int) (h : aget T g = none) (x : Wd E (At p T :: A1 :: L)) => (show ∃ (S : St), LookG S g (.slice none 0 0) ∧ ∃ y : Opn E S p (A1 :: L), x.val = y.val ∧ ∀ y : Opn E S p (A1 :: L), ∃ z : Wd E (At p T :: A1 :: L), y.val = z.val from by
    obtain ⟨S, hG, hF, y, hy⟩ := At.op x
    exact ⟨S, hG.none h, y, hy, fun y => At.cl hG hF y⟩))
  have HSO := Lib.hid (fun (g : Int) (l : List Int) (h : aget T g = some l) (x : Wd E (At p T :: A1 :: L)) => (show ∃ (S : St) (a : Addr) (n c : Nat), LookG S g (.slice (some a) n c) ∧ ∃ y : Opn E S p (A1 :: L), x.val = y.val ∧ ∀ y : Opn E S p (A1 :: L), ∃ z : Wd E (At p T :: A1 :: L), y.val = z.val from by
    obtain ⟨S, hG, hF, y, hy⟩ := At.op x
    obtain ⟨R1, r, R2, hR, hid, hl, hok, _, hlook⟩ := hG.some h
    exact ⟨S, _, _, _, hlook, y, hy, fun y => At.cl hG hF y⟩))
  clear hb hT
  go_enter Try.func15, Try.ntmps15
  go_wp2_with fail
  go_loopw [6, 7, 13] (fun be so n wr => ∃ k : Nat, k ≤ gs.length ∧ be = .int .i64 (empt T (gs.take k)).1 ∧ so = .bool (empt T (gs.take k)).2 ∧ n = .int .i64 (k : Int) ∧ ∃ u : Wd E (At p T :: A1 :: L), wr = u.val) (fun _ _ n _ => gs.length - (intOf n).toNat)
  case atStart => exact ⟨0, by omega, rfl, rfl, rfl, x, rfl⟩
  case round =>
    obtain ⟨k, hk, rfl, rfl, rfl, u, rfl⟩ := hrel
    by_cases hlt : k < gs.length
    · obtain ⟨b, rfl, cur, rfl, hcur⟩ := HB.out (by omega)
      have hck := hcur _ _ (ints_get hlt)
      have hs := empt_succ (T := T) hlt
      clear hcur
      generalize gs.getD k 0 = g at hck hs
      generalize empt T (gs.take k) = st at hs ⊢
      obtain ⟨be, so⟩ := st
      dsimp only at hs ⊢
      cases ha : aget T g with
      | none =>
        have hs2 : empt T (gs.take (k + 1)) = (be, so) := by rw [hs]; unfold emptStep; rw [ha]
        obtain ⟨S, hlook, y, hy, hcl⟩ := HNO.out g ha u
        unfold LookG at hlook
        rw [hy]
        have HS := Lib.hid hs2; have HCL := Lib.hid hcl
        clear hs hs2 hcl ha hy
        go_wp2_with fail
        obtain ⟨u, hu⟩ := HCL.out y
        refine ⟨⟨k + 1, by omega, by rw [HS.out], by rw [HS.out], rfl, u, hu⟩, by simp [intOf]; omega⟩
      | some l =>
        have hs2 : empt T (gs.take (k + 1)) = if so = false ∨ cnt T g < cnt T be ∨ (cnt T g = cnt T be ∧ g < be) then (g, true) else (be, so) := by rw [hs]; unfold emptStep; rw [ha]
        obtain ⟨S, a, n, c, hlook, y, hy, hcl⟩ := HSO.out g l ha u
        unfold LookG at hlook
        rw [hy]
        have HS := Lib.hid hs2; have HCL := Lib.hid hcl
        have hng := HLN.out g
        have hnb := HLN.out be
        have HG := Lib.hid (HCN.out g); have HBE := Lib.hid (HCN.out be)
        clear hs hs2 hcl ha hy
        change cnt T g ≤ 4096 at hng
        change cnt T be ≤ 4096 at hnb
        change RowKit.Hid (∀ x : Wd E (At p T :: pt b (.cells cur 3 (0, 0)) :: L), Calls Try.prog 17 #[ptr p, .int .i64 g] x.val fun e w' => e = .returned (.int .i64 (cnt T g : Int)) ∧ ∃ y : Wd E (At p T :: pt b (.cells cur 3 (0, 0)) :: L), w' = y.val) at HG
        change RowKit.Hid (∀ x : Wd E (At p T :: pt b (.cells cur 3 (0, 0)) :: L), Calls Try.prog 17 #[ptr p, .int .i64 be] x.val fun e w' => e = .returned (.int .i64 (cnt T be : Int)) ∧ ∃ y : Wd E (At p T :: pt b (.cells cur 3 (0, 0)) :: L), w' = y.val) at HBE
        generalize cnt T g = ng at HS HG hng
        generalize cnt T be = nb at HS HBE hnb
        have open_u : ∀ y : Opn E S p (pt b (.cells cur 3 (0, 0)) :: L), ∃ z : Wd E (At p T :: pt b (.cells cur 3 (0, 0)) :: L), y.val = z.val := HCL.out
        have HO := Lib.hid open_u
        clear open_u
        cases so with
        | false =>
          have h1 := HS.out.trans (if_pos (.inl rfl))
          have HX := Lib.hid h1
          clear h1 HS
          go_wp2_with fail
          obtain ⟨u, hu⟩ := HO.out y
          rw [hu]
          clear hu
          refine (HG.out u).mono ?_; rintro e w' ⟨rfl, u, rfl⟩
          go_wp2_with fail
          refine ⟨⟨k + 1, by omega, by rw [HX.out], by rw [HX.out], rfl, u, rfl⟩, by simp [intOf]; omega⟩
        | true =>
          by_cases h2 : ng < nb
          · have h1 := HS.out.trans (if_pos (.inr (.inl h2)))
            have HX := Lib.hid h1
            clear h1 HS
            go_wp2_with fail
            obtain ⟨u, hu⟩ := HO.out y
            rw [hu]
            clear hu
            refine (HG.out u).mono ?_; rintro e w' ⟨rfl, u, rfl⟩
            go_wp2_with fail
            refine (HBE.out u).mono ?_; rintro e w' ⟨rfl, u, rfl⟩
            go_wp2_with fail
            refine ⟨⟨k + 1, by omega, by rw [HX.out], by rw [HX.out], rfl, u, rfl⟩, by simp [intOf]; omega⟩
          · by_cases h3 : ng = nb
            · subst h3
              by_cases h4 : g < be
              · have h1 := HS.out.trans (if_pos (.inr (.inr ⟨rfl, h4⟩)))
                have HX := Lib.hid h1
                clear h1 HS
                go_wp2_with fail
                obtain ⟨u, hu⟩ := HO.out y
                rw [hu]
                clear hu
                refine (HG.out u).mono ?_; rintro e w' ⟨rfl, u, rfl⟩
                go_wp2_with fail
                refine (HBE.out u).mono ?_; rintro e w' ⟨rfl, u, rfl⟩
                go_wp2_with fail
                refine (HBE.out u).mono ?_; rintro e w' ⟨rfl, u, rfl⟩
                go_wp2_with fail
                refine ⟨⟨k + 1, by omega, by rw [HX.out], by rw [HX.out], rfl, u, rfl⟩, by simp [intOf]; omega⟩
              · have h1 := HS.out.trans (if_neg (fun h => h.elim (fun h => by cases h) (fun h => h.elim h2 (fun h => h4 h.2))))
                have HX := Lib.hid h1
                clear h1 HS
                go_wp2_with fail
                obtain ⟨u, hu⟩ := HO.out y
                rw [hu]
                clear hu
                refine (HG.out u).mono ?_; rintro e w' ⟨rfl, u, rfl⟩
                go_wp2_with fail
                refine (HBE.out u).mono ?_; rintro e w' ⟨rfl, u, rfl⟩
                go_wp2_with fail
                refine (HBE.out u).mono ?_; rintro e w' ⟨rfl, u, rfl⟩
                go_wp2_with fail
                refine ⟨⟨k + 1, by omega, by rw [HX.out], by rw [HX.out], rfl, u, rfl⟩, by simp [intOf]; omega⟩
            · have h1 := HS.out.trans (if_neg (fun h => h.elim (fun h => by cases h) (fun h => h.elim h2 (fun h => h3 h.1))))
              have h3' : ((ng : Int) == (nb : Int)) = false := beq_eq_false_iff_ne.2 (by omega)
              have HX := Lib.hid h1
              clear h1 HS
              go_wp2_with fail
              obtain ⟨u, hu⟩ := HO.out y
              rw [hu]
              clear hu
              refine (HG.out u).mono ?_; rintro e w' ⟨rfl, u, rfl⟩
              go_wp2_with fail
              refine (HBE.out u).mono ?_; rintro e w' ⟨rfl, u, rfl⟩
              go_wp2_with fail
              refine (HBE.out u).mono ?_; rintro e w' ⟨rfl, u, rfl⟩
              go_wp2_with fail
              refine ⟨⟨k + 1, by omega, by rw [HX.out], by rw [HX.out], rfl, u, rfl⟩, by simp [intOf]; omega⟩
    · have hkn : k = gs.length := by omega
      have HK := Lib.hid (show gs.take k = gs by rw [hkn, List.take_length])
      clear hkn
      rw [HK.out]
      generalize hst : empt T gs = st
      obtain ⟨be, so⟩ := st
      have HST := Lib.hid hst
      clear hst
      go_wp2_with fail
      refine bodyPost_ret (v := .tuple #[.int .i64 be, .bool so]) (by simp [results, Try.results15, go_sem]) rfl ⟨by rw [HST.out], u, rfl⟩
end
end Go.Proofs.Ytechbidbhoookaa.Use
