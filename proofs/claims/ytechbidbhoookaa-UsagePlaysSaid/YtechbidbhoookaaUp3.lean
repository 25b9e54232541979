/- The law of layer 14: same. -/
import Derived.Test.YtechbidbhoookaaUp2
import Derived.Test.YtechbidbhoookaaApp
set_option linter.unusedVariables false
set_option linter.unusedSectionVars false
namespace Go.Proofs.Ytechbidbhoookaa.Up
open Go Go.RowKit Go.Proofs.Ytechbidbhoookaa.Sl
open Go.Proofs.Ytechbidbhoookaa.Use (ptr Tb Lv optVal ints ints_get holeOf blocksOf slotsN findVal blockOf empt)
open Go.Proofs.Ytechbidbhoookaa.Rf (Gs Fits)

section
variable {E : World} {n : Nat} {T : Tb} {G : Gs} {l : Lv} (R : Rel n T G l) (hn : n ≤ 190) (p q : Nat)
include R hn
theorem blocks1 (L : List HProp) (d : Int) (x : Wd E (Use.At p T :: Rf.At q G l :: L)) : Calls Try.prog 30 #[ptr p, .int .i64 d] x.val fun e w' => ∃ v, e = .returned v ∧ ∃ y : Wd E (Row 3 1 v (blocksOf T d).length (ints (blocksOf T d)) :: Use.At p T :: Rf.At q G l :: L), w' = y.val :=
  Use.blocks_calls R.good p d x
theorem blocks2 (L : List HProp) (d : Int) (x : Wd E (Use.At p T :: Rf.At q G l :: L)) : Calls Try.prog 31 #[ptr q, .int .i64 d] x.val fun e w' => ∃ v, e = .returned v ∧ ∃ y : Wd E (Row 3 1 v (blocksOf T d).length (ints (blocksOf T d)) :: Use.At p T :: Rf.At q G l :: L), w' = y.val := by
  obtain ⟨A1, A2, vG, vL, hA1, hA2, ⟨y, hy⟩, b1, b2, bk⟩ := Rf.At.rd x.up1
  have hx : x.val = y.val := hy
  rw [hx, ← R.blocks]
  refine (Rf.blocks_calls q hA1 hA2 (R.fits (by omega)) d y).mono ?_
  rintro e w' ⟨v, rfl, y, rfl⟩
  obtain ⟨z, hz⟩ := bk E _ (y.ord [1, 2, 3, 0, 4])
  exact ⟨v, rfl, z.ord [1, 2, 0], hz⟩
theorem hole1 (L : List HProp) (d : Int) (x : Wd E (Use.At p T :: Rf.At q G l :: L)) : Calls Try.prog 14 #[ptr p, .int .i64 d] x.val fun e w' => e = .returned (optVal (holeOf T d)) ∧ ∃ y : Wd E (Use.At p T :: Rf.At q G l :: L), w' = y.val := Use.hole_calls R.good p d x
theorem hole2 (L : List HProp) (d : Int) (x : Wd E (Use.At p T :: Rf.At q G l :: L)) : Calls Try.prog 26 #[ptr q, .int .i64 d] x.val fun e w' => e = .returned (optVal (holeOf T d)) ∧ ∃ y : Wd E (Use.At p T :: Rf.At q G l :: L), w' = y.val := by
  obtain ⟨A1, A2, vG, vL, hA1, hA2, ⟨y, hy⟩, b1, b2, bk⟩ := Rf.At.rd x.up1
  have hx : x.val = y.val := hy
  rw [hx, ← R.hole]
  refine (Rf.hole_calls q hA1 hA2 (R.fits (by omega)) d y).mono ?_
  rintro e w' ⟨rfl, y, rfl⟩
  obtain ⟨z, hz⟩ := bk E _ y
  exact ⟨rfl, z.up1, hz⟩
theorem slots1 (L : List HProp) (d : Int) (x : Wd E (Use.At p T :: Rf.At q G l :: L)) : Calls Try.prog 32 #[ptr p, .int .i64 d] x.val fun e w' => e = .returned (.int .i64 (slotsN T d)) ∧ ∃ y : Wd E (Use.At p T :: Rf.At q G l :: L), w' = y.val := Use.slots_calls R.good p d x
theorem slots2 (L : List HProp) (d : Int) (x : Wd E (Use.At p T :: Rf.At q G l :: L)) : Calls Try.prog 33 #[ptr q, .int .i64 d] x.val fun e w' => e = .returned (.int .i64 (slotsN T d)) ∧ ∃ y : Wd E (Use.At p T :: Rf.At q G l :: L), w' = y.val := by
  obtain ⟨A1, A2, vG, vL, hA1, hA2, ⟨y, hy⟩, b1, b2, bk⟩ := Rf.At.rd x.up1
  have hx : x.val = y.val := hy
  rw [hx, ← R.slots]
  refine (Rf.slots_calls q hA1 (by have := (R.fits (by omega)).hn; omega) d y).mono ?_
  rintro e w' ⟨rfl, y, rfl⟩
  obtain ⟨z, hz⟩ := bk E _ y
  exact ⟨rfl, z.up1, hz⟩
theorem count1 (L : List HProp) (d : Int) (x : Wd E (Use.At p T :: Rf.At q G l :: L)) : Calls Try.prog 17 #[ptr p, .int .i64 d] x.val fun e w' => e = .returned (.int .i64 ((blocksOf T d).length : Int)) ∧ ∃ y : Wd E (Use.At p T :: Rf.At q G l :: L), w' = y.val := Use.count_calls R.good p d x
theorem find1 (L : List HProp) (d : Int) (x : Wd E (Use.At p T :: Rf.At q G l :: L)) : Calls Try.prog 13 #[ptr p, .int .i64 d] x.val fun e w' => e = .returned (findVal T d) ∧ ∃ y : Wd E (Use.At p T :: Rf.At q G l :: L), w' = y.val := Use.find_calls R.good p d x
theorem find2 (L : List HProp) (d : Int) (x : Wd E (Use.At p T :: Rf.At q G l :: L)) : Calls Try.prog 34 #[ptr q, .int .i64 d] x.val fun e w' => e = .returned (findVal T d) ∧ ∃ y : Wd E (Use.At p T :: Rf.At q G l :: L), w' = y.val := by
  obtain ⟨A1, A2, vG, vL, hA1, hA2, ⟨y, hy⟩, b1, b2, bk⟩ := Rf.At.rd x.up1
  have hx : x.val = y.val := hy
  have e : findVal T d = Rf.findV (Rf.findF l d) := by
    rw [R.find]; unfold findVal Rf.findV; cases Use.findOf T d <;> rfl
  rw [hx, e]
  refine (Rf.find_calls q hA2 (R.fits (by omega)).hl d y).mono ?_
  rintro e w' ⟨rfl, y, rfl⟩
  obtain ⟨z, hz⟩ := bk E _ y
  exact ⟨rfl, z.up1, hz⟩
theorem block1 (L : List HProp) (d s : Int) (x : Wd E (Use.At p T :: Rf.At q G l :: L)) : Calls Try.prog 16 #[ptr p, .int .i64 d, .int .i64 s] x.val fun e w' => e = .returned (optVal (blockOf T d s)) ∧ ∃ y : Wd E (Use.At p T :: Rf.At q G l :: L), w' = y.val := Use.block_calls R.good p d s x
theorem block2 (L : List HProp) (d s : Int) (x : Wd E (Use.At p T :: Rf.At q G l :: L)) : Calls Try.prog 35 #[ptr q, .int .i64 d, .int .i64 s] x.val fun e w' => e = .returned (optVal (blockOf T d s)) ∧ ∃ y : Wd E (Use.At p T :: Rf.At q G l :: L), w' = y.val := by
  obtain ⟨A1, A2, vG, vL, hA1, hA2, ⟨y, hy⟩, b1, b2, bk⟩ := Rf.At.rd x.up1
  have hx : x.val = y.val := hy
  rw [hx, ← R.block]
  refine (Rf.block_calls q hA2 (R.fits (by omega)).hl d s y).mono ?_
  rintro e w' ⟨rfl, y, rfl⟩
  obtain ⟨z, hz⟩ := bk E _ y
  exact ⟨rfl, z.up1, hz⟩
theorem groups1 (L : List HProp) (x : Wd E (Use.At p T :: Rf.At q G l :: L)) : Calls Try.prog 28 #[ptr p] x.val fun e w' => ∃ v, e = .returned v ∧ ∃ y : Wd E (Row 3 1 v T.length (ints (Use.sorted T)) :: Use.At p T :: Rf.At q G l :: L), w' = y.val := Use.groups_calls R.good p (by have := R.len; omega) x
theorem groups2 (L : List HProp) (x : Wd E (Use.At p T :: Rf.At q G l :: L)) : Calls Try.prog 27 #[ptr q] x.val fun e w' => ∃ v, e = .returned v ∧ ∃ y : Wd E (Row 3 1 v T.length (ints (Use.sorted T)) :: Use.At p T :: Rf.At q G l :: L), w' = y.val := by
  rw [← R.sort, ← R.lenG]
  refine (Rf.groups_calls q R.keysG (fun x hx => (R.memG hx).1) (by have := (R.fits (by omega)).hn; omega) x.up1).mono ?_
  rintro e w' ⟨v, rfl, y, rfl⟩
  exact ⟨v, rfl, y.ord [0, 2, 1], rfl⟩
theorem empt1 (L : List HProp) {A3 : HProp} {v : Value} {gs : List Int} (hA : Lies 3 A3 v gs.length (ints gs)) (hl : gs.length ≤ 1000000) (x : Wd E (Use.At p T :: Rf.At q G l :: A3 :: L)) : Calls Try.prog 15 #[ptr p, v] x.val fun e w' => e = .returned (.tuple #[.int .i64 (empt T gs).1, .bool (empt T gs).2]) ∧ ∃ y : Wd E (Use.At p T :: Rf.At q G l :: A3 :: L), w' = y.val := by
  refine (Use.emptiest_calls R.good p hA hl (x.ord [0, 2, 1])).mono ?_
  rintro e w' ⟨rfl, y, rfl⟩
  exact ⟨rfl, y.ord [0, 2, 1], rfl⟩
theorem empt2 (L : List HProp) {A3 : HProp} {v : Value} {gs : List Int} (hA : Lies 3 A3 v gs.length (ints gs)) (hl : gs.length ≤ 1000000) (x : Wd E (Use.At p T :: Rf.At q G l :: A3 :: L)) : Calls Try.prog 36 #[ptr q, v] x.val fun e w' => e = .returned (.tuple #[.int .i64 (empt T gs).1, .bool (empt T gs).2]) ∧ ∃ y : Wd E (Use.At p T :: Rf.At q G l :: A3 :: L), w' = y.val := by
  obtain ⟨A1, A2, vG, vL, hA1, hA2, ⟨y, hy⟩, b1, b2, bk⟩ := Rf.At.rd (x.ord [1, 2, 0])
  have hx : x.val = y.val := hy
  have hE := R.empt gs
  rw [hx, ← hE.1, ← hE.2]
  refine (Rf.emptiest_calls q hA1 hA2 (R.fits (by omega)) hA hl y).mono ?_
  rintro e w' ⟨rfl, y, rfl⟩
  obtain ⟨z, hz⟩ := bk E _ y
  exact ⟨rfl, z.ord [2, 0, 1], hz⟩
end
abbrev opB (ob : Nat) (k g s b m : Int) : HProp := pt ob (.cells #[.int .i64 k, .int .i64 g, .int .i64 s, .int .i64 b, .int .i64 m] 29 (0, 0))
theorem optVal_form (o : Option Int) : ∃ (a : Int) (b : Bool), optVal o = .tuple #[.int .i64 a, .bool b] := by cases o <;> exact ⟨_, _, rfl⟩
theorem findVal_form (T : Tb) (d : Int) : ∃ (a b : Int) (c : Bool), findVal T d = .tuple #[.int .i64 a, .int .i64 b, .bool c] := by
  unfold findVal; cases Use.findOf T d <;> exact ⟨_, _, _, rfl⟩
set_option maxRecDepth 100000 in
set_option maxHeartbeats 8000000 in
theorem same_calls {E : World} {L : List HProp} {n : Nat} {T : Tb} {G : Gs} {l : Lv} (R : Rel n T G l) (hn : n ≤ 190) (p q : Nat) (k g s b m : Int) (x : Wd E (Use.At p T :: Rf.At q G l :: L)) :
    Calls Try.prog 10 #[ptr p, ptr q, .agg #[.int .i64 k, .int .i64 g, .int .i64 s, .int .i64 b, .int .i64 m]] x.val fun e w' => e = .returned (.bool true) ∧ ∃ y : Wd E (Use.At p T :: Rf.At q G l :: L), w' = y.val := by
  have hsl : (Use.sorted T).length = T.length := by unfold Use.sorted; rw [(List.mergeSort_perm _ _).length_eq, List.length_map]
  have hTl : T.length ≤ 190 := by have := R.len; omega
  have HB1 := Lib.hid (blocks1 (E := E) R hn p q); have HB2 := Lib.hid (blocks2 (E := E) R hn p q)
  have HH1 := Lib.hid (hole1 (E := E) R hn p q); have HH2 := Lib.hid (hole2 (E := E) R hn p q)
  have HS1 := Lib.hid (slots1 (E := E) R hn p q); have HS2 := Lib.hid (slots2 (E := E) R hn p q)
  have HC1 := Lib.hid (count1 (E := E) R hn p q)
  have HF1 := Lib.hid (find1 (E := E) R hn p q); have HF2 := Lib.hid (find2 (E := E) R hn p q)
  have HK1 := Lib.hid (block1 (E := E) R hn p q); have HK2 := Lib.hid (block2 (E := E) R hn p q)
  have HG1 := Lib.hid (groups1 (E := E) R hn p q); have HG2 := Lib.hid (groups2 (E := E) R hn p q)
  have HE1 := Lib.hid (fun L A3 v gs hA hl x => empt1 (E := E) R hn p q L (A3 := A3) (v := v) (gs := gs) hA hl x); have HE2 := Lib.hid (fun L A3 v gs hA hl x => empt2 (E := E) R hn p q L (A3 := A3) (v := v) (gs := gs) hA hl x)
  have HBL := Lib.hid (Use.blocks_len R.good)
  have HSL := Lib.hid hsl
  clear hsl R hn
  go_enter Try.func10, Try.ntmps10
  go_wp2_with ((with_reducible refine gbox 29 ?_); go_must (refine wd_box x rfl 29 _ rfl #[.int .i64 k, .int .i64 g, .int .i64 s, .int .i64 b, .int .i64 m] rfl ?_; intro ob z))
  refine (HG2.out _ (z.ord [1, 2, 0])).mono ?_; rintro e w' ⟨v2, rfl, y, rfl⟩
  go_wp2_with fail
  refine (HG1.out _ (y.ord [1, 2, 0, 3])).mono ?_; rintro e w' ⟨v1, rfl, y, rfl⟩
  go_wp2_with fail
  obtain ⟨A1, hA1, ⟨z, hz⟩, -⟩ := Row.read y
  obtain ⟨A2, hA2, ⟨y2, hy2⟩, hbk⟩ := Row.read (z.ord [3, 0, 1, 2])
  have hzy : y.val = y2.val := hz.trans hy2
  rw [hzy]
  clear hz hy2 hzy
  have HBK := Lib.hid hbk; clear hbk
  refine (numbers_calls (xs := Use.sorted T) (by rw [HSL.out]; exact hA2) (by rw [HSL.out]; exact hA1) (by rw [HSL.out]; omega) y2).mono ?_; rintro e w' ⟨rfl, y, rfl⟩
  obtain ⟨z, hz⟩ : ∃ z : Wd E (Row 3 1 v2 T.length (ints (Use.sorted T)) :: Use.At p T :: Rf.At q G l :: opB ob k g s b m :: L), y.val = z.val := by
    obtain ⟨z, hz⟩ := HBK.out E _ y
    exact ⟨z.up1.drop, hz⟩
  rw [hz]
  clear hz HBK hA1 hA2
  obtain ⟨lb0, lc0, rfl⟩ := Row.form z
  go_wp2_with (first
    | ((with_reducible refine gbuildSlice 40 ?_); go_must (refine wd_buildSlice z rfl 40 3 2 _ rfl #[.int .i64 g, .int .i64 (-1)] (fun w => by kernel_rfl) ?_; intro nb z))
    | ((with_reducible refine gbuiltin .append ?_); go_must (refine wd_append2 z.up1 rfl _ _ 40 rfl Try.underlying40 Use.elemI rfl rfl (news := [.int .i64 g, .int .i64 (-1)]) (m := 2) (by rfl) (fun _ => ⟨_, rfl, fun j v hj => block_news (Wd.heap1 z.up1) j v hj⟩) (by simp [Value.oneCell']) (by unfold maxLen; omega) (by omega) ?_; intro lb lc z)))
  obtain ⟨A3, hA3, ⟨zz, hz⟩, -⟩ := Row.read z
  rw [hz]
  clear hz
  obtain ⟨xs, hxs⟩ : ∃ xs : List Int, xs = Use.sorted T ++ [g, -1] := ⟨_, rfl⟩
  have hxl : xs.length = T.length + 2 := by rw [hxs, List.length_append, HSL.out]; rfl
  have hA : Lies 3 A3 (.slice lb (T.length + 2) lc) xs.length (ints xs) := by
    rw [hxl, hxs]; unfold ints; rw [List.map_append]; exact hA3
  obtain ⟨b3, c3, hv3, hb3⟩ := hA
  have HA := Lib.hid hA3; have HXL := Lib.hid hxl; have HXS := Lib.hid hxs; have HB3 := Lib.hid hb3; have HV3 := Lib.hid hv3
  have HA' := Lib.hid (show Lies 3 A3 (.slice lb (T.length + 2) lc) xs.length (ints xs) by
    rw [hxl, hxs]; unfold ints; rw [List.map_append]; exact hA3)
  clear hA3 hxl hxs hb3 hv3 HA
  generalize hN : T.length + 2 = N at *
  have hN2 : N ≤ 192 := by omega
  clear hN
  obtain ⟨z, hz⟩ : ∃ y : Wd E (Use.At p T :: Rf.At q G l :: A3 :: opB ob k g s b m :: L), zz.val = y.val := ⟨(zz.ord [2, 3, 0, 4, 1]).up4.drop, rfl⟩
  rw [hz]
  clear hz
  obtain ⟨b3, c3, hv3, hb3⟩ := HA'.out
  simp only [Value.slice.injEq] at hv3
  obtain ⟨rfl, hNx, rfl⟩ := hv3
  clear hNx
  have HB3 := Lib.hid hb3
  clear hb3
  go_wp2_with fail
  go_loopw [10, 11, 12, 13, 14, 15] (fun i _ _ _ _ _ wr => ∃ k' : Nat, k' ≤ N ∧ i = .int .i64 (k' : Int) ∧ ∃ z : Wd E (Use.At p T :: Rf.At q G l :: A3 :: opB ob k g s b m :: L), wr = z.val) (fun i _ _ _ _ _ _ => N - (intOf i).toNat)
  case atStart => exact ⟨0, by omega, rfl, z, rfl⟩
  case round =>
    obtain ⟨j, hj, rfl, z, rfl⟩ := hrel
    by_cases hlt : j < N
    · obtain ⟨bb, hbb, cur, hA3', hcur⟩ := HB3.out (by rw [HXL.out]; omega)
      subst hbb
      subst hA3'
      have hc := hcur _ _ (ints_get (show j < xs.length by rw [HXL.out]; omega))
      clear hcur
      generalize xs.getD j 0 = d at hc
      have hbl := HBL.out d
      obtain ⟨ha, hok, hho⟩ := optVal_form (holeOf T d)
      have hh1 := HH1.out; have hh2 := HH2.out
      have hs1 := HS1.out; have hs2 := HS2.out
      have hc1 := HC1.out; have hb1 := HB1.out; have hb2 := HB2.out
      have hh1 := fun L x => hh1 L d x; have hh2 := fun L x => hh2 L d x
      have hs1 := fun L x => hs1 L d x; have hs2 := fun L x => hs2 L d x
      have hc1 := fun L x => hc1 L d x; have hb1 := fun L x => hb1 L d x; have hb2 := fun L x => hb2 L d x
      rw [hho] at hh1 hh2
      generalize blocksOf T d = bs at *
      generalize slotsN T d = sn at *
      have Hh1 := Lib.hid hh1; have Hh2 := Lib.hid hh2; have Hs1 := Lib.hid hs1; have Hs2 := Lib.hid hs2; have Hc1 := Lib.hid hc1; have Hb1 := Lib.hid hb1; have Hb2 := Lib.hid hb2
      clear hh1 hh2 hs1 hs2 hc1 hb1 hb2 hho
      go_wp2_with fail
      have ne : Nonempty (Wd E (pt bb (.cells cur 3 (0, 0)) :: opB ob k g s b m :: L)) := ⟨z.drop.drop⟩
      refine wp_region_wd_mix z (fun w' => ∃ y : Wd E (pt bb (.cells cur 3 (0, 0)) :: opB ob k g s b m :: L), w' = y.val) 12
        [(0, true), (1, true), (2, true), (3, true), (4, true), (6, true), (7, true), (8, true), (9, true), (10, true), (5, false), (11, false)] (by kernel_rfl) (by kernel_rfl)
        (fun c a d v w h => by cases d <;> exact h) ⟨z.drew.drop.drop, rfl⟩ ?_
      refine mix_reads [0, 1, 2, 3, 4, 6, 7, 8, 9, 10] (by kernel_rfl) ?_
      simp only [pick, List.getD_cons_zero, List.getD_cons_succ]
      repeat (go_big_quiet_step (fail))
      refine wpQuiet_nil ?_
      refine mix_eff (by kernel_rfl) ?_
      simp only [List.getD_cons_zero, List.getD_cons_succ]
      go_wp2_with fail
      refine (Hb1.out _ z.drew).mono ?_; rintro e w' ⟨v1, rfl, y, rfl⟩
      go_wp2_with fail
      refine ⟨⟨y.drop.drop.drop, rfl⟩, mix_eff (by kernel_rfl) ?_⟩
      simp only [List.getD_cons_zero, List.getD_cons_succ]
      go_wp2_with fail
      refine (Hb2.out _ (y.ord [1, 2, 0])).mono ?_; rintro e w' ⟨v2, rfl, y, rfl⟩
      go_wp2_with fail
      refine ⟨⟨(y.drop.drop.drop.drop : Wd E (pt bb (.cells cur 3 (0, 0)) :: opB ob k g s b m :: L)), rfl⟩, ?_⟩
      unfold wpMix
      simp only [List.drop_succ_cons, List.drop_zero]
      obtain ⟨A2, hA2, ⟨y2, hy2⟩, -⟩ := Row.read y
      obtain ⟨A1, hA1, ⟨y3, hy3⟩, -⟩ := Row.read (y2.ord [3, 0, 1, 2])
      have hy4 : y.val = y3.val := hy2.trans hy3
      rw [hy4]
      clear hy2 hy3 hy4
      go_wp2_with fail
      refine (numbers_calls hA1 hA2 (by omega) y3).mono ?_; rintro e w' ⟨rfl, y, rfl⟩
      clear hA1 hA2
      obtain ⟨z, hz⟩ : ∃ z : Wd E (Use.At p T :: Rf.At q G l :: pt bb (.cells cur 3 (0, 0)) :: opB ob k g s b m :: L), y.val = z.val := ⟨y.drop.drop, rfl⟩
      rw [hz]
      clear hz
      go_wp2_with fail
      refine (Hh1.out _ z).mono ?_; rintro e w' ⟨rfl, z, rfl⟩
      go_wp2_with fail
      refine (Hh2.out _ z).mono ?_; rintro e w' ⟨rfl, z, rfl⟩
      go_wp2_with fail
      refine wp_region_wd_mix z (fun w' => ∃ y : Wd E (pt bb (.cells cur 3 (0, 0)) :: opB ob k g s b m :: L), w' = y.val) 41
        [(0, true), (1, true), (2, true), (3, true), (4, true), (5, true), (6, true), (7, true), (9, true), (10, true), (11, true), (12, true), (13, true), (8, false), (14, false), (15, true), (16, true), (17, true), (18, true), (19, true), (20, true), (21, true), (22, true), (24, true), (25, true), (26, true), (27, true), (28, true), (23, false), (29, false), (30, true), (31, true), (32, true), (33, true), (34, true), (35, true), (36, true), (37, true), (38, true), (39, true), (40, true)] (by kernel_rfl) (by kernel_rfl)
        (fun c a d v w h => by cases d <;> exact h) ⟨z.drew.drop.drop, rfl⟩ ?_
      refine mix_reads [0, 1, 2, 3, 4, 5, 6, 7, 9, 10, 11, 12, 13] (by kernel_rfl) ?_
      simp only [pick, List.getD_cons_zero, List.getD_cons_succ]
      repeat (go_big_quiet_step (fail))
      refine wpQuiet_nil ?_
      refine mix_eff (by kernel_rfl) ?_
      simp only [List.getD_cons_zero, List.getD_cons_succ]
      go_wp2_with fail
      refine (Hs1.out _ z.drew).mono ?_; rintro e w' ⟨rfl, y, rfl⟩
      go_wp2_with fail
      refine ⟨⟨y.drop.drop, rfl⟩, mix_eff (by kernel_rfl) ?_⟩
      simp only [List.getD_cons_zero, List.getD_cons_succ]
      go_wp2_with fail
      refine (Hs2.out _ y).mono ?_; rintro e w' ⟨rfl, y, rfl⟩
      go_wp2_with fail
      refine ⟨⟨y.drop.drop, rfl⟩, ?_⟩
      refine mix_reads [15, 16, 17, 18, 19, 20, 21, 22, 24, 25, 26, 27, 28] (by kernel_rfl) ?_
      simp only [pick, List.getD_cons_zero, List.getD_cons_succ]
      repeat (go_big_quiet_step (fail))
      refine wpQuiet_nil ?_
      refine mix_eff (by kernel_rfl) ?_
      simp only [List.getD_cons_zero, List.getD_cons_succ]
      go_wp2_with fail
      refine (Hc1.out _ y).mono ?_; rintro e w' ⟨rfl, y, rfl⟩
      go_wp2_with fail
      refine ⟨⟨y.drop.drop, rfl⟩, mix_eff (by kernel_rfl) ?_⟩
      simp only [List.getD_cons_zero, List.getD_cons_succ]
      go_wp2_with fail
      refine (Hb2.out _ y).mono ?_; rintro e w' ⟨v3, rfl, y, rfl⟩
      obtain ⟨vb, vc, rfl⟩ := Row.form y
      go_wp2_with fail
      refine ⟨⟨y.drop.drop.drop, rfl⟩, ?_⟩
      refine mix_reads [30, 31, 32, 33, 34, 35, 36, 37, 38, 39, 40] (by kernel_rfl) ?_
      simp only [pick, List.getD_cons_zero, List.getD_cons_succ]
      repeat (go_big_quiet_step (fail))
      refine wpQuiet_nil ?_
      unfold wpMix
      simp only [List.drop_succ_cons, List.drop_zero]
      go_wp2_with fail
      refine ⟨⟨j + 1, by omega, rfl, y.drop, rfl⟩, by simp [intOf]; omega⟩
    · go_wp2_with fail
      go_loopw [16, 17, 18, 19, 20, 21, 22] (fun i _ _ _ _ _ _ wr => ∃ k' : Int, -1 ≤ k' ∧ k' ≤ 20 ∧ i = .int .i64 k' ∧ ∃ z : Wd E (Use.At p T :: Rf.At q G l :: A3 :: opB ob k g s b m :: L), wr = z.val) (fun i _ _ _ _ _ _ _ => (20 - intOf i).toNat)
      case atStart => exact ⟨-1, by omega, by omega, rfl, z, rfl⟩
      case round =>
        obtain ⟨bl, hb0, hb1, rfl, z, rfl⟩ := hrel
        by_cases hlt2 : bl < 20
        · have hf1 := fun L x => HF1.out L bl x
          have hf2 := fun L x => HF2.out L bl x
          obtain ⟨fa, fb, fc, hff⟩ := findVal_form T bl
          rw [hff] at hf1 hf2
          have Hf1 := Lib.hid hf1; have Hf2 := Lib.hid hf2
          clear hf1 hf2 hff
          go_wp2_with fail
          refine (Hf1.out _ z).mono ?_; rintro e w' ⟨rfl, z, rfl⟩
          go_wp2_with fail
          refine (Hf2.out _ z).mono ?_; rintro e w' ⟨rfl, z, rfl⟩
          go_wp2_with fail
          refine ⟨⟨bl + 1, by omega, by omega, rfl, z, rfl⟩, by simp [intOf]; omega⟩
        · have hk1 := fun L x => HK1.out L g s x
          have hk2 := fun L x => HK2.out L g s x
          obtain ⟨ka, kb, hkk⟩ := optVal_form (blockOf T g s)
          rw [hkk] at hk1 hk2
          have he1 := fun L x => HE1.out L A3 _ xs HA'.out (by rw [HXL.out]; omega) x
          have he2 := fun L x => HE2.out L A3 _ xs HA'.out (by rw [HXL.out]; omega) x
          generalize (empt T xs).1 = ea at he1 he2
          generalize (empt T xs).2 = eb at he1 he2
          have Hk1 := Lib.hid hk1; have Hk2 := Lib.hid hk2; have He1 := Lib.hid he1; have He2 := Lib.hid he2
          clear hk1 hk2 hkk he1 he2
          go_wp2_with fail
          refine (Hk1.out _ z).mono ?_; rintro e w' ⟨rfl, z, rfl⟩
          go_wp2_with fail
          refine (Hk2.out _ z).mono ?_; rintro e w' ⟨rfl, z, rfl⟩
          go_wp2_with fail
          refine (He1.out _ z).mono ?_; rintro e w' ⟨rfl, z, rfl⟩
          go_wp2_with fail
          refine (He2.out _ z).mono ?_; rintro e w' ⟨rfl, z, rfl⟩
          go_wp2_with fail
          go_ret
          exact ⟨by simp, z.up2.drop.up2.drop, rfl⟩
end Go.Proofs.Ytechbidbhoookaa.Up
