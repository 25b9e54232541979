/- The reference of layer 6: Has, Used, Room. -/
import Derived.Test.YticilcmplgimpaaDoorRef06D
namespace Go.Proofs.YticilcmplgimpaaDoor.Ref06
open Go Go.RowKit Go.Proofs.YticilcmplgimpaaDoor.Sl
open Go.Proofs.YticilcmplgimpaaDoor.Bits (ptr)
open Go.Proofs.YticilcmplgimpaaDoor.Ext (count codeTake nextTake codeFree nextFree toCode toNext index usedN roomN hasB)

/-- The places of a member that lies open. -/
abbrev opened (b cap : Nat) (cur : Array Value) (R1 : List RM) (r : RM) (R2 : List RM) (p n : Nat) : List HProp :=
  [r.at, big RM.at (R1 ++ R2), pt b (.cells cur 50 (0, 0)), head p (.slice (some ⟨b, 0, none⟩) n cap)]
theorem take_succ_count (l : List Bool) (k : Nat) (h : k < l.length) : (l.take (k + 1)).count true = (l.take k).count true + if l.getD k false then 1 else 0 := by
  rw [List.take_succ_eq_append_getElem h, List.count_append, List.getD_eq_getElem?_getD, List.getElem?_eq_getElem h]
  cases hb : l[k] <;> simp
set_option maxRecDepth 100000 in
set_option maxHeartbeats 1000000 in
theorem has_calls {E : World} {L : List HProp} (p : Nat) (A : List (Int × List Bool)) (d s : Int) (hn : A.length ≤ 1000000) (hA : ∀ x ∈ A, x.2.length ≤ 65536) (x : Wd E (At p A :: L)) :
    Calls Tryd.prog 23 #[ptr p, .agg #[.int .i64 d, .int .i64 s]] x.val fun e w' => e = .returned (.bool (hasB A d s)) ∧ ∃ y : Wd E (At p A :: L), w' = y.val := by
  cases ha : aget A d with
  | none =>
    have e1 : hasB A d s = false := by unfold hasB toCode; rw [ha]; rfl
    rw [e1]
    obtain ⟨A', lv, R, hL, hlen, hidx, ⟨z, hz⟩, hback⟩ := open_none x ha
    rw [hz]
    have hat := fun L z => at_calls (E := E) (L := L) p d hL (by omega) z
    rw [hidx] at hat
    have HAT := Lib.hid hat; have HB := Lib.hid hback
    clear ha hz hat hback hidx hlen hL hA hn e1
    go_enter Tryd.func23, Tryd.ntmps23
    go_wp2_with ((with_reducible refine gbox 36 ?_); go_must (refine wd_box z rfl 36 _ rfl #[.int .i64 d, .int .i64 s] rfl ?_; intro eb z))
    refine (HAT.out _ z.down2).mono ?_; rintro e w' ⟨rfl, z, rfl⟩
    go_wp2_with fail
    go_ret
    exact ⟨rfl, HB.out _ z.up2.drop⟩
  | some l =>
    have hl : l.length ≤ 65536 := hA _ (Ext.aget_mem ha)
    have hv1 : ∀ i, index s = some i → i < l.length → hasB A d s = l.getD i false := fun i hi hlt => by
      unfold hasB toCode; rw [ha]; dsimp only; rw [hi]; dsimp only; rw [if_pos hlt]; unfold codeFree; cases l.getD i false <;> rfl
    have hv2 : (∀ i, index s = some i → ¬ i < l.length) → hasB A d s = false := fun h => by
      unfold hasB toCode; rw [ha]; dsimp only
      cases hi : index s with
      | none => rfl
      | some i => dsimp only; rw [if_neg (h i hi)]; rfl
    obtain ⟨b, cap, cur, R1, r, R2, ⟨hd, rfl, hok, hc, hlies, hidx, hlen, hsame, hclose⟩, z, hz⟩ := open_some x ha
    rw [hz]
    have hat := fun L z => at_calls (E := E) (L := L) p d hlies (by rw [hlen]; omega) z
    rw [hidx] at hat
    have hlr := hlen
    rw [List.length_append] at hlr
    have hR1 : (R1.length : Int) ≤ 1000000 := by omega
    have hrt := hok.take
    have HAT := Lib.hid hat; have HS := Lib.hid hsame; have HT := Lib.hid hrt; have HV1 := Lib.hid hv1; have HV2 := Lib.hid hv2
    have hlt : R1.length < (R1 ++ r :: R2).length := by rw [List.length_append, List.length_cons]; omega
    clear ha hz hat hA hn hlr hlies hidx hlen hsame hclose hok hd hrt hv1 hv2
    generalize hNR : (R1 ++ r :: R2).length = NR at *
    clear hNR
    go_enter Tryd.func23, Tryd.ntmps23
    go_wp2_with ((with_reducible refine gbox 36 ?_); go_must (refine wd_box z rfl 36 _ rfl #[.int .i64 d, .int .i64 s] rfl ?_; intro eb z))
    refine (HAT.out _ z.down2).mono ?_; rintro e w' ⟨rfl, z, rfl⟩
    obtain ⟨u, hu⟩ := big_out z.up3
    have hu' : z.val = u.val := hu
    rw [hu']
    clear hu hu'
    go_wp2_with fail
    go_loopw [6] (fun n wr => ∃ k : Nat, k ≤ r.l.length ∧ (∀ j, j < k → 114 + (j : Int) * 8 ≠ s) ∧ n = .int .i64 (k : Int) ∧ ∃ u : Wd E (r.at :: big RM.at (R1 ++ R2) :: pt b (.cells cur 50 (0, 0)) :: head p (.slice (some ⟨b, 0, none⟩) NR cap) :: pt eb (.cells #[.int .i64 d, .int .i64 s] 36) :: L), wr = u.val) (fun n _ => r.l.length - (intOf n).toNat)
    case atStart => exact ⟨0, by omega, fun j hj => by omega, rfl, u, rfl⟩
    case round =>
      obtain ⟨k, hk, hall, rfl, u, rfl⟩ := hrel
      have HALL := Lib.hid hall; clear hall
      have ne : Nonempty (Wd E (r.at :: big RM.at (R1 ++ R2) :: pt b (.cells cur 50 (0, 0)) :: head p (.slice (some ⟨b, 0, none⟩) NR cap) :: pt eb (.cells #[.int .i64 d, .int .i64 s] 36) :: L)) := ⟨u⟩
      have hk2 : (k : Int) ≤ 65536 := by omega
      by_cases hlk : k < r.l.length
      · have hck := HT.out k hlk
        by_cases hpl : 114 + (k : Int) * 8 = s
        · have hpl' : (114 + (k : Int) * 8 == s) = true := by simp [hpl]
          have hK := HV1.out k (index_place hpl) hlk
          generalize r.l.getD k false = bv at hck hK
          have HK := Lib.hid hK; clear hpl hK
          go_wp2_with fail
          refine wp_region_wd u (by kernel_rfl) (by kernel_rfl) ?_
          repeat (go_big_quiet_step ((go_at_call 41; exact place_calls _ _ (by omega) (by omega))))
          refine wpQuiet_nil ?_
          intro u
          go_wp2_with fail
          go_ret
          rw [HK.out]
          exact ⟨rfl, HS.out _ u.up4.drop.up1.down3⟩
        · have hpl' : (114 + (k : Int) * 8 == s) = false := by simpa using hpl
          have HP := Lib.hid hpl; clear hpl
          go_wp2_with fail
          refine wp_region_wd u (by kernel_rfl) (by kernel_rfl) ?_
          repeat (go_big_quiet_step ((go_at_call 41; exact place_calls _ _ (by omega) (by omega))))
          refine wpQuiet_nil ?_
          intro u
          go_wp2_with fail
          refine ⟨⟨k + 1, by omega, fun j hj => ?_, rfl, u, rfl⟩, by simp [intOf]; omega⟩
          by_cases h : j < k
          · exact HALL.out j h
          · obtain rfl : j = k := by omega
            exact HP.out
      · go_wp2_with fail
        have e1 := HV2.out (index_not fun j hj => HALL.out j (by omega))
        go_ret
        rw [e1]
        exact ⟨rfl, HS.out _ u.up4.drop.up1.down3⟩

set_option maxRecDepth 100000 in
set_option maxHeartbeats 1000000 in
/-- Used, where the member lies open. -/
theorem used_open {E : World} {L : List HProp} {p b cap : Nat} {cur : Array Value} {R1 R2 : List RM} {r : RM} {A : List (Int × List Bool)} {d : Int} {l : List Bool} (hn : A.length ≤ 1000000) (hl : l.length ≤ 65536) (O : Opened E p A d l b cap cur R1 r R2)
    (x : Wd E (r.at :: big RM.at (R1 ++ R2) :: pt b (.cells cur 50 (0, 0)) :: head p (.slice (some ⟨b, 0, none⟩) (R1 ++ r :: R2).length cap) :: L)) :
    Calls Tryd.prog 28 #[ptr p, .int .i64 d] x.val fun e w' => e = .returned (.int .i64 (l.count true : Int)) ∧
      ∃ y : Wd E (r.at :: big RM.at (R1 ++ R2) :: pt b (.cells cur 50 (0, 0)) :: head p (.slice (some ⟨b, 0, none⟩) (R1 ++ r :: R2).length cap) :: L), w' = y.val := by
  obtain ⟨hd, rfl, hok, hc, hlies, hidx, hlen, hsame, hclose⟩ := O
  have hat := fun L z => at_calls (E := E) (L := L) p d hlies (by rw [hlen]; omega) z
  rw [hidx] at hat
  have hlr := hlen
  rw [List.length_append] at hlr
  have hR1 : (R1.length : Int) ≤ 1000000 := by omega
  have hrt := hok.take
  have HAT := Lib.hid hat; have HT := Lib.hid hrt
  have hlt : R1.length < (R1 ++ r :: R2).length := by rw [List.length_append, List.length_cons]; omega
  clear hat hn hlr hlies hidx hlen hsame hclose hok hd hrt
  generalize hNR : (R1 ++ r :: R2).length = NR at *
  clear hNR
  go_enter Tryd.func28, Tryd.ntmps28
  go_wp2_with fail
  refine (HAT.out _ x.up3.up3).mono ?_; rintro e w' ⟨rfl, z, rfl⟩
  have hu : z.val = z.down3.down3.val := rfl
  rw [hu]
  generalize z.down3.down3 = u
  clear hu
  have h0 : (0 : Int) ≤ R1.length := by omega
  go_wp2_with fail
  go_loop [6, 7] (fun c n => ∃ k : Nat, k ≤ r.l.length ∧ c = .int .i64 ((r.l.take k).count true : Int) ∧ n = .int .i64 (k : Int)) (fun _ n => r.l.length - (intOf n).toNat)
  case atStart => exact ⟨0, by omega, rfl, rfl⟩
  case round =>
    obtain ⟨k, hk, rfl, rfl⟩ := hrel
    have hcb : ((r.l.take k).count true : Int) ≤ 65536 := by
      have h1 := List.count_le_length (a := true) (l := r.l.take k)
      have h2 := List.length_take_le k r.l
      omega
    by_cases hlk : k < r.l.length
    · have hck := HT.out k hlk
      have hts := take_succ_count r.l k hlk
      cases hb : r.l.getD k false with
      | true =>
        rw [hb] at hck hts
        have HTS := Lib.hid hts
        clear hb hts
        go_wp2_with fail
        go_round
        case rel => exact ⟨k + 1, by omega, by rw [HTS.out]; rfl, by go_num⟩
        case measure => simp [intOf]; omega
      | false =>
        rw [hb] at hck hts
        have HTS := Lib.hid hts
        clear hb hts
        go_wp2_with fail
        go_round
        case rel => exact ⟨k + 1, by omega, by rw [HTS.out]; rfl, by go_num⟩
        case measure => simp [intOf]; omega
    · have hkl : k = r.l.length := by omega
      have HK := Lib.hid hkl; clear hkl
      go_wp2_with fail
      go_ret
      rw [HK.out, List.take_length]
      exact ⟨rfl, u, rfl⟩
set_option maxRecDepth 100000 in
set_option maxHeartbeats 1000000 in
theorem used_calls {E : World} {L : List HProp} (p : Nat) (A : List (Int × List Bool)) (d : Int) (hn : A.length ≤ 1000000) (hA : ∀ x ∈ A, x.2.length ≤ 65536) (x : Wd E (At p A :: L)) :
    Calls Tryd.prog 28 #[ptr p, .int .i64 d] x.val fun e w' => e = .returned (.int .i64 (usedN A d)) ∧ ∃ y : Wd E (At p A :: L), w' = y.val := by
  cases ha : aget A d with
  | none =>
    have e1 : usedN A d = 0 := by unfold usedN; rw [ha]
    rw [e1]
    obtain ⟨A', lv, R, hL, hlen, hidx, ⟨z, hz⟩, hback⟩ := open_none x ha
    rw [hz]
    have hat := fun L z => at_calls (E := E) (L := L) p d hL (by omega) z
    rw [hidx] at hat
    have HAT := Lib.hid hat; have HB := Lib.hid hback
    clear ha hz hat hback hidx hlen hL hA hn e1
    go_enter Tryd.func28, Tryd.ntmps28
    go_wp2_with fail
    refine (HAT.out _ z).mono ?_; rintro e w' ⟨rfl, z, rfl⟩
    go_wp2_with fail
    go_loop [6, 7] (fun c n => c = .int .i64 0 ∧ n = .int .i64 0) (fun _ n => 0)
    case atStart => exact ⟨rfl, rfl⟩
    case round =>
      obtain ⟨rfl, rfl⟩ := hrel
      go_wp2_with fail
      go_ret
      exact ⟨rfl, HB.out _ z⟩
  | some l =>
    have hl : l.length ≤ 65536 := hA _ (Ext.aget_mem ha)
    have e1 : usedN A d = (l.count true : Int) := by unfold usedN; rw [ha]
    rw [e1]
    obtain ⟨b, cap, cur, R1, r, R2, O, z, hz⟩ := open_some x ha
    obtain ⟨u, hu⟩ := big_out z.up2
    rw [hz]
    have hu' : z.val = u.val := hu
    rw [hu']
    refine (used_open hn hl O u).mono ?_
    rintro e w' ⟨rfl, y, rfl⟩
    exact ⟨rfl, O.same _ y.up1.down3⟩
set_option maxRecDepth 100000 in
set_option maxHeartbeats 1000000 in
theorem room_calls {E : World} {L : List HProp} (p : Nat) (A : List (Int × List Bool)) (d : Int) (hn : A.length ≤ 1000000) (hA : ∀ x ∈ A, x.2.length ≤ 65536) (x : Wd E (At p A :: L)) :
    Calls Tryd.prog 30 #[ptr p, .int .i64 d] x.val fun e w' => e = .returned (.int .i64 (roomN A d)) ∧ ∃ y : Wd E (At p A :: L), w' = y.val := by
  cases ha : aget A d with
  | none =>
    have e1 : roomN A d = 0 := by unfold roomN; rw [ha]
    rw [e1]
    obtain ⟨A', lv, R, hL, hlen, hidx, ⟨z, hz⟩, hback⟩ := open_none x ha
    rw [hz]
    have hat := fun L z => at_calls (E := E) (L := L) p d hL (by omega) z
    rw [hidx] at hat
    have HAT := Lib.hid hat; have HB := Lib.hid hback
    clear ha hz hat hback hidx hlen hL hA hn e1
    go_enter Tryd.func30, Tryd.ntmps30
    go_wp2_with fail
    refine (HAT.out _ z).mono ?_; rintro e w' ⟨rfl, z, rfl⟩
    go_wp2_with fail
    go_ret
    exact ⟨rfl, HB.out _ z⟩
  | some l =>
    have hl : l.length ≤ 65536 := hA _ (Ext.aget_mem ha)
    have hcl := List.count_le_length (a := true) (l := l)
    have e1 : roomN A d = (l.length : Int) - l.count true := by unfold roomN; rw [ha]
    rw [e1]
    obtain ⟨b, cap, cur, R1, r, R2, O, z, hz⟩ := open_some x ha
    obtain ⟨u, hu⟩ := big_out z.up2
    rw [hz]
    have hu' : z.val = u.val := hu
    rw [hu']
    have hus := fun u => used_open (L := L) hn hl O u
    have hs := O.same
    obtain ⟨hd, rfl, hok, hc, hlies, hidx, hlen, hsame, hclose⟩ := O
    have hat := fun L z => at_calls (E := E) (L := L) p d hlies (by rw [hlen]; omega) z
    rw [hidx] at hat
    have hlr := hlen
    rw [List.length_append] at hlr
    have hR1 : (R1.length : Int) ≤ 1000000 := by omega
    have HAT := Lib.hid hat; have HUS := Lib.hid hus; have HS := Lib.hid hs
    have hlt : R1.length < (R1 ++ r :: R2).length := by rw [List.length_append, List.length_cons]; omega
    clear hu hu' hz e1 hA ha hat hn hlr hlies hidx hlen hsame hclose hok hd hus hs
    generalize hNR : (R1 ++ r :: R2).length = NR at *
    clear hNR
    go_enter Tryd.func30, Tryd.ntmps30
    go_wp2_with fail
    refine (HAT.out _ u.up3.up3).mono ?_; rintro e w' ⟨rfl, z, rfl⟩
    have hu : z.val = z.down3.down3.val := rfl
    rw [hu]
    generalize z.down3.down3 = u
    clear hu
    have ne : Nonempty (Wd E (r.at :: big RM.at (R1 ++ R2) :: pt b (.cells cur 50 (0, 0)) :: head p (.slice (some ⟨b, 0, none⟩) NR cap) :: L)) := ⟨u⟩
    go_wp2_with fail
    refine wp_region_wd u (by kernel_rfl) (by kernel_rfl) ?_
    repeat (go_big_quiet_step ((go_at_call 28; exact HUS.out _)))
    refine wpQuiet_nil ?_
    intro u
    go_wp2_with fail
    go_ret
    exact ⟨rfl, HS.out _ u.up1.down3⟩
end Go.Proofs.YticilcmplgimpaaDoor.Ref06
