/- The reference of layer 6: set, TakeAt, Free. -/
import Derived.Test.YticilcmplgimpaaDoorRef06C
namespace Go.Proofs.YticilcmplgimpaaDoor.Ref06
open Go Go.RowKit Go.Proofs.YticilcmplgimpaaDoor.Sl
open Go.Proofs.YticilcmplgimpaaDoor.Bits (ptr)
open Go.Proofs.YticilcmplgimpaaDoor.Ext (count codeTake nextTake codeFree nextFree toCode toNext index)

def codeSet (t : Bool) (l : List Bool) (i : Nat) : Int := if l.getD i false = t then 9 else 0
def nextSet (t : Bool) (l : List Bool) (i : Nat) : List Bool := if l.getD i false = t then l else l.set i t
theorem set_take : codeSet true = codeTake ∧ nextSet true = nextTake := by
  constructor <;> (funext l i; simp only [codeSet, codeTake, nextSet, nextTake])
theorem set_free : codeSet false = codeFree ∧ nextSet false = nextFree := by
  constructor
  · funext l i; simp only [codeSet, codeFree]; cases l.getD i false <;> simp
  · funext l i; simp only [nextSet, nextFree]; cases l.getD i false <;> simp
theorem index_place {s : Int} {k : Nat} (h : 114 + (k : Int) * 8 = s) : index s = some k := by
  unfold index
  rw [if_neg (by omega), if_pos (by omega)]
  congr 1
  omega
theorem index_not {s : Int} {n : Nat} (h : ∀ j, j < n → 114 + (j : Int) * 8 ≠ s) : ∀ i, index s = some i → ¬ i < n := fun i hi hlt => by
  obtain ⟨h1, h2⟩ := Ext.index_nat hi
  unfold index at hi
  split at hi
  · cases hi
  · split at hi
    · rename_i hm
      exact h i hlt (by omega)
    · cases hi
set_option maxRecDepth 100000 in
set_option maxHeartbeats 1000000 in
theorem set_calls {E : World} {L : List HProp} (p : Nat) (A : List (Int × List Bool)) (d s : Int) (t : Bool) (hn : A.length ≤ 1000000) (hA : ∀ x ∈ A, x.2.length ≤ 65536) (x : Wd E (At p A :: L)) :
    Calls Tryd.prog 37 #[ptr p, .agg #[.int .i64 d, .int .i64 s], .bool t] x.val fun e w' => e = .returned (.int .i64 (toCode (codeSet t) A d s)) ∧ ∃ y : Wd E (At p (toNext (nextSet t) A d s) :: L), w' = y.val := by
  cases ha : aget A d with
  | none =>
    have e1 : toCode (codeSet t) A d s = 8 := by unfold toCode; rw [ha]
    have e2 : toNext (nextSet t) A d s = A := by unfold toNext; rw [ha]
    rw [e1, e2]
    obtain ⟨A', lv, R, hL, hlen, hidx, ⟨z, hz⟩, hback⟩ := open_none x ha
    rw [hz]
    have hat := fun L z => at_calls (E := E) (L := L) p d hL (by omega) z
    rw [hidx] at hat
    have HAT := Lib.hid hat; have HB := Lib.hid hback
    clear ha hz hat hback hidx hlen hL hA hn e1 e2
    go_enter Tryd.func37, Tryd.ntmps37
    go_wp2_with ((with_reducible refine gbox 36 ?_); go_must (refine wd_box z rfl 36 _ rfl #[.int .i64 d, .int .i64 s] rfl ?_; intro eb z))
    refine (HAT.out _ z.down2).mono ?_; rintro e w' ⟨rfl, z, rfl⟩
    go_wp2_with fail
    go_ret
    exact ⟨rfl, HB.out _ z.up2.drop⟩
  | some l =>
    have hl : l.length ≤ 65536 := hA _ (Ext.aget_mem ha)
    have hv1 : ∀ i, index s = some i → i < l.length → toCode (codeSet t) A d s = codeSet t l i ∧ toNext (nextSet t) A d s = aput A d (nextSet t l i) := fun i hi hlt => by
      unfold toCode toNext; rw [ha]; dsimp only; rw [hi]; dsimp only; rw [if_pos hlt, if_pos hlt]; exact ⟨rfl, rfl⟩
    have hv2 : (∀ i, index s = some i → ¬ i < l.length) → toCode (codeSet t) A d s = 1 ∧ toNext (nextSet t) A d s = A := fun h => by
      unfold toCode toNext; rw [ha]; dsimp only
      cases hi : index s with
      | none => exact ⟨rfl, rfl⟩
      | some i => dsimp only; rw [if_neg (h i hi), if_neg (h i hi)]; exact ⟨rfl, rfl⟩
    have hsame0 : aput A d l = A := Ext.aput_same ha
    obtain ⟨b, cap, cur, R1, r, R2, ⟨hd, rfl, hok, hc, hlies, hidx, hlen, hsame, hclose⟩, z, hz⟩ := open_some x ha
    rw [hz]
    have hat := fun L z => at_calls (E := E) (L := L) p d hlies (by rw [hlen]; omega) z
    rw [hidx] at hat
    have hlr := hlen
    rw [List.length_append] at hlr
    have hR1 : (R1.length : Int) ≤ 1000000 := by omega
    have hrt := hok.take
    have HAT := Lib.hid hat; have HS := Lib.hid hsame; have HCL := Lib.hid hclose; have HOK := Lib.hid hok; have HD := Lib.hid hd; have HT := Lib.hid hrt; have HV1 := Lib.hid hv1; have HV2 := Lib.hid hv2; have HS0 := Lib.hid hsame0
    have hlt : R1.length < (R1 ++ r :: R2).length := by rw [List.length_append, List.length_cons]; omega
    clear ha hz hat hA hn hlr hlies hidx hlen hsame hclose hok hd hrt hv1 hv2 hsame0
    generalize hNR : (R1 ++ r :: R2).length = NR at *
    have HNR := Lib.hid hNR; clear hNR
    go_enter Tryd.func37, Tryd.ntmps37
    go_wp2_with ((with_reducible refine gbox 36 ?_); go_must (refine wd_box z rfl 36 _ rfl #[.int .i64 d, .int .i64 s] rfl ?_; intro eb z))
    refine (HAT.out _ z.down2).mono ?_; rintro e w' ⟨rfl, z, rfl⟩
    obtain ⟨u, hu⟩ := big_out z.up3
    have hu' : z.val = u.val := hu
    rw [hu']
    clear hu hu'
    go_wp2_with fail
    go_loopw [8] (fun n wr => ∃ k : Nat, k ≤ r.l.length ∧ (∀ j, j < k → 114 + (j : Int) * 8 ≠ s) ∧ n = .int .i64 (k : Int) ∧ ∃ u : Wd E (r.at :: big RM.at (R1 ++ R2) :: pt b (.cells cur 50 (0, 0)) :: head p (.slice (some ⟨b, 0, none⟩) NR cap) :: pt eb (.cells #[.int .i64 d, .int .i64 s] 36) :: L), wr = u.val) (fun n _ => r.l.length - (intOf n).toNat)
    case atStart => exact ⟨0, by omega, fun j hj => by omega, rfl, u, rfl⟩
    case round =>
      obtain ⟨k, hk, hall, rfl, u, rfl⟩ := hrel
      have HALL := Lib.hid hall; clear hall
      have ne : Nonempty (Wd E (r.at :: big RM.at (R1 ++ R2) :: pt b (.cells cur 50 (0, 0)) :: head p (.slice (some ⟨b, 0, none⟩) NR cap) :: pt eb (.cells #[.int .i64 d, .int .i64 s] 36) :: L)) := ⟨u⟩
      have hk2 : (k : Int) ≤ 65536 := by omega
      by_cases hlk : k < r.l.length
      · have hck := HT.out k hlk
        by_cases hpl : 114 + (k : Int) * 8 = s
        · have hpl' : (114 + (k : Int) * 8 != s) = false := by simp [hpl]
          have HP := Lib.hid hpl; clear hpl
          have HK := Lib.hid (HV1.out k (index_place HP.out) hlk)
          have h9 : r.l.getD k false = t → codeSet t r.l k = 9 ∧ nextSet t r.l k = r.l := fun h => by unfold codeSet nextSet; rw [if_pos h, if_pos h]; exact ⟨rfl, rfl⟩
          have h0 : r.l.getD k false ≠ t → codeSet t r.l k = 0 ∧ nextSet t r.l k = r.l.set k t := fun h => by unfold codeSet nextSet; rw [if_neg h, if_neg h]; exact ⟨rfl, rfl⟩
          have H9 := Lib.hid h9; have H0 := Lib.hid h0
          clear h9 h0
          cases hb : r.l.getD k false <;> cases t
          all_goals
            rw [hb] at hck
            have HBB := Lib.hid hb; clear hb
            go_wp2_with fail
            refine wp_region_wd u (by kernel_rfl) (by kernel_rfl) ?_
            repeat (go_big_quiet_step ((go_at_call 41; exact place_calls _ _ (by omega) (by omega))))
            refine wpQuiet_nil ?_
            intro u
            go_wp2_with fail
            obtain ⟨e1, e2⟩ := HK.out
            go_ret
            rw [e1, e2]
            first
              | (obtain ⟨e3, e4⟩ := H9.out HBB.out
                 rw [e3, e4, HS0.out]
                 exact ⟨rfl, HS.out _ u.up4.drop.up1.down3⟩)
              | (obtain ⟨e3, e4⟩ := H0.out (by rw [HBB.out]; decide)
                 rw [e3, e4]
                 exact ⟨rfl, HCL.out _ (r.put k _) (u.set0 k (.bool _)).up4.drop.up1.down3 rfl (RM.put_v _ _ _) (RM.put_ok HOK.out _ _ hlk)⟩)
        · have hpl' : (114 + (k : Int) * 8 != s) = true := by simpa using hpl
          have HP := Lib.hid hpl; clear hpl
          go_wp2_with fail
          refine wp_region_wd u (by kernel_rfl) (by kernel_rfl) ?_
          repeat (go_big_quiet_step ((go_at_call 41; exact place_calls _ _ (by omega) (by omega))))
          refine wpQuiet_nil ?_
          intro u
          go_wp2_with fail
          refine ⟨⟨k + 1, by omega, fun j hj => ?_, rfl, u, rfl⟩, by simp [intOf]; omega⟩
          by_cases h : j < k
          · exact HALL.out j h
          · obtain rfl : j = k := by omega
            exact HP.out
      · go_wp2_with fail
        obtain ⟨e1, e2⟩ := HV2.out (index_not fun j hj => HALL.out j (by omega))
        go_ret
        rw [e1, e2]
        exact ⟨rfl, HS.out _ u.up4.drop.up1.down3⟩
set_option maxHeartbeats 400000 in
theorem takeAt_calls {E : World} {L : List HProp} (p : Nat) (A : List (Int × List Bool)) (d s : Int) (hn : A.length ≤ 1000000) (hA : ∀ x ∈ A, x.2.length ≤ 65536) (x : Wd E (At p A :: L)) :
    Calls Tryd.prog 19 #[ptr p, .agg #[.int .i64 d, .int .i64 s]] x.val fun e w' => e = .returned (.int .i64 (toCode codeTake A d s)) ∧ ∃ y : Wd E (At p (toNext nextTake A d s) :: L), w' = y.val := by
  have h := fun L' y => set_calls (E := E) (L := L') p A d s true hn hA y
  rw [set_take.1, set_take.2] at h
  have H := Lib.hid h
  clear hA h hn
  go_enter Tryd.func19, Tryd.ntmps19
  go_wp2_with ((with_reducible refine gbox 36 ?_); go_must (refine wd_box x rfl 36 _ rfl #[.int .i64 d, .int .i64 s] rfl ?_; intro b1 z))
  refine (H.out _ z.up1).mono ?_; rintro e w' ⟨rfl, y, rfl⟩
  go_wp2_with fail
  go_ret
  exact ⟨rfl, y.up1.drop, rfl⟩
set_option maxHeartbeats 400000 in
theorem free_calls {E : World} {L : List HProp} (p : Nat) (A : List (Int × List Bool)) (d s : Int) (hn : A.length ≤ 1000000) (hA : ∀ x ∈ A, x.2.length ≤ 65536) (x : Wd E (At p A :: L)) :
    Calls Tryd.prog 21 #[ptr p, .agg #[.int .i64 d, .int .i64 s]] x.val fun e w' => e = .returned (.int .i64 (toCode codeFree A d s)) ∧ ∃ y : Wd E (At p (toNext nextFree A d s) :: L), w' = y.val := by
  have h := fun L' y => set_calls (E := E) (L := L') p A d s false hn hA y
  rw [set_free.1, set_free.2] at h
  have H := Lib.hid h
  clear hA h hn
  go_enter Tryd.func21, Tryd.ntmps21
  go_wp2_with ((with_reducible refine gbox 36 ?_); go_must (refine wd_box x rfl 36 _ rfl #[.int .i64 d, .int .i64 s] rfl ?_; intro b1 z))
  refine (H.out _ z.up1).mono ?_; rintro e w' ⟨rfl, y, rfl⟩
  go_wp2_with fail
  go_ret
  exact ⟨rfl, y.up1.drop, rfl⟩
end Go.Proofs.YticilcmplgimpaaDoor.Ref06
