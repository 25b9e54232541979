/- The reference of layer 6: Take, set, TakeAt, Free. -/
import Derived.Test.YticilcmplgimpaaDoorRef06
namespace Go.Proofs.YticilcmplgimpaaDoor.Ref06
open Go Go.RowKit Go.Proofs.YticilcmplgimpaaDoor.Sl
open Go.Proofs.YticilcmplgimpaaDoor.Bits (ptr)
open Go.Proofs.YticilcmplgimpaaDoor.Ext (count codeTake nextTake codeFree nextFree toCode toNext index takeVal takeNext usedN roomN addCode addNext zero36)

theorem cells_same {R1 R2 : List RM} {r r' : RM} (hd : r'.d = r.d) (hv : r'.v = r.v) : cells (R1 ++ r' :: R2) = cells (R1 ++ r :: R2) := by
  unfold cells
  simp only [List.flatMap_append, List.flatMap_cons, hd, hv]
theorem aput_abs {R1 R2 : List RM} {r r' : RM} (h : ∀ x ∈ R1, x.d ≠ r.d) (hd : r'.d = r.d) : aput (abs (R1 ++ r :: R2)) r.d r'.l = abs (R1 ++ r' :: R2) := by
  have : aidx (abs (R1 ++ r :: R2)) r.d = some R1.length := by
    unfold aidx abs
    rw [List.findIdx?_eq_some_iff_getElem]
    refine ⟨by simp, by simp, fun j hj => ?_⟩
    have := h R1[j] (List.getElem_mem hj)
    simpa [List.getElem_append, hj] using this
  unfold aput
  rw [this]
  simp [abs, hd]
/-- The map, opened at a member that is there. -/
structure Opened (E : World) (p : Nat) (A : List (Int × List Bool)) (d : Int) (l : List Bool) (b cap : Nat) (cur : Array Value) (R1 : List RM) (r : RM) (R2 : List RM) : Prop where
  hd : r.d = d
  hl : r.l = l
  ok : r.Ok
  cell : cur[R1.length * 2 + 1]? = some r.v
  lies : Lies 50 (pt b (.cells cur 50 (0, 0))) (.slice (some ⟨b, 0, none⟩) (R1 ++ r :: R2).length cap) (R1 ++ r :: R2).length (cells (R1 ++ r :: R2))
  idx : atIdx (R1 ++ r :: R2) d = (R1.length : Int)
  len : (R1 ++ r :: R2).length = A.length
  same : ∀ (L : List HProp) (z : Wd E (r.at :: pt b (.cells cur 50 (0, 0)) :: head p (.slice (some ⟨b, 0, none⟩) (R1 ++ r :: R2).length cap) :: big RM.at (R1 ++ R2) :: L)), ∃ y : Wd E (At p A :: L), z.val = y.val
  close : ∀ (L : List HProp) (r' : RM) (z : Wd E (r'.at :: pt b (.cells cur 50 (0, 0)) :: head p (.slice (some ⟨b, 0, none⟩) (R1 ++ r :: R2).length cap) :: big RM.at (R1 ++ R2) :: L)), r'.d = r.d → r'.v = r.v → r'.Ok →
    ∃ y : Wd E (At p (aput A d r'.l) :: L), z.val = y.val
theorem open_some {E : World} {L : List HProp} {p : Nat} {A : List (Int × List Bool)} {d : Int} {l : List Bool} (x : Wd E (At p A :: L)) (h : aget A d = some l) :
    ∃ b cap cur R1 r R2, Opened E p A d l b cap cur R1 r R2 ∧ ∃ z : Wd E (pt b (.cells cur 50 (0, 0)) :: head p (.slice (some ⟨b, 0, none⟩) (R1 ++ r :: R2).length cap) :: big RM.at (R1 ++ r :: R2) :: L), x.val = z.val := by
  obtain ⟨lv, R, rfl, hok, y, hy⟩ := At.op x
  obtain ⟨A', hA', ⟨z, hz⟩, hback⟩ := Row.read y
  obtain ⟨R1, r, R2, rfl, hd, hl, h1, hi⟩ := at_some h
  have hlies := hA'
  obtain ⟨base, cap, rfl, hb⟩ := hA'
  obtain ⟨b, rfl, cur, rfl, hcur⟩ := hb (by rw [List.length_append, List.length_cons]; omega)
  have hc : cur[R1.length * 2 + 1]? = some r.v := by
    have h0 := hcur _ _ (cells_get (R1 ++ r :: R2) R1.length (by simp)).2
    simpa using h0
  have hokr : r.Ok := hok r (by simp)
  have hclose : ∀ (L : List HProp) (r' : RM) (z : Wd E (r'.at :: pt b (.cells cur 50 (0, 0)) :: head p (.slice (some ⟨b, 0, none⟩) (R1 ++ r :: R2).length cap) :: big RM.at (R1 ++ R2) :: L)), r'.d = r.d → r'.v = r.v → r'.Ok →
      ∃ y : Wd E (At p (abs (R1 ++ r' :: R2)) :: L), z.val = y.val := fun L r' z hd' hv' hok' => by
    obtain ⟨u, hu⟩ := hback E _ z.up1
    obtain ⟨v, hv⟩ := big_in (f := RM.at) (R1 := R1) (R2 := R2) (r := r') (u.up3.up2 : Wd E (r'.at :: big RM.at (R1 ++ R2) :: Row 50 2 (.slice (some ⟨b, 0, none⟩) (R1 ++ r :: R2).length cap) (R1 ++ r :: R2).length (cells (R1 ++ r :: R2)) :: head p (.slice (some ⟨b, 0, none⟩) (R1 ++ r :: R2).length cap) :: L))
    obtain ⟨w, hw⟩ := At.cl (L := L) (p := p) (lv := .slice (some ⟨b, 0, none⟩) (R1 ++ r :: R2).length cap) (R := R1 ++ r' :: R2) (fun q hq => by
      rcases List.mem_append.1 hq with hq | hq
      · exact hok q (by simp [hq])
      · rcases List.mem_cons.1 hq with rfl | hq
        · exact hok'
        · exact hok q (by simp [hq])) (v.down2.cast (by rw [cells_same hd' hv', show (R1 ++ r' :: R2).length = (R1 ++ r :: R2).length by simp]))
    exact ⟨w, hu.trans (hv.trans hw)⟩
  refine ⟨b, cap, cur, R1, r, R2, ⟨hd, hl, hokr, hc, hlies, hi, by simp [abs], fun L z => ?_, fun L r' z hd' hv' hok' => ?_⟩, z, hy.trans hz⟩
  · exact hclose L r z rfl rfl hokr
  · obtain ⟨y, hy⟩ := hclose L r' z hd' hv' hok'
    exact ⟨y.cast (by rw [← hd, aput_abs (by rw [hd]; exact h1) hd']), hy⟩
theorem open_none {E : World} {L : List HProp} {p : Nat} {A : List (Int × List Bool)} {d : Int} (x : Wd E (At p A :: L)) (h : aget A d = none) :
    ∃ A' lv R, Lies 50 A' lv R.length (cells R) ∧ R.length = A.length ∧ atIdx R d = -1 ∧ (∃ z : Wd E (A' :: head p lv :: big RM.at R :: L), x.val = z.val) ∧
      ∀ (L : List HProp) (z : Wd E (A' :: head p lv :: big RM.at R :: L)), ∃ y : Wd E (At p A :: L), z.val = y.val := by
  obtain ⟨lv, R, rfl, hok, y, hy⟩ := At.op x
  obtain ⟨A', hA', ⟨z, hz⟩, hback⟩ := Row.read y
  refine ⟨A', lv, R, hA', by simp [abs], at_none h, ⟨z, hy.trans hz⟩, fun L z => ?_⟩
  obtain ⟨u, hu⟩ := hback E _ z
  obtain ⟨v, hv⟩ := At.cl hok u
  exact ⟨v, hu.trans hv⟩
/-- A member with one place set. -/
def RM.put (r : RM) (i : Nat) (v : Bool) : RM := { r with l := r.l.set i v, cur := r.cur.setIfInBounds i (.bool v) }
theorem RM.put_ok {r : RM} (h : r.Ok) (i : Nat) (v : Bool) (hi : i < r.l.length) : (r.put i v).Ok := by
  refine ⟨by simpa [RM.put] using h.len, h.max, by simpa [RM.put] using h.size, fun j hj => ?_⟩
  have hj' : j < r.l.length := by simpa [RM.put] using hj
  have hs := h.size
  have hl := h.len
  show (r.cur.setIfInBounds i (.bool v))[j]? = some (.bool ((r.l.set i v).getD j false))
  rw [Array.getElem?_setIfInBounds, List.getD_eq_getElem?_getD, List.getElem?_set]
  by_cases e : i = j
  · subst e
    rw [if_pos rfl, if_pos (by omega), if_pos rfl, if_pos hj']; rfl
  · rw [if_neg e, if_neg e, h.take j hj', List.getD_eq_getElem?_getD]
theorem RM.put_v (r : RM) (i : Nat) (v : Bool) : (r.put i v).v = r.v := by
  show Value.slice _ (r.l.set i v).length r.cap = _
  rw [List.length_set]; rfl

set_option maxRecDepth 100000 in
set_option maxHeartbeats 1000000 in
theorem take_calls {E : World} {L : List HProp} (p : Nat) (A : List (Int × List Bool)) (d : Int) (hn : A.length ≤ 1000000) (hA : ∀ x ∈ A, x.2.length ≤ 65536) (x : Wd E (At p A :: L)) :
    Calls Tryd.prog 24 #[ptr p, .int .i64 d] x.val fun e w' => e = .returned (takeVal A d) ∧ ∃ y : Wd E (At p (takeNext A d) :: L), w' = y.val := by
  cases ha : aget A d with
  | none =>
    have e1 : takeVal A d = .tuple #[.agg #[.int .i64 0, .int .i64 0], .int .i64 8] := by unfold takeVal; rw [ha]
    have e2 : takeNext A d = A := by unfold takeNext; rw [ha]
    rw [e1, e2]
    obtain ⟨A', lv, R, hL, hlen, hidx, ⟨z, hz⟩, hback⟩ := open_none x ha
    rw [hz]
    have hat := fun L z => at_calls (E := E) (L := L) p d hL (by omega) z
    rw [hidx] at hat
    have HAT := Lib.hid hat; have HB := Lib.hid hback
    clear ha hz hat hback hidx hlen hL hA hn e1 e2
    go_enter Tryd.func24, Tryd.ntmps24
    go_wp2_with ((with_reducible refine galloc 36 ?_); go_must (refine wd_alloc z rfl 36 rfl (.agg #[.int .i64 0, .int .i64 0]) zero36 ?_; intro rb z; simp only [Value.cells] at z))
    refine (HAT.out _ z.down2).mono ?_; rintro e w' ⟨rfl, z, rfl⟩
    go_wp2_with fail
    refine bodyPost_ret (v := .tuple #[.agg #[.int .i64 0, .int .i64 0], .int .i64 8]) (by simp [results, Tryd.results24, go_sem]) rfl ⟨rfl, ?_⟩
    exact HB.out _ ((z.set2 0 (.int .i64 0)).set2 1 (.int .i64 0)).up2.drop
  | some l =>
    have hl : l.length ≤ 65536 := hA _ (Ext.aget_mem ha)
    have hv1 : ∀ i, Bits.least l = some i → takeVal A d = .tuple #[.agg #[.int .i64 d, .int .i64 (114 + (i : Int) * 8)], .int .i64 0] ∧ takeNext A d = aput A d (l.set i true) := fun i hi => by
      unfold takeVal takeNext; rw [ha]; dsimp only; rw [hi]; exact ⟨rfl, rfl⟩
    have hv2 : Bits.least l = none → takeVal A d = .tuple #[.agg #[.int .i64 0, .int .i64 0], .int .i64 4] ∧ takeNext A d = A := fun hi => by
      unfold takeVal takeNext; rw [ha]; dsimp only; rw [hi]; exact ⟨rfl, rfl⟩
    obtain ⟨b, cap, cur, R1, r, R2, ⟨hd, rfl, hok, hc, hlies, hidx, hlen, hsame, hclose⟩, z, hz⟩ := open_some x ha
    rw [hz]
    have hat := fun L z => at_calls (E := E) (L := L) p d hlies (by rw [hlen]; omega) z
    rw [hidx] at hat
    have hlr := hlen
    rw [List.length_append] at hlr
    have hR1 : (R1.length : Int) ≤ 1000000 := by omega
    have hrt := hok.take
    have HAT := Lib.hid hat; have HS := Lib.hid hsame; have HCL := Lib.hid hclose; have HOK := Lib.hid hok; have HD := Lib.hid hd; have HT := Lib.hid hrt; have HV1 := Lib.hid hv1; have HV2 := Lib.hid hv2
    have hlt : R1.length < (R1 ++ r :: R2).length := by rw [List.length_append, List.length_cons]; omega
    clear ha hz hat hA hn hlr hlies hidx hlen hsame hclose hok hd hrt hv1 hv2
    generalize hNR : (R1 ++ r :: R2).length = NR at *
    have HNR := Lib.hid hNR; clear hNR
    go_enter Tryd.func24, Tryd.ntmps24
    go_wp2_with ((with_reducible refine galloc 36 ?_); go_must (refine wd_alloc z rfl 36 rfl (.agg #[.int .i64 0, .int .i64 0]) zero36 ?_; intro rb z; simp only [Value.cells] at z))
    refine (HAT.out _ z.down2).mono ?_; rintro e w' ⟨rfl, z, rfl⟩
    obtain ⟨u, hu⟩ := big_out z.up3
    have hu' : z.val = u.val := hu
    rw [hu']
    clear hu hu'
    go_wp2_with fail
    go_loop [7] (fun n => ∃ k : Nat, k ≤ r.l.length ∧ (∀ j, j < k → r.l.getD j false = true) ∧ n = .int .i64 (k : Int)) (fun n => r.l.length - (intOf n).toNat)
    case atStart => exact ⟨0, by omega, fun j hj => by omega, rfl⟩
    case round =>
      obtain ⟨k, hk, hall, rfl⟩ := hrel
      have HALL := Lib.hid hall; clear hall
      by_cases hlk : k < r.l.length
      · have hck := HT.out k hlk
        cases hb : r.l.getD k false with
        | true =>
          rw [hb] at hck
          have HB := Lib.hid hb; clear hb
          go_wp2_with fail
          go_round
          case rel =>
            refine ⟨k + 1, by omega, fun j hj => ?_, by go_num⟩
            by_cases h : j < k
            · exact HALL.out j h
            · obtain rfl : j = k := by omega
              exact HB.out
          case measure => simp [intOf]; omega
        | false =>
          rw [hb] at hck
          have HB := Lib.hid hb; clear hb
          have hk2 : (k : Int) ≤ 65536 := by omega
          go_wp2_with fail
          refine (place_calls (u.set0 k (.bool true)) _ (by omega) (by omega)).mono ?_; rintro e w' ⟨rfl, y, rfl⟩
          go_wp2_with fail
          obtain ⟨e1, e2⟩ := HV1.out k (Bits.least_some _ k hlk HB.out HALL.out)
          refine bodyPost_ret (v := .tuple #[.agg #[.int .i64 d, .int .i64 (114 + (k : Int) * 8)], .int .i64 0]) (by simp [results, Tryd.results24, go_sem]) rfl ⟨by rw [e1], ?_⟩
          rw [e2]
          exact HCL.out _ (r.put k true) ((y.set4 0 (.int .i64 d)).set4 1 (.int .i64 (114 + (k : Int) * 8))).up4.drop.up1.down3 rfl (RM.put_v _ _ _) (RM.put_ok HOK.out _ _ hlk)
      · go_wp2_with fail
        obtain ⟨e1, e2⟩ := HV2.out (Bits.least_none _ fun j hj => HALL.out j (by omega))
        refine bodyPost_ret (v := .tuple #[.agg #[.int .i64 0, .int .i64 0], .int .i64 4]) (by simp [results, Tryd.results24, go_sem]) rfl ⟨by rw [e1], ?_⟩
        rw [e2]
        exact HS.out _ ((u.set4 0 (.int .i64 0)).set4 1 (.int .i64 0)).up4.drop.up1.down3
end Go.Proofs.YticilcmplgimpaaDoor.Ref06
