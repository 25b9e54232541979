/- The reference of layer 14: Open, Drop, Put, Clear. -/
import Derived.Test.YtechbidbhoookaaRf2
import Derived.Test.YtechbidbhoookaaOrd
set_option linter.unusedVariables false
set_option linter.unusedSectionVars false
namespace Go.Proofs.Ytechbidbhoookaa.Rf
open Go Go.RowKit Go.Proofs.Ytechbidbhoookaa.Sl
open Go.Proofs.Ytechbidbhoookaa.Use (ptr Lv optVal)

def openCodeF (G : Gs) (g n : Int) : Int := if g < 0 ∨ n < 1 ∨ 4096 < n then 1 else if slotsF G g > 0 then 9 else 0
def openNextF (G : Gs) (g n : Int) : Gs := if openCodeF G g n = 0 then G ++ [(g, n)] else G
def dropCodeF (G : Gs) (g : Int) : Int := if slotsF G g = 0 then 8 else 0
def offG (G : Gs) (g : Int) : Gs := G.filter fun x => decide (x.1 ≠ g)
def putCodeF (G : Gs) (l : Lv) (g s b : Int) : Int := if inF G g s ≠ 0 then inF G g s else if b < 0 then 1 else if (blockF l g s).isSome then 9 else 0
def putNextF (G : Gs) (l : Lv) (g s b : Int) : Lv := if putCodeF G l g s b = 0 then withoutF l (-1) (-1) b ++ [(g, s, b)] else l
def clearCodeF (G : Gs) (l : Lv) (g s : Int) : Int := if inF G g s ≠ 0 then inF G g s else if (blockF l g s).isSome then 0 else 9
def clearNextF (G : Gs) (l : Lv) (g s : Int) : Lv := if clearCodeF G l g s = 0 then withoutF l g s (-1) else l
section
variable {E : World} {L : List HProp} {G : Gs} {l : Lv} (q : Nat)
set_option maxRecDepth 100000 in
set_option maxHeartbeats 4000000 in
theorem open_calls (hn : G.length ≤ 100000) (g n : Int) (x : Wd E (At q G l :: L)) :
    Calls Try.prog 21 #[ptr q, .int .i64 g, .int .i64 n] x.val fun e w' => e = .returned (.int .i64 (openCodeF G g n)) ∧ ∃ y : Wd E (At q (openNextF G g n) l :: L), w' = y.val := by
  by_cases hbad : g < 0 ∨ n < 1 ∨ 4096 < n
  · have e0 : openCodeF G g n = 1 := by unfold openCodeF; rw [if_pos hbad]
    have e1 : openNextF G g n = G := by unfold openNextF; rw [if_neg (by rw [e0]; decide)]
    rw [e0, e1]
    clear e0 e1 hn
    by_cases h1 : g < 0
    · clear hbad
      go_enter Try.func21, Try.ntmps21
      go_wp2_with fail
      go_ret
      exact ⟨rfl, x, rfl⟩
    · by_cases h2 : n < 1
      · clear hbad
        go_enter Try.func21, Try.ntmps21
        go_wp2_with fail
        go_ret
        exact ⟨rfl, x, rfl⟩
      · have h3 : 4096 < n := by omega
        clear hbad
        go_enter Try.func21, Try.ntmps21
        go_wp2_with fail
        go_ret
        exact ⟨rfl, x, rfl⟩
  · have h1 : ¬ g < 0 := fun h => hbad (.inl h)
    have h2 : ¬ n < 1 := fun h => hbad (.inr (.inl h))
    have h3 : ¬ 4096 < n := fun h => hbad (.inr (.inr h))
    obtain ⟨A1, A2, vG, vL, hA1, hA2, ⟨y, hy⟩, b1, b2, bk⟩ := At.rd x
    rw [hy]
    have HS := Lib.hid (fun x => slots_calls (E := E) (L := L) (A2 := A2) (vL := vL) q hA1 (by omega) g x)
    have e0 : openCodeF G g n = if slotsF G g > 0 then 9 else 0 := by unfold openCodeF; rw [if_neg hbad]
    have BK := Lib.hid bk; have B1 := Lib.hid b1; have B2 := Lib.hid b2
    by_cases hs : slotsF G g > 0
    · rw [if_pos hs] at e0
      have e1 : openNextF G g n = G := by unfold openNextF; rw [if_neg (by rw [e0]; decide)]
      rw [e0, e1]
      generalize slotsF G g = m at *
      clear hbad e0 e1 hA1 hA2 b1 b2 bk hy
      go_enter Try.func21, Try.ntmps21
      go_wp2_with fail
      refine (HS.out y).mono ?_; rintro e w' ⟨rfl, y, rfl⟩
      go_wp2_with fail
      go_ret
      exact ⟨rfl, BK.out _ _ y⟩
    · rw [if_neg hs] at e0
      have e1 : openNextF G g n = G ++ [(g, n)] := by unfold openNextF; rw [if_pos e0]
      rw [e0, e1]
      generalize slotsF G g = m at *
      clear hbad e0 e1 hA1 hA2 b1 b2 bk hy
      go_enter Try.func21, Try.ntmps21
      go_wp2_with fail
      refine (HS.out y).mono ?_; rintro e w' ⟨rfl, y, rfl⟩
      obtain ⟨u, hu⟩ := B1.out _ _ y
      rw [hu]
      clear hu
      go_wp2_with (first
        | ((with_reducible refine gbuildSlice 47 ?_); go_must (refine wd_buildSlice u rfl 47 64 1 _ rfl #[.int .i64 g, .int .i64 n] (fun w => by kernel_rfl) ?_; intro nb u))
        | ((with_reducible refine gbuiltin .append ?_); go_must (refine wd_append u.up1 rfl _ _ 47 rfl Try.underlying47 elemGroup rfl rfl (news := [.int .i64 g, .int .i64 n]) (m := 1) (by rfl) (fun j v hj => block_news (Wd.heap1 u.up1) j v hj) (by simp [Value.oneCell']) (by unfold maxLen; omega) (by omega) ?_; intro sl u _; obtain ⟨sb, sc, rfl⟩ := Row.form u)))
      go_ret
      refine ⟨rfl, ?_⟩
      generalize hsl : Value.slice sb (G.length + 1) sc = sl at *
      obtain ⟨v, hv⟩ := B2.out _ _ ((u.set3 0 sl).up2)
      obtain ⟨t, ht⟩ := At.cl (q := q) (G := G ++ [(g, n)]) (l := l) (vG := sl) (vL := vL) ((v.ord [1, 0, 3, 2]).cast (by rw [rowG_snoc]; rfl))
      exact ⟨t.up1.drop, hv.trans ht⟩
set_option maxRecDepth 100000 in
set_option maxHeartbeats 4000000 in
theorem drop_calls (hn : G.length ≤ 100000) (hl : l.length ≤ 1000000) (g : Int) (x : Wd E (At q G l :: L)) :
    Calls Try.prog 23 #[ptr q, .int .i64 g] x.val fun e w' => e = .returned (.int .i64 (dropCodeF G g)) ∧
      ∃ y : Wd E (At q (if dropCodeF G g = 0 then offG G g else G) (if dropCodeF G g = 0 then withoutF l g (-1) (-1) else l) :: L), w' = y.val := by
  obtain ⟨A1, A2, vG, vL, hA1, hA2, ⟨y, hy⟩, b1, b2, bk⟩ := At.rd x
  rw [hy]
  have HS := Lib.hid (fun x => slots_calls (E := E) (L := L) (A2 := A2) (vL := vL) q hA1 (by omega) g x)
  have HW := Lib.hid (fun L A1 vG x => without_calls (E := E) (L := L) (A1 := A1) (vG := vG) q hA2 (by omega) g (-1) (-1) x)
  have BK := Lib.hid bk; have B1 := Lib.hid b1; have B2 := Lib.hid b2
  by_cases hs : slotsF G g = 0
  · have e0 : dropCodeF G g = 8 := by unfold dropCodeF; rw [if_pos hs]
    rw [e0, if_neg (by decide), if_neg (by decide)]
    rw [hs] at HS
    clear hs e0 hA1 hA2 b1 b2 bk hy HW
    go_enter Try.func23, Try.ntmps23
    go_wp2_with fail
    refine (HS.out y).mono ?_; rintro e w' ⟨rfl, y, rfl⟩
    go_wp2_with fail
    go_ret
    exact ⟨rfl, BK.out _ _ y⟩
  · have e0 : dropCodeF G g = 0 := by unfold dropCodeF; rw [if_neg hs]
    rw [e0, if_pos rfl, if_pos rfl]
    have hs' : (slotsF G g == 0) = false := by simpa using hs
    generalize slotsF G g = m at *
    obtain ⟨base, cap, rfl, hb⟩ := hA1
    have HB := Lib.hid hb
    clear hs e0 hA2 b1 b2 bk hy hb
    go_enter Try.func23, Try.ntmps23
    go_wp2_with fail
    refine (HS.out y).mono ?_; rintro e w' ⟨rfl, y, rfl⟩
    go_wp2_with ((with_reducible refine gbuildSlice 47 ?_); go_must (refine wd_buildSlice y rfl 47 64 0 _ rfl #[] (fun w => by kernel_rfl) ?_; intro ob y))
    obtain ⟨u, hu⟩ := Row.cl (n := 0) (cap := 0) (k := 2) (by omega) (by unfold maxLen; omega) rfl y
    rw [hu]
    clear hu
    go_loopw [5, 6] (fun o n wr => ∃ k : Nat, k ≤ G.length ∧ n = .int .i64 (k : Int) ∧ ∃ u : Wd E (RowG o (offG (G.take k) g) :: A1 :: A2 :: hd q (.slice base G.length cap) vL :: L), wr = u.val) (fun _ n _ => G.length - (intOf n).toNat)
    case atStart => exact ⟨0, by omega, rfl, u, rfl⟩
    case round =>
      obtain ⟨k, hk, rfl, u, rfl⟩ := hrel
      by_cases hlt : k < G.length
      · obtain ⟨b, rfl, cur, rfl, hcur⟩ := HB.out (by omega)
        have hc := hcur _ _ (cellsG_get G k hlt).1
        have hc2 := hcur _ _ (cellsG_get G k hlt).2
        have hlen : (offG (G.take k) g).length ≤ 1000000 := by
          unfold offG
          have := List.length_filter_le (fun x => decide (x.1 ≠ g)) (G.take k)
          rw [List.length_take] at this; omega
        clear hcur
        by_cases hd : (G[k]).1 = g
        · have HD := Lib.hid (show offG (G.take (k + 1)) g = offG (G.take k) g by unfold offG; rw [take_next hlt, List.filter_append]; simp [hd])
          have hd' : ((G[k]).1 == g) = true := by simp [hd]
          generalize offG (G.take k) g = F at *
          clear hd
          generalize (G[k]).1 = a at *
          go_wp2_with fail
          exact ⟨⟨k + 1, by omega, rfl, u.cast (by rw [HD.out]), rfl⟩, by simp [intOf]; omega⟩
        · have HD := Lib.hid (show offG (G.take (k + 1)) g = offG (G.take k) g ++ [G[k]] from filter_keep (α := Int × Int) (p := fun x : Int × Int => decide (x.1 ≠ g)) hlt (by simpa using hd))
          have hd' : ((G[k]).1 == g) = false := by simp [hd]
          generalize offG (G.take k) g = F at *
          clear hd
          generalize G[k] = X at *
          obtain ⟨a, c⟩ := X
          dsimp only at *
          go_wp2_with (first
            | ((with_reducible refine gbuildSlice 47 ?_); go_must (refine wd_buildSlice u rfl 47 64 1 _ rfl #[.int .i64 a, .int .i64 c] (fun w => by kernel_rfl) ?_; intro nb u))
            | ((with_reducible refine gbuiltin .append ?_); go_must (refine wd_append u.up1 rfl _ _ 47 rfl Try.underlying47 elemGroup rfl rfl (news := [.int .i64 a, .int .i64 c]) (m := 1) (by rfl) (fun j v hj => block_news (Wd.heap1 u.up1) j v hj) (by simp [Value.oneCell']) (by unfold maxLen; omega) (by omega) ?_; intro sl u _)))
          exact ⟨⟨k + 1, by omega, rfl, (u.up1.drop).cast (by rw [HD.out, rowG_snoc]), rfl⟩, by simp [intOf]; omega⟩
      · have HD := Lib.hid (show (G.take k) = G by rw [List.take_of_length_le (by omega)])
        obtain ⟨sb, sc, rfl⟩ := Row.form u
        go_wp2_with fail
        refine (HW.out _ _ _ ((u.set3 0 _).ord [1, 2, 3, 0])).mono ?_; rintro e w' ⟨vl, rfl, u, rfl⟩
        obtain ⟨vb, vc, rfl⟩ := Row.form u
        go_wp2_with fail
        go_ret
        refine ⟨rfl, ?_⟩
        generalize hvl : Value.slice vb _ vc = vl at *
        obtain ⟨t, ht⟩ := At.cl (q := q) (G := offG G g) (l := withoutF l g (-1) (-1)) (vL := vl) (((u.set3 1 vl).ord [4, 0, 3, 1, 2]).cast (by rw [HD.out]; rfl))
        exact ⟨(t.ord [1, 2, 0]).drop.drop, ht⟩
set_option maxRecDepth 100000 in
set_option maxHeartbeats 4000000 in
theorem put_calls (hn : G.length ≤ 100000) (hl : l.length ≤ 1000000) (g s b : Int) (x : Wd E (At q G l :: L)) :
    Calls Try.prog 24 #[ptr q, .int .i64 g, .int .i64 s, .int .i64 b] x.val fun e w' => e = .returned (.int .i64 (putCodeF G l g s b)) ∧ ∃ y : Wd E (At q G (putNextF G l g s b) :: L), w' = y.val := by
  obtain ⟨A1, A2, vG, vL, hA1, hA2, ⟨y, hy⟩, b1, b2, bk⟩ := At.rd x
  rw [hy]
  have HI := Lib.hid (fun x => in_calls (E := E) (L := L) (A2 := A2) (vL := vL) q hA1 (by omega) g s x)
  have HBL := Lib.hid (fun x => block_calls (E := E) (L := L) (A1 := A1) (vG := vG) q hA2 (by omega) g s x)
  have HW := Lib.hid (fun x => without_calls (E := E) (L := L) (A1 := A1) (vG := vG) q hA2 (by omega) (-1) (-1) b x)
  have BK := Lib.hid bk; have B1 := Lib.hid b1; have B2 := Lib.hid b2
  have hwl : (withoutF l (-1) (-1) b).length ≤ 1000000 := by
    have := List.length_filter_le (fun x => decide (¬ goes (-1) (-1) b x)) l
    unfold withoutF; omega
  unfold putNextF
  unfold putCodeF
  by_cases hin : inF G g s = 0
  · rw [if_neg (by simpa using hin)]
    rw [hin] at HI
    by_cases hb : b < 0
    · rw [if_pos hb, if_neg (by decide)]
      clear hin hA1 hA2 b1 b2 bk hy HW HBL hwl
      go_enter Try.func24, Try.ntmps24
      go_wp2_with fail
      refine (HI.out y).mono ?_; rintro e w' ⟨rfl, y, rfl⟩
      go_wp2_with fail
      go_ret
      exact ⟨rfl, BK.out _ _ y⟩
    · rw [if_neg hb]
      cases hbl : blockF l g s with
      | some bb =>
        rw [hbl, show optVal (some bb) = .tuple #[.int .i64 bb, .bool true] from rfl] at HBL
        rw [if_pos (show (some bb).isSome = true from rfl), if_neg (by decide)]
        clear hin hA1 hA2 b1 b2 bk hy HW hwl hbl
        go_enter Try.func24, Try.ntmps24
        go_wp2_with fail
        refine (HI.out y).mono ?_; rintro e w' ⟨rfl, y, rfl⟩
        go_wp2_with fail
        refine (HBL.out y).mono ?_; rintro e w' ⟨rfl, y, rfl⟩
        go_wp2_with fail
        go_ret
        exact ⟨rfl, BK.out _ _ y⟩
      | none =>
        rw [hbl, show optVal none = .tuple #[.int .i64 0, .bool false] from rfl] at HBL
        rw [if_neg (by decide), if_pos rfl]
        generalize withoutF l (-1) (-1) b = W at *
        clear hin hA1 hA2 b1 b2 bk hy hbl
        go_enter Try.func24, Try.ntmps24
        go_wp2_with fail
        refine (HI.out y).mono ?_; rintro e w' ⟨rfl, y, rfl⟩
        go_wp2_with fail
        refine (HBL.out y).mono ?_; rintro e w' ⟨rfl, y, rfl⟩
        go_wp2_with fail
        refine (HW.out y).mono ?_; rintro e w' ⟨v, rfl, u, rfl⟩
        go_wp2_with (first
          | ((with_reducible refine gbuildSlice 48 ?_); go_must (refine wd_buildSlice u rfl 48 69 1 _ rfl #[.int .i64 g, .int .i64 s, .int .i64 b] (fun w => by kernel_rfl) ?_; intro nb u))
          | ((with_reducible refine gbuiltin .append ?_); go_must (refine wd_append u.up1 rfl _ _ 48 rfl Try.underlying48 elemLive rfl rfl (news := [.int .i64 g, .int .i64 s, .int .i64 b]) (m := 1) (by rfl) (fun j v hj => block_news (Wd.heap1 u.up1) j v hj) (by simp [Value.oneCell']) (by unfold maxLen; omega) (by omega) ?_; intro sl u _; obtain ⟨sb, sc, rfl⟩ := Row.form u)))
        go_ret
        refine ⟨rfl, ?_⟩
        generalize hsl : Value.slice sb (W.length + 1) sc = sl at *
        obtain ⟨z, hz⟩ := B1.out _ _ ((u.set4 1 sl).ord [2, 0, 4, 1, 3])
        obtain ⟨t, ht⟩ := At.cl (q := q) (G := G) (l := W ++ [(g, s, b)]) (vG := vG) (vL := sl) (z.cast (by rw [rowL_snoc]; rfl))
        exact ⟨(t.ord [1, 2, 0]).drop.drop, hz.trans ht⟩
  · rw [if_pos hin, if_neg hin]
    have hb : (inF G g s == 0) = false := beq_eq_false_iff_ne.2 hin
    generalize inF G g s = c at *
    clear hin hA1 hA2 b1 b2 bk hy HW HBL hwl
    go_enter Try.func24, Try.ntmps24
    go_wp2_with fail
    refine (HI.out y).mono ?_; rintro e w' ⟨rfl, y, rfl⟩
    go_wp2_with fail
    go_ret
    exact ⟨rfl, BK.out _ _ y⟩
set_option maxRecDepth 100000 in
set_option maxHeartbeats 4000000 in
theorem clear_calls (hn : G.length ≤ 100000) (hl : l.length ≤ 1000000) (g s : Int) (x : Wd E (At q G l :: L)) :
    Calls Try.prog 25 #[ptr q, .int .i64 g, .int .i64 s] x.val fun e w' => e = .returned (.int .i64 (clearCodeF G l g s)) ∧ ∃ y : Wd E (At q G (clearNextF G l g s) :: L), w' = y.val := by
  obtain ⟨A1, A2, vG, vL, hA1, hA2, ⟨y, hy⟩, b1, b2, bk⟩ := At.rd x
  rw [hy]
  have HI := Lib.hid (fun x => in_calls (E := E) (L := L) (A2 := A2) (vL := vL) q hA1 (by omega) g s x)
  have HBL := Lib.hid (fun x => block_calls (E := E) (L := L) (A1 := A1) (vG := vG) q hA2 (by omega) g s x)
  have HW := Lib.hid (fun x => without_calls (E := E) (L := L) (A1 := A1) (vG := vG) q hA2 (by omega) g s (-1) x)
  have BK := Lib.hid bk; have B1 := Lib.hid b1; have B2 := Lib.hid b2
  unfold clearNextF
  unfold clearCodeF
  by_cases hin : inF G g s = 0
  · rw [if_neg (by simpa using hin)]
    rw [hin] at HI
    cases hbl : blockF l g s with
    | none =>
      rw [hbl, show optVal none = .tuple #[.int .i64 0, .bool false] from rfl] at HBL
      rw [if_neg (by decide), if_neg (by decide)]
      clear hin hA1 hA2 b1 b2 bk hy HW hbl
      go_enter Try.func25, Try.ntmps25
      go_wp2_with fail
      refine (HI.out y).mono ?_; rintro e w' ⟨rfl, y, rfl⟩
      go_wp2_with fail
      refine (HBL.out y).mono ?_; rintro e w' ⟨rfl, y, rfl⟩
      go_wp2_with fail
      go_ret
      exact ⟨rfl, BK.out _ _ y⟩
    | some bb =>
      rw [hbl, show optVal (some bb) = .tuple #[.int .i64 bb, .bool true] from rfl] at HBL
      rw [if_pos (show (some bb).isSome = true from rfl), if_pos rfl]
      generalize withoutF l g s (-1) = W at *
      clear hin hA1 hA2 b1 b2 bk hy hbl
      go_enter Try.func25, Try.ntmps25
      go_wp2_with fail
      refine (HI.out y).mono ?_; rintro e w' ⟨rfl, y, rfl⟩
      go_wp2_with fail
      refine (HBL.out y).mono ?_; rintro e w' ⟨rfl, y, rfl⟩
      go_wp2_with fail
      refine (HW.out y).mono ?_; rintro e w' ⟨v, rfl, u, rfl⟩
      obtain ⟨vb, vc, rfl⟩ := Row.form u
      go_wp2_with fail
      go_ret
      refine ⟨rfl, ?_⟩
      generalize hvl : Value.slice vb _ vc = v at *
      obtain ⟨z, hz⟩ := B1.out _ _ ((u.set3 1 v).ord [1, 0, 3, 2])
      obtain ⟨t, ht⟩ := At.cl (q := q) (G := G) (l := W) (vG := vG) (vL := v) z
      exact ⟨(t.ord [1, 0]).drop, hz.trans ht⟩
  · rw [if_pos hin, if_neg hin]
    have hb : (inF G g s == 0) = false := beq_eq_false_iff_ne.2 hin
    generalize inF G g s = c at *
    clear hin hA1 hA2 b1 b2 bk hy HW HBL
    go_enter Try.func25, Try.ntmps25
    go_wp2_with fail
    refine (HI.out y).mono ?_; rintro e w' ⟨rfl, y, rfl⟩
    go_wp2_with fail
    go_ret
    exact ⟨rfl, BK.out _ _ y⟩
end
end Go.Proofs.Ytechbidbhoookaa.Rf
