/- Package usage, layer 14: Put, where it is taken. -/
import Derived.Test.YtechbidbhoookaaUse6
import Derived.Test.YtechbidbhoookaaMapUp
set_option linter.unusedVariables false
namespace Go.Proofs.Ytechbidbhoookaa.Use
open Go Go.RowKit Go.Proofs.Ytechbidbhoookaa.Sl

theorem St.F.put {S : St} {T T' : Tb} (h : S.F T) {g s b : Int} (hp : (live T').Perm ((live T).filter (fun x => decide (x.2.2 ≠ b)) ++ [(g, s, b)])) :
    (S.withW (putEs encI S.esW S.cW (pairsW S.W) b (spot (g, s))) (putClock S.cW (pairsW S.W) b) (aput S.W b (g, s))).F T' := by
  refine ⟨h.reads b g s, aput_nodup _ _ h.one, fun g' s' b' => ?_⟩
  show (b', g', s') ∈ aput S.W b (g, s) ↔ _
  rw [mem_aput _ _ h.one, hp.mem_iff, List.mem_append, List.mem_filter, List.mem_singleton, h.mem]
  simp only [Prod.mk.injEq, ne_eq, decide_eq_true_eq]
  constructor
  · rintro (⟨h1, h2, h3⟩ | ⟨h1, h2⟩)
    · exact .inr ⟨h2, h3, h1⟩
    · exact .inl ⟨h2, h1⟩
  · rintro (⟨h1, h2⟩ | ⟨h1, h2, h3⟩)
    · exact .inr ⟨h2, h1⟩
    · exact .inl ⟨h3, h1, h2⟩
section
variable {E : World} {L : List HProp} {T : Tb} (hT : Good T) (p : Nat)
include hT
set_option maxRecDepth 100000 in
set_option maxHeartbeats 4000000 in
theorem put_taken (g s b : Int) (hb63 : b ≤ 9223372036854775807) (h : putCode T g s b = 0) (x : Wd E (At p T :: L)) :
    Calls Try.prog 12 #[ptr p, .int .i64 g, .int .i64 s, .int .i64 b] x.val fun e w' => e = .returned (.int .i64 0) ∧ ∃ y : Wd E (At p (setSlot (without T b) g s.toNat b) :: L), w' = y.val := by
  obtain ⟨S, hG, hF, y, hy⟩ := At.op x
  rw [hy]
  obtain ⟨hgood, hperm⟩ := put_good hT hb63 h
  have HIN := Lib.hid (fun y => in_open (E := E) (L := L) p hG g s (fun l h => (lens_of hT h).2) y)
  unfold putCode at h
  have hin : inCode T g s = 0 := by
    by_cases e : inCode T g s = 0
    · exact e
    · rw [if_pos e] at h; exact absurd h e
  rw [if_neg (by simpa using hin)] at h
  have h0 : ¬ b < 0 := fun e => by rw [if_pos e] at h; cases h
  rw [if_neg h0] at h
  rw [hin] at HIN
  obtain ⟨l, ha, j, rfl, hj⟩ := in_zero hin
  have hlen := lens_of hT ha
  have hd : l.getD j 0 = -1 := by
    rw [block_at ha hj] at h
    by_cases e : l.getD j 0 = -1
    · exact e
    · rw [if_neg e] at h; cases h
  obtain ⟨R1, r, R2, hR, hid, hl, hok, h1, hlook⟩ := hG.some ha
  subst hl
  unfold LookG at hlook
  have hc := hok.take j hj
  rw [hd] at hc
  have hlw := hF.look b true
  rw [hF.find hT b] at hlw
  have hst := hF.store b g (j : Int)
  rw [Int.toNat_natCast] at hperm ⊢
  cases hf : findOf T b with
  | none =>
    have hwo : without T b = T := by unfold without; rw [hf]
    rw [hf] at hlw
    rw [hwo] at hperm ⊢
    have hG' := (hG.put hR (by rw [hid]; exact h1) j b).withW (putEs encI S.esW S.cW (pairsW S.W) b (spot (g, (j : Int)))) (putClock S.cW (pairsW S.W) b) (aput S.W b (g, (j : Int)))
    rw [hid] at hG'
    have hF0 := hF.put hperm
    have hF' : ((S.withR (R1 ++ r.put j b :: R2)).withW (putEs encI S.esW S.cW (pairsW S.W) b (spot (g, (j : Int)))) (putClock S.cW (pairsW S.W) b) (aput S.W b (g, (j : Int)))).F (setSlot T g j b) := ⟨hF0.rW, hF0.one, hF0.mem⟩
    simp only [Option.getD_none, Option.isSome_none, if_true, spot] at hlw
    have HR := Lib.hid hR; have HG' := Lib.hid hG'; have HF' := Lib.hid hF'
    clear hwo hf hT hG hF hgood hperm h hin ha hd h1 hok hR hy hG' hF' hF0 hid
    go_enter Try.func12, Try.ntmps12
    go_wp2_with fail
    refine (HIN.out y).mono ?_; rintro e w' ⟨rfl, y, rfl⟩
    obtain ⟨z, hz⟩ := opn1 HR.out y
    rw [hz]
    clear hz
    go_wp2_with ((with_reducible refine galloc 53 ?_); go_must (refine wd_alloc z rfl 53 rfl (.agg #[.int .i64 0, .int .i64 0]) zeroSpot ?_; intro sb z; simp only [Value.cells] at z))
    go_ret
    refine ⟨rfl, ?_⟩
    obtain ⟨u, hu⟩ := cl1 (S := (S.withR (R1 ++ r.put j b :: R2)).withW (putEs encI S.esW S.cW (pairsW S.W) b (spot (g, (j : Int)))) (putClock S.cW (pairsW S.W) b) (aput S.W b (g, (j : Int)))) (R1 := R1) (R2 := R2) (r := r.put j b)
      ((((z.set0 0 (.int .i64 0)).set0 1 (.int .i64 0)).put4 (.map (putEs encI S.esW S.cW (pairsW S.W) b (spot (g, (j : Int)))) (putClock S.cW (pairsW S.W) b))).set1 j (.int .i64 b)).drop
    obtain ⟨v, hv⟩ := At.cl HG'.out HF'.out u
    exact ⟨v, hu.trans hv⟩
  | some x =>
    obtain ⟨_, l', hl', j', hj', hjl', _⟩ := find_slot hT hf
    obtain ⟨g', s'⟩ := x
    dsimp only at hl' hj'
    subst hj'
    rw [hf] at hlw
    simp only [Option.getD_some, Option.isSome_some, if_true, spot] at hlw
    have hwo : without T b = setSlot T g' j' (-1) := by unfold without; rw [hf]; simp
    have hlen' := lens_of hT hl'
    obtain ⟨Q1, q, Q2, hQ, hqid, hql, hqok, hq1, hqlook⟩ := hG.some hl'
    subst hql
    unfold LookG at hqlook
    obtain ⟨old, hcq⟩ : ∃ old, q.cur[j']? = some old := ⟨_, hqok.take j' hjl'⟩
    have hG1 := hG.put hQ (by rw [hqid]; exact hq1) j' (-1)
    rw [hqid, ← hwo] at hG1
    obtain ⟨l1, hl1, hlen1, hd1⟩ := without_get hT b ha
    obtain ⟨P1, r1, P2, hP, hpid, hpl, hpok, hp1, hplook⟩ := hG1.some hl1
    subst hpl
    have hj1 : j < r1.l.length := by omega
    have hc1 := hpok.take j hj1
    rw [hd1 j hd] at hc1
    have hlen1' : r1.l.length ≤ 4096 := by omega
    have hG2 := (hG1.put hP (by rw [hpid]; exact hp1) j b).withW (putEs encI S.esW S.cW (pairsW S.W) b (spot (g, (j : Int)))) (putClock S.cW (pairsW S.W) b) (aput S.W b (g, (j : Int)))
    rw [hpid] at hG2
    have hF0 := hF.put hperm
    have hF2 : (((S.withR (Q1 ++ q.put j' (-1) :: Q2)).withR (P1 ++ r1.put j b :: P2)).withW (putEs encI S.esW S.cW (pairsW S.W) b (spot (g, (j : Int)))) (putClock S.cW (pairsW S.W) b) (aput S.W b (g, (j : Int)))).F (setSlot (without T b) g j b) := ⟨hF0.rW, hF0.one, hF0.mem⟩
    have HR := Lib.hid hR; have HQ := Lib.hid hQ; have HP := Lib.hid hP; have HPL := Lib.hid hplook; have HG2 := Lib.hid hG2; have HF2 := Lib.hid hF2; have HC1 := Lib.hid hc1; have HQL := Lib.hid hqlook; have HCQ := Lib.hid hcq
    clear hf hT hG hF hgood hperm h hin ha hd h1 hok hR hy hid hwo hQ hqid hqok hq1 hG1 hl1 hd1 hP hpid hpok hp1 hplook hG2 hF2 hF0 hc1 hqlook hcq hl'
    go_enter Try.func12, Try.ntmps12
    go_wp2_with fail
    refine (HIN.out y).mono ?_; rintro e w' ⟨rfl, y, rfl⟩
    obtain ⟨z, hz⟩ := opn1 HR.out y
    rw [hz]
    clear hz
    go_wp2_with ((with_reducible refine galloc 53 ?_); go_must (refine wd_alloc z rfl 53 rfl (.agg #[.int .i64 0, .int .i64 0]) zeroSpot ?_; intro sb z; simp only [Value.cells] at z))
    obtain ⟨z1, hz1⟩ : ∃ z1 : Wd E (pt sb (.cells #[.int .i64 g', .int .i64 (j' : Int)] 53 (0, 0)) :: r.at :: big UM.at (R1 ++ R2) :: S.pg :: S.pw :: S.hd p :: L), ((z.set0 0 (.int .i64 g')).set0 1 (.int .i64 (j' : Int))).val = z1.val := ⟨(z.set0 0 (.int .i64 g')).set0 1 (.int .i64 (j' : Int)), rfl⟩
    rw [hz1]
    obtain ⟨z2, hz2⟩ := cl1' (L := pt sb (.cells #[.int .i64 g', .int .i64 (j' : Int)] 53 (0, 0)) :: L) HR.out z1.down5
    obtain ⟨z3, hz3⟩ := opn1 HQ.out z2
    have hz4 : z1.val = z3.val := Eq.trans (show z1.val = z1.down5.val from rfl) (hz2.trans hz3)
    rw [hz4]
    clear hz1 hz2 hz3 hz4 hlook hc
    have hqlook := HQL.out
    have hcq := HCQ.out
    have ne : Nonempty (Wd E (q.at :: big UM.at (Q1 ++ Q2) :: S.pg :: S.pw :: S.hd p :: pt sb (.cells #[.int .i64 g', .int .i64 (j' : Int)] 53 (0, 0)) :: L)) := ⟨z3⟩
    refine wp_region_wd_tail z3 10 (by kernel_rfl) (by kernel_rfl) ?_
    simp only [List.take_succ_cons, List.take_zero, List.drop_succ_cons, List.drop_zero]
    repeat (go_big_quiet_step (fail))
    refine wpQuiet_nil ?_
    intro z3
    have hplook := HPL.out
    unfold LookG at hplook
    have hc1 := HC1.out
    go_wp2_with ((with_reducible refine gmapUpdate 44 ?_); go_must (obtain ⟨z4, hz4⟩ := cl1 (S := S) (R1 := Q1) (R2 := Q2) (r := q.put j' (-1)) (z3.set0 j' (.int .i64 (-1))); obtain ⟨z5, hz5⟩ := opn1 (S := S.withR (Q1 ++ q.put j' (-1) :: Q2)) HP.out z4; have hz6 := hz4.trans hz5; rw [hz6]; clear hz4 hz5 hz6; refine wd_mapUpdate z5.up3 rfl rfl _ _ _ _ rfl _ _ rfl rfl rfl hst ?_; intro z))
    go_ret
    refine ⟨rfl, ?_⟩
    obtain ⟨u, hu⟩ := cl1 (S := ((S.withR (Q1 ++ q.put j' (-1) :: Q2)).withR (P1 ++ r1.put j b :: P2)).withW (putEs encI S.esW S.cW (pairsW S.W) b (spot (g, (j : Int)))) (putClock S.cW (pairsW S.W) b) (aput S.W b (g, (j : Int)))) (R1 := P1) (R2 := P2) (r := r1.put j b)
      (L := pt sb (.cells #[.int .i64 g', .int .i64 (j' : Int)] 53 (0, 0)) :: L) (z.set1 j (.int .i64 b)).down3
    obtain ⟨v, hv⟩ := At.cl HG2.out HF2.out u
    exact ⟨v.up1.drop, hu.trans hv⟩
end
end Go.Proofs.Ytechbidbhoookaa.Use
