/- Package usage, layer 14: Clear. -/
import Derived.Test.YtechbidbhoookaaUse7
import Derived.Test.YtechbidbhoookaaMapDel
set_option linter.unusedVariables false
namespace Go.Proofs.Ytechbidbhoookaa.Use
open Go Go.RowKit Go.Proofs.Ytechbidbhoookaa.Sl

theorem St.F.readsDel {S : St} {T : Tb} (h : S.F T) (b : Int) : Reads encI (delEs S.esW (pairsW S.W) b) S.cW (pairsW (adel S.W b)) := by
  rw [← pairsW_del]
  exact h.rW.del b
theorem St.F.clear {S : St} {T T' : Tb} (hT : Good T) (h : S.F T) {g s b : Int} (hb : (g, s, b) ∈ live T) (hp : (live T').Perm ((live T).filter (fun x => decide ¬ (x.1 = g ∧ x.2.1 = s)))) :
    (S.withW (delEs S.esW (pairsW S.W) b) S.cW (adel S.W b)).F T' := by
  refine ⟨h.readsDel b, adel_nodup _ h.one, fun g' s' b' => ?_⟩
  show (b', g', s') ∈ adel S.W b ↔ _
  rw [mem_adel _ h.one, hp.mem_iff, List.mem_filter, h.mem]
  simp only [decide_eq_true_eq]
  have key : (g', s', b') ∈ live T → (b' ≠ b ↔ ¬ (g' = g ∧ s' = s)) := fun hm => by
    constructor
    · rintro hne ⟨rfl, rfl⟩
      obtain ⟨l1, hl1, _, j1, hj1, hv1⟩ := mem_live.1 hm
      obtain ⟨l2, hl2, _, j2, hj2, hv2⟩ := mem_live.1 hb
      have e1 := (aget_iff hT.keys _ _).2 hl1
      have e2 := (aget_iff hT.keys _ _).2 hl2
      simp only at e1 e2 hj1 hj2 hv1 hv2
      rw [e1] at e2
      have e3 := Option.some.inj e2
      subst e3
      have e4 : j1 = j2 := by omega
      subst e4
      rw [hv1] at hv2
      exact hne (Option.some.inj hv2)
    · intro hne e
      subst e
      have f1 := (find_iff hT (x := (g', s'))).2 hm
      have f2 := (find_iff hT (x := (g, s))).2 hb
      rw [f1] at f2
      have := Option.some.inj f2
      rw [Prod.mk.injEq] at this
      exact hne this
  constructor
  · rintro ⟨h1, h2⟩; exact ⟨h2, (key h2).1 h1⟩
  · rintro ⟨h1, h2⟩; exact ⟨(key h1).2 h2, h1⟩
section
variable {E : World} {L : List HProp} {T : Tb} (hT : Good T) (p : Nat)
include hT
set_option maxRecDepth 100000 in
set_option maxHeartbeats 4000000 in
theorem clear_calls (g s : Int) (x : Wd E (At p T :: L)) :
    Calls Try.prog 18 #[ptr p, .int .i64 g, .int .i64 s] x.val fun e w' => e = .returned (.int .i64 (clearCode T g s)) ∧ ∃ y : Wd E (At p (clearNext T g s) :: L), w' = y.val := by
  obtain ⟨S, hG, hF, y, hy⟩ := At.op x
  rw [hy]
  have HC := Lib.hid (fun (y : Opn E S p L) => At.cl hG hF y)
  have HIN := Lib.hid (fun y => in_open (E := E) (L := L) p hG g s (fun l h => (lens_of hT h).2) y)
  by_cases hin : inCode T g s = 0
  · rw [hin] at HIN
    have e0 : clearCode T g s = if (blockOf T g s).isSome then 0 else 9 := by unfold clearCode; rw [if_neg (by simpa using hin)]
    obtain ⟨l, ha, j, rfl, hj⟩ := in_zero hin
    have hlen := lens_of hT ha
    rw [block_at ha hj] at e0
    obtain ⟨R1, r, R2, hR, hid, hl, hok, h1, hlook⟩ := hG.some ha
    subst hl
    unfold LookG at hlook
    have hc := hok.take j hj
    by_cases hd : r.l.getD j 0 = -1
    · rw [if_pos hd] at e0
      have e1 : clearNext T g (j : Int) = T := by unfold clearNext; rw [if_neg (by rw [e0]; decide)]
      rw [e1, show clearCode T g (j : Int) = 9 from e0]
      rw [hd] at hc
      have HR := Lib.hid hR
      clear hin ha hG hF hT hy e0 e1 hR hid hok h1 hd
      go_enter Try.func18, Try.ntmps18
      go_wp2_with fail
      refine (HIN.out y).mono ?_; rintro e w' ⟨rfl, y, rfl⟩
      obtain ⟨z, hz⟩ := opn1 HR.out y
      rw [hz]
      clear hz
      go_wp2_with fail
      go_ret
      obtain ⟨u, hu⟩ := cl1' HR.out z
      obtain ⟨v, hv⟩ := HC.out u
      exact ⟨rfl, v, hu.trans hv⟩
    · rw [if_neg hd] at e0
      have e00 : clearCode T g (j : Int) = 0 := e0
      have e1 : clearNext T g (j : Int) = setSlot T g j (-1) := by unfold clearNext; rw [if_pos e00, Int.toNat_natCast]
      obtain ⟨hgood, hperm⟩ := clear_good hT e00
      rw [Int.toNat_natCast] at hperm
      have hm := aget_mem' ha
      have hval := hT.vals _ hm (r.l.getD j 0) (by rw [List.getD_eq_getElem?_getD, List.getElem?_eq_getElem hj]; exact List.getElem_mem hj)
      have hlive : (g, (j : Int), r.l.getD j 0) ∈ live T := mem_live.2 ⟨r.l, hm, (by have := hval.1; show 0 ≤ r.l.getD j 0; omega), j, rfl, by rw [List.getD_eq_getElem?_getD, List.getElem?_eq_getElem hj]; rfl⟩
      have hfind : findOf T (r.l.getD j 0) = some (g, (j : Int)) := (find_iff hT (x := (g, (j : Int)))).2 hlive
      have hlw := hF.look (r.l.getD j 0) false
      rw [hF.find hT, hfind] at hlw
      simp only [Option.getD_some, Bool.false_eq_true, if_false, spot] at hlw
      have hF0 := hF.clear hT hlive hperm
      have hG' := (hG.put hR (by rw [hid]; exact h1) j (-1)).withW (delEs S.esW (pairsW S.W) (r.l.getD j 0)) S.cW (adel S.W (r.l.getD j 0))
      rw [hid] at hG'
      have hF' : ((S.withR (R1 ++ r.put j (-1) :: R2)).withW (delEs S.esW (pairsW S.W) (r.l.getD j 0)) S.cW (adel S.W (r.l.getD j 0))).F (setSlot T g j (-1)) := ⟨hF0.rW, hF0.one, hF0.mem⟩
      have hrw := hF.rW
      rw [e1, e00]
      generalize r.l.getD j 0 = d at *
      have hd' : (d == -1) = false := beq_eq_false_iff_ne.2 hd
      have HR := Lib.hid hR; have HG' := Lib.hid hG'; have HF' := Lib.hid hF'; have HRW := Lib.hid hrw
      clear hin ha hG hF hT hy e0 e00 e1 hR hid hok h1 hd hgood hperm hm hlive hfind hF0 hG' hF' hrw hval
      go_enter Try.func18, Try.ntmps18
      go_wp2_with fail
      refine (HIN.out y).mono ?_; rintro e w' ⟨rfl, y, rfl⟩
      obtain ⟨z, hz⟩ := opn1 HR.out y
      rw [hz]
      clear hz
      go_wp2_with ((with_reducible refine gbuiltin .delete ?_); go_must (refine wd_delete z.up3 rfl rfl _ _ rfl lawI Try.underlying44 HRW.out d rfl rfl ?_; intro z))
      go_ret
      refine ⟨rfl, ?_⟩
      obtain ⟨u, hu⟩ := cl1 (S := (S.withR (R1 ++ r.put j (-1) :: R2)).withW (delEs S.esW (pairsW S.W) d) S.cW (adel S.W d)) (R1 := R1) (R2 := R2) (r := r.put j (-1)) (z.set1 j (.int .i64 (-1))).down3
      obtain ⟨v, hv⟩ := At.cl HG'.out HF'.out u
      exact ⟨v, hu.trans hv⟩
  · have e1 : clearCode T g s = inCode T g s := by unfold clearCode; rw [if_pos hin]
    have e2 : clearNext T g s = T := by unfold clearNext; rw [if_neg (by rw [e1]; exact hin)]
    rw [e1, e2]
    have hb : (inCode T g s == 0) = false := beq_eq_false_iff_ne.2 hin
    generalize inCode T g s = c at *
    clear hG hF hT hy hin e1 e2
    go_enter Try.func18, Try.ntmps18
    go_wp2_with fail
    refine (HIN.out y).mono ?_; rintro e w' ⟨rfl, y, rfl⟩
    go_wp2_with fail
    go_ret
    exact ⟨rfl, HC.out y⟩
end
end Go.Proofs.Ytechbidbhoookaa.Use
