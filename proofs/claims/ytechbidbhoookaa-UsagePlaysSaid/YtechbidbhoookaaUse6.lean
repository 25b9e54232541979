/- Package usage, layer 14: Put, Clear: the walks. -/
import Derived.Test.YtechbidbhoookaaUse5
set_option linter.unusedVariables false
namespace Go.Proofs.Ytechbidbhoookaa.Use
open Go Go.RowKit Go.Proofs.Ytechbidbhoookaa.Sl

def UM.put (r : UM) (s : Nat) (v : Int) : UM := { r with l := r.l.set s v, cur := r.cur.setIfInBounds s (.int .i64 v) }
theorem UM.put_ok {r : UM} (h : r.Ok) (s : Nat) (v : Int) : (r.put s v).Ok := by
  have hs := h.size
  have hl := h.len
  refine ⟨by simpa [UM.put] using hl, h.max, by simpa [UM.put] using hs, fun j hj => ?_⟩
  have hj' : j < r.l.length := by simpa [UM.put] using hj
  show (r.cur.setIfInBounds s (.int .i64 v))[j]? = some (.int .i64 ((r.l.set s v).getD j 0))
  rw [Array.getElem?_setIfInBounds, List.getD_eq_getElem?_getD, List.getElem?_set]
  by_cases e : s = j
  · subst e
    rw [if_pos rfl, if_pos (by omega), if_pos rfl, if_pos hj']; rfl
  · rw [if_neg e, if_neg e, h.take j hj', List.getD_eq_getElem?_getD]
theorem UM.put_v (r : UM) (s : Nat) (v : Int) : (r.put s v).v = r.v := by
  show Value.slice _ (r.l.set s v).length r.cap = _
  rw [List.length_set]; rfl
abbrev St.withR (S : St) (R : List UM) : St := { S with R := R }
abbrev St.withW (S : St) (es : Array MapEntry) (c : Nat) (W : List (Int × Int × Int)) : St := { S with esW := es, cW := c, W := W }
theorem St.G.put {S : St} {T : Tb} (h : S.G T) {R1 R2 : List UM} {r : UM} (hR : S.R = R1 ++ r :: R2) (h1 : ∀ x ∈ R1, x.id ≠ r.id) (s : Nat) (v : Int) : (S.withR (R1 ++ r.put s v :: R2)).G (setSlot T r.id s v) := by
  have hp : pairsG (R1 ++ r.put s v :: R2) = pairsG S.R := by
    rw [hR]
    unfold pairsG
    simp only [List.map_append, List.map_cons, UM.put_v]
    rfl
  refine ⟨?_, ?_, fun q hq => ?_⟩
  · show Reads encI S.esG S.cG (pairsG (R1 ++ r.put s v :: R2))
    rw [hp]; exact h.rG
  · show absU (R1 ++ r.put s v :: R2) = _
    have hT : T = absU (R1 ++ r :: R2) := by rw [← hR, h.hR]
    have hi : aidx T r.id = Option.some R1.length := by
      rw [hT]
      unfold aidx absU
      rw [List.findIdx?_eq_some_iff_getElem]
      refine ⟨by simp, by simp, fun j hj => ?_⟩
      have := h1 R1[j] (List.getElem_mem hj)
      simpa [List.getElem_append, hj] using this
    have hg : aget T r.id = Option.some r.l := by
      rw [hT, get_absU]
      have : (R1 ++ r :: R2).find? (fun x => decide (x.id = r.id)) = Option.some r := by
        rw [List.find?_eq_some_iff_append]
        exact ⟨by simp, R1, R2, rfl, fun x hx => by simpa using h1 x hx⟩
      rw [this]; rfl
    unfold setSlot
    rw [hg]
    dsimp only
    unfold aput
    rw [hi]
    dsimp only
    rw [hT]
    simp [absU, UM.put]
  · rcases List.mem_append.1 hq with hq | hq
    · exact h.ok q (by rw [hR]; simp [hq])
    · rcases List.mem_cons.1 hq with rfl | hq
      · exact UM.put_ok (h.ok r (by rw [hR]; simp)) _ _
      · exact h.ok q (by rw [hR]; simp [hq])
theorem St.G.withW {S : St} {T : Tb} (h : S.G T) (es : Array MapEntry) (c : Nat) (W : List (Int × Int × Int)) : (S.withW es c W).G T := ⟨h.rG, h.hR, h.ok⟩
theorem pairsW_put (W : List (Int × Int × Int)) (b : Int) (x : Int × Int) : aput (pairsW W) b (spot x) = pairsW (aput W b x) := by
  have hi : aidx (pairsW W) b = aidx W b := by
    unfold aidx pairsW
    rw [List.findIdx?_map]
    rfl
  unfold aput
  rw [hi]
  cases aidx W b with
  | none => simp [pairsW]
  | some i => simp [pairsW]
theorem pairsW_del (W : List (Int × Int × Int)) (b : Int) : adel (pairsW W) b = pairsW (adel W b) := by
  have hi : aidx (pairsW W) b = aidx W b := by
    unfold aidx pairsW
    rw [List.findIdx?_map]
    rfl
  unfold adel
  rw [hi]
  cases aidx W b with
  | none => rfl
  | some i =>
    unfold pairsW
    simp only [List.eraseIdx_eq_take_drop_succ, List.map_append, List.map_take, List.map_drop]
/-- The store of a block's spot. -/
theorem St.F.store {S : St} {T : Tb} (h : S.F T) (b g s : Int) (w : World) (hm : w.heap[S.mw]? = some (.map S.esW S.cW)) :
    (Instr.mapUpdate 44 (.map (some S.mw)) (.int .i64 b) (.agg #[.int .i64 g, .int .i64 s])).run Try.prog w = .ok () (putObj w S.mw (.map (putEs encI S.esW S.cW (pairsW S.W) b (spot (g, s))) (putClock S.cW (pairsW S.W) b))) :=
  run_mapUpdate_is lawI Try.underlying44 hm h.rW b (spot (g, s))
theorem St.F.reads {S : St} {T : Tb} (h : S.F T) (b g s : Int) : Reads encI (putEs encI S.esW S.cW (pairsW S.W) b (spot (g, s))) (putClock S.cW (pairsW S.W) b) (pairsW (aput S.W b (g, s))) := by
  rw [← pairsW_put]
  exact h.rW.put b (spot (g, s))
section
variable {E : World} {L : List HProp} {T : Tb} (hT : Good T) (p : Nat)
include hT
set_option maxRecDepth 100000 in
set_option maxHeartbeats 2000000 in
theorem put_refused (g s b : Int) (h : putCode T g s b ≠ 0) (x : Wd E (At p T :: L)) :
    Calls Try.prog 12 #[ptr p, .int .i64 g, .int .i64 s, .int .i64 b] x.val fun e w' => e = .returned (.int .i64 (putCode T g s b)) ∧ ∃ y : Wd E (At p T :: L), w' = y.val := by
  obtain ⟨S, hG, hF, y, hy⟩ := At.op x
  rw [hy]
  have HC := Lib.hid (fun (y : Opn E S p L) => At.cl hG hF y)
  have HIN := Lib.hid (fun y => in_open (E := E) (L := L) p hG g s (fun l h => (lens_of hT h).2) y)
  by_cases hin : inCode T g s = 0
  · rw [hin] at HIN
    by_cases hb : b < 0
    · have e1 : putCode T g s b = 1 := by unfold putCode; rw [if_neg (by simpa using hin), if_pos hb]
      rw [e1]
      clear hin h hG hF hT hy e1
      go_enter Try.func12, Try.ntmps12
      go_wp2_with fail
      refine (HIN.out y).mono ?_; rintro e w' ⟨rfl, y, rfl⟩
      go_wp2_with fail
      go_ret
      exact ⟨rfl, HC.out y⟩
    · have e0 : putCode T g s b = if (blockOf T g s).isSome then 9 else 0 := by unfold putCode; rw [if_neg (by simpa using hin), if_neg hb]
      have hsome : (blockOf T g s).isSome = true := by
        cases e : (blockOf T g s).isSome with
        | true => rfl
        | false => rw [e0, e] at h; exact absurd rfl h
      rw [hsome, if_pos rfl] at e0
      rw [e0]
      obtain ⟨l, ha, j, rfl, hj⟩ := in_zero hin
      have hlen := lens_of hT ha
      have hd : l.getD j 0 ≠ -1 := fun e => by rw [block_at ha hj, if_pos e] at hsome; cases hsome
      obtain ⟨R1, r, R2, hR, hid, rfl, hok, _, hlook⟩ := hG.some ha
      unfold LookG at hlook
      have hc := hok.take j hj
      have HR := Lib.hid hR
      generalize r.l.getD j 0 = d at hd hc
      have hd' : (d == -1) = false := beq_eq_false_iff_ne.2 hd
      clear hin ha hG hF hT hy e0 hR hid hok h hsome hd
      go_enter Try.func12, Try.ntmps12
      go_wp2_with fail
      refine (HIN.out y).mono ?_; rintro e w' ⟨rfl, y, rfl⟩
      obtain ⟨z, hz⟩ := opn1 HR.out y
      rw [hz]
      clear hz
      go_wp2_with fail
      go_ret
      obtain ⟨u, hu⟩ := cl1' HR.out z
      obtain ⟨v, hv⟩ := HC.out u
      exact ⟨rfl, v, hu.trans hv⟩
  · have e1 : putCode T g s b = inCode T g s := by unfold putCode; rw [if_pos hin]
    rw [e1]
    have hb : (inCode T g s == 0) = false := beq_eq_false_iff_ne.2 hin
    generalize inCode T g s = c at *
    clear hG hF hT hy hin e1 h
    go_enter Try.func12, Try.ntmps12
    go_wp2_with fail
    refine (HIN.out y).mono ?_; rintro e w' ⟨rfl, y, rfl⟩
    go_wp2_with fail
    go_ret
    exact ⟨rfl, HC.out y⟩
end
end Go.Proofs.Ytechbidbhoookaa.Use
