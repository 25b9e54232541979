/- Package usage, layer 14: Drop. -/
import Derived.Test.YtechbidbhoookaaUse10
set_option linter.unusedVariables false
namespace Go.Proofs.Ytechbidbhoookaa.Use
open Go Go.RowKit Go.Proofs.Ytechbidbhoookaa.Sl

def dropCode (T : Tb) (g : Int) : Int := if (aget T g).isSome then 0 else 8
def dropNext (T : Tb) (g : Int) : Tb := if dropCode T g = 0 then adel T g else T
theorem drop_good {T : Tb} (hT : Good T) (g : Int) : Good (adel T g) := by
  have hm : ∀ x ∈ adel T g, x ∈ T := fun x hx => ((mem_adel g hT.keys x).1 hx).2
  refine ⟨adel_nodup g hT.keys, fun x hx => hT.ids x (hm x hx), fun x hx => hT.lens x (hm x hx), fun x hx => hT.vals x (hm x hx), ?_⟩
  rw [live_drop hT.keys]
  exact hT.uniq.sublist (List.filter_sublist.map _)
theorem St.F.drop {S : St} {T : Tb} (hT : Good T) (h : S.F T) (g : Int) {es : Array MapEntry} (hr : Reads encI es S.cW (pairsW (S.W.filter fun x => decide (x.2.1 ≠ g)))) :
    (S.withW es S.cW (S.W.filter fun x => decide (x.2.1 ≠ g))).F (adel T g) := by
  refine ⟨hr, h.one.sublist (List.filter_sublist.map _), fun g' s' b' => ?_⟩
  show (b', g', s') ∈ S.W.filter _ ↔ _
  rw [List.mem_filter, live_drop hT.keys, List.mem_filter, h.mem]
theorem St.G.drop {S : St} {T : Tb} (h : S.G T) {R1 R2 : List UM} {r : UM} (hR : S.R = R1 ++ r :: R2) (h1 : ∀ x ∈ R1, x.id ≠ r.id) :
    ({ S with R := R1 ++ R2, esG := delEs S.esG (pairsG S.R) r.id } : St).G (adel T r.id) := by
  have hT : T = absU (R1 ++ r :: R2) := by rw [← hR, h.hR]
  have hi : aidx (pairsG S.R) r.id = Option.some R1.length := by
    rw [hR]
    unfold aidx pairsG
    rw [List.findIdx?_eq_some_iff_getElem]
    refine ⟨by simp, by simp, fun j hj => ?_⟩
    have := h1 R1[j] (List.getElem_mem hj)
    simpa [List.getElem_append, hj] using this
  have hi2 : aidx T r.id = Option.some R1.length := by
    rw [hT]
    unfold aidx absU
    rw [List.findIdx?_eq_some_iff_getElem]
    refine ⟨by simp, by simp, fun j hj => ?_⟩
    have := h1 R1[j] (List.getElem_mem hj)
    simpa [List.getElem_append, hj] using this
  refine ⟨?_, ?_, fun q hq => h.ok q (by rw [hR]; rcases List.mem_append.1 hq with hq | hq <;> simp [hq])⟩
  · have := h.rG.del r.id
    have e : adel (pairsG S.R) r.id = pairsG (R1 ++ R2) := by
      unfold adel
      rw [hi]
      dsimp only
      rw [hR]
      simp [pairsG, List.eraseIdx_append_of_length_le]
    rw [e] at this
    exact this
  · show absU (R1 ++ R2) = adel T r.id
    unfold adel
    rw [hi2]
    dsimp only
    rw [hT]
    simp [absU, List.eraseIdx_append_of_length_le]
section
variable {E : World} {L : List HProp} {T : Tb} (hT : Good T) (p : Nat)
include hT
set_option maxRecDepth 100000 in
set_option maxHeartbeats 4000000 in
theorem drop_calls (g : Int) (x : Wd E (At p T :: L)) :
    Calls Try.prog 22 #[ptr p, .int .i64 g] x.val fun e w' => e = .returned (.int .i64 (dropCode T g)) ∧ ∃ y : Wd E (At p (dropNext T g) :: L), w' = y.val := by
  obtain ⟨S, hG, hF, y, hy⟩ := At.op x
  rw [hy]
  cases ha : aget T g with
  | none =>
    have e0 : dropCode T g = 8 := by unfold dropCode; rw [ha]; rfl
    have e1 : dropNext T g = T := by unfold dropNext; rw [if_neg (by rw [e0]; decide)]
    rw [e0, e1]
    have HC := Lib.hid (fun L (y : Opn E S p L) => At.cl hG hF y)
    have hlook := hG.none ha
    unfold LookG at hlook
    clear ha hG hF e0 e1 hy hT
    go_enter Try.func22, Try.ntmps22
    go_wp2_with ((with_reducible refine gbox 3 ?_); go_must (refine wd_box y rfl 3 _ rfl #[.int .i64 g] rfl ?_; intro gb y))
    have ne : Nonempty (Wd E (pt gb (.cells #[.int .i64 g] 3 (0, 0)) :: S.pg :: S.pw :: S.hd p :: big UM.at S.R :: L)) := ⟨y⟩
    refine wp_region_wd y (by kernel_rfl) (by kernel_rfl) ?_
    repeat (go_big_quiet_step (fail))
    refine wpQuiet_nil ?_
    intro y
    go_wp2_with fail
    go_ret
    obtain ⟨v, hv⟩ := HC.out _ y.drop
    exact ⟨rfl, v, hv⟩
  | some l =>
    have e0 : dropCode T g = 0 := by unfold dropCode; rw [ha]; rfl
    have e1 : dropNext T g = adel T g := by unfold dropNext; rw [if_pos e0]
    rw [e0, e1]
    obtain ⟨R1, r, R2, hR, hid, hl, hok, h1, hlook⟩ := hG.some ha
    unfold LookG at hlook
    have hG' := hG.drop hR (by rw [hid]; exact h1)
    rw [hid] at hG'
    have hrg := hG.rG
    have HFD := Lib.hid (fun es hr => St.F.drop hT hF g (es := es) hr)
    have HMD := Lib.hid (fun L gb x => mapsDelete_calls (E := E) (L := L) (gb := gb) (m := S.mw) (es := S.esW) (c := S.cW) (g := g) hF.one hF.rW x)
    have HG' := Lib.hid hG'; have HR := Lib.hid hR; have HRG := Lib.hid hrg
    clear ha hG hF e0 e1 hy hT hid hok h1 hG' hrg hR hl
    go_enter Try.func22, Try.ntmps22
    go_wp2_with ((with_reducible refine gbox 3 ?_); go_must (refine wd_box y rfl 3 _ rfl #[.int .i64 g] rfl ?_; intro gb y))
    have ne : Nonempty (Wd E (pt gb (.cells #[.int .i64 g] 3 (0, 0)) :: S.pg :: S.pw :: S.hd p :: big UM.at S.R :: L)) := ⟨y⟩
    refine wp_region_wd y (by kernel_rfl) (by kernel_rfl) ?_
    repeat (go_big_quiet_step (fail))
    refine wpQuiet_nil ?_
    intro y
    go_wp2_with fail
    refine wp_region_wd_tail y 5 (by kernel_rfl) (by kernel_rfl) ?_
    simp only [List.take_succ_cons, List.take_zero, List.drop_succ_cons, List.drop_zero]
    repeat (go_big_quiet_step (fail))
    refine wpQuiet_nil ?_
    intro y
    go_wp2_with ((with_reducible refine gbuiltin .delete ?_); go_must (refine wd_delete y.up1 rfl rfl _ _ rfl lawI Try.underlying43 HRG.out g rfl rfl ?_; intro y))
    refine (HMD.out _ _ y.up1.up2).mono ?_; rintro e w' ⟨rfl, es', hr', y, rfl⟩
    have HR' := Lib.hid hr'; clear hr'
    go_wp2_with fail
    go_ret
    refine ⟨rfl, ?_⟩
    have hF' := HFD.out es' HR'.out
    obtain ⟨u, hu⟩ := big_out (f := UM.at) (R1 := R1) (R2 := R2) (r := r) ((y.up2.up2.drop.up3).cast (by rw [HR.out]))
    obtain ⟨v, hv⟩ := At.cl (S := { S with R := R1 ++ R2, esG := delEs S.esG (pairsG S.R) g, esW := es', W := S.W.filter fun x => decide (x.2.1 ≠ g) }) (T := adel T g) ⟨HG'.out.rG, HG'.out.hR, HG'.out.ok⟩ ⟨hF'.rW, hF'.one, hF'.mem⟩ (u.drop.down3.cast (by rw [HR.out]) : Wd E (pt S.mg (.map (delEs S.esG (pairsG S.R) g) S.cG) :: pt S.mw (.map es' S.cW) :: S.hd p :: big UM.at (R1 ++ R2) :: L))
    exact ⟨v, hu.trans hv⟩
end
end Go.Proofs.Ytechbidbhoookaa.Use
