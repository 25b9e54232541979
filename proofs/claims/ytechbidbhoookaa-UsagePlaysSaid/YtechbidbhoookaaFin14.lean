/- braidworklaw14.UsagePlays: whatever the list of steps, the call returns true and its argument reads afterwards as it read before. Conditions: none beyond the row's own. -/
import Derived.Test.YtechbidbhoookaaRows
import Derived.Test.YtechbidbhoookaaUp5
import Derived.Test.YtechbidbhoookaaPost
import Derived.Deep.DeepHandedRow
import Derived.Deep.Slices
import Derived.LaidLaws
namespace Go.Proofs.Ytechbidbhoookaa.Fin14
open Go Go.ChangeShapes Go.WideShapes Go.ChangeAt Go.RowKit Go.Deep
open Go.Proofs.Ytechbidbhoookaa.Sl (Wd)

theorem own : ownKnob Try.prog.godebug = none := by kernel_rfl
theorem cellsOp : Try.prog.cellsOf 29 = 5 := by kernel_rfl
theorem cellsInt : Try.prog.cellsOf 3 = 1 := by kernel_rfl
theorem laidOut : laidOutB Try.prog = true := by kernel_rfl

theorem i64_of {n : Int} (h : (Lit.int .i64 n).wf = true) : Up.i64r n := by
  simp [Lit.wf, IntKind.min, IntKind.max, IntKind.signed, IntKind.bits] at h
  exact ⟨by omega, by omega⟩
set_option maxRecDepth 100000 in
theorem ops_at {H : Type} {enc : TypeId × Value → H} {W : World} {a0 : Option Addr} {len cap fuel : Nat} {x : DataW H × List MemPlace}
    (h : DataW.trod enc Try.prog W 0 (fun _ => true) true fuel 22 [.slice a0 len cap] = some x) : Up.OpsAt W (.slice a0 len cap) len := by
  rcases open_slice Try.underlying22 h with ⟨hcs, _⟩ | ⟨a, len', cap', m, n, D, Pl, hcs, _, hl, hm, hmm, _, hel⟩
  · simp only [List.cons.injEq, Value.slice.injEq, and_true] at hcs
    obtain ⟨rfl, rfl, rfl⟩ := hcs
    exact ⟨none, 0, rfl, by unfold maxLen; omega, fun i hi => by omega⟩
  · simp only [List.cons.injEq, Value.slice.injEq, and_true] at hcs
    obtain ⟨rfl, rfl, rfl⟩ := hcs
    simp only [if_true] at hmm
    subst hmm
    refine ⟨_, _, rfl, by omega, fun i hi => ?_⟩
    obtain ⟨cs', hc, ht⟩ := hel i (by omega)
    rw [cellsOp] at hc
    obtain ⟨_, hlen, hat⟩ := World.cells?_some hc
    obtain ⟨xs, n', _, _, _, hxl, hf⟩ := DataW.trod_struct Try.underlying29 ht
    have hx5 : xs.length = 5 := hxl
    match cs', hlen with
    | [c0, c1, c2, c3, c4], _ =>
      have f0 : DataW.trod enc Try.prog W 0 (fun _ => true) true n' 3 (([c0, c1, c2, c3, c4].drop 0).take (Try.prog.cellsOf 3)) = xs[0]? := hf 0 _ rfl
      have f1 : DataW.trod enc Try.prog W 0 (fun _ => true) true n' 3 (([c0, c1, c2, c3, c4].drop 1).take (Try.prog.cellsOf 3)) = xs[1]? := hf 1 _ rfl
      have f2 : DataW.trod enc Try.prog W 0 (fun _ => true) true n' 3 (([c0, c1, c2, c3, c4].drop 2).take (Try.prog.cellsOf 3)) = xs[2]? := hf 2 _ rfl
      have f3 : DataW.trod enc Try.prog W 0 (fun _ => true) true n' 3 (([c0, c1, c2, c3, c4].drop 3).take (Try.prog.cellsOf 3)) = xs[3]? := hf 3 _ rfl
      have f4 : DataW.trod enc Try.prog W 0 (fun _ => true) true n' 3 (([c0, c1, c2, c3, c4].drop 4).take (Try.prog.cellsOf 3)) = xs[4]? := hf 4 _ rfl
      rw [cellsInt] at f0 f1 f2 f3 f4
      simp only [List.drop_succ_cons, List.drop_zero, List.take_succ_cons, List.take_zero] at f0 f1 f2 f3 f4
      rw [List.getElem?_eq_getElem (by omega)] at f0 f1 f2 f3 f4
      obtain ⟨k, hk, _, _⟩ := DataW.trod_int Try.underlying3 f0
      obtain ⟨d, hd, _, wd⟩ := DataW.trod_int Try.underlying3 f1
      obtain ⟨s, hs, _, ws⟩ := DataW.trod_int Try.underlying3 f2
      obtain ⟨bl, hb, _, wb⟩ := DataW.trod_int Try.underlying3 f3
      obtain ⟨nn, hn, _, wn⟩ := DataW.trod_int Try.underlying3 f4
      simp only [List.cons.injEq, and_true] at hk hd hs hb hn
      subst hk hd hs hb hn
      have h0 := hat 0 (by omega)
      have h1 := hat 1 (by omega)
      have h2 := hat 2 (by omega)
      have h3 := hat 3 (by omega)
      have h4 := hat 4 (by omega)
      obtain ⟨b, off, spot⟩ := a
      obtain ⟨cs0, hcz, _⟩ := hel 0 (by omega)
      rw [Nat.zero_mul, cellsOp] at hcz
      obtain ⟨_, hlz, hatz⟩ := World.cells?_some hcz
      have hz := hatz 0 (by omega)
      rw [List.getElem?_eq_getElem (by omega)] at hz
      have hsp : spot = none := by simpa [Addr.add] using World.cell?_spot hz
      subst hsp
      have e : ∀ o i : Nat, (⟨b, o, none⟩ : Addr).add i = ⟨b, o + i, none⟩ := fun o i => by unfold Addr.add; split <;> simp_all
      simp only [e, Nat.add_zero] at h0 h1 h2 h3 h4
      exact ⟨b, off, rfl, Post.block_lt h0, k, d, s, bl, nn, i64_of wd, i64_of wb, h0, h1, h2, h3, h4⟩
set_option maxRecDepth 100000 in
/-- What the walk gives, for every argument. -/
theorem contract (H : Type) (enc : TypeId × Value → H) (W : World) (base : Nat) (args : Array Value) (ds gs : List (DataW H)) (before : List MemPlace)
    (hval : ∀ (j : Nat) t v, Try.f3.params[j]? = some t → args[j]? = some v → Value.okWide Try.prog W .any base t v)
    (hW : DataW.Whole enc Try.prog Try.f3.params.toList Rows.usagePlaysSpec.vars false W args.toList ds gs before) :
    Calls Try.prog 3 args W fun e W' => ∃ v, e = .returned v ∧ Rows.usagePlaysSpec.post enc Try.prog Try.f3 false true false false W args v W' := by
  have hW' := hW
  obtain ⟨p, q, hA0, hV, rfl, hfz, hnd⟩ := hW
  have hA : DataW.TrodAll enc Try.prog W 0 (fun _ => true) true Try.f3.params.toList args.toList ds p := hA0
  rw [Try.params3] at hA hval
  obtain ⟨v0, vs0, d0, ds0, p0, q0, hargs, rfl, rfl, h0, r0⟩ := trodAll_cons hA
  obtain ⟨rfl, rfl, rfl⟩ := trodAll_nil r0
  obtain rfl : args = #[v0] := by cases args; simp_all
  obtain ⟨a0, len, cap, rfl⟩ := okWide_slice Try.underlying22 (hval 0 22 v0 rfl rfl)
  obtain ⟨fuel, hf⟩ := h0
  have hO := ops_at hf
  have hc := Up.plays_calls hO (⟨W, ⟨Below.refl _ W, fun _ => none, fun _ => rfl, fun b o h => by cases h⟩⟩ : Wd W [])
  refine hc.mono ?_
  rintro e W' ⟨rfl, L, y, rfl⟩
  exact ⟨_, rfl, Post.law_post (tb := 4) laidOut (by rw [Try.params3]; decide +kernel) rfl (by kernel_rfl) Try.underlying4 (fun es hes => by
    rw [Try.params3] at hes
    match es, hes with
    | [d], _ => rfl) hW' y.below⟩

/-- A world for the witness: the settled one. -/
noncomputable def settled (os : Os) : World := World.holding Try.prog os ⟨#[], #[], []⟩
theorem reads (os : Os) {H : Type} (enc : TypeId × Value → H) : ∃ places, DataW.whole enc Try.prog ((settled os).forCall (fun _ _ => 0) ⟨#[], #[.slice none 0 0], []⟩).memory Try.f3.params.toList Rows.usagePlaysSpec.vars false #[Value.slice none 0 0].toList 8 = some ([.nil], [], places) :=
  ⟨[], by kernel_rfl⟩

set_option maxRecDepth 100000 in
theorem lifted (os : Os) (started : os.Started) (H : Type) (enc : TypeId × Value → H) (F : Stop.Interp) :
    ReturnsInHanded {} Try.checked os 3 .any ((OpenSpec.ofChange Rows.usagePlaysSpec).preRow enc Try.prog Try.f3 Rows.usagePlaysRow.domain false Rows.usagePlaysRow.laid) (((OpenSpec.ofChange Rows.usagePlaysSpec).at F).post enc Try.prog Try.f3 false true false false) := by
  obtain ⟨places, hx⟩ := reads os enc
  refine returnsInHanded_of_row (C := Try.checked) (s := OpenSpec.ofChange Rows.usagePlaysSpec) own started (by kernel_rfl) Try.func3
    (witness_row_at (enc := enc) (C := Try.checked) false (settled os) #[.slice none 0 0] rfl (by kernel_rfl) (by kernel_rfl) (by kernel_rfl)
      (OpenSpec.preRow_of_cond 8 hx (by kernel_rfl) (fun k hk => by cases hk) (by kernel_rfl) (laidMet_of_run' 70 (by kernel_rfl) (by kernel_rfl)))) ?_
  intro W base args ds gs before hval hW _ _ _ hL _ _
  exact contract H enc W base args ds gs before hval hW

theorem said : Rows.UsagePlaysSaid :=
  OpenClaim.holds_of_cond 3 Try.f3 rfl rfl rfl rfl rfl rfl rfl ⟨rfl, rfl, rfl, rfl, rfl⟩ rfl rfl rfl rfl rfl (by kernel_rfl) Try.func3 (by kernel_rfl)
    (of_decide_eq_true (by kernel_rfl)) (by unfold Func.isWrapper; first | (rw [if_pos (by decide +kernel)]; kernel_rfl) | (rw [if_neg (by decide +kernel)]; exact ⟨rfl, rfl⟩))
    (fun os started H enc _ F => by rw [OpenClaim.pre_eq_preRow]; exact lifted os started H enc F)
end Go.Proofs.Ytechbidbhoookaa.Fin14
