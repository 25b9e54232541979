/- The tied card of braidworklaw06.ExtentPlays: whatever the list of steps, the call returns true and its argument reads afterwards as it read before. Its conditions are the row's own: the table math/bits.deBruijn64tab holds what its initialiser lays (the card ties that to the program's text). -/
import Derived.Test.YticilcmplgimpaaDoorCards
import Derived.Test.YticilcmplgimpaaDoorTie
import Derived.Test.YticilcmplgimpaaDoorLaw06E
import Derived.Test.YticilcmplgimpaaDoorPost
import Derived.Deep.DeepHandedRow
import Derived.Deep.Slices
import Derived.Lib.LaidTab
namespace Go.Proofs.YticilcmplgimpaaDoor.Card06
open Go Go.ChangeShapes Go.WideShapes Go.ChangeAt Go.RowKit Go.Deep
open Go.Proofs.YticilcmplgimpaaDoor.Sl (Wd)

theorem own : ownKnob Tryd.prog.godebug = none := by kernel_rfl
theorem gTab : Tryd.prog.globalNamed "math/bits.deBruijn64tab" = some 0 := by kernel_rfl
theorem gTabType : (Tryd.prog.globals[0]?).map (·.type) = some 81 := by kernel_rfl
theorem cellsTab : Tryd.prog.cellsOf 81 = 64 := by kernel_rfl
theorem cellsU8 : Tryd.prog.cellsOf 5 = 1 := by kernel_rfl
theorem cellsOp : Tryd.prog.cellsOf 29 = 3 := by kernel_rfl
theorem cellsInt : Tryd.prog.cellsOf 3 = 1 := by kernel_rfl
theorem laidOut : laidOutB Tryd.prog = true := by kernel_rfl

theorem table {W : World} (h : laidMetH Tryd.prog Rows.extentPlaysRow.laid W) : Bits.Table W := by
  have hT : Lib.TabIs Tryd.prog W "math/bits.deBruijn64tab" .u8 (Lib.deBruijn64tab.map fun n : Nat => (n : Int)) :=
    Lib.tabIs_of_head (rest := []) gTab gTabType Tryd.underlying81 Tryd.underlying5 cellsU8 cellsTab h
  have hc : ∀ j, j < 64 → W.cell? ⟨0, j, none⟩ = some (.int .u8 (Lib.deBruijn64tab.getD j 0 : Nat)) := fun j hj => by
    rw [hT.cell gTab j (by rw [List.length_map]; exact hj)]
    rw [List.getD_eq_getElem?_getD, List.getD_eq_getElem?_getD, List.getElem?_map]
    have : j < Lib.deBruijn64tab.length := hj
    rw [List.getElem?_eq_getElem this]
    rfl
  exact ⟨Post.block_lt (hc 0 (by decide)), hc⟩

theorem i64_of {n : Int} (h : (Lit.int .i64 n).wf = true) : Law06.i64r n := by
  simp [Lit.wf, IntKind.min, IntKind.max, IntKind.signed, IntKind.bits] at h
  exact ⟨by omega, by omega⟩
theorem ops_at {H : Type} {enc : TypeId × Value → H} {W : World} {a0 : Option Addr} {len cap fuel : Nat} {x : DataW H × List MemPlace}
    (h : DataW.trod enc Tryd.prog W 0 (fun _ => true) true fuel 22 [.slice a0 len cap] = some x) : Law06.OpsAt W (.slice a0 len cap) len := by
  rcases open_slice Tryd.underlying22 h with ⟨hcs, _⟩ | ⟨a, len', cap', m, n, D, Pl, hcs, _, hl, hm, hmm, _, hel⟩
  · simp only [List.cons.injEq, Value.slice.injEq, and_true] at hcs
    obtain ⟨rfl, rfl, rfl⟩ := hcs
    exact ⟨none, 0, rfl, by unfold maxLen; omega, fun i hi => by omega⟩
  · simp only [List.cons.injEq, Value.slice.injEq, and_true] at hcs
    obtain ⟨rfl, rfl, rfl⟩ := hcs
    simp only [if_true] at hmm
    subst hmm
    refine ⟨_, _, rfl, by omega, fun i hi => ?_⟩
    obtain ⟨cs', hc, ht⟩ := hel i (by omega)
    rw [cellsOp] at hc
    obtain ⟨_, hlen, hat⟩ := World.cells?_some hc
    obtain ⟨xs, n', _, _, _, hxl, hf⟩ := DataW.trod_struct Tryd.underlying29 ht
    have hx3 : xs.length = 3 := hxl
    match cs', hlen with
    | [c0, c1, c2], _ =>
      have f0 : DataW.trod enc Tryd.prog W 0 (fun _ => true) true n' 3 (([c0, c1, c2].drop 0).take (Tryd.prog.cellsOf 3)) = xs[0]? := hf 0 _ rfl
      have f1 : DataW.trod enc Tryd.prog W 0 (fun _ => true) true n' 3 (([c0, c1, c2].drop 1).take (Tryd.prog.cellsOf 3)) = xs[1]? := hf 1 _ rfl
      have f2 : DataW.trod enc Tryd.prog W 0 (fun _ => true) true n' 3 (([c0, c1, c2].drop 2).take (Tryd.prog.cellsOf 3)) = xs[2]? := hf 2 _ rfl
      rw [cellsInt] at f0 f1 f2
      simp only [List.drop_succ_cons, List.drop_zero, List.take_succ_cons, List.take_zero] at f0 f1 f2
      rw [List.getElem?_eq_getElem (by omega)] at f0 f1 f2
      obtain ⟨k, hk, _, _⟩ := DataW.trod_int Tryd.underlying3 f0
      obtain ⟨d, hd, _, wd⟩ := DataW.trod_int Tryd.underlying3 f1
      obtain ⟨s, hs, _, ws⟩ := DataW.trod_int Tryd.underlying3 f2
      simp only [List.cons.injEq, and_true] at hk hd hs
      subst hk hd hs
      have h0 := hat 0 (by omega)
      have h1 := hat 1 (by omega)
      have h2 := hat 2 (by omega)
      obtain ⟨b, off, spot⟩ := a
      obtain ⟨cs0, hcz, _⟩ := hel 0 (by omega)
      rw [Nat.zero_mul, cellsOp] at hcz
      obtain ⟨_, hlz, hatz⟩ := World.cells?_some hcz
      have hz := hatz 0 (by omega)
      rw [List.getElem?_eq_getElem (by omega)] at hz
      have hsp : spot = none := by simpa [Addr.add] using World.cell?_spot hz
      subst hsp
      have e : ∀ o i : Nat, (⟨b, o, none⟩ : Addr).add i = ⟨b, o + i, none⟩ := fun o i => by unfold Addr.add; split <;> simp_all
      simp only [e, Nat.add_zero] at h0 h1 h2
      exact ⟨b, off, rfl, Post.block_lt h0, k, d, s, i64_of wd, i64_of ws, h0, h1, h2⟩
set_option maxRecDepth 100000 in
/-- What the walk gives, for every argument and every world that holds the table. -/
theorem contract (H : Type) (enc : TypeId × Value → H) (W : World) (base : Nat) (args : Array Value) (ds gs : List (DataW H)) (before : List MemPlace)
    (hval : ∀ (j : Nat) t v, Tryd.f3.params[j]? = some t → args[j]? = some v → Value.okWide Tryd.prog W .any base t v)
    (hW : DataW.Whole enc Tryd.prog Tryd.f3.params.toList Rows.extentPlaysSpec.vars false W args.toList ds gs before) (hL : laidMetH Tryd.prog Rows.extentPlaysRow.laid W) :
    Calls Tryd.prog 3 args W fun e W' => ∃ v, e = .returned v ∧ Rows.extentPlaysSpec.post enc Tryd.prog Tryd.f3 false true false false W args v W' := by
  have hW' := hW
  obtain ⟨p, q, hA0, hV, rfl, hfz, hnd⟩ := hW
  have hA : DataW.TrodAll enc Tryd.prog W 0 (fun _ => true) true Tryd.f3.params.toList args.toList ds p := hA0
  rw [Tryd.params3] at hA hval
  obtain ⟨v0, vs0, d0, ds0, p0, q0, hargs, rfl, rfl, h0, r0⟩ := trodAll_cons hA
  obtain ⟨rfl, rfl, rfl⟩ := trodAll_nil r0
  obtain rfl : args = #[v0] := by cases args; simp_all
  obtain ⟨a0, len, cap, rfl⟩ := okWide_slice Tryd.underlying22 (hval 0 22 v0 rfl rfl)
  obtain ⟨fuel, hf⟩ := h0
  have hO := ops_at hf
  have hT := table hL
  have hc := Law06.plays_calls hT hO (⟨W, ⟨Below.refl _ W, fun _ => none, fun _ => rfl, fun b o h => by cases h⟩⟩ : Wd W [])
  refine hc.mono ?_
  rintro e W' ⟨rfl, L, y, rfl⟩
  exact ⟨_, rfl, Post.law_post (tb := 4) laidOut (by rw [Tryd.params3]; decide +kernel) rfl (by kernel_rfl) Tryd.underlying4 (fun es hes => by
    rw [Tryd.params3] at hes
    match es, hes with
    | [d], _ => rfl) hW' y.below⟩

/-- A world for the witness: the settled one, the table as its initialiser lays it. -/
noncomputable def laidWorld (os : Os) : World :=
  { World.holding Tryd.prog os ⟨#[], #[], []⟩ with heap := (World.holding Tryd.prog os ⟨#[], #[], []⟩).heap.modify 0 fun
      | .cells _ t frozen => .cells (Lib.deBruijn64tab.map fun n : Nat => Value.int .u8 (n : Int)).toArray t frozen
      | o => o }
theorem laid_met (os : Os) : laidMet Tryd.prog Rows.extentPlaysRow.laid ((laidWorld os).forCall (fun _ _ => 0) ⟨#[], #[.slice none 0 0], []⟩).memory :=
  laidMet_of_run' 70 (by kernel_rfl) (by kernel_rfl)
theorem reads (os : Os) {H : Type} (enc : TypeId × Value → H) : ∃ places, DataW.whole enc Tryd.prog ((laidWorld os).forCall (fun _ _ => 0) ⟨#[], #[.slice none 0 0], []⟩).memory Tryd.f3.params.toList Rows.extentPlaysSpec.vars false #[Value.slice none 0 0].toList 8 = some ([.nil], [], places) :=
  ⟨[], by kernel_rfl⟩

set_option maxRecDepth 100000 in
theorem lifted (os : Os) (started : os.Started) (H : Type) (enc : TypeId × Value → H) (F : Stop.Interp) :
    ReturnsInHanded {} Tryd.checked os 3 .any ((OpenSpec.ofChange Rows.extentPlaysSpec).preRow enc Tryd.prog Tryd.f3 Rows.extentPlaysRow.domain false Rows.extentPlaysRow.laid) (((OpenSpec.ofChange Rows.extentPlaysSpec).at F).post enc Tryd.prog Tryd.f3 false true false false) := by
  obtain ⟨places, hx⟩ := reads os enc
  refine returnsInHanded_of_row (C := Tryd.checked) (s := OpenSpec.ofChange Rows.extentPlaysSpec) own started (by kernel_rfl) Tryd.func3
    (witness_row_at (enc := enc) (C := Tryd.checked) false (laidWorld os) #[.slice none 0 0] rfl (by kernel_rfl) (by kernel_rfl) (by kernel_rfl)
      (OpenSpec.preRow_of_cond 8 hx (by kernel_rfl) (fun k hk => by cases hk) (by kernel_rfl) (laid_met os))) ?_
  intro W base args ds gs before hval hW _ _ _ hL _ _
  exact contract H enc W base args ds gs before hval hW hL

theorem said : Rows.ExtentPlaysSaid :=
  OpenClaim.holds_of_cond 3 Tryd.f3 rfl rfl rfl rfl rfl rfl rfl ⟨rfl, rfl, rfl, rfl, rfl⟩ rfl rfl rfl rfl rfl (by kernel_rfl) Tryd.func3 (by kernel_rfl)
    (of_decide_eq_true (by kernel_rfl)) (by unfold Func.isWrapper; first | (rw [if_pos (by decide +kernel)]; kernel_rfl) | (rw [if_neg (by decide +kernel)]; exact ⟨rfl, rfl⟩))
    (fun os started H enc _ F => by rw [OpenClaim.pre_eq_preRow]; exact lifted os started H enc F)

theorem plain (f : FuncId) (fn : Func) (hf : Tryd.pinned.checked.prog.funcNamed "braidwork/braidworklaw06.ExtentPlays" = some f) (hfn : Tryd.pinned.checked.prog.funcs[f]? = some fn) :
    false = Tryd.pinned.checked.prog.looks [] ∧ ∀ (j : Nat) t, fn.params[j]? = some t → Tryd.pinned.checked.prog.wantsStandIn t = false := by
  obtain rfl : f = 3 := Option.some.inj ((show Tryd.prog.funcNamed "braidwork/braidworklaw06.ExtentPlays" = some 3 by kernel_rfl).symm.trans hf) |>.symm
  obtain rfl : fn = Tryd.f3 := (Option.some.inj (Tryd.func3.symm.trans hfn)).symm
  refine ⟨by kernel_rfl, fun j t ht => ?_⟩
  rw [Tryd.params3] at ht
  obtain rfl : t = 22 := by simpa using Array.mem_of_getElem? ht
  exact (show Tryd.prog.wantsStandIn 22 = false by kernel_rfl)

theorem card : Rows.ExtentPlaysCardSaid :=
  Claim7.holds_tied_plain_at .later [] _ _ _ _ said (fun _ h => by cases h) (by kernel_rfl) (fun _ h => by cases h) extentPlays_row_tie rfl ⟨rfl, rfl⟩ (by kernel_rfl) rfl plain (by kernel_rfl)
end Go.Proofs.YticilcmplgimpaaDoor.Card06
