/- Package usage, layer 14: Groups, by the shelf's contracts on slices.Sorted and maps.Keys. -/
import Derived.Test.YtechbidbhoookaaUse14
set_option linter.unusedVariables false
set_option linter.unusedSectionVars false
namespace Go.Proofs.Ytechbidbhoookaa.Use
open Go Go.RowKit Go.Proofs.Ytechbidbhoookaa.Sl
open Go.Maps Go.Sort Go.Shelf

theorem sorts (m : Nat) : AnyZI.SortsIn Try.prog Try.sortedA_ren Fence.wide m :=
  ⟨fun blk off cap ss W hH hblk hsz => callsIn_wide.2 (AnyM.slices_Sort_int Try.sortA blk off cap ss W hH hblk hsz),
   fun p cap W => callsIn_wide.2 (AnyM.slices_Sort_int_none Try.sortA p cap W)⟩
/-- How the shelf reads the map. -/
def anyElem (_ : Value) : Option (DataW Unit × List MemPlace) := some (.nil, [])
def datum (T : Tb) : DataW Unit := .map ((T.map fun x => (Lit.int .i64 x.1, DataW.nil)).foldr DataW.insert [])
theorem keys_wf {n : Int} (h : -9223372036854775808 ≤ n ∧ n ≤ 9223372036854775807) : (Lit.int .i64 n).wf = true := WalkArith.wf_i64 h
theorem owns {w : World} {m : Nat} {es : Array MapEntry} {clock : Nat} {R : List UM} (hm : w.heap[m]? = some (.map es clock)) (hR : Reads encI es clock (pairsG R)) (hk : (R.map UM.id).Nodup) (hr : ∀ r ∈ R, -9223372036854775808 ≤ r.id ∧ r.id ≤ 9223372036854775807) (hl : R.length ≤ maxLen) :
    w.ownsMap Try.prog 3 anyElem m R.length (datum (absU R)) := by
  have hlen : es.toList.length = R.length := by have := congrArg List.length hR.eq; simpa [pairsG] using this
  have hkey : es.toList.map (·.key) = R.map fun r => Value.int .i64 r.id := by
    have := congrArg (List.map Prod.fst) hR.eq
    simpa [pairsG, Function.comp_def] using this
  have hread : ∀ e ∈ es.toList, ∃ r ∈ R, e.key = .int .i64 r.id := fun e he => by
    have : e.key ∈ es.toList.map (·.key) := List.mem_map.2 ⟨e, he, rfl⟩
    rw [hkey, List.mem_map] at this
    obtain ⟨r, hr, h⟩ := this
    exact ⟨r, hr, h.symm⟩
  have hrd : ∀ e ∈ es.toList, ∀ r ∈ R, e.key = .int .i64 r.id → WideElems.rd Try.prog 3 anyElem e = some (.int .i64 r.id, .nil) := fun e _ r hr' h => by
    unfold WideElems.rd
    rw [h, Maps.keyOf_int_mk Try.underlying3 (keys_wf (hr r hr'))]
    rfl
  refine ⟨es, clock, hm, ⟨by simp at hlen; omega, ⟨hR.born, hR.one, ?_⟩, fun e he => ?_⟩, by simp at hlen; omega, ?_⟩
  · rw [hkey]
    have : (R.map fun r => Value.int .i64 r.id) = (R.map UM.id).map fun n => Value.int .i64 n := by simp [Function.comp_def]
    rw [this]
    refine List.Pairwise.map _ (fun a b h e => h ?_) hk
    simpa using e
  · obtain ⟨r, hr', h⟩ := hread e he
    exact ⟨_, hrd e he r hr' h⟩
  · unfold datum
    congr 2
    apply List.ext_getElem
    · simp [absU] at hlen ⊢; exact hlen.symm
    · intro i h1 h2
      have hi : i < es.toList.length := by simpa using h2
      have hiR : i < R.length := by omega
      have hk' := congrArg (fun l => l[i]?) hkey
      simp only [List.getElem?_map, List.getElem?_eq_getElem hi, List.getElem?_eq_getElem hiR, Option.map_some, Option.some.injEq] at hk'
      simp only [List.getElem_map, absU]
      rw [WideElems.rg_of (hrd _ (List.getElem_mem hi) _ (List.getElem_mem hiR) hk')]
theorem keys_datum (T : Tb) : (intKeys (datum T)).Perm (T.map (·.1)) := by
  unfold datum
  show (List.map (fun p : Lit × DataW Unit => Go.intOf p.1) _).Perm _
  have h := (WideShapes.sorted_perm (T.map fun x => (Lit.int .i64 x.1, (DataW.nil : DataW Unit)))).map fun p => Go.intOf p.1
  refine h.trans ?_
  rw [List.map_map]
  exact List.Perm.of_eq rfl
theorem size_datum (T : Tb) : Maps.size (datum T) = T.length := by
  unfold Maps.size datum
  have h := (WideShapes.sorted_perm (T.map fun x => (Lit.int .i64 x.1, (DataW.nil : DataW Unit)))).length_eq
  simpa using h
def sorted (T : Tb) : List Int := (T.map (·.1)).mergeSort fun x y => decide (x ≤ y)

set_option maxRecDepth 100000 in
set_option maxHeartbeats 1000000 in
theorem groups_calls {E : World} {L : List HProp} {T : Tb} (hT : Good T) (p : Nat) (hl : T.length ≤ 1000000) (x : Wd E (At p T :: L)) :
    Calls Try.prog 28 #[ptr p] x.val fun e w' => ∃ v, e = .returned v ∧ ∃ y : Wd E (Row 3 1 v T.length (ints (sorted T)) :: At p T :: L), w' = y.val := by
  obtain ⟨S, hG, hF, z, hz⟩ := At.op x
  rw [hz]
  have hk : (S.R.map UM.id).Nodup := by have h := hT.keys; rw [← hG.hR, keys_absU] at h; exact h
  have hr' : ∀ r ∈ S.R, -9223372036854775808 ≤ r.id ∧ r.id ≤ 9223372036854775807 := fun r hr => by
    have := hT.ids (r.id, r.l) (by rw [← hG.hR]; exact List.mem_map.2 ⟨r, hr, rfl⟩)
    have h1 := this.1; have h2 := this.2
    simp only at h1 h2; exact ⟨by omega, h2⟩
  have hlR : S.R.length = T.length := by rw [← hG.hR]; simp [absU]
  have HG := Lib.hid hG; have HF := Lib.hid hF
  have hcK : ∀ mb W, CallsIn Fence.wide 5 Try.prog 46 #[.map mb] W fun e w' => e = .returned (.func (.func 52) #[] #[.pointer (some ⟨W.heap.size, 0, none⟩)]) ∧ w' = W.alloc (.cells #[.map mb] 43) := fun mb W => AnyZI.keys_in Try.keysA Fence.wide 5 trivial rfl mb W
  have cK := fun mb W => callsIn_wide.1 (hcK mb W)
  have cS : ∀ kb (y : Wd E (pt kb (.cells #[.map (some S.mg)] 43) :: S.pg :: S.pw :: S.hd p :: big UM.at S.R :: L)),
      Calls Try.prog 45 #[.func (.func 52) #[] #[.pointer (some ⟨kb, 0, none⟩)]] y.val fun e w' => ∃ v, e = .returned v ∧ ∃ u : Wd E (Row 3 1 v T.length (ints (sorted T)) :: pt kb (.cells #[.map (some S.mg)] 43) :: S.pg :: S.pw :: S.hd p :: big UM.at S.R :: L), w' = u.val := fun kb y => by
    have hown := owns (w := y.val) (Wd.heap1 y) HG.out.rG hk hr' (by unfold maxLen; omega)
    have hcell : y.val.cell? ⟨kb, 0, none⟩ = some (.map (some S.mg)) := Wd.cell0 y 0
    have hkb : kb < y.val.heap.size := by
      have h0 := Wd.heap0 y
      by_cases h : kb < y.val.heap.size
      · exact h
      · rw [Array.getElem?_eq_none (by omega)] at h0; cases h0
    rw [HG.out.hR, hlR] at hown
    have hseq : SeqGives Fence.wide 2 Try.prog 52 #[.pointer (some ⟨kb, 0, none⟩)] encZ (fun ss => ss.Perm (intKeys (datum T))) (Maps.size (datum T)) y.val :=
      AnyZI.keys_gives (ρ := Try.keysA_ren) { Try.keysA with } Fence.wide _ trivial rfl (by omega) kb S.mg T.length (datum T) y.val hkb hcell hown
    have hs := size_datum T
    have h := AnyZI.sorted_in Try.sortedA Fence.wide 5 trivial trivial trivial trivial rfl (by omega) (sorts _) (enters_of Try.func51 (by kernel_rfl) rfl) 52 #[.pointer (some ⟨kb, 0, none⟩)] trivial (enters_of Try.func52 (by kernel_rfl) rfl) _ _ (by rw [hs]; unfold maxLen; omega) (by rw [hs]; omega) _ hseq
    refine (callsIn_wide.1 h).mono ?_
    rintro e w' ⟨v, ss, rfl, hS, hrow, _, hb⟩
    have hperm : ss.Perm (T.map (·.1)) := hS.trans (keys_datum T)
    have hsort : ss.mergeSort (fun x y => decide (x ≤ y)) = sorted T := mergeSort_of_perm_i hperm
    have hlen : ss.length = T.length := by have := hperm.length_eq; simpa using this
    rw [hsort, hlen] at hrow
    exact ⟨v, rfl, Row.of_own (x := y) hrow hb⟩
  have CS := Lib.hid cS; have CK := Lib.hid cK
  clear cS cK hcK hG hF hl hk hr' hT hz
  go_enter Try.func28, Try.ntmps28
  go_wp2_with fail
  refine (CK.out _ _).mono ?_; rintro e w' ⟨rfl, rfl⟩
  go_wp2_with fail
  refine (CS.out _ (z.new _)).mono ?_; rintro e w' ⟨v, rfl, y, rfl⟩
  go_wp2_with fail
  go_ret
  obtain ⟨u, hu⟩ := At.cl HG.out HF.out (y.ord [2, 3, 4, 5, 0, 1])
  exact ⟨v, rfl, u.up2.drop.up1, hu⟩
end Go.Proofs.Ytechbidbhoookaa.Use
