/- Package extent: Disks, by the shelf's contracts on slices.Sorted and maps.Keys. -/
import Derived.Test.YticilcmplgimpaaDoorExtB
import Derived.Test.YticilcmplgimpaaDoorSlice
import Derived.Test.YticilcmplgimpaaDoorLay
namespace Go.Proofs.YticilcmplgimpaaDoor.Ext
open Go Go.RowKit Go.Proofs.YticilcmplgimpaaDoor.Sl
open Go.Maps Go.Sort Go.Shelf
open Go.Proofs.YticilcmplgimpaaDoor.Bits (ptr obj)

theorem sorts (m : Nat) : AnyZI.SortsIn Tryd.prog Tryd.sortedA_ren Fence.wide m :=
  ⟨fun blk off cap ss W hH hblk hsz => callsIn_wide.2 (AnyM.slices_Sort_int Tryd.sortA blk off cap ss W hH hblk hsz),
   fun p cap W => callsIn_wide.2 (AnyM.slices_Sort_int_none Tryd.sortA p cap W)⟩
/-- How the shelf reads the map. -/
def anyElem (_ : Value) : Option (DataW Unit × List MemPlace) := some (.nil, [])
def datum (A : List (Int × List Bool)) : DataW Unit := .map ((A.map fun x => (Lit.int .i64 x.1, DataW.nil)).foldr DataW.insert [])
theorem keys_wf {n : Int} (h : -9223372036854775808 ≤ n ∧ n ≤ 9223372036854775807) : (Lit.int .i64 n).wf = true := WalkArith.wf_i64 h
theorem owns {w : World} {m : Nat} {es : Array MapEntry} {clock : Nat} {R : List Mem} (hm : w.heap[m]? = some (.map es clock)) (hR : Reads encI es clock (pairs R)) (hk : (R.map (·.1)).Nodup) (hr : ∀ r ∈ R, -9223372036854775808 ≤ r.1 ∧ r.1 ≤ 9223372036854775807) (hl : R.length ≤ maxLen) :
    w.ownsMap Tryd.prog 3 anyElem m R.length (datum (abs R)) := by
  have hlen : es.toList.length = R.length := by have := congrArg List.length hR.eq; simpa [pairs] using this
  have hkey : es.toList.map (·.key) = R.map fun r => Value.int .i64 r.1 := by
    have := congrArg (List.map Prod.fst) hR.eq
    simpa [pairs, Function.comp_def] using this
  have hread : ∀ e ∈ es.toList, ∃ r ∈ R, e.key = .int .i64 r.1 := fun e he => by
    have : e.key ∈ es.toList.map (·.key) := List.mem_map.2 ⟨e, he, rfl⟩
    rw [hkey, List.mem_map] at this
    obtain ⟨r, hr, h⟩ := this
    exact ⟨r, hr, h.symm⟩
  have hrd : ∀ e ∈ es.toList, ∀ r ∈ R, e.key = .int .i64 r.1 → WideElems.rd Tryd.prog 3 anyElem e = some (.int .i64 r.1, .nil) := fun e _ r hr' h => by
    unfold WideElems.rd
    rw [h, Maps.keyOf_int_mk Tryd.underlying3 (keys_wf (hr r hr'))]
    rfl
  refine ⟨es, clock, hm, ⟨by simp at hlen; omega, ⟨hR.born, hR.one, ?_⟩, fun e he => ?_⟩, by simp at hlen; omega, ?_⟩
  · rw [hkey]
    have : (R.map fun r => Value.int .i64 r.1) = (R.map (·.1)).map fun n => Value.int .i64 n := by simp [Function.comp_def]
    rw [this]
    refine List.Pairwise.map _ (fun a b h e => h ?_) hk
    simpa using e
  · obtain ⟨r, hr', h⟩ := hread e he
    exact ⟨_, hrd e he r hr' h⟩
  · unfold datum
    congr 2
    apply List.ext_getElem
    · simp [abs] at hlen ⊢; exact hlen.symm
    · intro i h1 h2
      have hi : i < es.toList.length := by simpa using h2
      have hiR : i < R.length := by omega
      have hk' := congrArg (fun l => l[i]?) hkey
      simp only [List.getElem?_map, List.getElem?_eq_getElem hi, List.getElem?_eq_getElem hiR, Option.map_some, Option.some.injEq] at hk'
      simp only [List.getElem_map, abs]
      rw [WideElems.rg_of (hrd _ (List.getElem_mem hi) _ (List.getElem_mem hiR) hk')]
theorem keys_datum (A : List (Int × List Bool)) : (intKeys (datum A)).Perm (A.map (·.1)) := by
  unfold datum
  show (List.map (fun p : Lit × DataW Unit => Go.intOf p.1) _).Perm _
  have h := (WideShapes.sorted_perm (A.map fun x => (Lit.int .i64 x.1, (DataW.nil : DataW Unit)))).map fun p => Go.intOf p.1
  refine h.trans ?_
  rw [List.map_map]
  exact List.Perm.of_eq rfl
theorem size_datum (A : List (Int × List Bool)) : Maps.size (datum A) = A.length := by
  unfold Maps.size datum
  have h := (WideShapes.sorted_perm (A.map fun x => (Lit.int .i64 x.1, (DataW.nil : DataW Unit)))).length_eq
  simpa using h
def sorted (A : List (Int × List Bool)) : List Int := (A.map (·.1)).mergeSort fun x y => decide (x ≤ y)

set_option maxRecDepth 100000 in
set_option maxHeartbeats 1000000 in
theorem disks_calls {E : World} {L : List HProp} (p : Nat) (A : List (Int × List Bool)) (hnd : (A.map (·.1)).Nodup) (hr : ∀ r ∈ A, -9223372036854775808 ≤ r.1 ∧ r.1 ≤ 9223372036854775807) (hl : A.length ≤ 1000000) (x : Wd E (At p A :: L)) :
    Calls Tryd.prog 25 #[ptr p] x.val fun e w' => ∃ v, e = .returned v ∧ ∃ y : Wd E (Row 3 1 v A.length ((sorted A).map fun n => Value.int .i64 n) :: At p A :: L), w' = y.val := by
  obtain ⟨m, R, rfl, z, hz⟩ := At.op x
  obtain ⟨es, clock, hR, z, hz'⟩ := MapIs.op z
  rw [hz, hz']
  clear hz hz'
  have hk : (R.map (·.1)).Nodup := by rw [abs, List.map_map] at hnd; exact hnd
  have hr' : ∀ r ∈ R, -9223372036854775808 ≤ r.1 ∧ r.1 ≤ 9223372036854775807 := fun r hm => hr (r.1, r.2.2) (List.mem_map.2 ⟨r, hm, rfl⟩)
  have hlR : R.length = (abs R).length := by simp [abs]
  have HR := Lib.hid hR
  have hcK : ∀ mb W, CallsIn Fence.wide 5 Tryd.prog 43 #[.map mb] W fun e w' => e = .returned (.func (.func 50) #[] #[.pointer (some ⟨W.heap.size, 0, none⟩)]) ∧ w' = W.alloc (.cells #[.map mb] 42) := fun mb W => AnyZI.keys_in Tryd.keysA Fence.wide 5 trivial rfl mb W
  have cK := fun mb W => callsIn_wide.1 (hcK mb W)
  have cS : ∀ kb (y : Wd E (pt kb (.cells #[.map (some m)] 42) :: pt m (.map es clock) :: head p m :: bits R :: L)),
      Calls Tryd.prog 42 #[.func (.func 50) #[] #[.pointer (some ⟨kb, 0, none⟩)]] y.val fun e w' => ∃ v, e = .returned v ∧ ∃ u : Wd E (Row 3 1 v R.length ((sorted (abs R)).map fun n => Value.int .i64 n) :: pt kb (.cells #[.map (some m)] 42) :: pt m (.map es clock) :: head p m :: bits R :: L), w' = u.val := fun kb y => by
    have hown := owns (w := y.val) (Wd.heap1 y) HR.out hk hr' (by unfold maxLen; omega)
    have hcell : y.val.cell? ⟨kb, 0, none⟩ = some (.map (some m)) := Wd.cell0 y 0
    have hkb : kb < y.val.heap.size := by
      have h0 := Wd.heap0 y
      by_cases h : kb < y.val.heap.size
      · exact h
      · rw [Array.getElem?_eq_none (by omega)] at h0; cases h0
    have hseq : SeqGives Fence.wide 2 Tryd.prog 50 #[.pointer (some ⟨kb, 0, none⟩)] encZ (fun ss => ss.Perm (intKeys (datum (abs R)))) (Maps.size (datum (abs R))) y.val :=
      AnyZI.keys_gives (ρ := Tryd.keysA_ren) { Tryd.keysA with } Fence.wide _ trivial rfl (by omega) kb m R.length (datum (abs R)) y.val hkb hcell hown
    have hs := size_datum (abs R)
    have h := AnyZI.sorted_in Tryd.sortedA Fence.wide 5 trivial trivial trivial trivial rfl (by omega) (sorts _) (enters_of Tryd.func49 (by kernel_rfl) rfl) 50 #[.pointer (some ⟨kb, 0, none⟩)] trivial (enters_of Tryd.func50 (by kernel_rfl) rfl) _ _ (by rw [hs]; unfold maxLen; omega) (by rw [hs]; omega) _ hseq
    refine (callsIn_wide.1 h).mono ?_
    rintro e w' ⟨v, ss, rfl, hS, hrow, _, hb⟩
    have hperm : ss.Perm ((abs R).map (·.1)) := hS.trans (keys_datum (abs R))
    have hsort : ss.mergeSort (fun x y => decide (x ≤ y)) = sorted (abs R) := mergeSort_of_perm_i hperm
    have hlen : ss.length = R.length := by have := hperm.length_eq; simpa [abs] using this
    rw [hsort, hlen] at hrow
    exact ⟨v, rfl, Row.of_own (x := y) hrow hb⟩
  have CS := Lib.hid cS; have CK := Lib.hid cK
  clear cS cK hcK hR hnd hr hl hk hr'
  go_enter Tryd.func25, Tryd.ntmps25
  go_wp2_with fail
  refine (CK.out _ _).mono ?_; rintro e w' ⟨rfl, rfl⟩
  go_wp2_with fail
  refine (CS.out _ (z.new _)).mono ?_; rintro e w' ⟨v, rfl, y, rfl⟩
  go_wp2_with fail
  go_ret
  obtain ⟨u, hu⟩ := shut HR.out y.up1.drop.down3
  exact ⟨v, rfl, u.up1.cast (by rw [hlR]), hu⟩
end Go.Proofs.YticilcmplgimpaaDoor.Ext
