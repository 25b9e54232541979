/- The law of layer 6: same. -/
import Derived.Test.YticilcmplgimpaaDoorLaw06B
set_option linter.unusedVariables false
set_option linter.unusedSectionVars false
namespace Go.Proofs.YticilcmplgimpaaDoor.Law06
open Go Go.RowKit Go.Proofs.YticilcmplgimpaaDoor.Sl
open Go.Proofs.YticilcmplgimpaaDoor.Bits (ptr)
open Go.Proofs.YticilcmplgimpaaDoor.Ext (count codeTake nextTake codeFree nextFree toCode toNext index idxVal takeVal takeNext usedN roomN addCode addNext hasB sorted zero36)

theorem get_neg {n : Nat} {A B : Ms} (I : Inv n A B) : aget A (-1) = none := by
  cases h : aget A (-1) with
  | none => rfl
  | some l => have := (I.all _ (Ext.aget_mem h)).1; simp only at this; omega
/-- A call on the two that tells a number and leaves both. -/
abbrev Tells (E : World) (p q : Nat) (A B : Ms) (f : FuncId) (r : Nat) (v : Int → Int) : Prop :=
  ∀ (L : List HProp) (d : Int) (x : Wd E (Ext.At p A :: Ref06.At q B :: L)), Calls Tryd.prog f #[ptr r, .int .i64 d] x.val fun e w' => e = .returned (.int .i64 (v d)) ∧ ∃ y : Wd E (Ext.At p A :: Ref06.At q B :: L), w' = y.val
section
variable {E : World} {n p q : Nat} {A B : Ms} (I : Inv n A B) (hn : n ≤ 1000)
include I hn
theorem tells_used1 : Tells E p q A B 27 p (usedN A) := fun L d x => Ext.used_calls p A d x
theorem tells_room1 : Tells E p q A B 29 p (roomN A) := fun L d x => Ext.room_calls p A d (fun x hx => (I.all x hx).2.2) x
theorem tells_used2 : Tells E p q A B 28 q (usedN A) := fun L d x => by
  rw [← I.used]
  refine (Ref06.used_calls q B d (by have := I.lenB; omega) (fun x hx => (I.allB x hx).2.2) x.up1).mono ?_
  rintro e w' ⟨rfl, y, rfl⟩
  exact ⟨rfl, y.up1, rfl⟩
theorem tells_room2 : Tells E p q A B 30 q (roomN A) := fun L d x => by
  rw [← I.room]
  refine (Ref06.room_calls q B d (by have := I.lenB; omega) (fun x hx => (I.allB x hx).2.2) x.up1).mono ?_
  rintro e w' ⟨rfl, y, rfl⟩
  exact ⟨rfl, y.up1, rfl⟩
theorem disks1 (L : List HProp) (x : Wd E (Ext.At p A :: Ref06.At q B :: L)) :
    Calls Tryd.prog 25 #[ptr p] x.val fun e w' => ∃ v, e = .returned v ∧ ∃ y : Wd E (Row 3 1 v A.length ((sorted A).map fun n => Value.int .i64 n) :: Ext.At p A :: Ref06.At q B :: L), w' = y.val :=
  Ext.disks_calls p A I.nodup (fun r hr => ⟨by have := (I.all r hr).1; omega, (I.all r hr).2.1⟩) (by have := I.len; omega) x
theorem disks2 (L : List HProp) (x : Wd E (Ext.At p A :: Ref06.At q B :: L)) :
    Calls Tryd.prog 26 #[ptr q] x.val fun e w' => ∃ v, e = .returned v ∧ ∃ y : Wd E (Row 3 1 v A.length ((sorted A).map fun n => Value.int .i64 n) :: Ext.At p A :: Ref06.At q B :: L), w' = y.val := by
  refine (Ref06.disks_calls q B I.nodupB (fun r hr => (I.allB r hr).1) (by have := I.lenB; omega) x.up1).mono ?_
  rintro e w' ⟨v, rfl, y, rfl⟩
  exact ⟨v, rfl, y.up2.up1.cast (by rw [I.sort, I.perm.length_eq]), rfl⟩
end
set_option maxRecDepth 100000 in
set_option maxHeartbeats 4000000 in
theorem same_calls {E : World} {L : List HProp} {n : Nat} {A B : Ms} (I : Inv n A B) (hn : n ≤ 1000) (p q : Nat) (x : Wd E (Ext.At p A :: Ref06.At q B :: L)) :
    Calls Tryd.prog 10 #[ptr p, ptr q] x.val fun e w' => e = .returned (.bool true) ∧ ∃ y : Wd E (Ext.At p A :: Ref06.At q B :: L), w' = y.val := by
  have hu1 : Tells E p q A B 27 p (usedN A) := tells_used1 I hn
  have hu2 : Tells E p q A B 28 q (usedN A) := tells_used2 I hn
  have hr1 : Tells E p q A B 29 p (roomN A) := tells_room1 I hn
  have hr2 : Tells E p q A B 30 q (roomN A) := tells_room2 I hn
  have hd1 := fun L x => disks1 (E := E) (p := p) (q := q) I hn L x
  have hd2 := fun L x => disks2 (E := E) (p := p) (q := q) I hn L x
  have hn1 : ∀ (L : List HProp) (x : Wd E (Ext.At p A :: Ref06.At q B :: L)), Calls Tryd.prog 27 #[ptr p, .int .i64 (-1)] x.val fun e w' => e = .returned (.int .i64 0) ∧ ∃ y : Wd E (Ext.At p A :: Ref06.At q B :: L), w' = y.val := fun L x => by
    have h := hu1 L (-1) x
    have e : usedN A (-1) = 0 := by unfold usedN; rw [get_neg I]
    rwa [e] at h
  have hn2 : ∀ (L : List HProp) (x : Wd E (Ext.At p A :: Ref06.At q B :: L)), Calls Tryd.prog 29 #[ptr p, .int .i64 (-1)] x.val fun e w' => e = .returned (.int .i64 0) ∧ ∃ y : Wd E (Ext.At p A :: Ref06.At q B :: L), w' = y.val := fun L x => by
    have h := hr1 L (-1) x
    have e : roomN A (-1) = 0 := by unfold roomN; rw [get_neg I]
    rwa [e] at h
  have hAl : A.length ≤ 1000 := by have := I.len; omega
  have hsl : (sorted A).length = A.length := by rw [(Ref06.sorted_perm A).length_eq, List.length_map]
  have HU1 := Lib.hid hu1; have HU2 := Lib.hid hu2; have HR1 := Lib.hid hr1; have HR2 := Lib.hid hr2; have HD1 := Lib.hid hd1; have HD2 := Lib.hid hd2; have HN1 := Lib.hid hn1; have HN2 := Lib.hid hn2
  clear hu1 hu2 hr1 hr2 hd1 hd2 hn1 hn2 I
  go_enter Tryd.func10, Tryd.ntmps10
  go_wp2_with fail
  refine (HD1.out _ x).mono ?_; rintro e w' ⟨v1, rfl, y, rfl⟩
  go_wp2_with fail
  refine (HD2.out _ y.down2).mono ?_; rintro e w' ⟨v2, rfl, y, rfl⟩
  obtain ⟨A2, hA2, ⟨y, hy⟩, -⟩ := Row.read y
  obtain ⟨A1, hA1, ⟨z, hz⟩, -⟩ := Row.read (y.up3 : Wd E (Row 3 1 v1 A.length ((sorted A).map fun n => Value.int .i64 n) :: A2 :: Ext.At p A :: Ref06.At q B :: L))
  have hz2 : y.val = z.up2.up3.up1.val := hz
  have hy2 := hy.trans hz2
  rw [hy2]
  generalize z.up2.up3.up1 = z
  clear hy hz hz2 hy2
  obtain ⟨b1, c1, rfl, hB1⟩ := hA1
  obtain ⟨b2, c2, rfl, hB2⟩ := hA2
  have HB1 := Lib.hid hB1; have HB2 := Lib.hid hB2
  clear hB1 hB2
  go_wp2_with fail
  go_loopw [7] (fun i wr => ∃ k : Nat, k ≤ A.length ∧ i = .int .i64 (k : Int) ∧ ∃ z : Wd E (Ext.At p A :: Ref06.At q B :: A1 :: A2 :: L), wr = z.val) (fun i _ => A.length - (intOf i).toNat)
  case atStart => exact ⟨0, by omega, rfl, z, rfl⟩
  case round =>
    obtain ⟨k, hk, rfl, z, rfl⟩ := hrel
    by_cases hlt : k < A.length
    · obtain ⟨bb1, rfl, cur1, rfl, hc1⟩ := HB1.out (by omega)
      obtain ⟨bb2, rfl, cur2, rfl, hc2⟩ := HB2.out (by omega)
      have hcell : ((sorted A).map fun n => Value.int .i64 n)[k]? = some (.int .i64 ((sorted A).getD k 0)) := by
        rw [List.getElem?_map, List.getD_eq_getElem?_getD, List.getElem?_eq_getElem (by omega)]; rfl
      have hc1 := hc1 _ _ hcell
      have hc2 := hc2 _ _ hcell
      clear hcell
      generalize (sorted A).getD k 0 = d at hc1 hc2
      go_wp2_with fail
      refine (HU1.out _ _ z).mono ?_; rintro e w' ⟨rfl, z, rfl⟩
      go_wp2_with fail
      refine (HU2.out _ _ z).mono ?_; rintro e w' ⟨rfl, z, rfl⟩
      go_wp2_with fail
      refine (HR1.out _ _ z).mono ?_; rintro e w' ⟨rfl, z, rfl⟩
      go_wp2_with fail
      refine (HR2.out _ _ z).mono ?_; rintro e w' ⟨rfl, z, rfl⟩
      go_wp2_with fail
      refine (HU1.out _ _ z).mono ?_; rintro e w' ⟨rfl, z, rfl⟩
      go_wp2_with fail
      refine (HU2.out _ _ z).mono ?_; rintro e w' ⟨rfl, z, rfl⟩
      go_wp2_with fail
      refine (HR1.out _ _ z).mono ?_; rintro e w' ⟨rfl, z, rfl⟩
      go_wp2_with fail
      refine (HR2.out _ _ z).mono ?_; rintro e w' ⟨rfl, z, rfl⟩
      go_wp2_with fail
      refine ⟨⟨k + 1, by omega, rfl, z, rfl⟩, by simp [intOf]; omega⟩
    · go_wp2_with fail
      refine (HN1.out _ z).mono ?_; rintro e w' ⟨rfl, z, rfl⟩
      go_wp2_with fail
      refine (HN2.out _ z).mono ?_; rintro e w' ⟨rfl, z, rfl⟩
      go_wp2_with fail
      go_ret
      exact ⟨rfl, z.up2.drop.up2.drop, rfl⟩
end Go.Proofs.YticilcmplgimpaaDoor.Law06
