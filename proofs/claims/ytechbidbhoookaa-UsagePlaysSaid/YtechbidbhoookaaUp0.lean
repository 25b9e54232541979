/- The law of layer 14: what the two sides say of each other (plain). -/
import Derived.Test.YtechbidbhoookaaRf7
import Derived.Test.YtechbidbhoookaaUse4
set_option linter.unusedVariables false
set_option linter.unusedSectionVars false
namespace Go.Proofs.Ytechbidbhoookaa.Up
open Go Go.RowKit Go.Proofs.Ytechbidbhoookaa.Sl
open Go.Proofs.Ytechbidbhoookaa.Use (Tb Lv live slotsN inCode blockOf findOf putCode clearCode openCode dropCode openNext dropNext clearNext setSlot without kept holeOf blocksOf empt emptStep cnt)
open Go.Proofs.Ytechbidbhoookaa.Rf (Gs slotsF blockF findF inF openCodeF openNextF offG dropCodeF putCodeF putNextF clearCodeF clearNextF withoutF goes blocksF blocksN holeF emptF emptS sortedG Fits)

def lensOf (T : Tb) : Gs := T.map fun x => (x.1, (x.2.length : Int))
theorem lensOf_keys (T : Tb) : (lensOf T).map (·.1) = T.map (·.1) := by simp [lensOf]
theorem get_lens (T : Tb) (g : Int) : aget (lensOf T) g = (aget T g).map fun l => (l.length : Int) := by
  unfold aget lensOf
  induction T with
  | nil => rfl
  | cons x T ih => by_cases h : x.1 = g <;> simp_all
theorem live_fun {T : Tb} (hT : Use.Good T) {g s b b' : Int} (h : (g, s, b) ∈ live T) (h' : (g, s, b') ∈ live T) : b = b' := by
  obtain ⟨l1, hl1, _, j1, hj1, hv1⟩ := Use.mem_live.1 h
  obtain ⟨l2, hl2, _, j2, hj2, hv2⟩ := Use.mem_live.1 h'
  have e1 := (aget_iff hT.keys _ _).2 hl1
  have e2 := (aget_iff hT.keys _ _).2 hl2
  simp only at e1 e2 hj1 hj2 hv1 hv2
  rw [e1] at e2
  have e3 := Option.some.inj e2
  subst e3
  have e4 : j1 = j2 := by omega
  subst e4
  rw [hv1] at hv2
  exact Option.some.inj hv2
theorem blockOf_iff {T : Tb} (hT : Use.Good T) {g s b : Int} : blockOf T g s = some b ↔ (g, s, b) ∈ live T := by
  rw [Use.mem_live]
  unfold blockOf
  cases ha : aget T g with
  | none =>
    simp only [reduceCtorEq, false_iff]
    rintro ⟨l, hl, _⟩
    rw [(aget_iff hT.keys _ _).2 hl] at ha; cases ha
  | some l =>
    dsimp only
    constructor
    · intro h
      split at h
      · cases h
      · rename_i hn
        split at h
        · cases h
        · rename_i hv
          have hb := Option.some.inj h
          have hs : s.toNat < l.length := by omega
          have hm : l.getD s.toNat 0 ∈ l := by rw [List.getD_eq_getElem?_getD, List.getElem?_eq_getElem hs]; exact List.getElem_mem hs
          have := hT.vals _ (aget_mem' ha) _ hm
          refine ⟨l, aget_mem' ha, by omega, s.toNat, by omega, ?_⟩
          rw [← hb, List.getD_eq_getElem?_getD, List.getElem?_eq_getElem hs]; rfl
    · rintro ⟨l', hl', h0, j, hj, hv⟩
      rw [(aget_iff hT.keys _ _).2 hl'] at ha
      have e := Option.some.inj ha
      subst e
      have hjl : j < l'.length := by
        by_cases h : j < l'.length
        · exact h
        · rw [List.getElem?_eq_none (by omega)] at hv; cases hv
      subst hj
      rw [if_neg (by omega), Int.toNat_natCast, List.getD_eq_getElem?_getD, hv, Option.getD_some, if_neg (by omega)]
structure Rel (n : Nat) (T : Tb) (G : Gs) (l : Lv) : Prop where
  good : Use.Good T
  perm : G.Perm (lensOf T)
  lives : l.Perm (live T)
  len : T.length ≤ n
section
variable {n : Nat} {T : Tb} {G : Gs} {l : Lv} (R : Rel n T G l)
include R
theorem Rel.more {m : Nat} (h : n ≤ m) : Rel m T G l := ⟨R.good, R.perm, R.lives, Nat.le_trans R.len h⟩
theorem Rel.left {T' : Tb} (h : T'.Perm T) : Rel n T' G l := by
  have hk : (T'.map (·.1)).Nodup := (h.map _).nodup_iff.2 R.good.keys
  have hL := Use.live_perm h hk
  refine ⟨⟨hk, fun x hx => R.good.ids x (h.mem_iff.1 hx), fun x hx => R.good.lens x (h.mem_iff.1 hx), fun x hx => R.good.vals x (h.mem_iff.1 hx), ((hL.map _).nodup_iff).2 R.good.uniq⟩, R.perm.trans (h.map _).symm, R.lives.trans hL.symm, by rw [h.length_eq]; exact R.len⟩
theorem Rel.keysG : (G.map (·.1)).Nodup := by
  rw [(R.perm.map _).nodup_iff, lensOf_keys]; exact R.good.keys
theorem Rel.lenG : G.length = T.length := by rw [R.perm.length_eq]; simp [lensOf]
theorem Rel.memG {x : Int × Int} (h : x ∈ G) : 0 ≤ x.1 ∧ 1 ≤ x.2 ∧ x.2 ≤ 4096 := by
  have := R.perm.mem_iff.1 h
  unfold lensOf at this
  obtain ⟨y, hy, rfl⟩ := List.mem_map.1 this
  have h1 := R.good.ids y hy
  have h2 := R.good.lens y hy
  refine ⟨h1.1, ?_, ?_⟩ <;> simp only <;> omega
theorem Rel.memL {x : Int × Int × Int} (h : x ∈ l) : 0 ≤ x.1 := by
  obtain ⟨l', hl', _⟩ := Use.mem_live.1 (R.lives.mem_iff.1 h)
  exact (R.good.ids _ hl').1
theorem Rel.fits (hn : n ≤ 200) : Fits G l := by
  have h1 := R.lenG
  have h2 := R.len
  have h3 := Use.live_len (fun x hx => (R.good.lens x hx).2)
  have h4 := R.lives.length_eq
  have h5 : T.length * 4096 ≤ 200 * 4096 := Nat.mul_le_mul_right _ (by omega)
  exact ⟨by omega, by omega, fun x hx => (R.memG hx).2⟩
theorem Rel.get (g : Int) : aget G g = (aget T g).map fun l => (l.length : Int) := by
  rw [aget_perm R.perm.symm (by rw [lensOf_keys]; exact R.good.keys), get_lens]
theorem Rel.slots (g : Int) : slotsF G g = slotsN T g := by
  unfold slotsF slotsN
  rw [R.get]
  cases aget T g <;> rfl
theorem Rel.slots_pos (g : Int) : slotsF G g > 0 ↔ (aget T g).isSome = true := by
  rw [R.slots]
  unfold slotsN
  cases h : aget T g with
  | none => simp
  | some l' => have := (R.good.lens _ (aget_mem' h)).1; simp only at this; simp; omega
theorem Rel.slots_zero (g : Int) : slotsF G g = 0 ↔ (aget T g).isSome = false := by
  rw [R.slots]
  unfold slotsN
  cases h : aget T g with
  | none => simp
  | some l' => have := (R.good.lens _ (aget_mem' h)).1; simp only at this; exact ⟨fun h' => by simp only at h'; omega, fun h' => by cases h'⟩
theorem Rel.block (g s : Int) : blockF l g s = blockOf T g s := by
  have h1 : ∀ b, blockF l g s = some b ↔ blockOf T g s = some b := fun b => by
    rw [blockOf_iff R.good]
    unfold blockF
    constructor
    · intro h
      rw [Option.map_eq_some_iff] at h
      obtain ⟨x, hx, hb⟩ := h
      have h2 := List.find?_some hx
      have h3 := R.lives.mem_iff.1 (List.mem_of_find?_eq_some hx)
      simp only [decide_eq_true_eq] at h2
      obtain ⟨a, c, d⟩ := x
      simp only at h2 hb
      rw [← h2.1, ← h2.2, ← hb]; exact h3
    · intro h
      have h2 := R.lives.mem_iff.2 h
      cases hf : l.find? fun x => decide (x.1 = g ∧ x.2.1 = s) with
      | none =>
        rw [List.find?_eq_none] at hf
        have := hf _ h2
        simp at this
      | some x =>
        have h4 := List.find?_some hf
        have h5 := R.lives.mem_iff.1 (List.mem_of_find?_eq_some hf)
        simp only [decide_eq_true_eq] at h4
        obtain ⟨a, c, d⟩ := x
        simp only at h4
        obtain ⟨rfl, rfl⟩ := h4
        rw [live_fun R.good h h5]; rfl
  cases hb : blockOf T g s with
  | some b => exact (h1 b).2 hb
  | none =>
    cases hf : blockF l g s with
    | none => rfl
    | some b => rw [(h1 b).1 hf] at hb; cases hb
theorem Rel.find (b : Int) : findF l b = findOf T b := by
  have h1 : ∀ x, findF l b = some x ↔ findOf T b = some x := fun x => by
    rw [Use.find_iff R.good]
    unfold findF
    constructor
    · intro h
      rw [Option.map_eq_some_iff] at h
      obtain ⟨y, hy, hx⟩ := h
      have h2 := List.find?_some hy
      have h3 := R.lives.mem_iff.1 (List.mem_of_find?_eq_some hy)
      simp only [decide_eq_true_eq] at h2
      obtain ⟨a, c, d⟩ := y
      simp only at h2 hx
      rw [← hx, ← h2]; exact h3
    · intro h
      have h2 := R.lives.mem_iff.2 h
      cases hf : l.find? fun x => decide (x.2.2 = b) with
      | none =>
        rw [List.find?_eq_none] at hf
        have := hf _ h2
        simp at this
      | some y =>
        have h4 := List.find?_some hf
        have h5 := R.lives.mem_iff.1 (List.mem_of_find?_eq_some hf)
        simp only [decide_eq_true_eq] at h4
        obtain ⟨a, c, d⟩ := y
        simp only at h4
        subst h4
        have e1 := (Use.find_iff R.good (x := (a, c))).2 h5
        have e2 := (Use.find_iff R.good (x := x)).2 h
        rw [e1] at e2
        exact e2
  cases hb : findOf T b with
  | some b => exact (h1 b).2 hb
  | none =>
    cases hf : findF l b with
    | none => rfl
    | some b => rw [(h1 b).1 hf] at hb; cases hb
theorem Rel.inn (g s : Int) : inF G g s = inCode T g s := by
  unfold inF inCode
  cases h : aget T g with
  | none => rw [if_pos ((R.slots_zero g).2 (by rw [h]; rfl))]
  | some l' =>
    have e : slotsF G g = (l'.length : Int) := by rw [R.slots]; unfold slotsN; rw [h]
    rw [if_neg (fun h0 => by have := (R.slots_zero g).1 h0; rw [h] at this; cases this), e]
theorem Rel.openC (g m : Int) : openCodeF G g m = openCode T g m := by
  unfold openCodeF openCode
  split
  · rfl
  · by_cases h : (aget T g).isSome = true
    · rw [if_pos ((R.slots_pos g).2 h), if_pos h]
    · rw [if_neg (fun h' => h ((R.slots_pos g).1 h')), if_neg h]
theorem Rel.dropC (g : Int) : dropCodeF G g = dropCode T g := by
  unfold dropCodeF dropCode
  cases h : (aget T g).isSome with
  | true => rw [if_neg (fun h' => by rw [(R.slots_zero g).1 h'] at h; cases h)]; rfl
  | false => rw [if_pos ((R.slots_zero g).2 h)]; rfl
theorem Rel.putC (g s b : Int) : putCodeF G l g s b = putCode T g s b := by unfold putCodeF putCode; rw [R.inn, R.block]
theorem Rel.clearC (g s : Int) : clearCodeF G l g s = clearCode T g s := by unfold clearCodeF clearCode; rw [R.inn, R.block]
theorem Rel.blocks (g : Int) : blocksF G l g = blocksOf T g := by
  unfold blocksF blocksOf
  rw [R.slots]
  unfold slotsN
  cases h : aget T g with
  | none => rfl
  | some l' =>
    dsimp only
    rw [Int.toNat_natCast]
    have key : ∀ k, k ≤ l'.length → blocksN l g k = kept (l'.take k) := by
      intro k
      induction k with
      | zero => intro _; rfl
      | succ k ih =>
        intro hk
        have hb : blockF l g (k : Int) = if l'.getD k 0 = -1 then none else some (l'.getD k 0) := by rw [R.block, Use.block_at h (by omega)]
        rw [Use.take_snoc (by omega), Use.kept_snoc, ← ih (by omega)]
        by_cases hd : l'.getD k 0 = -1
        · rw [if_pos hd] at hb ⊢; exact Rf.blocksN_none hb
        · rw [if_neg hd] at hb ⊢; exact Rf.blocksN_some hb
    rw [key _ (Nat.le_refl _), List.take_length]
theorem Rel.hole (g : Int) : holeF G l g = holeOf T g := by
  unfold holeF holeOf
  rw [R.slots]
  unfold slotsN
  cases h : aget T g with
  | none => rfl
  | some l' =>
    dsimp only
    rw [Int.toNat_natCast]
    have hb : ∀ k, k < l'.length → blockF l g (k : Int) = if l'.getD k 0 = -1 then none else some (l'.getD k 0) := fun k hk => by rw [R.block, Use.block_at h hk]
    suffices e : (List.range l'.length).find? (fun s : Nat => (blockF l g (s : Int)).isNone) = l'.findIdx? fun x => decide (x = -1) by rw [e]
    cases hf : l'.findIdx? fun x => decide (x = -1) with
    | none =>
      rw [List.find?_eq_none]
      intro k hk
      have hk' : k < l'.length := by simpa using hk
      rw [hb k hk', if_neg]
      · simp
      · rw [List.findIdx?_eq_none_iff] at hf
        have := hf l'[k] (List.getElem_mem hk')
        rw [List.getD_eq_getElem?_getD, List.getElem?_eq_getElem hk']
        simpa using this
    | some i =>
      rw [List.findIdx?_eq_some_iff_getElem] at hf
      obtain ⟨hi, h1, h2⟩ := hf
      rw [List.find?_eq_some_iff_getElem]
      refine ⟨?_, i, by simpa using hi, by simp, fun j hj => ?_⟩
      · rw [hb i hi, if_pos]
        · rfl
        · rw [List.getD_eq_getElem?_getD, List.getElem?_eq_getElem hi]; simpa using h1
      · have := h2 j hj
        simp only [List.getElem_range]
        rw [hb j (by omega), if_neg]
        · simp
        · rw [List.getD_eq_getElem?_getD, List.getElem?_eq_getElem (by omega)]; simpa using this
theorem Rel.sort : sortedG G = Use.sorted T := by
  have h : ∀ ks : List Int, (ks.mergeSort fun x y => decide (x ≤ y)).Pairwise (· ≤ ·) := fun ks => by
    have := List.pairwise_mergeSort (le := fun x y : Int => decide (x ≤ y)) (by intro a b c; simp; omega) (by intro a b; simp; omega) ks
    exact this.imp (fun h => of_decide_eq_true h)
  have hp : (sortedG G).Perm (Use.sorted T) := by
    refine (Rf.sorted_perm G).trans (((R.perm.map _).trans (List.Perm.of_eq (lensOf_keys T))).trans (List.mergeSort_perm _ _).symm)
  exact hp.eq_of_pairwise (fun a b _ _ h1 h2 => by omega) (h _) (h _)
theorem Rel.empt (gs : List Int) : (emptF G l gs).1 = (Use.empt T gs).1 ∧ decide ((emptF G l gs).2 ≥ 0) = (Use.empt T gs).2 := by
  unfold emptF Use.empt
  suffices h : ∀ (st : Int × Int) (su : Int × Bool), st.1 = su.1 → (su.2 = false ∧ st.2 = -1 ∨ su.2 = true ∧ st.2 = (cnt T su.1 : Int)) →
      (gs.foldl (emptS G l) st).1 = (gs.foldl (emptStep T) su).1 ∧ ((gs.foldl (emptStep T) su).2 = false ∧ (gs.foldl (emptS G l) st).2 = -1 ∨ (gs.foldl (emptStep T) su).2 = true ∧ (gs.foldl (emptS G l) st).2 = (cnt T (gs.foldl (emptStep T) su).1 : Int)) by
    obtain ⟨h1, h2⟩ := h (0, -1) (0, false) rfl (.inl ⟨rfl, rfl⟩)
    refine ⟨h1, ?_⟩
    rcases h2 with ⟨a, b⟩ | ⟨a, b⟩
    · rw [a, b]; rfl
    · rw [a, b]; simp
  induction gs with
  | nil => exact fun st su h1 h2 => ⟨h1, h2⟩
  | cons g gs ih =>
    intro st su h1 h2
    simp only [List.foldl_cons]
    have hb : ((blocksF G l g).length : Int) = (cnt T g : Int) := by rw [R.blocks]
    have hstep : (emptS G l st g).1 = (emptStep T su g).1 ∧ ((emptStep T su g).2 = false ∧ (emptS G l st g).2 = -1 ∨ (emptStep T su g).2 = true ∧ (emptS G l st g).2 = (cnt T (emptStep T su g).1 : Int)) := by
      unfold emptS emptStep
      cases hg : aget T g with
      | none =>
        have h0 : ¬ slotsF G g > 0 := fun h => by have := (R.slots_pos g).1 h; rw [hg] at this; cases this
        rw [if_neg (fun h => h0 h.1)]
        exact ⟨h1, h2⟩
      | some l' =>
        have h0 : slotsF G g > 0 := (R.slots_pos g).2 (by rw [hg]; rfl)
        dsimp only
        by_cases hc : su.2 = false ∨ cnt T g < cnt T su.1 ∨ (cnt T g = cnt T su.1 ∧ g < su.1)
        · have hc2 : slotsF G g > 0 ∧ (st.2 < 0 ∨ ((blocksF G l g).length : Int) < st.2 ∨ (((blocksF G l g).length : Int) = st.2 ∧ g < st.1)) := by
            refine ⟨h0, ?_⟩
            rw [hb, h1]
            rcases h2 with ⟨a, b⟩ | ⟨a, b⟩
            · left; omega
            · rcases hc with h | h | h
              · rw [a] at h; cases h
              · right; left; omega
              · right; right; omega
          rw [if_pos hc, if_pos hc2]
          exact ⟨rfl, .inr ⟨rfl, hb⟩⟩
        · have hc2 : ¬ (slotsF G g > 0 ∧ (st.2 < 0 ∨ ((blocksF G l g).length : Int) < st.2 ∨ (((blocksF G l g).length : Int) = st.2 ∧ g < st.1))) := by
            rintro ⟨_, h⟩
            refine hc ?_
            rw [hb, h1] at h
            rcases h2 with ⟨a, b⟩ | ⟨a, b⟩
            · left; exact a
            · rcases h with h | h | h
              · exfalso; omega
              · right; left; omega
              · right; right; omega
          rw [if_neg hc, if_neg hc2]
          exact ⟨h1, h2⟩
    exact ih _ _ hstep.1 hstep.2
end
end Go.Proofs.Ytechbidbhoookaa.Up
