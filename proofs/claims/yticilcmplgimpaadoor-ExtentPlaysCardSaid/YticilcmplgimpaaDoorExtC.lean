/- Package extent: Clone. -/
import Derived.Test.YticilcmplgimpaaDoorExtB
import Derived.Deep.LoopGhost
namespace Go.Proofs.YticilcmplgimpaaDoor.Ext
open Go Go.RowKit Go.Proofs.YticilcmplgimpaaDoor.Sl
open Go.Proofs.YticilcmplgimpaaDoor.Bits (ptr obj)

theorem length_le_of_nodup {l : List Nat} {n : Nat} (hn : l.Nodup) (h : ∀ j ∈ l, j < n) : l.length ≤ n := by
  have hp : (l ++ (List.range n).filter fun j => !l.contains j).Perm (List.range n) := by
    rw [List.perm_ext_iff_of_nodup]
    · intro a
      simp only [List.mem_append, List.mem_filter, List.mem_range]
      constructor
      · rintro (ha | ha)
        · exact h a ha
        · exact ha.1
      · intro ha
        by_cases hc : a ∈ l
        · exact .inl hc
        · exact .inr ⟨ha, by simpa using hc⟩
    · rw [List.nodup_append]
      refine ⟨hn, List.nodup_range.filter _, fun a ha b hb e => ?_⟩
      subst e
      simp at hb
      exact hb.2 ha
    · exact List.nodup_range
  have := hp.length_eq
  simp at this
  omega
def bornAt (es : Array MapEntry) (j : Nat) : Nat := (es.toList.getD j default).born
/-- Who has been visited: the entries whose stamps have been seen are V's, in this order. -/
def Vis (es : Array MapEntry) (R : List Mem) (seen : Array Nat) (V : List Mem) : Prop :=
  ∃ idxs : List Nat, idxs.Nodup ∧ (∀ j ∈ idxs, j < R.length) ∧ seen.toList = idxs.map (bornAt es) ∧ V = idxs.map fun j => R.getD j default
theorem vis_nil (es : Array MapEntry) (R : List Mem) : Vis es R #[] [] := ⟨[], by simp, by simp, by simp, by simp⟩
theorem reads_len {es : Array MapEntry} {clock : Nat} {R : List Mem} (hR : Reads encI es clock (pairs R)) : es.toList.length = R.length := by
  have := congrArg List.length hR.eq; simpa [pairs] using this
theorem vis_step {es : Array MapEntry} {clock : Nat} {R : List Mem} {seen : Array Nat} {V : List Mem} (hR : Reads encI es clock (pairs R)) (hV : Vis es R seen V) {e : MapEntry} (he : e ∈ unseen es seen) :
    ∃ r, r ∈ R ∧ e ∈ es ∧ e.key = .int .i64 r.1 ∧ e.val = ptr r.2.1 ∧ Vis es R (seen.push e.born) (V ++ [r]) ∧ V.length < R.length ∧ ((R.map (·.1)).Nodup → r.1 ∉ V.map (·.1)) := by
  unfold unseen at he
  rw [Array.mem_filter] at he
  obtain ⟨hes, hns⟩ := he
  obtain ⟨j, hj, hje⟩ := List.getElem_of_mem (show e ∈ es.toList by simpa using hes)
  have hl := reads_len hR
  have hjR : j < R.length := by omega
  obtain ⟨idxs, h1, h2, h3, h4⟩ := hV
  have hbj : bornAt es j = e.born := by unfold bornAt; rw [List.getD_eq_getElem?_getD, List.getElem?_eq_getElem hj, hje]; rfl
  have hni : j ∉ idxs := fun hmem => by
    have : e.born ∈ seen.toList := by rw [h3, List.mem_map]; exact ⟨j, hmem, hbj⟩
    simp at hns
    exact hns (by simpa using this)
  have hnd : (j :: idxs).Nodup := List.nodup_cons.2 ⟨hni, h1⟩
  have hlen := length_le_of_nodup hnd (n := R.length) (fun i hi => by
    rcases List.mem_cons.1 hi with rfl | hi
    · exact hjR
    · exact h2 i hi)
  have hkv := congrArg (fun l => l[j]?) hR.eq
  simp only [List.getElem?_map, List.getElem?_eq_getElem hj, pairs, List.getElem?_eq_getElem hjR, Option.map_some, Option.some.injEq, Prod.mk.injEq, hje] at hkv
  have hgd : R.getD j default = R[j] := by rw [List.getD_eq_getElem?_getD, List.getElem?_eq_getElem hjR]; rfl
  refine ⟨R[j], List.getElem_mem hjR, hes, hkv.1, hkv.2, ⟨idxs ++ [j], ?_, ?_, ?_, ?_⟩, ?_, ?_⟩
  · rw [List.nodup_append]; exact ⟨h1, by simp, fun a ha b hb e => by simp at hb; subst hb; subst e; exact hni ha⟩
  · intro i hi
    rcases List.mem_append.1 hi with hi | hi
    · exact h2 i hi
    · simp at hi; subst hi; exact hjR
  · simp [h3, hbj]
  · simp only [h4, List.map_append, List.map_cons, List.map_nil, hgd]
  · rw [h4, List.length_map]; simp at hlen; omega
  · intro hk hmem
    rw [h4, List.map_map, List.mem_map] at hmem
    obtain ⟨i, hi, hie⟩ := hmem
    have hiR := h2 i hi
    have hgi : R.getD i default = R[i] := by rw [List.getD_eq_getElem?_getD, List.getElem?_eq_getElem hiR]; rfl
    simp only [Function.comp, hgi] at hie
    have hij : i ≠ j := fun e => hni (e ▸ hi)
    rcases Nat.lt_or_gt_of_ne hij with h | h
    · have := List.pairwise_iff_getElem.1 hk i j (by simpa using hiR) (by simpa using hjR) h
      simp at this; exact this hie
    · have := List.pairwise_iff_getElem.1 hk j i (by simpa using hjR) (by simpa using hiR) h
      simp at this; exact this hie.symm
theorem vis_done {es : Array MapEntry} {clock : Nat} {R : List Mem} {seen : Array Nat} {V : List Mem} (hR : Reads encI es clock (pairs R)) (hV : Vis es R seen V) (h : unseen es seen = #[]) : V.Perm R := by
  obtain ⟨idxs, h1, h2, h3, h4⟩ := hV
  have hl := reads_len hR
  have hp : idxs.Perm (List.range R.length) := by
    rw [List.perm_ext_iff_of_nodup h1 List.nodup_range]
    intro j
    rw [List.mem_range]
    refine ⟨h2 j, fun hj => ?_⟩
    have hj' : j < es.toList.length := by omega
    have hmem : es.toList[j] ∈ es := by have := List.getElem_mem hj'; simp
    have hs : es.toList[j].born ∈ seen.toList := by
      by_cases hc : seen.contains es.toList[j].born = true
      · simpa using hc
      · have : es.toList[j] ∈ unseen es seen := by
          unfold unseen
          rw [Array.mem_filter]
          exact ⟨hmem, by simpa using hc⟩
        rw [h] at this
        simp at this
    rw [h3, List.mem_map] at hs
    obtain ⟨i, hi, hie⟩ := hs
    have hi' : i < es.toList.length := by have := h2 i hi; omega
    have hb : bornAt es i = es.toList[i].born := by unfold bornAt; rw [List.getD_eq_getElem?_getD, List.getElem?_eq_getElem hi']; rfl
    rw [hb] at hie
    have hij : i = j := by
      rcases Nat.lt_trichotomy i j with h' | h' | h'
      · have := List.pairwise_iff_getElem.1 hR.one i j (by simpa using hi') (by simpa using hj') h'
        simp at this hie; exact absurd hie this
      · exact h'
      · have := List.pairwise_iff_getElem.1 hR.one j i (by simpa using hj') (by simpa using hi') h'
        simp at this hie; exact absurd hie.symm this
    exact hij ▸ hi
  rw [h4]
  refine (hp.map _).trans ?_
  have : (List.range R.length).map (fun j => R.getD j default) = R := by
    apply List.ext_getElem
    · simp
    · intro i hi1 hi2
      simp [List.getD_eq_getElem?_getD, List.getElem?_eq_getElem hi2]
  rw [this]
theorem bits_at {E : World} {L : List HProp} {R : List Mem} {r : Mem} (hr : r ∈ R) (y : Wd E (bits R :: L)) : y.val.heap[r.2.1]? = some (obj r.2.2) := by
  obtain ⟨R1, R2, rfl⟩ := List.append_of_mem hr
  obtain ⟨z, hz⟩ := bits_out y
  rw [hz]; exact Wd.heap0 z
theorem find_none {C2 : List Mem} {A : List (Int × List Bool)} {d : Int} (h : abs C2 = A) (hn : aget A d = none) : (C2.find? fun x => decide (x.1 = d)) = none := by
  rw [← h, get_abs] at hn
  cases hf : C2.find? fun x => decide (x.1 = d) with
  | none => rfl
  | some r => rw [hf] at hn; cases hn
set_option maxRecDepth 100000 in
set_option maxHeartbeats 1000000 in
theorem clone_calls {E : World} {L : List HProp} (p : Nat) (A : List (Int × List Bool)) (hnd : (A.map (·.1)).Nodup) (x : Wd E (At p A :: L)) :
    Calls Tryd.prog 8 #[ptr p] x.val fun e w' => ∃ c A', e = .returned (ptr c) ∧ A'.Perm A ∧ ∃ y : Wd E (At c A' :: At p A :: L), w' = y.val := by
  go_enter Tryd.func8, Tryd.ntmps8
  go_wp2_with fail
  refine (new_calls x).mono ?_; rintro e w' ⟨c, rfl, y, rfl⟩
  obtain ⟨m, R, rfl, z, hz⟩ := At.op y.up1
  obtain ⟨es, clock, hR, z, hz'⟩ := MapIs.op z
  have hz2 : y.val = z.val := hz.trans hz'
  rw [hz2]
  clear hz hz' hz2
  have hk : (R.map (·.1)).Nodup := by rw [abs, List.map_map] at hnd; exact hnd
  have HR := Lib.hid hR; have HK := Lib.hid hk
  clear hR hk hnd
  go_wp2_with ((with_reducible refine grange 42 ?_); go_must (refine wd_range z rfl rfl Tryd.underlying42 rfl (Wd.heap0 z) ?_; intro it z))
  go_frame
  go_loopg [4] R.length (fun k s4 wr => ∃ (seen : Array Nat) (V C : List Mem), Vis es R seen V ∧ k = R.length - V.length ∧ abs C = abs V ∧ ∃ z : Wd E (pt it (.mapIter (some m) clock seen clock) :: pt m (.map es clock) :: head p m :: bits R :: At c (abs C) :: L), wr = z.val)
  case atStart => exact ⟨#[], [], [], vis_nil es R, by simp, rfl, z, rfl⟩
  case round =>
    obtain ⟨seen, V, C, hV, hgk, hC, z, rfl⟩ := hrel
    have HV := Lib.hid hV; have HC := Lib.hid hC; have HG := Lib.hid hgk
    clear hV hC hgk
    go_wp2_with ((with_reducible refine gnext ?_); go_must (refine wd_next z rfl rfl rfl (Wd.heap1 z) HR.out.born ?h0 ?h1))
    case h0 =>
      intro hdone
      have hp := vis_done HR.out HV.out hdone
      have HP := Lib.hid hp
      clear hp hdone
      go_wp2_with fail
      go_ret
      obtain ⟨u, hu⟩ := shut HR.out z.drop
      exact ⟨c, abs C, rfl, by rw [HC.out]; exact HP.out.map _, u.up1, hu⟩
    case h1 =>
      intro e he y
      obtain ⟨r, hr, hes, hkey, hval, hV', hlt, hfresh⟩ := vis_step HR.out HV.out he
      have hfr := hfresh HK.out
      have hnone : aget (abs C) r.1 = none := by
        rw [HC.out, get_abs]
        have : V.find? (fun x => decide (x.1 = r.1)) = none := by
          rw [List.find?_eq_none]
          intro v hv
          simp only [decide_eq_true_eq]
          intro e; exact hfr (List.mem_map.2 ⟨v, hv, e⟩)
        rw [this]; rfl
      have hent := fun w h1 h2 => run_entry (P := Tryd.prog) (it := it) (m := m) (es := es) (clock := clock) (since := clock) (seen := seen) w h1 h2 hes HR.out.one
      rw [hkey, hval]
      rw [hkey, hval] at hent
      obtain ⟨m2, es2, clock2, C2, hR2, hA2, hl2, z, hz⟩ := open_none y.up4 hnone
      have hz' : y.val = z.val := hz
      rw [hz']
      have HR2 := Lib.hid hR2; have HA2 := Lib.hid hA2; have HV2 := Lib.hid hV'; have HN := Lib.hid (find_none hA2 hnone)
      have hu := store1 (m := m2) hR2 r.1
      have HB : Bits.At E (pt m2 (.map es2 clock2) :: head c m2 :: bits C2 :: pt it (.mapIter (some m) clock (seen.push e.born) clock) :: pt m (.map es clock) :: head p m :: bits R :: L) r.2.1 r.2.2 := fun y => bits_at hr y.up6
      clear hkey hval hV' hfresh hfr hnone hR2 hA2 hl2 hz hz' he
      go_wp2_with fail
      have ne : Nonempty (Wd E (pt m2 (.map es2 clock2) :: head c m2 :: bits C2 :: pt it (.mapIter (some m) clock (seen.push e.born) clock) :: pt m (.map es clock) :: head p m :: bits R :: L)) := ⟨z⟩
      refine wp_region_wd_mix z (fun w' => ∃ y : Wd E (pt m2 (.map es2 clock2) :: head c m2 :: bits C2 :: pt it (.mapIter (some m) clock (seen.push e.born) clock) :: pt m (.map es clock) :: head p m :: bits R :: L), w' = y.val) 7 [(0, true), (1, true), (2, true), (3, true), (4, true), (5, true), (6, false)] (by kernel_rfl) (by kernel_rfl)
        (fun c a d v w h => by cases d <;> exact h) ⟨z.drew, rfl⟩ ?_
      refine mix_reads [0, 1, 2, 3, 4, 5] (by kernel_rfl) ?_
      simp only [pick, List.getD_cons_zero, List.getD_cons_succ]
      repeat (go_big_quiet_step (fail))
      refine wpQuiet_nil ?_
      refine mix_step rfl ?_
      go_wp2_with fail
      refine (Bits.clone_calls z.drew r.2.1 r.2.2 HB).mono ?_; rintro e' w' ⟨nb, rfl, y2, rfl⟩
      go_wp2_with fail
      refine ⟨⟨y2.drop, rfl⟩, ?_⟩
      unfold wpMix
      go_wp2_with fail
      have hR3 := HR2.out.put r.1 (ptr nb)
      rw [pairs_none HN.out nb r.2.2] at hR3
      obtain ⟨z2, hz2⟩ := bits_snoc (r := (r.1, nb, r.2.2)) (y2.put1 (.map (putEs encI es2 clock2 (pairs C2) r.1 (ptr nb)) (putClock clock2 (pairs C2) r.1)))
      obtain ⟨z3, hz3⟩ := shut hR3 z2
      go_roundg (gk - 1)
      case measure => have := HG.out; omega
      case rel =>
        refine ⟨seen.push e.born, V ++ [r], C2 ++ [(r.1, nb, r.2.2)], HV2.out, by rw [HG.out, List.length_append, List.length_singleton]; omega, ?_, z3.down4, hz2.trans hz3⟩
        have h1 := HA2.out
        have h2 := HC.out
        unfold abs at h1 h2 ⊢
        rw [List.map_append, List.map_append, h1, h2]
        rfl
end Go.Proofs.YticilcmplgimpaaDoor.Ext
