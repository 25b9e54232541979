/- The reference of layer 14: Groups. -/
import Derived.Test.YtechbidbhoookaaRf4
set_option linter.unusedVariables false
set_option linter.unusedSectionVars false
namespace Go.Proofs.Ytechbidbhoookaa.Rf
open Go Go.RowKit Go.Proofs.Ytechbidbhoookaa.Sl
open Go.Proofs.Ytechbidbhoookaa.Use (ptr Lv optVal ints)

def bstStep (last b d : Int) : Int := if last < d ∧ (b < 0 ∨ d < b) then d else b
def bst (ds : List Int) (last : Int) (k : Nat) : Int := (ds.take k).foldl (bstStep last) (-1)
theorem bst_succ {ds : List Int} {last : Int} {k : Nat} (h : k < ds.length) : bst ds last (k + 1) = bstStep last (bst ds last k) ds[k] := by
  unfold bst
  rw [List.take_succ_eq_append_getElem h, List.foldl_append]
  rfl
theorem bst_spec {ds : List Int} {last : Int} (hds : ∀ d ∈ ds, 0 ≤ d) (hl : -1 ≤ last) : ∀ k, k ≤ ds.length →
    (bst ds last k = -1 ∧ ∀ d ∈ ds.take k, d ≤ last) ∨ (bst ds last k ∈ ds.take k ∧ last < bst ds last k ∧ ∀ d ∈ ds.take k, last < d → bst ds last k ≤ d) := by
  intro k
  induction k with
  | zero => intro _; left; exact ⟨rfl, by simp⟩
  | succ k ih =>
    intro hk
    have hlt : k < ds.length := by omega
    have h0 := hds _ (List.getElem_mem hlt)
    rw [bst_succ hlt, List.take_succ_eq_append_getElem hlt]
    simp only [List.mem_append, List.mem_singleton]
    unfold bstStep
    rcases ih (by omega) with ⟨h1, h2⟩ | ⟨h1, h2, h3⟩
    · rw [h1]
      by_cases h : last < ds[k]
      · right
        rw [if_pos ⟨h, .inl (by decide)⟩]
        refine ⟨.inr rfl, h, fun d hd hld => ?_⟩
        rcases hd with hd | rfl
        · have := h2 d hd; omega
        · omega
      · left
        rw [if_neg (fun hh => h hh.1)]
        refine ⟨rfl, fun d hd => ?_⟩
        rcases hd with hd | rfl
        · exact h2 d hd
        · omega
    · right
      by_cases h : last < ds[k] ∧ (bst ds last k < 0 ∨ ds[k] < bst ds last k)
      · rw [if_pos h]
        refine ⟨.inr rfl, h.1, fun d hd hld => ?_⟩
        rcases hd with hd | rfl
        · have := h3 d hd hld; omega
        · omega
      · rw [if_neg h]
        refine ⟨.inl h1, h2, fun d hd hld => ?_⟩
        rcases hd with hd | rfl
        · exact h3 d hd hld
        · omega
def lastOf (s : List Int) (n : Nat) : Int := if n = 0 then -1 else s.getD (n - 1) 0
theorem bst_sorted {ds s : List Int} (hp : s.Perm ds) (hs : s.Pairwise (· < ·)) (hds : ∀ d ∈ ds, 0 ≤ d) {n : Nat} (hn : n < s.length) : bst ds (lastOf s n) ds.length = s[n] := by
  have hlt : ∀ i j (hi : i < s.length) (hj : j < s.length), i < j → s[i] < s[j] := fun i j hi hj h => List.pairwise_iff_getElem.1 hs i j hi hj h
  have h0 : ∀ i (hi : i < s.length), 0 ≤ s[i] := fun i hi => hds _ (hp.mem_iff.1 (List.getElem_mem hi))
  have hlast : lastOf s n = -1 ∧ n = 0 ∨ ∃ h : n - 1 < s.length, 0 < n ∧ lastOf s n = s[n - 1] := by
    unfold lastOf
    by_cases h : n = 0
    · left; simp [h]
    · right
      refine ⟨by omega, by omega, ?_⟩
      rw [if_neg h, List.getD_eq_getElem?_getD, List.getElem?_eq_getElem (by omega)]; rfl
  have h1 : -1 ≤ lastOf s n := by
    rcases hlast with ⟨h, _⟩ | ⟨h, _, h'⟩
    · omega
    · have := h0 _ h; omega
  have h2 : lastOf s n < s[n] := by
    rcases hlast with ⟨h, _⟩ | ⟨h, hpos, h'⟩
    · have := h0 n hn; omega
    · rw [h']; exact hlt _ _ h hn (by omega)
  rcases bst_spec (last := lastOf s n) hds h1 ds.length (by omega) with ⟨_, h3⟩ | ⟨h3, h4, h5⟩
  · rw [List.take_length] at h3
    have := h3 s[n] (hp.mem_iff.1 (List.getElem_mem hn)); omega
  · rw [List.take_length] at h3 h5
    have h6 := h5 s[n] (hp.mem_iff.1 (List.getElem_mem hn)) h2
    obtain ⟨m, hm, hme⟩ := List.getElem_of_mem (hp.mem_iff.2 h3)
    by_cases hmn : m < n
    · exfalso
      rcases hlast with ⟨_, h⟩ | ⟨h, hpos, h'⟩
      · omega
      · by_cases e : m = n - 1
        · rw [← hme, h'] at h4; simp only [e] at h4; omega
        · have := hlt m (n - 1) hm h (by omega); omega
    · by_cases e : m = n
      · subst e; exact hme.symm
      · have := hlt n m hn hm (by omega); omega
theorem lastOf_succ {s : List Int} {n : Nat} (hn : n < s.length) : lastOf s (n + 1) = s[n] := by
  unfold lastOf
  rw [if_neg (by omega), Nat.add_sub_cancel, List.getD_eq_getElem?_getD, List.getElem?_eq_getElem hn]; rfl
def sortedG (G : Gs) : List Int := (G.map (·.1)).mergeSort fun x y => decide (x ≤ y)
theorem sorted_perm (G : Gs) : (sortedG G).Perm (G.map (·.1)) := List.mergeSort_perm _ _
theorem sorted_lt {G : Gs} (hnd : (G.map (·.1)).Nodup) : (sortedG G).Pairwise (· < ·) := by
  have h1 : (sortedG G).Pairwise (fun a b => decide (a ≤ b) = true) := List.pairwise_mergeSort (by intro a b c; simp; omega) (by intro a b; simp; omega) _
  have h2 : (sortedG G).Nodup := (sorted_perm G).nodup_iff.2 hnd
  refine (h1.and h2).imp ?_
  intro a b h
  have h3 := of_decide_eq_true h.1
  have h4 := h.2
  omega
section
variable {E : World} {L : List HProp} {G : Gs} {l : Lv} (q : Nat)
set_option maxRecDepth 100000 in
set_option maxHeartbeats 2000000 in
theorem groups_calls (hnd : (G.map (·.1)).Nodup) (h0 : ∀ x ∈ G, 0 ≤ x.1) (hn : G.length ≤ 1000000) (x : Wd E (At q G l :: L)) :
    Calls Try.prog 27 #[ptr q] x.val fun e w' => ∃ v, e = .returned v ∧ ∃ y : Wd E (Row 3 1 v G.length (ints (sortedG G)) :: At q G l :: L), w' = y.val := by
  obtain ⟨A1, A2, vG, vL, hA1, hA2, ⟨z, hz⟩, b1, b2, bk⟩ := At.rd x
  rw [hz]
  have hsl : (sortedG G).length = G.length := by rw [(sorted_perm G).length_eq]; simp
  have hbs : ∀ n (h : n < G.length), bst (G.map (·.1)) (lastOf (sortedG G) n) G.length = (sortedG G).getD n 0 := fun n h => by
    have := bst_sorted (sorted_perm G) (sorted_lt hnd) (fun d hd => by
      obtain ⟨y, hy, rfl⟩ := List.mem_map.1 hd
      exact h0 y hy) (n := n) (by omega)
    rw [List.length_map] at this
    rw [this, List.getD_eq_getElem?_getD, List.getElem?_eq_getElem (by omega)]; rfl
  have hls : ∀ n (h : n < G.length), lastOf (sortedG G) (n + 1) = (sortedG G).getD n 0 := fun n h => by
    rw [lastOf_succ (by omega), List.getD_eq_getElem?_getD, List.getElem?_eq_getElem (by omega)]; rfl
  have htk : ∀ n (h : n < G.length), (sortedG G).take (n + 1) = (sortedG G).take n ++ [(sortedG G).getD n 0] := fun n h => by
    rw [List.take_succ_eq_append_getElem (by omega), List.getD_eq_getElem?_getD, List.getElem?_eq_getElem (by omega)]; rfl
  have hbn : ∀ last k (h : k < G.length), bst (G.map (·.1)) last (k + 1) = bstStep last (bst (G.map (·.1)) last k) (G[k]).1 := fun last k h => by
    rw [bst_succ (by simpa using h)]; simp
  have HSL := Lib.hid hsl; have HBS := Lib.hid hbs; have HLS := Lib.hid hls; have HTK := Lib.hid htk; have HBN := Lib.hid hbn; have HBK := Lib.hid bk
  obtain ⟨base, cap, rfl, hb⟩ := hA1
  have HB := Lib.hid hb; clear hb
  clear hsl hbs hls htk hbn bk b1 b2 hnd h0 hz hA2
  generalize hs : sortedG G = s at *
  clear hs
  go_enter Try.func27, Try.ntmps27
  go_wp2_with ((with_reducible refine gbuildSlice 40 ?_); go_must (refine wd_buildSlice z rfl 40 3 0 _ rfl #[] (fun w => by kernel_rfl) ?_; intro ob z))
  obtain ⟨u, hu⟩ := Row.cl (n := 0) (cap := 0) (k := 1) (by omega) (by unfold maxLen; omega) rfl z
  rw [hu]
  clear hu
  have hl0 : lastOf s 0 = -1 := rfl
  go_loopw [3, 4, 5] (fun sl la n wr => ∃ k : Nat, k ≤ G.length ∧ la = .int .i64 (lastOf s k) ∧ n = .int .i64 (k : Int) ∧ ∃ u : Wd E (Row 3 1 sl k ((s.take k).map fun n => Value.int .i64 n) :: A1 :: A2 :: hd q (.slice base G.length cap) vL :: L), wr = u.val) (fun _ _ n _ => G.length - (intOf n).toNat)
  case atStart => exact ⟨0, by omega, rfl, rfl, u, rfl⟩
  case round =>
    obtain ⟨k, hk, rfl, rfl, u, rfl⟩ := hrel
    obtain ⟨ob, oc, rfl⟩ := Row.form u
    by_cases hlt : k < G.length
    · obtain ⟨b, rfl, cur, rfl, hcur⟩ := HB.out (by omega)
      have HC := Lib.hid hcur; clear hcur
      have hl1 := HLS.out k hlt
      have hb1 := HBS.out k hlt
      have ht1 := HTK.out k hlt
      generalize lastOf s k = la at hb1
      rw [← hl1] at hb1 ht1
      have HL1 := Lib.hid hl1; have HB1 := Lib.hid hb1; have HT1 := Lib.hid ht1
      clear hl1 hb1 ht1
      go_wp2_with fail
      go_loop [6, 7] (fun be n => ∃ i : Nat, i ≤ G.length ∧ be = .int .i64 (bst (G.map (·.1)) la i) ∧ n = .int .i64 (i : Int)) (fun _ n => G.length - (intOf n).toNat)
      case atStart => exact ⟨0, by omega, rfl, rfl⟩
      case round =>
        obtain ⟨i, hi, rfl, rfl⟩ := hrel
        by_cases hli : i < G.length
        · have hn1 := HBN.out la i hli
          have hcd := HC.out _ _ (cellsG_get G i hli).1
          generalize bst (G.map (·.1)) la i = bi at hn1 ⊢
          generalize (G[i]).1 = di at hn1 hcd
          unfold bstStep at hn1
          by_cases h1 : la < di
          · by_cases h2 : bi < 0
            · have h3 := (hn1.trans (if_pos ⟨h1, .inl h2⟩))
              have H3 := Lib.hid h3
              clear hn1 h3
              go_wp2_with fail
              go_round
              case rel => exact ⟨i + 1, by omega, by rw [H3.out], by go_num⟩
              case measure => simp [intOf]; omega
            · by_cases h4 : di < bi
              · have h3 := (hn1.trans (if_pos ⟨h1, .inr h4⟩))
                have H3 := Lib.hid h3
                clear hn1 h3
                go_wp2_with fail
                go_round
                case rel => exact ⟨i + 1, by omega, by rw [H3.out], by go_num⟩
                case measure => simp [intOf]; omega
              · have h3 := (hn1.trans (if_neg (fun h => h.2.elim h2 h4)))
                have H3 := Lib.hid h3
                clear hn1 h3
                go_wp2_with fail
                go_round
                case rel => exact ⟨i + 1, by omega, by rw [H3.out], by go_num⟩
                case measure => simp [intOf]; omega
          · have h3 := (hn1.trans (if_neg (fun h => h1 h.1)))
            have H3 := Lib.hid h3
            clear hn1 h3
            go_wp2_with fail
            go_round
            case rel => exact ⟨i + 1, by omega, by rw [H3.out], by go_num⟩
            case measure => simp [intOf]; omega
        · have hiR : i = G.length := by omega
          subst hiR
          rw [HB1.out]
          have hk1 : k + 1 ≤ 1000000 := by omega
          go_wp2_with (first
            | ((with_reducible refine gbuildSlice 40 ?_); go_must (refine wd_buildSlice u rfl 40 3 1 _ rfl #[.int .i64 (lastOf s (k + 1))] (fun w => by kernel_rfl) ?_; intro nb u))
            | ((with_reducible refine gbuiltin .append ?_); go_must (refine wd_append u.up1 rfl _ _ 40 rfl Try.underlying40 Use.elemI rfl rfl (news := [.int .i64 (lastOf s (k + 1))]) (m := 1) (by rfl) (fun j v hj => block_news (Wd.heap1 u.up1) j v hj) (by simp [Value.oneCell']) (by unfold maxLen; omega) (by omega) ?_; intro sl u _)))
          refine ⟨⟨k + 1, by omega, rfl, rfl, (u.up1.drop).cast (by rw [HT1.out, List.map_append]; rfl), rfl⟩, by simp [intOf]; omega⟩
    · have hkR : k = G.length := by omega
      subst hkR
      go_wp2_with fail
      go_ret
      obtain ⟨v1, hv1⟩ := HBK.out _ _ (u.ord [1, 2, 3, 0])
      exact ⟨_, rfl, v1.up1.cast (by rw [List.take_of_length_le (by rw [HSL.out]; omega)]; rfl), hv1⟩
end
end Go.Proofs.Ytechbidbhoookaa.Rf
