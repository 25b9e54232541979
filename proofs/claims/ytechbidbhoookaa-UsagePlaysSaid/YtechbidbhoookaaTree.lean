/- Regions that draw their order: reads first, and where two effects may come first, both ways. -/
import Derived.Test.YtechbidbhoookaaMix
namespace Go.Proofs.Ytechbidbhoookaa.Sl
open Go Go.RowKit
inductive Plan
  | done
  | read (k : Nat) (r : Plan)
  | eff (k : Nat) (r : Plan)
  | alt (k1 : Nat) (r1 : Plan) (k2 : Nat) (r2 : Plan)
def Plan.reads : List Nat → Plan → Plan
  | [], r => r
  | k :: ks, r => .read k (Plan.reads ks r)
def Plan.len : Plan → Nat → Bool
  | .done, 0 => true
  | .read _ r, m + 1 => r.len m
  | .eff _ r, m + 1 => r.len m
  | .alt _ r1 _ r2, m + 1 => r1.len m && r2.len m
  | _, _ => false
def treeB (md : Region.Mode) (ops : Array Oper) (g n : Nat) : Plan → Array Bool → Bool
  | .done, listed => Region.seqB md ops g n listed
  | .read k r, listed => decide (k < n) && (Region.ready md ops listed).contains k && Region.free md ops listed k && treeB md ops g n r (listed.setIfInBounds k true)
  | .eff k r, listed => decide (k < n) && decide (Region.ready md ops listed = [k]) && treeB md ops g n r (listed.setIfInBounds k true)
  | .alt k1 r1 k2 r2, listed => decide (k1 < n) && decide (k2 < n) && decide (Region.ready md ops listed = [k1, k2]) && treeB md ops g n r1 (listed.setIfInBounds k1 true) && treeB md ops g n r2 (listed.setIfInBounds k2 true)
section
variable {P : Program} {ops : Array Oper} {Q : Exit → Act → World → Prop} {md : Region.Mode} {S : World → Prop}
def wpTree (P : Program) (ops : Array Oper) (Q : Exit → Act → World → Prop) (S : World → Prop) (tail : List Oper) : Plan → Act → World → Prop
  | .done, a, w => wpList P ops Q tail a w
  | .read k r, a, w => ∃ o, ops[k]? = some o ∧ ∃ v, YieldsIf P ops S o v a ∧ wpTree P ops Q S tail r (a.put o.dst v) w
  | .eff k r, a, w => wpOp P ops Q k (fun a' w' => S w' ∧ wpTree P ops Q S tail r a' w') a w
  | .alt k1 r1 k2 r2, a, w => wpOp P ops Q k1 (fun a' w' => S w' ∧ wpTree P ops Q S tail r1 a' w') a w ∧ wpOp P ops Q k2 (fun a' w' => S w' ∧ wpTree P ops Q S tail r2 a' w') a w
theorem treeAny_of {n g : Nat} {tail : List Oper} (hQ : ∀ c a d v w, Q (.panic c) (Act.put a d v) w → Q (.panic c) a w) (hsel : Region.noSelect ops = true) (hs : Region.sinkB md ops n = true) (hc : Region.chainB md ops n = true) (hn : n < ops.size)
    (ht : ∀ listed a w, Region.seqB md ops g n listed = true → wpList P ops Q tail a w → wpAny P md ops Q g listed a w) :
    ∀ (p : Plan) (m : Nat) (listed : Array Bool) (a : Act) (w : World), HeadInv md ops n listed → p.len m = true → treeB md ops g n p listed = true → S w → wpTree P ops Q S tail p a w →
      mixAny P md ops Q S n g m listed a w
  | .done, 0, listed, a, w, _, _, hB, _, h => ⟨hB, ht listed a w hB h⟩
  | .read k r, m + 1, listed, a, w, inv, hl, hB, hS, h => by
    simp only [treeB, Bool.and_eq_true, decide_eq_true_eq] at hB
    obtain ⟨⟨⟨hkn, hr⟩, hf⟩, hB'⟩ := hB
    obtain ⟨o, ho, v, hy, hK⟩ := h
    have hr' : k ∈ Region.ready md ops listed := by simpa using hr
    exact mixAny_first ho (Region.noSelect_spec hsel) (fun c a w => hQ c a _ _ w) hs hc hn hkn m listed a w inv (Region.free_spec ho hf) hr' hy hS
      (treeAny_of hQ hsel hs hc hn ht r m _ _ _ (inv.set hr' hkn) hl hB' hS hK)
  | .eff k r, m + 1, listed, a, w, inv, hl, hB, hS, h => by
    simp only [treeB, Bool.and_eq_true, decide_eq_true_eq] at hB
    obtain ⟨⟨hkn, hr⟩, hB'⟩ := hB
    have hr' : k ∈ Region.ready md ops listed := by rw [hr]; simp
    refine ⟨fun h0 => (by rw [hr] at h0; cases h0), fun i hi => ?_⟩
    rw [hr] at hi
    have hik : i = k := by simpa using hi
    subst hik
    exact ⟨hkn, wpOp_mono (fun a' w' h' => ⟨h'.1, treeAny_of hQ hsel hs hc hn ht r m _ _ _ (inv.set hr' hkn) hl hB' h'.1 h'.2⟩) h⟩
  | .alt k1 r1 k2 r2, m + 1, listed, a, w, inv, hl, hB, hS, h => by
    simp only [treeB, Bool.and_eq_true, decide_eq_true_eq] at hB
    simp only [Plan.len, Bool.and_eq_true] at hl
    obtain ⟨⟨⟨⟨hk1, hk2⟩, hr⟩, hB1⟩, hB2⟩ := hB
    have hr1 : k1 ∈ Region.ready md ops listed := by rw [hr]; simp
    have hr2 : k2 ∈ Region.ready md ops listed := by rw [hr]; simp
    refine ⟨fun h0 => (by rw [hr] at h0; cases h0), fun i hi => ?_⟩
    rw [hr] at hi
    simp only [List.mem_cons, List.not_mem_nil, or_false] at hi
    rcases hi with rfl | rfl
    · exact ⟨hk1, wpOp_mono (fun a' w' h' => ⟨h'.1, treeAny_of hQ hsel hs hc hn ht r1 m _ _ _ (inv.set hr1 hk1) hl.1 hB1 h'.1 h'.2⟩) h.1⟩
    · exact ⟨hk2, wpOp_mono (fun a' w' h' => ⟨h'.1, treeAny_of hQ hsel hs hc hn ht r2 m _ _ _ (inv.set hr2 hk2) hl.2 hB2 h'.1 h'.2⟩) h.2⟩
def treeAll (md : Region.Mode) (ops : Array Oper) (n : Nat) (p : Plan) : Bool :=
  Region.noSelect ops && decide (n < ops.size) && Region.sinkB md ops n && Region.chainB md ops n && p.len n && treeB md ops (ops.size - n) n p (Array.replicate ops.size false)
theorem wp_region_tree {id : Nat} {a : Act} {w : World} {l : List Oper} (S : World → Prop) (n : Nat) (p : Plan) (hm : P.follows .mixedOrders = true) (hB : treeAll .any l.toArray n p = true)
    (hQ : ∀ c a d v w, Q (.panic c) (Act.put a d v) w → Q (.panic c) a w)
    (hS : S { w with drawn := w.drawn + 1 })
    (h : wpTree P l.toArray Q S (l.drop n) p a { w with drawn := w.drawn + 1 }) : (Code.region id l.toArray true).wp P Q a w := by
  simp only [treeAll, Bool.and_eq_true, decide_eq_true_eq] at hB
  obtain ⟨⟨⟨⟨⟨hsel, hn⟩, hs⟩, hc⟩, hlen⟩, hmix⟩ := hB
  have hn' : n < l.length := by simpa using hn
  have hdl : (l.drop n).length = l.toArray.size - n := by simp
  have inv0 : HeadInv .any l.toArray n (Array.replicate l.toArray.size false) :=
    ⟨by simp, fun j oj _ hl => (by rw [getD_replicate_false] at hl; cases hl), fun t _ ht => getD_in (by simpa using ht) (getD_replicate_false _ _)⟩
  have H := treeAny_of (md := .any) (g := l.toArray.size - n) hQ hsel hs hc hn (fun listed a w hB hl => by
    have := wpAny_of_seq (md := .any) (Q' := Q) (l.drop n) n listed a w (fun j => by simp [List.getElem?_drop]) (by rw [hdl]; exact hB) hl
    rwa [hdl] at this) p n _ a _ inv0 hlen hmix hS h
  refine wp_region_any hm ?_
  have := any_of_mix _ _ _ _ H
  rw [show n + (l.toArray.size - n) = l.toArray.size by omega] at this
  exact this
theorem wp_region_wd_tree {E : World} {L : List HProp} (x : Wd E L) {id : Nat} {a : Act} {l : List Oper} (S : World → Prop) (n : Nat) (p : Plan) (hm : P.follows .mixedOrders = true) (hB : treeAll .any l.toArray n p = true)
    (hQ : ∀ c a d v w, Q (.panic c) (Act.put a d v) w → Q (.panic c) a w) (hS : S x.drew.val)
    (h : wpTree P l.toArray Q S (l.drop n) p a x.drew.val) : (Code.region id l.toArray true).wp P Q a x.val :=
  wp_region_tree S n p hm hB hQ hS h
theorem tree_still {tail : List Oper} {r : Plan} {w : World} : ∀ (ks : List Nat) (os : List Oper) (a : Act), os.map some = ks.map (ops[·]?) → os.all (fun o => stillOp o.op) = true →
    wpQuiet P ops S (fun a' => wpTree P ops Q S tail r a' w) os a → wpTree P ops Q S tail (Plan.reads ks r) a w
  | [], os, a, hm, _, h => by
    cases os with
    | nil => exact h
    | cons o os => simp at hm
  | k :: ks, os, a, hm, hs, h => by
    cases os with
    | nil => simp at hm
    | cons o os =>
      simp only [List.map_cons, List.cons.injEq] at hm
      simp only [List.all_cons, Bool.and_eq_true] at hs
      unfold wpQuiet at h
      refine ⟨o, hm.1.symm, ?_⟩
      by_cases hw : Region.wanted o (yielded ops a.tmps) = true
      · rw [if_pos hw] at h
        obtain ⟨v, h1, h2⟩ := h
        exact ⟨v, .inl ⟨hw, fun w hw' => still_value hs.1 (h1 w hw')⟩, tree_still ks os _ hm.2 hs.2 h2⟩
      · rw [if_neg hw] at h
        exact ⟨undef, .inr ⟨by simpa using hw, rfl⟩, tree_still ks os _ hm.2 hs.2 h⟩
theorem tree_reads {tail : List Oper} {r : Plan} {w : World} {l : List Oper} (ks : List Nat) {a : Act} (hs : allStill ks l = true)
    (h : wpQuiet P l.toArray S (fun a' => wpTree P l.toArray Q S tail r a' w) (pick ks l) a) : wpTree P l.toArray Q S tail (Plan.reads ks r) a w :=
  tree_still ks (pick ks l) a (by have := (pick_spec l ks hs).1; simpa using this) (pick_spec l ks hs).2 h
theorem wpOp_of {w : World} {k : Nat} {o : Oper} {a : Act} {K : Act → World → Prop} (ho : ops[k]? = some o)
    (h : wpList P ops (Exit.then K Q) [o] a w) : wpOp P ops Q k K a w := by
  unfold wpOp
  simp only [ho]
  unfold wpList at h
  split
  · rename_i hw
    rw [if_pos hw] at h
    rcases h with h | h
    · exact .inl (wp_then h)
    · exact .inr h
  · rename_i hw
    rw [if_neg hw] at h
    exact h
theorem opAt {k : Nat} {l : List Oper} (hk : decide (k < l.length) = true) : l.toArray[k]? = some (l.getD k default) := by
  have := of_decide_eq_true hk
  simp [List.getD_eq_getElem?_getD, this]
theorem tree_eff {tail : List Oper} {r : Plan} {w : World} {k : Nat} {l : List Oper} {a : Act} (hk : decide (k < l.length) = true)
    (h : wpList P l.toArray (Exit.then (fun a' w' => S w' ∧ wpTree P l.toArray Q S tail r a' w') Q) [l.getD k default] a w) : wpTree P l.toArray Q S tail (.eff k r) a w :=
  wpOp_of (opAt hk) h
theorem tree_alt {tail : List Oper} {r1 r2 : Plan} {w : World} {k1 k2 : Nat} {l : List Oper} {a : Act} (hk1 : decide (k1 < l.length) = true) (hk2 : decide (k2 < l.length) = true)
    (h1 : wpList P l.toArray (Exit.then (fun a' w' => S w' ∧ wpTree P l.toArray Q S tail r1 a' w') Q) [l.getD k1 default] a w)
    (h2 : wpList P l.toArray (Exit.then (fun a' w' => S w' ∧ wpTree P l.toArray Q S tail r2 a' w') Q) [l.getD k2 default] a w) : wpTree P l.toArray Q S tail (.alt k1 r1 k2 r2) a w :=
  ⟨wpOp_of (opAt hk1) h1, wpOp_of (opAt hk2) h2⟩
theorem tree_done {tail : List Oper} {w : World} {a : Act} (h : wpList P ops Q tail a w) : wpTree P ops Q S tail .done a w := h
end
end Go.Proofs.Ytechbidbhoookaa.Sl
