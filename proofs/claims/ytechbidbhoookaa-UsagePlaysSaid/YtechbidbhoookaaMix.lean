/- Regions that draw their order, with reads beside calls and allocations: the reads first, the rest in its one order; a tail that waits for all. -/
import Derived.Test.YtechbidbhoookaaLaws
import Derived.OrdersHeld
namespace Go.Proofs.Ytechbidbhoookaa.Sl
open Go Go.RowKit
section
variable {P : Program} {ops : Array Oper} {Q : Exit → Act → World → Prop} {md : Region.Mode} {S : World → Prop}
def mixAny (P : Program) (md : Region.Mode) (ops : Array Oper) (Q : Exit → Act → World → Prop) (S : World → Prop) (n g : Nat) : Nat → Array Bool → Act → World → Prop
  | 0, listed, a, w => Region.seqB md ops g n listed = true ∧ wpAny P md ops Q g listed a w
  | f + 1, listed, a, w =>
    Region.ready md ops listed ≠ [] ∧ ∀ i ∈ Region.ready md ops listed, i < n ∧ wpOp P ops Q i (fun a' w' => S w' ∧ mixAny P md ops Q S n g f (listed.setIfInBounds i true) a' w') a w
theorem any_of_mix {n g : Nat} : ∀ (f : Nat) (listed : Array Bool) (a : Act) (w : World), mixAny P md ops Q S n g f listed a w → wpAny P md ops Q (f + g) listed a w
  | 0, _, _, _, h => by rw [Nat.zero_add]; exact h.2
  | f + 1, listed, a, w, h => by
    rw [show f + 1 + g = (f + g) + 1 by omega]
    exact ⟨fun h0 => absurd h0 h.1, fun i hi => wpOp_mono (fun a' w' h' => any_of_mix f _ a' w' h'.2) (h.2 i hi).2⟩
theorem mixAny_first {n g i : Nat} {oi : Oper} {v : Value} (hi : ops[i]? = some oi) (hsel : ∀ (j : Nat) (o : Oper) cs b, ops[j]? = some o → o.op ≠ .select cs b)
    (hQ : ∀ c a w, Q (.panic c) (a.put oi.dst v) w → Q (.panic c) a w)
    (hs : Region.sinkB md ops n = true) (hc : Region.chainB md ops n = true) (hn : n < ops.size) (hin : i < n) :
    ∀ (f : Nat) (listed : Array Bool) (a : Act) (w : World), HeadInv md ops n listed →
      (∀ j oj, ops[j]? = some oj → j ≠ i → listed.getD j true = false → (∀ e ∈ oj.after, Region.binds md e = true → e.on ≠ i) → oi.apart ops oj = true) →
      i ∈ Region.ready md ops listed → YieldsIf P ops S oi v a → S w →
      mixAny P md ops Q S n g f (listed.setIfInBounds i true) (a.put oi.dst v) w → mixAny P md ops Q S n g (f + 1) listed a w := by
  intro f
  induction f with
  | zero =>
    intro listed a w inv _ hr hy hS H
    have hun := (mem_ready.1 hr).1
    refine ⟨fun h => (by rw [h] at hr; cases hr), fun j hj => ?_⟩
    have hjn : j < n := by
      rcases Nat.lt_or_ge j n with h | h
      · exact h
      · exact absurd hj (tail_waits hs hc hn inv _ i rfl hin hun j h)
    refine ⟨hjn, ?_⟩
    by_cases hji : j = i
    · subst hji; exact hy.wpOp hi hS ⟨hS, H⟩
    · have := seqB_ready H.1 j (ready_mono hj hji)
      omega
  | succ f ih =>
    intro listed a w inv hfree hr hy hS H
    have hun := (mem_ready.1 hr).1
    refine ⟨fun h => (by rw [h] at hr; cases hr), fun j hj => ?_⟩
    have hjn : j < n := by
      rcases Nat.lt_or_ge j n with h | h
      · exact h
      · exact absurd hj (tail_waits hs hc hn inv _ i rfl hin hun j h)
    refine ⟨hjn, ?_⟩
    by_cases hji : j = i
    · subst hji; exact hy.wpOp hi hS ⟨hS, H⟩
    · have h1 := (H.2 j (ready_mono hj hji)).2
      obtain ⟨hjun, oj, hoj, hall⟩ := mem_ready.1 hj
      have hnot : ∀ e ∈ oj.after, Region.binds md e = true → e.on ≠ i := fun e he hb heq => by
        have h1 := hall e he hb
        rw [heq, getD_both hun] at h1
        cases h1
      have h2 := wpOp_putIf hoj (hfree j oj hoj hji hjun hnot) (fun cs b => hsel i oi cs b hi) (fun cs b => hsel j oj cs b hoj) hQ hy h1
      have hfree' : ∀ k ok, ops[k]? = some ok → k ≠ i → (listed.setIfInBounds j true).getD k true = false →
          (∀ e ∈ ok.after, Region.binds md e = true → e.on ≠ i) → oi.apart ops ok = true := fun k ok hk hki hun hno => by
        refine hfree k ok hk hki ?_ hno
        by_cases hjk : j = k
        · subst hjk; exact hjun
        · rw [getD_set_ne true hjk] at hun; exact hun
      refine wpOp_mono (fun a' w' h3 => ⟨h3.2.1, ih (listed.setIfInBounds j true) a' w' (inv.set hj hjn) hfree' (ready_mono hr (Ne.symm hji)) h3.1 h3.2.1 ?_⟩) h2
      rw [Array.setIfInBounds_comm _ _ hji]
      exact h3.2.2
/-- The steps: (k, true): operation k is a read, and may be taken first; (k, false): it is the one that may come up. -/
def mixB (md : Region.Mode) (ops : Array Oper) (g n : Nat) : List (Nat × Bool) → Array Bool → Bool
  | [], listed => Region.seqB md ops g n listed
  | (k, true) :: r, listed => decide (k < n) && (Region.ready md ops listed).contains k && Region.free md ops listed k && mixB md ops g n r (listed.setIfInBounds k true)
  | (k, false) :: r, listed => decide (k < n) && decide (Region.ready md ops listed = [k]) && mixB md ops g n r (listed.setIfInBounds k true)
def wpMix (P : Program) (ops : Array Oper) (Q : Exit → Act → World → Prop) (S : World → Prop) (tail : List Oper) : List (Nat × Bool) → Act → World → Prop
  | [], a, w => wpList P ops Q tail a w
  | (k, true) :: r, a, w => ∃ o, ops[k]? = some o ∧ ∃ v, YieldsIf P ops S o v a ∧ wpMix P ops Q S tail r (a.put o.dst v) w
  | (k, false) :: r, a, w => wpOp P ops Q k (fun a' w' => S w' ∧ wpMix P ops Q S tail r a' w') a w
theorem mixAny_of {n g : Nat} {tail : List Oper} (hQ : ∀ c a d v w, Q (.panic c) (Act.put a d v) w → Q (.panic c) a w) (hsel : Region.noSelect ops = true) (hs : Region.sinkB md ops n = true) (hc : Region.chainB md ops n = true) (hn : n < ops.size)
    (ht : ∀ listed a w, Region.seqB md ops g n listed = true → wpList P ops Q tail a w → wpAny P md ops Q g listed a w) :
    ∀ (steps : List (Nat × Bool)) (listed : Array Bool) (a : Act) (w : World), HeadInv md ops n listed → mixB md ops g n steps listed = true → S w → wpMix P ops Q S tail steps a w →
      mixAny P md ops Q S n g steps.length listed a w
  | [], listed, a, w, _, hB, _, h => ⟨hB, ht listed a w hB h⟩
  | (k, true) :: r, listed, a, w, inv, hB, hS, h => by
    simp only [mixB, Bool.and_eq_true, decide_eq_true_eq] at hB
    obtain ⟨⟨⟨hkn, hr⟩, hf⟩, hB'⟩ := hB
    obtain ⟨o, ho, v, hy, hK⟩ := h
    have hr' : k ∈ Region.ready md ops listed := by simpa using hr
    exact mixAny_first ho (Region.noSelect_spec hsel) (fun c a w => hQ c a _ _ w) hs hc hn hkn r.length listed a w inv (Region.free_spec ho hf) hr' hy hS
      (mixAny_of hQ hsel hs hc hn ht r _ _ _ (inv.set hr' hkn) hB' hS hK)
  | (k, false) :: r, listed, a, w, inv, hB, hS, h => by
    simp only [mixB, Bool.and_eq_true, decide_eq_true_eq] at hB
    obtain ⟨⟨hkn, hr⟩, hB'⟩ := hB
    have hr' : k ∈ Region.ready md ops listed := by rw [hr]; simp
    refine ⟨fun h0 => (by rw [hr] at h0; cases h0), fun i hi => ?_⟩
    rw [hr] at hi
    have hik : i = k := by simpa using hi
    subst hik
    exact ⟨hkn, wpOp_mono (fun a' w' h' => ⟨h'.1, mixAny_of hQ hsel hs hc hn ht r _ _ _ (inv.set hr' hkn) hB' h'.1 h'.2⟩) h⟩
def mixAll (md : Region.Mode) (ops : Array Oper) (n : Nat) (steps : List (Nat × Bool)) : Bool :=
  Region.noSelect ops && decide (n < ops.size) && Region.sinkB md ops n && Region.chainB md ops n && decide (steps.length = n) && mixB md ops (ops.size - n) n steps (Array.replicate ops.size false)
theorem wp_region_mix {id : Nat} {a : Act} {w : World} {l : List Oper} (S : World → Prop) (n : Nat) (steps : List (Nat × Bool)) (hm : P.follows .mixedOrders = true) (hB : mixAll .any l.toArray n steps = true)
    (hQ : ∀ c a d v w, Q (.panic c) (Act.put a d v) w → Q (.panic c) a w)
    (hS : S { w with drawn := w.drawn + 1 })
    (h : wpMix P l.toArray Q S (l.drop n) steps a { w with drawn := w.drawn + 1 }) : (Code.region id l.toArray true).wp P Q a w := by
  simp only [mixAll, Bool.and_eq_true, decide_eq_true_eq] at hB
  obtain ⟨⟨⟨⟨⟨hsel, hn⟩, hs⟩, hc⟩, hlen⟩, hmix⟩ := hB
  have hn' : n < l.length := by simpa using hn
  have hdl : (l.drop n).length = l.toArray.size - n := by simp
  have inv0 : HeadInv .any l.toArray n (Array.replicate l.toArray.size false) :=
    ⟨by simp, fun j oj _ hl => (by rw [getD_replicate_false] at hl; cases hl), fun t _ ht => getD_in (by simpa using ht) (getD_replicate_false _ _)⟩
  have H := mixAny_of (md := .any) (g := l.toArray.size - n) hQ hsel hs hc hn (fun listed a w hB hl => by
    have := wpAny_of_seq (md := .any) (Q' := Q) (l.drop n) n listed a w (fun j => by simp [List.getElem?_drop]) (by rw [hdl]; exact hB) hl
    rwa [hdl] at this) steps _ a _ inv0 hmix hS h
  refine wp_region_any hm ?_
  have := any_of_mix _ _ _ _ H
  rw [hlen, show n + (l.toArray.size - n) = l.toArray.size by omega] at this
  exact this
theorem wp_region_wd_mix {E : World} {L : List HProp} (x : Wd E L) {id : Nat} {a : Act} {l : List Oper} (S : World → Prop) (n : Nat) (steps : List (Nat × Bool)) (hm : P.follows .mixedOrders = true) (hB : mixAll .any l.toArray n steps = true)
    (hQ : ∀ c a d v w, Q (.panic c) (Act.put a d v) w → Q (.panic c) a w) (hS : S x.drew.val)
    (h : wpMix P l.toArray Q S (l.drop n) steps a x.drew.val) : (Code.region id l.toArray true).wp P Q a x.val :=
  wp_region_mix S n steps hm hB hQ hS h
/-! ### The moves -/
/-- Kinds of operations that yield a value and do nothing else. -/
def stillOp : Op → Bool
  | .move _ | .assign _ | .pick .. | .build .. | .load .. | .nilCheck _ | .binOp .. | .unOp .. | .convert .. | .makeInterface .. | .makeFunc .. | .slice .. | .fieldAddr .. | .field .. | .indexAddr .. | .index .. | .lookup .. | .extract .. => true
  | .call ⟨.builtin .len, _, _⟩ | .call ⟨.builtin .cap, _, _⟩ | .call ⟨.builtin .min, _, _⟩ | .call ⟨.builtin .max, _, _⟩ => true
  | _ => false
theorem value_of {s : Sem Value} {C : World → Prop} {w : World} {v : Value} (h : Oper.quietUpon P C w v ((do pure (Next.value (← s)) : Sem Next).run P w)) :
    (do pure (Next.value (← s)) : Sem Next).run P w = .ok (.value v) w := by
  simp only [Sem.run_bind] at h ⊢
  cases hr : s.run P w with
  | ok u w' =>
    rw [hr] at h
    simp only [Result.andThen_ok, Sem.run_pure, Oper.quietUpon] at h
    simp only [Result.andThen_ok, Sem.run_pure]
    rw [h.1, h.2]
  | halt x w' =>
    rw [hr] at h
    simp only [Result.andThen_halt, Oper.quietUpon] at h
theorem still_value {o : Oper} {a : Act} {w : World} {v : Value} (hs : stillOp o.op = true) (h : o.quietAt P a S w v) : (execOp a.eval o).run P w = .ok (.value v) w := by
  unfold Oper.quietAt at h
  unfold execOp at h ⊢
  cases ho : o.op <;> rw [ho] at hs <;> simp only [ho] at h ⊢ <;> (try (simp [stillOp] at hs; done))
  case move x => simp only [Sem.run_pure, Oper.quietUpon] at h ⊢; rw [h.2]
  case assign x => simp only [Sem.run_pure, Oper.quietUpon] at h ⊢; rw [h.2]
  case pick c x y =>
    simp only [Sem.run_bind] at h ⊢
    cases hr : (asBool (a.eval c)).run P w with
    | ok u w' => rw [hr] at h; simp only [Result.andThen_ok, Sem.run_pure, Oper.quietUpon] at h ⊢; rw [h.1, h.2]
    | halt x w' => rw [hr] at h; simp only [Result.andThen_halt, Oper.quietUpon] at h
  case nilCheck x =>
    have key : ∀ u : Value, Oper.quietUpon P S w v ((.ok (.value u) w : Result Next)) → (.ok (.value u) w : Result Next) = .ok (.value v) w := fun u h => by
      simp only [Oper.quietUpon] at h; rw [h.2]
    revert h
    generalize a.eval x = u
    intro h
    cases u
    case pointer p => cases p <;> first | exact key _ h | (simp [runtimePanic, goPanic, Sem.run, Oper.quietUpon] at h)
    case func fn first captured =>
      cases fn
      case method name =>
        cases hf : (first[0]? : Option Value) with
        | none => simp only [hf] at h ⊢; exact key _ h
        | some t =>
          cases t
          case nilIface => simp only [hf] at h; simp [runtimePanic, goPanic, Sem.run, Oper.quietUpon] at h
          case iface t u =>
            simp only [hf, Sem.run_bind, run_program, Result.andThen_ok] at h ⊢
            cases hr : (nilAhead (P.types.size + Made.depth) t u name).run P w with
            | ok u w' =>
              rw [hr] at h
              simp only [Result.andThen_ok] at h ⊢
              by_cases hu : (u != some false) = true
              · simp [hu, Oper.quietUpon] at h
              · simp only [hu] at h ⊢
                simp only [Bool.false_eq_true, if_false, Sem.run_pure, Oper.quietUpon] at h ⊢
                rw [h.1, h.2]
            | halt y w' => rw [hr] at h; simp [Oper.quietUpon] at h
          all_goals (simp only [hf] at h ⊢; exact key _ h)
      all_goals exact key _ h
    all_goals first | exact key _ h | (simp [runtimePanic, goPanic, Sem.run, Oper.quietUpon] at h)
  case call c =>
    obtain ⟨callee, args, ats⟩ := c
    cases callee with
    | value f => simp [stillOp] at hs
    | invoke r m => simp [stillOp] at hs
    | builtin b =>
      cases b <;> (first | (simp [stillOp] at hs; done) | (simp only [resolve, pure_bind, invoke, builtin] at h ⊢; exact value_of h))
  all_goals exact value_of h
/-- A run of reads: walked as a quiet region is. -/
theorem mix_still {tail : List Oper} {r : List (Nat × Bool)} {w : World} : ∀ (ks : List Nat) (os : List Oper) (a : Act), os.map some = ks.map (ops[·]?) → os.all (fun o => stillOp o.op) = true →
    wpQuiet P ops S (fun a' => wpMix P ops Q S tail r a' w) os a → wpMix P ops Q S tail (ks.map (·, true) ++ r) a w
  | [], os, a, hm, _, h => by
    cases os with
    | nil => exact h
    | cons o os => simp at hm
  | k :: ks, os, a, hm, hs, h => by
    cases os with
    | nil => simp at hm
    | cons o os =>
      simp only [List.map_cons, List.cons.injEq] at hm
      simp only [List.all_cons, Bool.and_eq_true] at hs
      unfold wpQuiet at h
      refine ⟨o, hm.1.symm, ?_⟩
      by_cases hw : Region.wanted o (yielded ops a.tmps) = true
      · rw [if_pos hw] at h
        obtain ⟨v, h1, h2⟩ := h
        exact ⟨v, .inl ⟨hw, fun w hw' => still_value hs.1 (h1 w hw')⟩, mix_still ks os _ hm.2 hs.2 h2⟩
      · rw [if_neg hw] at h
        exact ⟨undef, .inr ⟨by simpa using hw, rfl⟩, mix_still ks os _ hm.2 hs.2 h⟩
def pick : List Nat → List Oper → List Oper
  | [], _ => []
  | k :: ks, l => l.getD k default :: pick ks l
def allStill (ks : List Nat) (l : List Oper) : Bool := ks.all fun k => match l[k]? with
  | some o => stillOp o.op
  | none => false
theorem pick_spec (l : List Oper) : ∀ ks, allStill ks l = true → (pick ks l).map some = ks.map (l[·]?) ∧ (pick ks l).all (fun o => stillOp o.op) = true
  | [], _ => ⟨rfl, rfl⟩
  | k :: ks, h => by
    simp only [allStill, List.all_cons, Bool.and_eq_true] at h
    have ih := pick_spec l ks h.2
    cases ho : l[k]? with
    | none => rw [ho] at h; simp at h
    | some o =>
      rw [ho] at h
      have hd : l.getD k default = o := by rw [List.getD_eq_getElem?_getD, ho]; rfl
      simp only [pick, ho, hd, List.map_cons, List.all_cons, Bool.and_eq_true]
      exact ⟨by rw [ih.1], h.1, ih.2⟩
theorem mix_reads {tail : List Oper} {r : List (Nat × Bool)} {w : World} {l : List Oper} (ks : List Nat) {a : Act} (hs : allStill ks l = true)
    (h : wpQuiet P l.toArray S (fun a' => wpMix P l.toArray Q S tail r a' w) (pick ks l) a) : wpMix P l.toArray Q S tail (ks.map (·, true) ++ r) a w :=
  mix_still ks (pick ks l) a (by have := (pick_spec l ks hs).1; simpa using this) (pick_spec l ks hs).2 h
theorem wp_then {o : Oper} {a : Act} {w : World} {K K' : Act → World → Prop} (h : o.wp P a w K (Exit.then K' Q)) : o.wp P a w K Q := by
  unfold Oper.wp at *
  generalize (execOp a.eval o).run P w = r at *
  cases r with
  | ok n w' =>
    cases n <;> simp only [Oper.upon] at h ⊢ <;> (try exact h)
  | halt x w' => cases x <;> simp only [Oper.upon] at h ⊢; exact h
/-- One operation that is no read. -/
theorem mix_step {tail : List Oper} {r : List (Nat × Bool)} {w : World} {k : Nat} {o : Oper} {a : Act} (ho : ops[k]? = some o)
    (h : wpList P ops (Exit.then (fun a' w' => S w' ∧ wpMix P ops Q S tail r a' w') Q) [o] a w) : wpMix P ops Q S tail ((k, false) :: r) a w := by
  unfold wpMix wpOp
  simp only [ho]
  unfold wpList at h
  split
  · rename_i hw
    rw [if_pos hw] at h
    rcases h with h | h
    · exact .inl (wp_then h)
    · exact .inr h
  · rename_i hw
    rw [if_neg hw] at h
    exact h
theorem mix_eff {tail : List Oper} {r : List (Nat × Bool)} {w : World} {k : Nat} {l : List Oper} {a : Act} (hk : decide (k < l.length) = true)
    (h : wpList P l.toArray (Exit.then (fun a' w' => S w' ∧ wpMix P l.toArray Q S tail r a' w') Q) [l.getD k default] a w) : wpMix P l.toArray Q S tail ((k, false) :: r) a w :=
  mix_step (o := l.getD k default) (by
    have := of_decide_eq_true hk
    simp [List.getD_eq_getElem?_getD, this]) h
end
end Go.Proofs.Ytechbidbhoookaa.Sl
