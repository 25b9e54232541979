/- A law's last step: it answered true, and all that was there is as it was. -/
import Derived.WalkKit
import Derived.ProofKit
import Derived.OpenShut
import Derived.Below
import Derived.ChangeSame
import Derived.WideKeyArgs
namespace Go.Proofs.Ytechbidbhoookaa.Post
open Go Go.RowKit Go.WideShapes Go.ChangeShapes Go.WideElems
section
variable {H : Type} {enc : TypeId × Value → H} {P : Program}
theorem all_stays (hl : laidOutB P = true) {W W' : World} {sp' : Nat → Bool} : ∀ {ts : List TypeId} {vs : List Value} {ds : List (DataW H)} {ps : List MemPlace}, (∀ t ∈ ts, P.readableRec t = true ∧ t < P.types.size) →
    DataW.TrodAll enc P W 0 (fun _ => true) true ts vs ds ps → (∀ p ∈ ps, W.sameAt W' p) → (∀ p ∈ ps, sp' p.block = true) → DataW.TrodAll enc P W' 0 sp' true ts vs ds ps
  | [], [], [], _, _, h, _, _ => h
  | t :: ts, v :: vs, d :: ds, ps, hT, ⟨p, q, h1, h2, e⟩, hs, hsp => by
    subst e
    have ht := hT t (by simp)
    exact ⟨p, q, Trod_stays hl ht.1 ht.2 h1 (fun x hx => hs x (by simp [hx])) (fun x hx => hsp x (by simp [hx])),
      all_stays hl (fun t' h' => hT t' (by simp [h'])) h2 (fun x hx => hs x (by simp [hx])) (fun x hx => hsp x (by simp [hx])), rfl⟩
/-- A law that answers true and leaves what was there: what its statement asks. -/
theorem law_post {f : Func} {s : ChangeSpec} {apart fresh handsOn again : Bool} {W W' : World} {args : Array Value} {ds gs : List (DataW H)} {before : List MemPlace} {tb : TypeId}
    (hl : laidOutB P = true) (hT : ∀ t ∈ f.params.toList, P.readableRec t = true ∧ t < P.types.size) (hsv : s.vars = []) (hr : f.resultTypes = #[tb]) (htb : P.underlying tb = some .bool)
    (hfn : ∀ es : List (DataW H), es.length = f.params.toList.length → s.fn H es = { results := [.lit (.bool true)], args := es })
    (hW : DataW.Whole enc P f.params.toList s.vars apart W args.toList ds gs before) (hB : Below W.heap.size W W') :
    s.post enc P f apart fresh handsOn again W args (.bool true) W' := by
  have hlt : ∀ p ∈ before, p.block < W.heap.size := fun p hp => hW.lt p hp
  have hW0 := hW
  obtain ⟨pa, pv, hA, hV, rfl, hz, hn⟩ := hW0
  rw [hsv] at hV
  obtain ⟨rfl, rfl⟩ := trodVars_none hV
  have hlen : ds.length = f.params.toList.length := by
    have : ∀ (ts : List TypeId) (vs : List Value) (ds : List (DataW H)) (ps : List MemPlace), DataW.TrodAll enc P W 0 (fun _ => true) true ts vs ds ps → ds.length = ts.length := by
      intro ts
      induction ts with
      | nil => intro vs ds ps h; cases vs <;> cases ds <;> simp_all [DataW.TrodAll]
      | cons t ts ih =>
        intro vs ds ps h
        cases vs with
        | nil => simp [DataW.TrodAll] at h
        | cons v vs =>
          cases ds with
          | nil => simp [DataW.TrodAll] at h
          | cons d ds =>
            obtain ⟨p, q, _, h2, _⟩ := h
            simp [ih _ _ _ h2]
    exact this _ _ _ _ hA
  have hf := hfn ds hlen
  have hargs : ∀ sp : Nat → Bool, (∀ p ∈ pa, sp p.block = true) → DataW.TrodAll enc P W' 0 sp true f.params.toList args.toList ds pa := fun sp hsp =>
    all_stays hl hT hA (fun p hp => hB.same (hlt p (by simp [hp]))) hsp
  have hres : ∀ (b : Nat) (sp : Nat → Bool) (hd : Bool), DataW.TrodAll enc P W' b sp hd f.resultTypes.toList ((Value.bool true).resultList f.resultTypes.size) [.lit (.bool true)] [] := fun b sp hd => by
    rw [hr]
    exact ⟨[], [], shut_bool htb true, rfl, rfl⟩
  refine ⟨ds, [], pa ++ [], [], pa, [], hW, ?_, ?_, ?_, ?_, fun _ => ⟨?_, ?_⟩⟩
  · rw [List.append_nil, hf]; exact hres _ _ _
  · rw [List.append_nil, hf]; exact hargs _ (fun p hp => by simpa using hlt p (by simp [hp]))
  · rw [hsv, List.append_nil, hf]; rfl
  · exact World.keptBut_mono (fun p hp => ⟨hp, .inr (.inl (by simpa using hp))⟩) (hB.frame (· ∈ pa ++ []))
  · exact ok_one hr rfl (okWide_bool_mk htb true)
  · refine ⟨_, [], pa, ⟨pa, [], trodAll_append (hargs (fun _ => true) (fun _ _ => rfl)) (hres 0 (fun _ => true) true), ?_, by simp, ?_, ?_⟩, fun p hp _ => by simpa using hp⟩
    · rw [hsv]; rfl
    · intro b off hp
      rw [hB.frozen (hlt _ (by simpa using hp))]
      exact hz b off (by simpa using hp)
    · intro ha
      have := hn ha
      simpa using this
theorem block_lt {w : World} {b off : Nat} {s : Option Nat} {v : Value} (h : w.cell? ⟨b, off, s⟩ = some v) : b < w.heap.size := by
  by_cases hb : b < w.heap.size
  · exact hb
  · have : w.heap[b]? = none := Array.getElem?_eq_none (by omega)
    simp [World.cell?, this] at h
end
end Go.Proofs.Ytechbidbhoookaa.Post
