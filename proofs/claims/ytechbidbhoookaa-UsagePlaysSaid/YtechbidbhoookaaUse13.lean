/- Package usage, layer 14: Open, where it is taken. -/
import Derived.Test.YtechbidbhoookaaUse12
set_option linter.unusedVariables false
set_option linter.unusedSectionVars false
namespace Go.Proofs.Ytechbidbhoookaa.Use
open Go Go.RowKit Go.Proofs.Ytechbidbhoookaa.Sl

def UM.new (g : Int) (n nb : Nat) (cur : Array Value) : UM := ⟨g, List.replicate n (-1), nb, n, cur⟩
theorem UM.new_ok {g : Int} {n nb : Nat} {cur : Array Value} (hn : n ≤ 4096) (hs : cur.size = n) (hc : ∀ t, t < n → cur[t]? = some (.int .i64 (-1))) : (UM.new g n nb cur).Ok := by
  refine ⟨by simp [UM.new], by simp only [UM.new, maxLen]; omega, by simpa [UM.new] using hs, fun j hj => ?_⟩
  have hj' : j < n := by simpa [UM.new] using hj
  show cur[j]? = some (.int .i64 ((List.replicate n (-1 : Int)).getD j 0))
  rw [hc j hj', List.getD_eq_getElem?_getD, List.getElem?_replicate, if_pos hj']; rfl
theorem UM.new_v (g : Int) (n nb : Nat) (cur : Array Value) : (UM.new g n nb cur).v = .slice (some ⟨nb, 0, none⟩) n n := by
  show Value.slice _ (List.replicate n (-1 : Int)).length n = _
  rw [List.length_replicate]; rfl
abbrev St.opened (S : St) (u : UM) : St := { S with R := S.R ++ [u], esG := putEs encI S.esG S.cG (pairsG S.R) u.id u.v, cG := putClock S.cG (pairsG S.R) u.id }
theorem St.G.opened {S : St} {T : Tb} (h : S.G T) {u : UM} (hg : aget T u.id = Option.none) (hu : u.Ok) : (S.opened u).G (T ++ [(u.id, u.l)]) := by
  have h0 : aget (pairsG S.R) u.id = Option.none := by
    have h1 := hg
    rw [← h.hR, get_absU] at h1
    rw [get_pairsG]
    cases hf : S.R.find? fun x => decide (x.id = u.id) with
    | none => rfl
    | some r => rw [hf] at h1; cases h1
  refine ⟨?_, ?_, fun q hq => ?_⟩
  · have := h.rG.put u.id u.v
    rw [aput_new _ h0] at this
    have e : pairsG S.R ++ [(u.id, u.v)] = pairsG (S.R ++ [u]) := by simp [pairsG]
    rw [e] at this
    exact this
  · show absU (S.R ++ [u]) = _
    rw [← h.hR]; simp [absU]
  · rcases List.mem_append.1 hq with hq | hq
    · exact h.ok q hq
    · simp at hq; subst hq; exact hu
section
variable {E : World} {L : List HProp} {T : Tb} (hT : Good T) (p : Nat)
include hT
set_option maxRecDepth 100000 in
set_option maxHeartbeats 2000000 in
theorem open_taken (g n : Int) (h : openCode T g n = 0) (x : Wd E (At p T :: L)) :
    Calls Try.prog 11 #[ptr p, .int .i64 g, .int .i64 n] x.val fun e w' => e = .returned (.int .i64 0) ∧ ∃ y : Wd E (At p (openNext T g n) :: L), w' = y.val := by
  have e1 : openNext T g n = T ++ [(g, List.replicate n.toNat (-1))] := by unfold openNext; rw [if_pos h]
  rw [e1]
  unfold openCode at h
  have h1 : ¬ (g < 0 ∨ n < 1 ∨ 4096 < n) := fun e => by rw [if_pos e] at h; cases h
  rw [if_neg h1] at h
  have h2 : aget T g = none := by
    cases e : aget T g with
    | none => rfl
    | some l => rw [e] at h; cases h
  have b1 : ¬ g < 0 := fun h => h1 (.inl h)
  have b2 : ¬ n < 1 := fun h => h1 (.inr (.inl h))
  have b3 : ¬ 4096 < n := fun h => h1 (.inr (.inr h))
  obtain ⟨N, rfl⟩ := Int.eq_ofNat_of_zero_le (show 0 ≤ n by omega)
  have hN1 : 1 ≤ N := by omega
  have hN2 : N ≤ 4096 := by omega
  rw [Int.toNat_natCast]
  obtain ⟨S, hG, hF, y, hy⟩ := At.op x
  rw [hy]
  have hlook := hG.none h2
  unfold LookG at hlook
  have HREP := Lib.hid (fun L sb x => repeat_calls (E := E) (L := L) (sb := sb) (-1) N hN1 hN2 x)
  have HRG := Lib.hid hG.rG
  have HOP := Lib.hid (fun (u : UM) (hi : u.id = g) (hu : u.Ok) => hG.opened (u := u) (by rw [hi]; exact h2) hu)
  have HF := Lib.hid hF
  clear h h1 h2 e1 hG hF hy hT
  go_enter Try.func11, Try.ntmps11
  go_wp2_with fail
  have ne : Nonempty (Opn E S p L) := ⟨y⟩
  refine wp_region_wd_mix y (fun w' => ∃ y : Opn E S p L, w' = y.val) 8
    [(0, true), (1, true), (2, true), (3, true), (4, true), (6, true), (5, false), (7, false)] (by kernel_rfl) (by kernel_rfl)
    (fun c a d v w h => by cases d <;> exact h) ⟨y.drew, rfl⟩ ?_
  refine mix_reads [0, 1, 2, 3, 4, 6] (by kernel_rfl) ?_
  simp only [pick, List.getD_cons_zero, List.getD_cons_succ]
  repeat (go_big_quiet_step (fail))
  refine wpQuiet_nil ?_
  generalize y.drew = y
  refine mix_eff (by kernel_rfl) ?_
  simp only [List.getD_cons_zero, List.getD_cons_succ]
  refine wd_buildSlice y rfl 40 3 1 _ rfl #[.int .i64 (-1)] (fun w => by kernel_rfl) ?_
  intro sb y
  go_wp2_with fail
  refine ⟨⟨y.drop, rfl⟩, mix_eff (by kernel_rfl) ?_⟩
  simp only [List.getD_cons_zero, List.getD_cons_succ]
  go_wp2_with fail
  refine (HREP.out _ sb y).mono ?_; rintro e w' ⟨nb, cur, rfl, hsz, hall, y, rfl⟩
  have HS := Lib.hid hsz; have HA := Lib.hid hall; clear hsz hall
  go_wp2_with fail
  refine ⟨⟨y.drop.drop, rfl⟩, ?_⟩
  unfold wpMix
  simp only [List.drop_succ_cons, List.drop_zero]
  have hst : ∀ w : World, w.heap[S.mg]? = some (.map S.esG S.cG) → (Instr.mapUpdate 43 (.map (some S.mg)) (.int .i64 g) (.slice (some ⟨nb, 0, none⟩) N N)).run Try.prog w = .ok () (putObj w S.mg (.map (putEs encI S.esG S.cG (pairsG S.R) g (.slice (some ⟨nb, 0, none⟩) N N)) (putClock S.cG (pairsG S.R) g))) := fun w hm =>
    run_mapUpdate_is lawI Try.underlying43 hm HRG.out g _
  refine wd_mapUpdate y.up2 rfl rfl _ _ _ _ rfl _ _ rfl rfl rfl hst ?_
  intro y
  go_wp2_with fail
  go_ret
  refine ⟨rfl, ?_⟩
  have hu := UM.new_ok (g := g) (nb := nb) hN2 HS.out HA.out
  have hG' := HOP.out (UM.new g N nb cur) rfl hu
  have hv := UM.new_v g N nb cur
  have hF' : (S.opened (UM.new g N nb cur)).F (T ++ [(g, List.replicate N (-1))]) := ⟨HF.out.rW, HF.out.one, fun a b c => by rw [live_snoc]; exact HF.out.mem a b c⟩
  obtain ⟨z, hz⟩ := big_snoc (f := UM.at) (R := S.R) (r := UM.new g N nb cur) (y.up2.drop.up1.up4.up1 : Wd E (pt nb (.cells cur 3 (0, 0)) :: big UM.at S.R :: pt S.mg _ :: S.pw :: S.hd p :: L))
  obtain ⟨v, hv2⟩ := At.cl (p := p) (S := S.opened (UM.new g N nb cur)) hG' hF' ((z.down3).cast (by rw [← hv]; rfl))
  exact ⟨v, hz.trans hv2⟩
theorem open_calls (g n : Int) (x : Wd E (At p T :: L)) :
    Calls Try.prog 11 #[ptr p, .int .i64 g, .int .i64 n] x.val fun e w' => e = .returned (.int .i64 (openCode T g n)) ∧ ∃ y : Wd E (At p (openNext T g n) :: L), w' = y.val := by
  by_cases h : openCode T g n = 0
  · rw [h]; exact open_taken hT p g n h x
  · have e : openNext T g n = T := by unfold openNext; rw [if_neg h]
    rw [e]; exact open_refused hT p g n h x
end
end Go.Proofs.Ytechbidbhoookaa.Use
