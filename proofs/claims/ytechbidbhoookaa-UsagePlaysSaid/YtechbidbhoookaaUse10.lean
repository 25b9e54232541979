/- Package usage, layer 14: maps.DeleteFunc, walked; Drop. -/
import Derived.Test.YtechbidbhoookaaUse9
set_option linter.unusedVariables false
namespace Go.Proofs.Ytechbidbhoookaa.Use
open Go Go.RowKit Go.Proofs.Ytechbidbhoookaa.Sl

set_option maxRecDepth 100000 in
set_option maxHeartbeats 1000000 in
theorem ofGroup_calls {E : World} {L : List HProp} {gb : Nat} {g : Int} (x : Wd E (pt gb (.cells #[.int .i64 g] 3 (0, 0)) :: L)) (k a b : Int) :
    Calls Try.prog 42 #[.int .i64 k, .agg #[.int .i64 a, .int .i64 b], ptr gb] x.val fun e w' => e = .returned (.bool (a == g)) ∧ ∃ y : Wd E (pt gb (.cells #[.int .i64 g] 3 (0, 0)) :: L), w' = y.val := by
  go_enter Try.func42, Try.ntmps42
  go_wp2_with ((with_reducible refine gbox 53 ?_); go_must (refine wd_box x rfl 53 _ rfl #[.int .i64 a, .int .i64 b] rfl ?_; intro sb z))
  go_ret
  exact ⟨rfl, z.drop, rfl⟩
set_option maxRecDepth 100000 in
set_option maxHeartbeats 2000000 in
theorem mapsDelete_calls {E : World} {L : List HProp} {m gb : Nat} {es : Array MapEntry} {c : Nat} {W : Wh} {g : Int} (hW : (W.map (·.1)).Nodup) (hR : Reads encI es c (pairsW W)) (x : Wd E (pt m (.map es c) :: pt gb (.cells #[.int .i64 g] 3 (0, 0)) :: L)) :
    Calls Try.prog 41 #[.map (some m), .func (.func 42) #[] #[ptr gb]] x.val fun e w' => e = .returned (.tuple #[]) ∧
      ∃ es', Reads encI es' c (pairsW (W.filter fun x => decide (x.2.1 ≠ g))) ∧ ∃ y : Wd E (pt m (.map es' c) :: pt gb (.cells #[.int .i64 g] 3 (0, 0)) :: L), w' = y.val := by
  have HW := Lib.hid hW; have HG := Lib.hid (going_start g hR)
  clear hW hR
  go_enter Try.func41, Try.ntmps41
  go_wp2_with ((with_reducible refine grange 44 ?_); go_must (refine wd_range x rfl rfl Try.underlying44 rfl (Wd.heap0 x) ?_; intro it z))
  go_frame
  go_loopg [4] W.length (fun k s4 wr => ∃ (seen : Array Nat) (V : List Int) (es : Array MapEntry), Going es c seen W g V ∧ k = W.length - V.length ∧ ∃ z : Wd E (pt it (.mapIter (some m) c seen c) :: pt m (.map es c) :: pt gb (.cells #[.int .i64 g] 3 (0, 0)) :: L), wr = z.val)
  case atStart => exact ⟨#[], [], es, HG.out, by simp, z, rfl⟩
  case round =>
    obtain ⟨seen, V, es, hG, hgk, z, rfl⟩ := hrel
    have HGO := Lib.hid hG; have HK := Lib.hid hgk
    clear hG hgk
    go_wp2_with ((with_reducible refine gnext ?_); go_must (refine wd_next z rfl rfl rfl (Wd.heap1 z) HGO.out.reads.born ?h0 ?h1))
    case h0 =>
      intro hdone
      have he := going_end HGO.out hdone
      have HE := Lib.hid he
      clear he hdone
      go_wp2_with fail
      refine bodyPost_end (results_none Try.results41 _ _ _) rfl ?_
      refine ⟨rfl, es, ?_, z.drop, rfl⟩
      rw [← HE.out]
      exact HGO.out.reads
    case h1 =>
      intro e he y
      obtain ⟨k, x, hes, hkey, hval, hlt, hkeep, hdel⟩ := going_step HW.out HGO.out he
      obtain ⟨xg, xs⟩ := x
      have hent := fun w h1 h2 => run_entry (P := Try.prog) (it := it) (m := m) (es := es) (clock := c) (since := c) (seen := seen) w h1 h2 hes HGO.out.reads.one
      rw [hkey, hval]
      rw [hkey, hval] at hent
      unfold spot at hent ⊢
      dsimp only at hent hkeep hdel ⊢
      have HD := Lib.hid hdel; have HKP := Lib.hid hkeep; have HRD := Lib.hid HGO.out.reads
      clear hkey hval he hdel hkeep
      have HF := Lib.hid (fun L (x : Wd E (pt gb (.cells #[.int .i64 g] 3 (0, 0)) :: L)) => ofGroup_calls x k xg xs)
      by_cases hxg : xg = g
      · have hb : (xg == g) = true := by simpa using hxg
        rw [hb] at HF
        have HX := Lib.hid hxg
        clear hxg hb
        go_wp2_with ((with_reducible refine galloc 53 ?_); go_must (refine wd_alloc y rfl 53 rfl (.agg #[.int .i64 0, .int .i64 0]) zeroSpot ?_; intro sb y; simp only [Value.cells] at y))
        refine (HF.out _ ((y.set0 0 (.int .i64 xg)).set0 1 (.int .i64 xs)).up3).mono ?_; rintro e' w' ⟨rfl, y, rfl⟩
        go_wp2_with ((with_reducible refine gbuiltin .delete ?_); go_must (refine wd_delete y.up3 rfl rfl _ _ rfl lawI Try.underlying44 HRD.out k rfl rfl ?_; intro y))
        go_roundg (gk - 1)
        case measure => have := HK.out; omega
        case rel => exact ⟨seen.push e.born, V ++ [k], _, HD.out HX.out, by have := HK.out; simp only [List.length_append, List.length_singleton]; omega, y.up2.drop.up2, rfl⟩
      · have hb : (xg == g) = false := by simpa using hxg
        rw [hb] at HF
        have HX := Lib.hid hxg
        clear hxg hb
        go_wp2_with ((with_reducible refine galloc 53 ?_); go_must (refine wd_alloc y rfl 53 rfl (.agg #[.int .i64 0, .int .i64 0]) zeroSpot ?_; intro sb y; simp only [Value.cells] at y))
        refine (HF.out _ ((y.set0 0 (.int .i64 xg)).set0 1 (.int .i64 xs)).up3).mono ?_; rintro e' w' ⟨rfl, y, rfl⟩
        go_wp2_with fail
        go_roundg (gk - 1)
        case measure => have := HK.out; omega
        case rel => exact ⟨seen.push e.born, V ++ [k], _, HKP.out HX.out, by have := HK.out; simp only [List.length_append, List.length_singleton]; omega, y.up1.drop.up2.up2, rfl⟩
end Go.Proofs.Ytechbidbhoookaa.Use
