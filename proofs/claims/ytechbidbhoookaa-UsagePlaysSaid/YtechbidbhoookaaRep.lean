/- Package slices at ints: Repeat of one number. -/
import Derived.Test.YtechbidbhoookaaShC
set_option linter.unusedVariables false
namespace Go.Proofs.Ytechbidbhoookaa.Use
open Go Go.RowKit Go.Proofs.Ytechbidbhoookaa.Sl
theorem and_small (m : Nat) (h : m ≤ 4096) : bits BinOp.and IntKind.u64 (m : Int) 4294967295 = (m : Int) := by
  rw [show (4294967295 : Int) = ((4294967295 : Nat) : Int) from rfl, u64_and_nat m 4294967295 (by omega) (by omega)]
  congr 1
  rw [show 4294967295 = 2 ^ 32 - 1 from rfl, Nat.and_two_pow_sub_one_eq_mod]
  omega
set_option maxRecDepth 100000 in
set_option maxHeartbeats 1000000 in
theorem mul64_calls {E : World} {L : List HProp} (n : Int) (h0 : 0 ≤ n) (h1 : n ≤ 4096) (x : Wd E L) :
    Calls Try.prog 55 #[.int .u64 1, .int .u64 n] x.val fun e w' => e = .returned (.tuple #[.int .u64 0, .int .u64 n]) ∧ ∃ y : Wd E L, w' = y.val := by
  have a1 : bits BinOp.and IntKind.u64 1 4294967295 = 1 := by kernel_rfl
  have a0 : bits BinOp.and IntKind.u64 0 4294967295 = 0 := by kernel_rfl
  have a2 : bits BinOp.and IntKind.u64 n 4294967295 = n := by
    obtain ⟨m, rfl⟩ := Int.eq_ofNat_of_zero_le h0
    exact and_small m (by omega)
  have d1 : n / 4294967296 = 0 := by omega
  go_enter Try.func55, Try.ntmps55
  go_wp2_with fail
  refine bodyPost_ret (v := .tuple #[.int .u64 0, .int .u64 n]) (by simp [results, Try.results55, go_sem]) rfl ⟨rfl, x, rfl⟩
set_option maxRecDepth 100000 in
set_option maxHeartbeats 1000000 in
theorem mul_calls {E : World} {L : List HProp} (n : Int) (h0 : 0 ≤ n) (h1 : n ≤ 4096) (x : Wd E L) :
    Calls Try.prog 49 #[.int .u64 1, .int .u64 n] x.val fun e w' => e = .returned (.tuple #[.int .u64 0, .int .u64 n]) ∧ ∃ y : Wd E L, w' = y.val := by
  go_enter Try.func49, Try.ntmps49
  go_wp2_with fail
  refine (mul64_calls n h0 h1 x).mono ?_; rintro e w' ⟨rfl, x, rfl⟩
  go_wp2_with fail
  refine bodyPost_ret (v := .tuple #[.int .u64 0, .int .u64 n]) (by simp [results, Try.results49, go_sem]) rfl ⟨rfl, x, rfl⟩
set_option maxRecDepth 100000 in
set_option maxHeartbeats 2000000 in
theorem repeat_calls {E : World} {L : List HProp} {sb : Nat} (v : Int) (n : Nat) (h0 : 1 ≤ n) (h1 : n ≤ 4096) (x : Wd E (pt sb (.cells #[.int .i64 v] 3 (0, 0)) :: L)) :
    Calls Try.prog 37 #[.slice (some ⟨sb, 0, none⟩) 1 1, .int .i64 (n : Int)] x.val fun e w' => ∃ nb cur, e = .returned (.slice (some ⟨nb, 0, none⟩) n n) ∧ cur.size = n ∧ (∀ t, t < n → cur[t]? = some (.int .i64 v)) ∧
      ∃ y : Wd E (pt nb (.cells cur 3 (0, 0)) :: pt sb (.cells #[.int .i64 v] 3 (0, 0)) :: L), w' = y.val := by
  have HM := Lib.hid (fun x => mul_calls (E := E) (L := pt sb (.cells #[.int .i64 v] 3 (0, 0)) :: L) (n : Int) (by omega) (by omega) x)
  go_enter Try.func37, Try.ntmps37
  go_wp2_with fail
  refine (HM.out x).mono ?_; rintro e w' ⟨rfl, x, rfl⟩
  go_wp2_with (first
    | ((with_reducible refine gmakeSlice 40 ?_); go_must (refine wd_make x rfl 40 3 _ _ rfl Try.underlying40 (.int .i64 0) 1 8 (by kernel_rfl) n rfl rfl (by omega) (by unfold maxLen; omega) ?_; intro nb z))
    | ((with_reducible refine gbuiltin .copy ?_); go_must (refine wd_copy (cs := [.int .i64 v]) z rfl _ _ 40 3 rfl Try.underlying40 (by kernel_rfl) rfl rfl (show 1 = Nat.min 1 n from (Nat.min_eq_left h0).symm) (fun j u hj => block_news (Wd.heap1 z) j u (by simpa using hj)) (by simp [size_madeCells]; omega) (by simp [Value.oneCell']) ?_; intro z)))
  have hcur0 : ∃ cur : Array Value, cur.size = n ∧ cur[0]? = some (.int .i64 v) ∧ ∃ y : Wd E (pt nb (.cells cur 3 (0, 0)) :: pt sb (.cells #[.int .i64 v] 3 (0, 0)) :: L), z.val = y.val :=
    ⟨_, by simp [size_madeCells]; omega, by simp, z, rfl⟩
  obtain ⟨cur, hsz, hc0, y, hy⟩ := hcur0
  rw [hy]
  clear hy
  have HC0 := Lib.hid hc0; clear hc0
  have hsz0 := hsz; clear hsz
  go_loopw [8] (fun k wr => ∃ (k' : Nat) (cur : Array Value), 1 ≤ k' ∧ k' ≤ n ∧ cur.size = n ∧ (∀ t, t < k' → cur[t]? = some (.int .i64 v)) ∧ k = .int .i64 (k' : Int) ∧ ∃ y : Wd E (pt nb (.cells cur 3 (0, 0)) :: pt sb (.cells #[.int .i64 v] 3 (0, 0)) :: L), wr = y.val) (fun k _ => n - (intOf k).toNat)
  case atStart => exact ⟨1, cur, by omega, h0, hsz0, fun t ht => by rw [show t = 0 by omega]; exact HC0.out, rfl, y, rfl⟩
  case round =>
    obtain ⟨k, cur, hk1, hk, hsz, hall, rfl, y, rfl⟩ := hrel
    have HA := Lib.hid hall; clear hall
    by_cases hlt : k < n
    · have hm1 : 1 ≤ Nat.min k (n - k) := Nat.le_min.2 ⟨hk1, by omega⟩
      have hm2 : Nat.min k (n - k) ≤ n - k := Nat.min_le_right _ _
      have hm3 : Nat.min k (n - k) ≤ k := Nat.min_le_left _ _
      have HSRC := Lib.hid (fun (j : Nat) (u : Value) (hj : (List.replicate (Nat.min k (n - k)) (Value.int .i64 v))[j]? = some u) => (show cur.toList[j]? = some u by
        rw [List.getElem?_replicate] at hj
        split at hj
        · rename_i h
          have := HA.out j (by omega)
          rw [← hj]
          simpa using this
        · cases hj))
      generalize hm : Nat.min k (n - k) = m at *
      have HM2 := Lib.hid hm; clear hm
      go_wp2_with fail
      have ne : Nonempty (Wd E (pt nb (.cells cur 3 (0, 0)) :: pt sb (.cells #[.int .i64 v] 3 (0, 0)) :: L)) := ⟨y⟩
      have ne2 : Nonempty (Wd E (pt sb (.cells #[.int .i64 v] 3 (0, 0)) :: L)) := ⟨y.drop⟩
      refine wp_region_wd_mix y (fun w' => ∃ y : Wd E (pt sb (.cells #[.int .i64 v] 3 (0, 0)) :: L), w' = y.val) 8
        [(0, true), (1, true), (2, true), (3, true), (4, true), (5, true), (6, true), (7, false)] (by kernel_rfl) (by kernel_rfl)
        (fun c a d v w h => by cases d <;> exact h) ⟨y.drew.drop, rfl⟩ ?_
      refine mix_reads [0, 1, 2, 3, 4, 5, 6] (by kernel_rfl) ?_
      simp only [pick, List.getD_cons_zero, List.getD_cons_succ]
      repeat (go_big_quiet_step (fail))
      refine wpQuiet_nil ?_
      generalize y.drew = y
      refine mix_eff (by kernel_rfl) ?_
      simp only [List.getD_cons_zero, List.getD_cons_succ]
      go_wp2_with ((with_reducible refine gbuiltin .copy ?_); go_must (refine wd_copy (cs := List.replicate m (.int .i64 v)) y rfl _ _ 40 3 rfl Try.underlying40 (by kernel_rfl) rfl rfl (by rw [List.length_replicate]; exact HM2.out.symm) (fun j u hj => block_news (Wd.heap0 y) j u (HSRC.out j u hj)) (by rw [List.length_replicate]; omega) (fun u hu => by rw [List.eq_of_mem_replicate hu]; rfl) ?_; intro y; simp only [List.length_replicate]))
      refine ⟨⟨y.drop, rfl⟩, ?_⟩
      unfold wpMix
      simp only [List.drop_succ_cons, List.drop_zero]
      go_wp2_with fail
      refine ⟨⟨k + m, _, by omega, by omega, ?_, fun t ht => ?_, by simp, y, rfl⟩, by simp [intOf]; omega⟩
      · simp; omega
      · have hl1 : (cur.toList.take k).length = k := by rw [List.length_take, Array.length_toList]; omega
        rw [List.getElem?_toArray, List.getElem?_append_left (by rw [List.length_append, List.length_replicate, hl1]; exact ht)]
        by_cases h : t < k
        · rw [List.getElem?_append_left (by omega), List.getElem?_take, if_pos h]
          simpa using HA.out t h
        · rw [List.getElem?_append_right (by omega), hl1, List.getElem?_replicate, if_pos (by omega)]
    · go_wp2_with fail
      go_ret
      exact ⟨nb, cur, rfl, hsz, fun t ht => HA.out t (by omega), y, rfl⟩
end Go.Proofs.Ytechbidbhoookaa.Use
