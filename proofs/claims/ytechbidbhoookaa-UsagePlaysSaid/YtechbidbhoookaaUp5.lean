/- The law of layer 14: the walk. -/
import Derived.Test.YtechbidbhoookaaUp4
set_option linter.unusedVariables false
set_option linter.unusedSectionVars false
namespace Go.Proofs.Ytechbidbhoookaa.Up
open Go Go.RowKit Go.Proofs.Ytechbidbhoookaa.Sl
open Go.Proofs.Ytechbidbhoookaa.Use (ptr Tb Lv)
open Go.Proofs.Ytechbidbhoookaa.Rf (Gs)

theorem zeroOp (w : World) : (zeroValue 29).run Try.prog w = .ok (.agg #[.int .i64 0, .int .i64 0, .int .i64 0, .int .i64 0, .int .i64 0]) w := by kernel_rfl
/-- The argument: n steps, in memory of the caller's. -/
def OpsAt (E : World) (v : Value) (n : Nat) : Prop := ∃ base cap, v = .slice base n cap ∧ n ≤ maxLen ∧ ∀ i, i < n → ∃ b off, base = some ⟨b, off, none⟩ ∧ b < E.heap.size ∧ ∃ k g s bl m : Int, i64r g ∧ i64r bl ∧
  E.cell? ⟨b, off + i * 5, none⟩ = some (.int .i64 k) ∧ E.cell? ⟨b, off + i * 5 + 1, none⟩ = some (.int .i64 g) ∧ E.cell? ⟨b, off + i * 5 + 2, none⟩ = some (.int .i64 s) ∧ E.cell? ⟨b, off + i * 5 + 3, none⟩ = some (.int .i64 bl) ∧ E.cell? ⟨b, off + i * 5 + 4, none⟩ = some (.int .i64 m)
def Olds (old was : Value) (L : List HProp) : Prop := (old = .pointer none ∧ was = .pointer none) ∨ ∃ po qo T G l L', Rel 190 T G l ∧ old = ptr po ∧ was = ptr qo ∧ L = Use.At po T :: Rf.At qo G l :: L'
set_option maxRecDepth 100000 in
set_option maxHeartbeats 8000000 in
theorem plays_calls {E : World} {v : Value} {n : Nat} (hO : OpsAt E v n) (x : Wd E []) :
    Calls Try.prog 3 #[v] x.val fun e w' => e = .returned (.bool true) ∧ ∃ L, ∃ y : Wd E L, w' = y.val := by
  obtain ⟨base, cap, rfl, hm, hop⟩ := hO
  have HO := Lib.hid hop
  clear hop
  go_enter Try.func3, Try.ntmps3
  go_wp2_with fail
  refine (shown_calls x).mono ?_; rintro e w' ⟨rfl, z, rfl⟩
  go_wp2_with fail
  refine (Use.new_calls z).mono ?_; rintro e w' ⟨p, rfl, z, rfl⟩
  go_wp2_with fail
  refine (Rf.new_calls z).mono ?_; rintro e w' ⟨q, rfl, z, rfl⟩
  go_wp2_with fail
  go_loopw [4, 6, 7, 8, 9, 10, 11] (fun m old was i _ _ _ wr => ∃ (k p : Nat) (T : Tb) (G : Gs) (l : Lv) (L : List HProp), k ≤ n ∧ k ≤ 150 ∧ Rel k T G l ∧ m = ptr p ∧ i = .int .i64 (k : Int) ∧ Olds old was L ∧ ∃ z : Wd E (Use.At p T :: Rf.At q G l :: L), wr = z.val)
    (fun _ _ _ i _ _ _ _ => 150 - (intOf i).toNat)
  case atStart => exact ⟨0, p, [], [], [], [], by omega, by omega, rel_nil, rfl, rfl, .inl ⟨rfl, rfl⟩, z.up1, rfl⟩
  case round =>
    obtain ⟨k, p, T, G, l, L, hk, hk2, hR, rfl, rfl, hold, z, rfl⟩ := hrel
    have HR := Lib.hid hR; have HOL := Lib.hid hold
    clear hR hold
    by_cases hlt : k < n ∧ k < 150
    · obtain ⟨h1, h2⟩ := hlt
      obtain ⟨b, off, rfl, hb, kind, g, s, bl, m, hg, hbl, hc0, hc1, hc2, hc3, hc4⟩ := HO.out k h1
      have HGS := Lib.hid hg; have HBS := Lib.hid hbl
      clear hg hbl
      by_cases h5 : kind = 5
      · subst h5
        go_wp2_with ((with_reducible refine galloc 29 ?_); go_must (refine wd_alloc z rfl 29 rfl (.agg #[.int .i64 0, .int .i64 0, .int .i64 0, .int .i64 0, .int .i64 0]) zeroOp ?_; intro ob z; simp only [Value.cells] at z))
        obtain ⟨z1, hz1⟩ : ∃ z1 : Wd E (opB ob 5 g s bl (min m 60) :: Use.At p T :: Rf.At q G l :: L), ((((((z.set0 0 (.int .i64 5)).set0 1 (.int .i64 g)).set0 2 (.int .i64 s)).set0 3 (.int .i64 bl)).set0 4 (.int .i64 m)).set0 4 (.int .i64 (min m 60))).val = z1.val := ⟨((((((z.set0 0 (.int .i64 5)).set0 1 (.int .i64 g)).set0 2 (.int .i64 s)).set0 3 (.int .i64 bl)).set0 4 (.int .i64 m)).set0 4 (.int .i64 (min m 60))), rfl⟩
        rw [hz1]
        clear hz1
        refine (Rf.clone_calls q (by have := (HR.out.fits (by omega)).hn; omega) (HR.out.fits (by omega)).hl (z1.ord [2, 0, 1])).mono ?_; rintro e w' ⟨cq, rfl, y, rfl⟩
        go_wp2_with fail
        refine (Use.cloneTab_calls HR.out.good p (y.ord [3, 0, 1, 2])).mono ?_; rintro e w' ⟨cp, T', rfl, hp, y, rfl⟩
        have hR' := HR.out.left hp
        have HR' := Lib.hid hR'
        clear hR' hp
        obtain ⟨y, hy⟩ : ∃ y1 : Wd E (Use.At cp T' :: Rf.At q G l :: opB ob 5 g s bl (min m 60) :: Use.At p T :: Rf.At cq G l :: L), y.val = y1.val := ⟨y.ord [0, 3, 4, 1, 2], rfl⟩
        rw [hy]
        clear hy
        go_wp2_with fail
        refine (same_calls HR'.out (by omega) cp q _ _ _ _ _ y).mono ?_; rintro e w' ⟨rfl, y, rfl⟩
        go_wp2_with fail
        exact ⟨⟨k + 1, cp, T', G, l, _, by omega, by omega, HR'.out.more (by omega), rfl, rfl, .inr ⟨p, cq, T, G, l, L, HR.out.more (by omega), rfl, rfl, rfl⟩, y.up2.drop, rfl⟩, by simp [intOf]; omega⟩
      · have b5 : (kind == 5) = false := by simp [h5]
        clear h5
        go_wp2_with ((with_reducible refine galloc 29 ?_); go_must (refine wd_alloc z rfl 29 rfl (.agg #[.int .i64 0, .int .i64 0, .int .i64 0, .int .i64 0, .int .i64 0]) zeroOp ?_; intro ob z; simp only [Value.cells] at z))
        obtain ⟨z1, hz1⟩ : ∃ z1 : Wd E (Use.At p T :: Rf.At q G l :: opB ob kind g s bl (min m 60) :: L), ((((((z.set0 0 (.int .i64 kind)).set0 1 (.int .i64 g)).set0 2 (.int .i64 s)).set0 3 (.int .i64 bl)).set0 4 (.int .i64 m)).set0 4 (.int .i64 (min m 60))).val = z1.val := ⟨(((((((z.set0 0 (.int .i64 kind)).set0 1 (.int .i64 g)).set0 2 (.int .i64 s)).set0 3 (.int .i64 bl)).set0 4 (.int .i64 m)).set0 4 (.int .i64 (min m 60))) : Wd E (opB ob kind g s bl (min m 60) :: Use.At p T :: Rf.At q G l :: L)).ord [1, 2, 0], rfl⟩
        rw [hz1]
        clear hz1
        refine (does_calls HR.out (by omega) p q kind g s bl (min m 60) HGS.out HBS.out z1).mono ?_; rintro e w' ⟨rfl, T2, G2, l2, hR2, y, rfl⟩
        have HR2 := Lib.hid hR2; clear hR2
        go_wp2_with fail
        refine (same_calls HR2.out (by omega) p q _ _ _ _ _ y).mono ?_; rintro e w' ⟨rfl, y, rfl⟩
        go_wp2_with fail
        exact ⟨⟨k + 1, p, T2, G2, l2, L, by omega, by omega, HR2.out, rfl, rfl, HOL.out, y.up2.drop, rfl⟩, by simp [intOf]; omega⟩
    · rcases HOL.out with ⟨rfl, rfl⟩ | ⟨po, qo, T0, G0, l0, L0, hR0, rfl, rfl, rfl⟩
      · by_cases h1 : k < n
        · have h2 : ¬ k < 150 := fun h => hlt ⟨h1, h⟩
          clear hlt
          go_wp2_with fail
          go_ret
          exact ⟨rfl, _, z, rfl⟩
        · clear hlt
          go_wp2_with fail
          go_ret
          exact ⟨rfl, _, z, rfl⟩
      · have HR0 := Lib.hid hR0; clear hR0
        by_cases h1 : k < n
        · have h2 : ¬ k < 150 := fun h => hlt ⟨h1, h⟩
          clear hlt
          go_wp2_with fail
          refine (same_calls HR0.out (by omega) po qo 0 0 0 0 0 (z.ord [2, 3, 0, 1])).mono ?_; rintro e w' ⟨rfl, z, rfl⟩
          go_wp2_with fail
          go_ret
          exact ⟨rfl, _, z, rfl⟩
        · clear hlt
          go_wp2_with fail
          refine (same_calls HR0.out (by omega) po qo 0 0 0 0 0 (z.ord [2, 3, 0, 1])).mono ?_; rintro e w' ⟨rfl, z, rfl⟩
          go_wp2_with fail
          go_ret
          exact ⟨rfl, _, z, rfl⟩
end Go.Proofs.Ytechbidbhoookaa.Up
