/- The reference of layer 14: without. -/
import Derived.Test.YtechbidbhoookaaRf1
set_option linter.unusedVariables false
set_option linter.unusedSectionVars false
namespace Go.Proofs.Ytechbidbhoookaa.Rf
open Go Go.RowKit Go.Proofs.Ytechbidbhoookaa.Sl
open Go.Proofs.Ytechbidbhoookaa.Use (ptr Lv optVal)

theorem elemLive : Elem Try.prog 69 3 24 := Elem.mk' (.agg #[.int .i64 0, .int .i64 0, .int .i64 0]) (by kernel_rfl) rfl
theorem elemGroup : Elem Try.prog 64 2 16 := Elem.mk' (.agg #[.int .i64 0, .int .i64 0]) (by kernel_rfl) rfl
theorem zeroLive (w : World) : (zeroValue 69).run Try.prog w = .ok (.agg #[.int .i64 0, .int .i64 0, .int .i64 0]) w := by kernel_rfl
theorem zeroGroup (w : World) : (zeroValue 64).run Try.prog w = .ok (.agg #[.int .i64 0, .int .i64 0]) w := by kernel_rfl
def goes (g s b : Int) (x : Int × Int × Int) : Prop := (x.1 = g ∧ (s < 0 ∨ x.2.1 = s)) ∨ (b ≥ 0 ∧ x.2.2 = b)
instance (g s b : Int) (x : Int × Int × Int) : Decidable (goes g s b x) := inferInstanceAs (Decidable (_ ∨ _))
def withoutF (l : Lv) (g s b : Int) : Lv := l.filter fun x => decide (¬ goes g s b x)
theorem take_next {α : Type} {l : List α} {k : Nat} (h : k < l.length) : l.take (k + 1) = l.take k ++ [l[k]] := by
  rw [List.take_add_one, List.getElem?_eq_getElem h]; rfl
theorem filter_drop {l : Lv} {k : Nat} {p : Int × Int × Int → Bool} (h : k < l.length) (hp : p l[k] = false) : (l.take (k + 1)).filter p = (l.take k).filter p := by
  rw [take_next h, List.filter_append]; simp [hp]
theorem filter_keep {α : Type} {l : List α} {k : Nat} {p : α → Bool} (h : k < l.length) (hp : p l[k] = true) : (l.take (k + 1)).filter p = (l.take k).filter p ++ [l[k]] := by
  rw [take_next h, List.filter_append]; simp [hp]
theorem rowL_snoc (v : Value) (F : Lv) (x : Int × Int × Int) : RowL v (F ++ [x]) = Row 69 3 v (F.length + 1) (cellsL F ++ [.int .i64 x.1, .int .i64 x.2.1, .int .i64 x.2.2]) := by
  unfold RowL; rw [cellsL_snoc, List.length_append]; rfl
theorem rowG_snoc (v : Value) (F : Gs) (x : Int × Int) : RowG v (F ++ [x]) = Row 64 2 v (F.length + 1) (cellsG F ++ [.int .i64 x.1, .int .i64 x.2]) := by
  unfold RowG; rw [cellsG_snoc, List.length_append]; rfl
section
variable {E : World} {L : List HProp} {A1 A2 : HProp} {vG vL : Value} {G : Gs} {l : Lv} (q : Nat)
set_option maxRecDepth 100000 in
set_option maxHeartbeats 4000000 in
theorem without_calls (hA : LieL A2 vL l) (hn : l.length ≤ 1000000) (g s bl : Int) (x : Opn E A1 A2 q vG vL L) :
    Calls Try.prog 43 #[ptr q, .int .i64 g, .int .i64 s, .int .i64 bl] x.val fun e w' => ∃ v, e = .returned v ∧ ∃ y : Wd E (RowL v (withoutF l g s bl) :: A1 :: A2 :: hd q vG vL :: L), w' = y.val := by
  obtain ⟨base, cap, rfl, hb⟩ := hA
  have HB := Lib.hid hb; clear hb
  go_enter Try.func43, Try.ntmps43
  go_wp2_with ((with_reducible refine gbuildSlice 48 ?_); go_must (refine wd_buildSlice x rfl 48 69 0 _ rfl #[] (fun w => by kernel_rfl) ?_; intro ob x))
  obtain ⟨u, hu⟩ := Row.cl (n := 0) (cap := 0) (k := 3) (by omega) (by unfold maxLen; omega) rfl x
  rw [hu]
  clear hu
  go_loopw [9, 10] (fun o n wr => ∃ k : Nat, k ≤ l.length ∧ n = .int .i64 (k : Int) ∧ ∃ u : Wd E (RowL o ((l.take k).filter fun x => decide (¬ goes g s bl x)) :: A1 :: A2 :: hd q vG (.slice base l.length cap) :: L), wr = u.val) (fun _ n _ => l.length - (intOf n).toNat)
  case atStart => exact ⟨0, by omega, rfl, u, rfl⟩
  case round =>
    obtain ⟨k, hk, rfl, u, rfl⟩ := hrel
    by_cases hlt : k < l.length
    · obtain ⟨b, rfl, cur, rfl, hcur⟩ := HB.out (by omega)
      have hc := hcur _ _ (cellsL_get l k hlt).1
      have hc2 := hcur _ _ (cellsL_get l k hlt).2.1
      have hc3 := hcur _ _ (cellsL_get l k hlt).2.2
      have hlen : ((l.take k).filter fun x => decide (¬ goes g s bl x)).length ≤ 1000000 := by
        have := List.length_filter_le (fun x => decide (¬ goes g s bl x)) (l.take k)
        rw [List.length_take] at this; omega
      clear hcur
      by_cases hd : goes g s bl l[k]
      · have HD := Lib.hid (filter_drop (p := fun x => decide (¬ goes g s bl x)) hlt (by simpa using hd))
        have hcase : ((l[k].1 == g) = true ∧ s < 0) ∨ ((l[k].1 == g) = true ∧ ¬ s < 0 ∧ (l[k].2.1 == s) = true) ∨ ((l[k].1 == g) = true ∧ ¬ s < 0 ∧ (l[k].2.1 == s) = false ∧ bl ≥ 0 ∧ (l[k].2.2 == bl) = true) ∨ ((l[k].1 == g) = false ∧ bl ≥ 0 ∧ (l[k].2.2 == bl) = true) := by
          unfold goes at hd
          simp only [beq_iff_eq, beq_eq_false_iff_ne]
          by_cases h1 : l[k].1 = g <;> by_cases h2 : s < 0 <;> by_cases h3 : l[k].2.1 = s <;> simp_all
        generalize ((l.take k).filter fun x => decide (¬ goes g s bl x)) = F at *
        clear hd
        generalize l[k].1 = a at *
        generalize l[k].2.1 = c at *
        generalize l[k].2.2 = d at *
        rcases hcase with ⟨h1, h2⟩ | ⟨h1, h2, h3⟩ | ⟨h1, h2, h3, h4, h5⟩ | ⟨h1, h4, h5⟩ <;>
        · go_wp2_with ((with_reducible refine galloc 69 ?_); go_must (refine wd_alloc u rfl 69 rfl (.agg #[.int .i64 0, .int .i64 0, .int .i64 0]) zeroLive ?_; intro xb u; simp only [Value.cells] at u))
          exact ⟨⟨k + 1, by omega, rfl, (((u.set0 0 (.int .i64 a)).set0 1 (.int .i64 c)).set0 2 (.int .i64 d)).drop.cast (by rw [HD.out]), rfl⟩, by simp [intOf]; omega⟩
      · have HD := Lib.hid (filter_keep (p := fun x => decide (¬ goes g s bl x)) hlt (by simpa using hd))
        have hcase : ((l[k].1 == g) = true ∧ ¬ s < 0 ∧ (l[k].2.1 == s) = false ∧ ¬ bl ≥ 0) ∨ ((l[k].1 == g) = true ∧ ¬ s < 0 ∧ (l[k].2.1 == s) = false ∧ bl ≥ 0 ∧ (l[k].2.2 == bl) = false) ∨ ((l[k].1 == g) = false ∧ ¬ bl ≥ 0) ∨ ((l[k].1 == g) = false ∧ bl ≥ 0 ∧ (l[k].2.2 == bl) = false) := by
          unfold goes at hd
          simp only [beq_iff_eq, beq_eq_false_iff_ne]
          by_cases h1 : l[k].1 = g <;> by_cases h2 : s < 0 <;> by_cases h3 : l[k].2.1 = s <;> by_cases h4 : bl ≥ 0 <;> simp_all
        have HX := Lib.hid (show l[k] = (l[k].1, l[k].2.1, l[k].2.2) from rfl)
        generalize hF : ((l.take k).filter fun x => decide (¬ goes g s bl x)) = F at *
        clear hd hF
        generalize l[k] = X at *
        obtain ⟨a, c, d⟩ := X
        dsimp only at *
        rcases hcase with ⟨h1, h2, h3, h4⟩ | ⟨h1, h2, h3, h4, h5⟩ | ⟨h1, h4⟩ | ⟨h1, h4, h5⟩ <;>
        · go_wp2_with (first
            | ((with_reducible refine galloc 69 ?_); go_must (refine wd_alloc u rfl 69 rfl (.agg #[.int .i64 0, .int .i64 0, .int .i64 0]) zeroLive ?_; intro xb u; simp only [Value.cells] at u))
            | ((with_reducible refine gbuildSlice 48 ?_); go_must (refine wd_buildSlice (((u.set0 0 (.int .i64 a)).set0 1 (.int .i64 c)).set0 2 (.int .i64 d)) rfl 48 69 1 _ rfl #[.int .i64 a, .int .i64 c, .int .i64 d] (fun w => by kernel_rfl) ?_; intro nb u))
            | ((with_reducible refine gbuiltin .append ?_); go_must (refine wd_append u.up2 rfl _ _ 48 rfl Try.underlying48 elemLive rfl rfl (news := [.int .i64 a, .int .i64 c, .int .i64 d]) (m := 1) (by rfl) (fun j v hj => block_news (Wd.heap1 u.up2) j v hj) (by simp [Value.oneCell']) (by unfold maxLen; omega) (by omega) ?_; intro sl u _)))
          exact ⟨⟨k + 1, by omega, rfl, (u.up2.drop.up1.drop).cast (by rw [HD.out, rowL_snoc]), rfl⟩, by simp [intOf]; omega⟩
    · have HD := Lib.hid (show withoutF l g s bl = ((l.take k).filter fun x => decide (¬ goes g s bl x)) by unfold withoutF; rw [List.take_of_length_le (by omega)])
      go_wp2_with fail
      go_ret
      exact ⟨_, rfl, u.cast (by rw [HD.out]; rfl), rfl⟩
end
end Go.Proofs.Ytechbidbhoookaa.Rf
