/- The reference of layer 14: Clone (printed by gen_rf4.py). -/
import Derived.Test.YtechbidbhoookaaRf3
import Derived.Test.YtechbidbhoookaaTree
import Derived.Test.YtechbidbhoookaaApp
set_option linter.unusedVariables false
set_option linter.unusedSectionVars false
namespace Go.Proofs.Ytechbidbhoookaa.Rf
open Go Go.RowKit Go.Proofs.Ytechbidbhoookaa.Sl
open Go.Proofs.Ytechbidbhoookaa.Use (ptr Lv optVal)

theorem cellsG_one (G : Gs) : ∀ u ∈ cellsG G, u.oneCell' = true := by
  intro u hu
  unfold cellsG at hu
  rw [List.mem_flatMap] at hu
  obtain ⟨x, _, hx⟩ := hu
  simp only [List.mem_cons, List.not_mem_nil, or_false] at hx
  rcases hx with rfl | rfl <;> rfl
theorem cellsL_one (l : Lv) : ∀ u ∈ cellsL l, u.oneCell' = true := by
  intro u hu
  unfold cellsL at hu
  rw [List.mem_flatMap] at hu
  obtain ⟨x, _, hx⟩ := hu
  simp only [List.mem_cons, List.not_mem_nil, or_false] at hx
  rcases hx with rfl | rfl | rfl <;> rfl
section
variable {E : World} {L : List HProp} {G : Gs} {l : Lv} (q : Nat)
set_option maxRecDepth 100000 in
set_option maxHeartbeats 4000000 in
theorem clone_calls (hn : G.length ≤ 1000000) (hl : l.length ≤ 1000000) (x : Wd E (At q G l :: L)) :
    Calls Try.prog 7 #[ptr q] x.val fun e w' => ∃ c, e = .returned (ptr c) ∧ ∃ y : Wd E (At c G l :: At q G l :: L), w' = y.val := by
  obtain ⟨A1, A2, vG, vL, hA1, hA2, ⟨y, hy⟩, b1, b2, bk⟩ := At.rd x
  rw [hy]
  have hA1' := hA1
  have hA2' := hA2
  obtain ⟨bg, cg0, rfl, _⟩ := hA1'
  obtain ⟨bl, cl0, rfl, _⟩ := hA2'
  have HN1 := Lib.hid hA1; have HN2 := Lib.hid hA2
  have HE := Lib.hid (fun c sg cg sl cl (y : Wd E (pt c (.cells #[.slice sg G.length cg, .slice sl l.length cl] 50 (0, 0)) :: Row 69 3 (.slice sl (0 + l.length) cl) (0 + l.length) ((#[] : Array Value).toList.take (0 * 3) ++ cellsL l) :: Row 64 2 (.slice sg (0 + G.length) cg) (0 + G.length) ((#[] : Array Value).toList.take (0 * 2) ++ cellsG G) :: A1 :: A2 :: hd q (.slice bg G.length cg0) (.slice bl l.length cl0) :: L)) => (show ∃ z : Wd E (At c G l :: At q G l :: L), y.val = z.val by
    obtain ⟨z, hz⟩ := bk E _ (y.ord [3, 4, 5, 0, 1, 2])
    obtain ⟨u, hu⟩ := At.cl (q := c) (G := G) (l := l) ((z.ord [3, 2, 1, 0] : Wd E (Row 64 2 (.slice sg (0 + G.length) cg) (0 + G.length) ((#[] : Array Value).toList.take (0 * 2) ++ cellsG G) :: Row 69 3 (.slice sl (0 + l.length) cl) (0 + l.length) ((#[] : Array Value).toList.take (0 * 3) ++ cellsL l) :: pt c (.cells #[.slice sg G.length cg, .slice sl l.length cl] 50 (0, 0)) :: At q G l :: L)).cast (by simp only [Nat.zero_add]; rfl))
    exact ⟨u, hz.trans hu⟩))
  clear hA1 hA2 b1 b2 bk hy
  go_enter Try.func7, Try.ntmps7
  go_wp2_with fail
  have ne : Nonempty (Wd E (A1 :: A2 :: hd q (.slice bg G.length cg0) (.slice bl l.length cl0) :: L)) := ⟨y⟩
  refine wp_region_wd_tree y (fun w' => ∃ y : Wd E (A1 :: A2 :: hd q (.slice bg G.length cg0) (.slice bl l.length cl0) :: L), w' = y.val) 12
    (.reads [1, 2, 3, 4, 7, 8, 9, 10] (.alt 0 (.alt 5 (.eff 6 (.eff 11 (.done))) 6 (.eff 5 (.eff 11 (.done)))) 6 (.eff 0 (.eff 5 (.eff 11 (.done)))))) (by kernel_rfl) (by kernel_rfl)
    (fun c a d v w h => by cases d <;> exact h) ⟨y.drew, rfl⟩ ?_
  refine tree_reads [1, 2, 3, 4, 7, 8, 9, 10] (by kernel_rfl) ?_
  simp only [pick, List.getD_cons_zero, List.getD_cons_succ]
  repeat (go_big_quiet_step (fail))
  refine wpQuiet_nil ?_
  generalize y.drew = y
  refine tree_alt (by kernel_rfl) (by kernel_rfl) ?p0 ?p6
  case p0 =>
    simp only [List.getD_cons_zero]
    refine wd_buildSlice y rfl 47 64 0 _ rfl #[] (fun w => by kernel_rfl) ?_
    intro bg y
    obtain ⟨y, hu⟩ := Row.cl (n := 0) (cap := 0) (k := 2) (by omega) (by unfold maxLen; omega) rfl y
    rw [hu]
    clear hu
    go_wp2_with fail
    refine ⟨⟨y.drop, rfl⟩, ?_⟩
    refine tree_alt (by kernel_rfl) (by kernel_rfl) ?a5 ?a6
    case a5 =>
      simp only [List.getD_cons_zero, List.getD_cons_succ]
      refine wd_append2 y rfl _ _ 47 rfl Try.underlying47 elemGroup rfl rfl (news := cellsG G) (m := G.length) (cellsG_len G) (Lies.news HN1.out _ ⟨y.ord [1, 0], rfl⟩) (cellsG_one G) (by unfold maxLen; omega) (by omega) ?_
      intro sg cg y
      go_wp2_with fail
      refine ⟨⟨y.drop, rfl⟩, ?_⟩
      refine tree_eff (by kernel_rfl) ?_
      simp only [List.getD_cons_zero, List.getD_cons_succ]
      refine wd_buildSlice y rfl 48 69 0 _ rfl #[] (fun w => by kernel_rfl) ?_
      intro bl y
      obtain ⟨y, hu⟩ := Row.cl (n := 0) (cap := 0) (k := 3) (by omega) (by unfold maxLen; omega) rfl y
      rw [hu]
      clear hu
      go_wp2_with fail
      refine ⟨⟨y.drop.drop, rfl⟩, ?_⟩
      refine tree_eff (by kernel_rfl) ?_
      simp only [List.getD_cons_zero, List.getD_cons_succ]
      refine wd_append2 y rfl _ _ 48 rfl Try.underlying48 elemLive rfl rfl (news := cellsL l) (m := l.length) (cellsL_len l) (Lies.news HN2.out _ ⟨y.ord [3, 0, 1, 2], rfl⟩) (cellsL_one l) (by unfold maxLen; omega) (by omega) ?_
      intro sl cl y
      go_wp2_with fail
      refine ⟨⟨y.drop.drop, rfl⟩, ?_⟩
      refine tree_done ?_
      simp only [List.drop_succ_cons, List.drop_zero]
      go_wp2_with ((with_reducible refine gbox 50 ?_); go_must (refine wd_box y rfl 50 _ rfl #[.slice sg G.length cg, .slice sl l.length cl] rfl ?_; intro c y))
      go_ret
      exact ⟨c, rfl, HE.out _ _ _ _ _ y⟩
    case a6 =>
      simp only [List.getD_cons_zero, List.getD_cons_succ]
      refine wd_buildSlice y rfl 48 69 0 _ rfl #[] (fun w => by kernel_rfl) ?_
      intro bl y
      obtain ⟨y, hu⟩ := Row.cl (n := 0) (cap := 0) (k := 3) (by omega) (by unfold maxLen; omega) rfl y
      rw [hu]
      clear hu
      go_wp2_with fail
      refine ⟨⟨y.drop.drop, rfl⟩, ?_⟩
      refine tree_eff (by kernel_rfl) ?_
      simp only [List.getD_cons_zero, List.getD_cons_succ]
      refine wd_append2 (y.ord [1, 0]) rfl _ _ 47 rfl Try.underlying47 elemGroup rfl rfl (news := cellsG G) (m := G.length) (cellsG_len G) (Lies.news HN1.out _ ⟨(y.ord [1, 0]).ord [2, 0, 1], rfl⟩) (cellsG_one G) (by unfold maxLen; omega) (by omega) ?_
      intro sg cg y
      go_wp2_with fail
      refine ⟨⟨y.drop.drop, rfl⟩, ?_⟩
      refine tree_eff (by kernel_rfl) ?_
      simp only [List.getD_cons_zero, List.getD_cons_succ]
      refine wd_append2 (y.ord [1, 0]) rfl _ _ 48 rfl Try.underlying48 elemLive rfl rfl (news := cellsL l) (m := l.length) (cellsL_len l) (Lies.news HN2.out _ ⟨(y.ord [1, 0]).ord [3, 0, 1, 2], rfl⟩) (cellsL_one l) (by unfold maxLen; omega) (by omega) ?_
      intro sl cl y
      go_wp2_with fail
      refine ⟨⟨y.drop.drop, rfl⟩, ?_⟩
      refine tree_done ?_
      simp only [List.drop_succ_cons, List.drop_zero]
      go_wp2_with ((with_reducible refine gbox 50 ?_); go_must (refine wd_box y rfl 50 _ rfl #[.slice sg G.length cg, .slice sl l.length cl] rfl ?_; intro c y))
      go_ret
      exact ⟨c, rfl, HE.out _ _ _ _ _ y⟩
  case p6 =>
    simp only [List.getD_cons_zero, List.getD_cons_succ]
    refine wd_buildSlice y rfl 48 69 0 _ rfl #[] (fun w => by kernel_rfl) ?_
    intro bl y
    obtain ⟨y, hu⟩ := Row.cl (n := 0) (cap := 0) (k := 3) (by omega) (by unfold maxLen; omega) rfl y
    rw [hu]
    clear hu
    go_wp2_with fail
    refine ⟨⟨y.drop, rfl⟩, ?_⟩
    refine tree_eff (by kernel_rfl) ?_
    simp only [List.getD_cons_zero]
    refine wd_buildSlice y rfl 47 64 0 _ rfl #[] (fun w => by kernel_rfl) ?_
    intro bg y
    obtain ⟨y, hu⟩ := Row.cl (n := 0) (cap := 0) (k := 2) (by omega) (by unfold maxLen; omega) rfl y
    rw [hu]
    clear hu
    go_wp2_with fail
    refine ⟨⟨y.drop.drop, rfl⟩, ?_⟩
    refine tree_eff (by kernel_rfl) ?_
    simp only [List.getD_cons_zero, List.getD_cons_succ]
    refine wd_append2 y rfl _ _ 47 rfl Try.underlying47 elemGroup rfl rfl (news := cellsG G) (m := G.length) (cellsG_len G) (Lies.news HN1.out _ ⟨y.ord [2, 0, 1], rfl⟩) (cellsG_one G) (by unfold maxLen; omega) (by omega) ?_
    intro sg cg y
    go_wp2_with fail
    refine ⟨⟨y.drop.drop, rfl⟩, ?_⟩
    refine tree_eff (by kernel_rfl) ?_
    simp only [List.getD_cons_zero, List.getD_cons_succ]
    refine wd_append2 (y.ord [1, 0]) rfl _ _ 48 rfl Try.underlying48 elemLive rfl rfl (news := cellsL l) (m := l.length) (cellsL_len l) (Lies.news HN2.out _ ⟨(y.ord [1, 0]).ord [3, 0, 1, 2], rfl⟩) (cellsL_one l) (by unfold maxLen; omega) (by omega) ?_
    intro sl cl y
    go_wp2_with fail
    refine ⟨⟨y.drop.drop, rfl⟩, ?_⟩
    refine tree_done ?_
    simp only [List.drop_succ_cons, List.drop_zero]
    go_wp2_with ((with_reducible refine gbox 50 ?_); go_must (refine wd_box y rfl 50 _ rfl #[.slice sg G.length cg, .slice sl l.length cl] rfl ?_; intro c y))
    go_ret
    exact ⟨c, rfl, HE.out _ _ _ _ _ y⟩
end
end Go.Proofs.Ytechbidbhoookaa.Rf
