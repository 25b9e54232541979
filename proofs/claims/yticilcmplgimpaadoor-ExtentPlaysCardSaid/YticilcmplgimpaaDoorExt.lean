/- Package extent: what its functions do. -/
import Derived.Test.YticilcmplgimpaaDoorBitsNext
import Derived.Test.YticilcmplgimpaaDoorMaps
import Derived.Test.YticilcmplgimpaaDoorMix
import Derived.Deep.DeepMust
namespace Go.Proofs.YticilcmplgimpaaDoor.Ext
open Go Go.RowKit Go.Proofs.YticilcmplgimpaaDoor.Sl
open Go.Proofs.YticilcmplgimpaaDoor.Bits (ptr obj)

/-- How many extents a member has. -/
def count (s : Int) : Nat := if s < 114 then 0 else (s.toNat - 114) / 8
theorem count_calls {E : World} {L : List HProp} (x : Wd E L) (s : Int) (h0 : -9223372036854775808 ≤ s) (h1 : s ≤ 9223372036854775807) :
    Calls Tryd.prog 14 #[.int .i64 s] x.val fun e w' => e = .returned (.int .i64 (count s : Int)) ∧ ∃ y : Wd E L, w' = y.val := by
  by_cases h : s < 114
  · go_enter Tryd.func14, Tryd.ntmps14
    go_wp2
    go_ret
    exact ⟨by simp [count, h], x, rfl⟩
  · have e : (count s : Int) = (s - 114) / 8 := by unfold count; rw [if_neg h]; omega
    rw [e]
    go_enter Tryd.func14, Tryd.ntmps14
    go_wp2
    go_ret
    exact ⟨rfl, x, rfl⟩
theorem place_calls {E : World} {L : List HProp} (x : Wd E L) (i : Int) (h0 : 0 ≤ i) (h1 : i ≤ 1000000000000000) :
    Calls Tryd.prog 15 #[.int .i64 i] x.val fun e w' => e = .returned (.int .i64 (114 + i * 8)) ∧ ∃ y : Wd E L, w' = y.val := by
  go_enter Tryd.func15, Tryd.ntmps15
  go_wp2
  go_ret
  exact ⟨rfl, x, rfl⟩
/-- Which extent begins at a sector. -/
def index (at_ : Int) : Option Nat := if at_ < 114 then none else if (at_ - 114) % 8 = 0 then some ((at_ - 114) / 8).toNat else none
def idxVal : Option Nat → Value
  | some i => .tuple #[.int .i64 (i : Int), .bool true]
  | none => .tuple #[.int .i64 0, .bool false]
theorem index_calls {E : World} {L : List HProp} (x : Wd E L) (s : Int) (h0 : -9223372036854775808 ≤ s) (h1 : s ≤ 9223372036854775807) :
    Calls Tryd.prog 13 #[.int .i64 s] x.val fun e w' => e = .returned (idxVal (index s)) ∧ ∃ y : Wd E L, w' = y.val := by
  by_cases h : s < 114
  · have e : index s = none := by simp [index, h]
    rw [e]
    go_enter Tryd.func13, Tryd.ntmps13
    go_wp2
    go_ret2
    exact ⟨rfl, x, rfl⟩
  · by_cases hm : (s - 114) % 8 = 0
    · have e : index s = some ((s - 114) / 8).toNat := by simp [index, h, hm]
      have hm1 : ((s - 114) % 8 != 0) = false := by simp [hm]
      have e2 : idxVal (index s) = .tuple #[.int .i64 ((s - 114) / 8), .bool true] := by
        rw [e]; show Value.tuple #[.int .i64 (((s - 114) / 8).toNat : Int), .bool true] = _
        rw [Int.toNat_of_nonneg (by omega)]
      rw [e2]
      clear hm e e2
      go_enter Tryd.func13, Tryd.ntmps13
      go_wp2
      go_ret2
      exact ⟨rfl, x, rfl⟩
    · have e : index s = none := by simp [index, hm]
      have hm1 : ((s - 114) % 8 != 0) = true := by simpa using hm
      rw [e]
      clear hm e
      go_enter Tryd.func13, Tryd.ntmps13
      go_wp2
      go_ret2
      exact ⟨rfl, x, rfl⟩

abbrev encI : Int → Value := fun n => .int .i64 n
theorem lawI : KeyLaw Tryd.prog 3 encI := int_law Tryd.underlying3
/-- A member, the block of its places, and which are taken. -/
abbrev Mem := Int × Nat × List Bool
def pairs (R : List Mem) : List (Int × Value) := R.map fun x => (x.1, ptr x.2.1)
def bits (R : List Mem) : HProp := stars (R.map fun x => pt x.2.1 (obj x.2.2))
def abs (R : List Mem) : List (Int × List Bool) := R.map fun x => (x.1, x.2.2)
abbrev head (p m : Nat) : HProp := pt p (.cells #[.map (some m)] 44 (0, 0))
/-- The map behind pointer p says A. -/
def At (p : Nat) (A : List (Int × List Bool)) : HProp := ex fun m => ex fun R => star (fact (abs R = A)) (stars [MapIs encI m (pairs R), head p m, bits R])
theorem At.op {p : Nat} {A : List (Int × List Bool)} {E : World} {L : List HProp} (x : Wd E (At p A :: L)) :
    ∃ m R, abs R = A ∧ ∃ y : Wd E (MapIs encI m (pairs R) :: head p m :: bits R :: L), x.val = y.val := by
  obtain ⟨m, H⟩ := x.sat.ex
  obtain ⟨R, H⟩ := H.ex
  have H2 : Sat E (fact (abs R = A) :: stars [MapIs encI m (pairs R), head p m, bits R] :: L) x.val := H.imp fun _ h => star_assoc h
  obtain ⟨h, H3⟩ := H2.fact
  exact ⟨m, R, h, ⟨x.val, H3.stars⟩, rfl⟩
theorem At.cl {p : Nat} {E : World} {L : List HProp} {m : Nat} {R : List Mem} (x : Wd E (MapIs encI m (pairs R) :: head p m :: bits R :: L)) :
    ∃ y : Wd E (At p (abs R) :: L), x.val = y.val :=
  ⟨⟨x.val, Sat.mkEx m (Sat.mkEx R ((Sat.mkFact rfl (Sat.mkStars (M := [MapIs encI m (pairs R), head p m, bits R]) x.sat)).imp fun _ h => star_assoc' h))⟩, rfl⟩

set_option maxHeartbeats 400000 in
theorem new_calls {E : World} {L : List HProp} (x : Wd E L) :
    Calls Tryd.prog 5 #[] x.val fun e w' => ∃ p, e = .returned (ptr p) ∧ ∃ y : Wd E (At p [] :: L), w' = y.val := by
  have hmm := @run_makeMap Tryd.prog
  go_enter Tryd.func5, Tryd.ntmps5
  go_wp2
  go_ret
  obtain ⟨y, hy⟩ := MapIs.cl (enc := encI) (A := []) ⟨rfl, fun e he => by simp at he, by simp⟩ ((x.new (.map #[] 0)).newAt (.cells #[.map (some x.val.heap.size)] 44) (x.val.heap.size + 1) (Wd.size_new _ _)).up1
  obtain ⟨z, hz⟩ := At.cl (R := []) y.addEmp.down2
  exact ⟨_, rfl, z, by rw [← hz]; exact hy⟩

theorem shut {E : World} {L : List HProp} {p m : Nat} {es : Array MapEntry} {clock : Nat} {R : List Mem} (hR : Reads encI es clock (pairs R)) (z : Wd E (pt m (.map es clock) :: head p m :: bits R :: L)) :
    ∃ y : Wd E (At p (abs R) :: L), z.val = y.val := by
  obtain ⟨y, hy⟩ := MapIs.cl hR z
  obtain ⟨u, hu⟩ := At.cl y
  exact ⟨u, hy.trans hu⟩
def addCode (A : List (Int × List Bool)) (d s : Int) : Int := if d < 0 ∨ s < 0 ∨ 4096 < s then 1 else if (aget A d).isSome then 9 else 0
def addNext (A : List (Int × List Bool)) (d s : Int) : List (Int × List Bool) := if addCode A d s = 0 then A ++ [(d, List.replicate (count s) false)] else A
theorem get_pairs (R : List Mem) (d : Int) : aget (pairs R) d = (R.find? fun x => decide (x.1 = d)).map fun x => ptr x.2.1 := by
  unfold aget pairs
  induction R with
  | nil => rfl
  | cons r R ih => by_cases h : r.1 = d <;> simp_all
theorem get_abs (R : List Mem) (d : Int) : aget (abs R) d = (R.find? fun x => decide (x.1 = d)).map fun x => x.2.2 := by
  unfold aget abs
  induction R with
  | nil => rfl
  | cons r R ih => by_cases h : r.1 = d <;> simp_all
theorem zeroPtr (w : World) : (zeroValue 51).run Tryd.prog w = .ok (.pointer none) w := by kernel_rfl
/-- The look-up of a member, the store of one. -/
theorem look {m : Nat} {es : Array MapEntry} {clock : Nat} {R : List Mem} (hR : Reads encI es clock (pairs R)) (d : Int) (w : World) (hm : w.heap[m]? = some (.map es clock)) :
    (Instr.lookup 42 (.map (some m)) (.int .i64 d) false).run Tryd.prog w = .ok (((R.find? fun x => decide (x.1 = d)).map fun x => ptr x.2.1).getD (.pointer none)) w := by
  rw [run_lookup_is lawI Tryd.underlying42 hm hR d _ (zeroPtr _) false, get_pairs]
  rfl
theorem store1 {m : Nat} {es : Array MapEntry} {clock : Nat} {R : List Mem} (hR : Reads encI es clock (pairs R)) (d : Int) (v : Value) (w : World) (hm : w.heap[m]? = some (.map es clock)) :
    (Instr.mapUpdate 42 (.map (some m)) (.int .i64 d) v).run Tryd.prog w = .ok () (putObj w m (.map (putEs encI es clock (pairs R) d v) (putClock clock (pairs R) d))) :=
  run_mapUpdate_is lawI Tryd.underlying42 hm hR d v
theorem pairs_none {R : List Mem} {d : Int} (hf : (R.find? fun x => decide (x.1 = d)) = none) (b : Nat) (l : List Bool) : aput (pairs R) d (ptr b) = pairs (R ++ [(d, b, l)]) := by
  have : aidx (pairs R) d = none := by
    unfold aidx pairs
    rw [List.findIdx?_eq_none_iff]
    intro x hx
    obtain ⟨r, hr, rfl⟩ := List.mem_map.1 hx
    simpa using List.find?_eq_none.1 hf r hr
  unfold aput
  rw [this]
  simp [pairs]
theorem bits_snoc {E : World} {L : List HProp} {A B : HProp} {R : List Mem} {r : Mem} (y : Wd E (pt r.2.1 (obj r.2.2) :: A :: B :: bits R :: L)) : ∃ z : Wd E (A :: B :: bits (R ++ [r]) :: L), y.val = z.val := by
  have h1 : Sat E (bits R :: pt r.2.1 (obj r.2.2) :: A :: B :: L) y.val := y.up3.sat
  have h2 := h1.stars
  have h3 : Sat E ((R ++ [r]).map (fun x => pt x.2.1 (obj x.2.2)) ++ A :: B :: L) y.val := by
    simpa using h2
  have h4 : Wd E (bits (R ++ [r]) :: A :: B :: L) := ⟨y.val, h3.mkStars⟩
  exact ⟨Wd.down2 ⟨y.val, h3.mkStars⟩, rfl⟩

set_option maxHeartbeats 400000 in
theorem add_calls {E : World} {L : List HProp} (p : Nat) (A : List (Int × List Bool)) (d s : Int) (hs0 : -9223372036854775808 ≤ s) (hs1 : s ≤ 9223372036854775807) (x : Wd E (At p A :: L)) :
    Calls Tryd.prog 11 #[ptr p, .int .i64 d, .int .i64 s] x.val fun e w' => e = .returned (.int .i64 (addCode A d s)) ∧ ∃ y : Wd E (At p (addNext A d s) :: L), w' = y.val := by
  by_cases hbad : d < 0 ∨ s < 0 ∨ 4096 < s
  · have e1 : addCode A d s = 1 := by unfold addCode; rw [if_pos hbad]
    have e2 : addNext A d s = A := by unfold addNext; rw [if_neg (by rw [e1]; decide)]
    rw [e1, e2]
    by_cases h1 : d < 0
    · clear hbad
      go_enter Tryd.func11, Tryd.ntmps11
      go_wp2
      go_ret
      exact ⟨rfl, x, rfl⟩
    · by_cases h2 : s < 0
      · clear hbad
        go_enter Tryd.func11, Tryd.ntmps11
        go_wp2
        go_ret
        exact ⟨rfl, x, rfl⟩
      · have h3 : 4096 < s := by omega
        clear hbad
        go_enter Tryd.func11, Tryd.ntmps11
        go_wp2
        go_ret
        exact ⟨rfl, x, rfl⟩
  · have h1 : ¬ d < 0 := fun h => hbad (.inl h)
    have h2 : ¬ s < 0 := fun h => hbad (.inr (.inl h))
    have h3 : ¬ 4096 < s := fun h => hbad (.inr (.inr h))
    obtain ⟨m, R, rfl, y, hy⟩ := At.op x
    rw [hy]
    obtain ⟨es, clock, hR, z, hz⟩ := MapIs.op y
    rw [hz]
    have hl := look (m := m) hR d
    clear hy hz
    cases hf : R.find? fun x => decide (x.1 = d) with
    | some r =>
      have e1 : addCode (abs R) d s = 9 := by unfold addCode; rw [if_neg hbad, get_abs, hf]; rfl
      have e2 : addNext (abs R) d s = abs R := by unfold addNext; rw [if_neg (by rw [e1]; decide)]
      rw [e1, e2]
      rw [hf] at hl
      simp only [Option.map_some, Option.getD_some] at hl
      clear hbad hf
      go_enter Tryd.func11, Tryd.ntmps11
      go_wp2
      go_ret
      exact ⟨rfl, shut hR z⟩
    | none =>
      have e1 : addCode (abs R) d s = 0 := by unfold addCode; rw [if_neg hbad, get_abs, hf]; rfl
      have e2 : addNext (abs R) d s = abs R ++ [(d, List.replicate (count s) false)] := by unfold addNext; rw [if_pos e1]
      have hc : count s ≤ 65536 := by unfold count; split <;> omega
      rw [e1, e2]
      rw [hf] at hl
      simp only [Option.map_none, Option.getD_none] at hl
      have HF := Lib.hid hf
      have hu := store1 (m := m) hR d
      clear hbad hf e1 e2
      go_enter Tryd.func11, Tryd.ntmps11
      go_wp2_with fail
      have ne : Nonempty (Wd E (pt m (.map es clock) :: head p m :: bits R :: L)) := ⟨z⟩
      refine wp_region_wd_mix z (fun w' => ∃ y : Wd E (pt m (.map es clock) :: head p m :: bits R :: L), w' = y.val) 8 [(0, true), (1, true), (2, true), (3, true), (4, true), (5, true), (6, false), (7, false)] (by kernel_rfl) (by kernel_rfl)
        (fun c a d v w h => by cases d <;> exact h) ⟨z.drew, rfl⟩ ?_
      refine mix_reads [0, 1, 2, 3, 4, 5] (by kernel_rfl) ?_
      simp only [pick, List.getD_cons_zero, List.getD_cons_succ]
      repeat (go_big_quiet_step (fail))
      refine wpQuiet_nil ?_
      refine mix_step rfl ?_
      go_wp2_with fail
      refine (count_calls z.drew s hs0 hs1).mono ?_; rintro e w' ⟨rfl, y, rfl⟩
      go_wp2_with fail
      refine ⟨⟨y, rfl⟩, mix_step rfl ?_⟩
      go_wp2_with fail
      refine (Bits.new_calls y _ hc).mono ?_; rintro e w' ⟨nb, rfl, y2, rfl⟩
      go_wp2_with fail
      refine ⟨⟨y2.drop, rfl⟩, ?_⟩
      unfold wpMix
      go_wp2_with fail
      go_ret
      have hR2 := hR.put d (ptr nb)
      rw [pairs_none HF.out nb (List.replicate (count s) false)] at hR2
      obtain ⟨z2, hz2⟩ := bits_snoc (r := (d, nb, List.replicate (count s) false)) (y2.put1 (.map (putEs encI es clock (pairs R) d (ptr nb)) (putClock clock (pairs R) d)))
      obtain ⟨z3, hz3⟩ := shut hR2 z2
      exact ⟨rfl, z3.cast (by simp [abs]), hz2.trans hz3⟩

/-! ### A member's places -/
theorem find_split {R : List Mem} {d : Int} {r : Mem} (h : (R.find? fun x => decide (x.1 = d)) = some r) : r.1 = d ∧ ∃ R1 R2, R = R1 ++ r :: R2 ∧ ∀ x ∈ R1, x.1 ≠ d := by
  rw [List.find?_eq_some_iff_append] at h
  obtain ⟨h1, R1, R2, h2, h3⟩ := h
  exact ⟨by simpa using h1, R1, R2, h2, fun x hx => by simpa using h3 x hx⟩
theorem bits_out {E : World} {L : List HProp} {R1 R2 : List Mem} {r : Mem} (y : Wd E (bits (R1 ++ r :: R2) :: L)) : ∃ z : Wd E (pt r.2.1 (obj r.2.2) :: bits (R1 ++ R2) :: L), y.val = z.val := by
  have h1 := y.sat.stars
  simp only [List.map_append, List.map_cons, List.append_assoc, List.cons_append] at h1
  have h2 := h1.perm List.perm_middle
  have h3 : Sat E (((R1 ++ R2).map fun x => pt x.2.1 (obj x.2.2)) ++ (pt r.2.1 (obj r.2.2) :: L)) y.val := h2.perm (by
    simp only [List.map_append, List.append_assoc]
    rw [← List.append_assoc, ← List.append_assoc]
    exact List.perm_middle.symm)
  exact ⟨Wd.up1 ⟨y.val, h3.mkStars⟩, rfl⟩
theorem bits_in {E : World} {L : List HProp} {R1 R2 : List Mem} {r : Mem} (z : Wd E (pt r.2.1 (obj r.2.2) :: bits (R1 ++ R2) :: L)) : ∃ y : Wd E (bits (R1 ++ r :: R2) :: L), z.val = y.val := by
  have h1 : Sat E (bits (R1 ++ R2) :: pt r.2.1 (obj r.2.2) :: L) z.val := z.up1.sat
  have h2 := h1.stars
  have h3 : Sat E (((R1 ++ r :: R2).map fun x => pt x.2.1 (obj x.2.2)) ++ L) z.val := h2.perm (by
    simp only [List.map_append, List.map_cons, List.append_assoc, List.cons_append]
    rw [← List.append_assoc]
    refine List.perm_middle.trans ?_
    rw [List.append_assoc]
    exact List.perm_middle.symm)
  exact ⟨⟨z.val, h3.mkStars⟩, rfl⟩
theorem aput_abs {R1 R2 : List Mem} {r : Mem} (h : ∀ x ∈ R1, x.1 ≠ r.1) (l : List Bool) : aput (abs (R1 ++ r :: R2)) r.1 l = abs (R1 ++ (r.1, r.2.1, l) :: R2) := by
  have : aidx (abs (R1 ++ r :: R2)) r.1 = some R1.length := by
    unfold aidx abs
    rw [List.findIdx?_eq_some_iff_getElem]
    refine ⟨by simp, by simp, fun j hj => ?_⟩
    have := h R1[j] (List.getElem_mem hj)
    simpa [List.getElem_append, hj] using this
  unfold aput
  rw [this]
  simp [abs]
theorem pairs_same {R1 R2 : List Mem} {r : Mem} (l : List Bool) : pairs (R1 ++ (r.1, r.2.1, l) :: R2) = pairs (R1 ++ r :: R2) := by simp [pairs]
theorem get_abs_some {R1 R2 : List Mem} {r : Mem} (h : ∀ x ∈ R1, x.1 ≠ r.1) : aget (abs (R1 ++ r :: R2)) r.1 = some r.2.2 := by
  rw [get_abs]
  have : (R1 ++ r :: R2).find? (fun x => decide (x.1 = r.1)) = some r := by
    rw [List.find?_eq_some_iff_append]
    exact ⟨by simp, R1, R2, rfl, fun x hx => by simpa using h x hx⟩
  rw [this]; rfl

/-! ### Take -/
def takeVal (A : List (Int × List Bool)) (d : Int) : Value := match aget A d with
  | none => .tuple #[.agg #[.int .i64 0, .int .i64 0], .int .i64 8]
  | some l => match Bits.least l with
    | none => .tuple #[.agg #[.int .i64 0, .int .i64 0], .int .i64 4]
    | some i => .tuple #[.agg #[.int .i64 d, .int .i64 (114 + (i : Int) * 8)], .int .i64 0]
def takeNext (A : List (Int × List Bool)) (d : Int) : List (Int × List Bool) := match aget A d with
  | none => A
  | some l => match Bits.least l with
    | none => A
    | some i => aput A d (l.set i true)
theorem zero36 (w : World) : (zeroValue 36).run Tryd.prog w = .ok (.agg #[.int .i64 0, .int .i64 0]) w := by kernel_rfl
theorem open_some {E : World} {L : List HProp} {p : Nat} {A : List (Int × List Bool)} {d : Int} {l : List Bool} (x : Wd E (At p A :: L)) (h : aget A d = some l) :
    ∃ m es clock b R1 R2, Reads encI es clock (pairs (R1 ++ (d, b, l) :: R2)) ∧ abs (R1 ++ (d, b, l) :: R2) = A ∧ (∀ x ∈ R1, x.1 ≠ d) ∧
      (∀ w : World, w.heap[m]? = some (.map es clock) → (Instr.lookup 42 (.map (some m)) (.int .i64 d) false).run Tryd.prog w = .ok (ptr b) w) ∧
      ∃ z : Wd E (pt b (obj l) :: bits (R1 ++ R2) :: pt m (.map es clock) :: head p m :: L), x.val = z.val := by
  obtain ⟨m, R, rfl, y, hy⟩ := At.op x
  obtain ⟨es, clock, hR, z, hz⟩ := MapIs.op y
  rw [get_abs] at h
  cases hf : R.find? fun x => decide (x.1 = d) with
  | none => rw [hf] at h; cases h
  | some r =>
    have hl := look (m := m) hR d
    rw [hf] at h hl
    obtain ⟨rfl, R1, R2, rfl, h1⟩ := find_split hf
    obtain ⟨d', b, l'⟩ := r
    have hl' : l' = l := Option.some.inj h
    subst hl'
    obtain ⟨u, hu⟩ := bits_out z.up2
    exact ⟨m, es, clock, b, R1, R2, hR, rfl, h1, hl, u, hy.trans (hz.trans hu)⟩
theorem open_none {E : World} {L : List HProp} {p : Nat} {A : List (Int × List Bool)} {d : Int} (x : Wd E (At p A :: L)) (h : aget A d = none) :
    ∃ m es clock R, Reads encI es clock (pairs R) ∧ abs R = A ∧
      (∀ w : World, w.heap[m]? = some (.map es clock) → (Instr.lookup 42 (.map (some m)) (.int .i64 d) false).run Tryd.prog w = .ok (.pointer none) w) ∧
      ∃ z : Wd E (pt m (.map es clock) :: head p m :: bits R :: L), x.val = z.val := by
  obtain ⟨m, R, rfl, y, hy⟩ := At.op x
  obtain ⟨es, clock, hR, z, hz⟩ := MapIs.op y
  rw [get_abs] at h
  cases hf : R.find? fun x => decide (x.1 = d) with
  | some r => rw [hf] at h; cases h
  | none =>
    have hl := look (m := m) hR d
    rw [hf] at hl
    exact ⟨m, es, clock, R, hR, rfl, hl, z, hy.trans hz⟩
theorem shut_some {E : World} {L : List HProp} {p m b : Nat} {es : Array MapEntry} {clock : Nat} {R1 R2 : List Mem} {A : List (Int × List Bool)} {d : Int} {l : List Bool} (hR : Reads encI es clock (pairs (R1 ++ (d, b, l) :: R2)))
    (hA : abs (R1 ++ (d, b, l) :: R2) = A) (h1 : ∀ x ∈ R1, x.1 ≠ d) (l' : List Bool) (z : Wd E (pt b (obj l') :: bits (R1 ++ R2) :: pt m (.map es clock) :: head p m :: L)) :
    ∃ y : Wd E (At p (aput A d l') :: L), z.val = y.val := by
  obtain ⟨u, hu⟩ := bits_in (r := (d, b, l')) z
  have hR' : Reads encI es clock (pairs (R1 ++ (d, b, l') :: R2)) := by rw [pairs_same (r := (d, b, l)) l']; exact hR
  obtain ⟨v, hv⟩ := shut hR' u.down2
  exact ⟨v.cast (by rw [← hA, aput_abs (r := (d, b, l)) h1 l']), hu.trans hv⟩
theorem shut_same {E : World} {L : List HProp} {p m b : Nat} {es : Array MapEntry} {clock : Nat} {R1 R2 : List Mem} {A : List (Int × List Bool)} {d : Int} {l : List Bool} (hR : Reads encI es clock (pairs (R1 ++ (d, b, l) :: R2)))
    (hA : abs (R1 ++ (d, b, l) :: R2) = A) (z : Wd E (pt b (obj l) :: bits (R1 ++ R2) :: pt m (.map es clock) :: head p m :: L)) :
    ∃ y : Wd E (At p A :: L), z.val = y.val := by
  obtain ⟨u, hu⟩ := bits_in (r := (d, b, l)) z
  obtain ⟨v, hv⟩ := shut hR u.down2
  exact ⟨v.cast (by rw [← hA]), hu.trans hv⟩
theorem aget_mem {A : List (Int × List Bool)} {d : Int} {l : List Bool} (h : aget A d = some l) : (d, l) ∈ A := by
  unfold aget at h
  cases hf : A.find? fun x => decide (x.1 = d) with
  | none => rw [hf] at h; cases h
  | some r =>
    rw [hf] at h
    have h1 := List.mem_of_find?_eq_some hf
    have h2 := List.find?_some hf
    simp at h2 h
    rw [← h2, ← h]
    exact h1

theorem zero36' : (Value.agg #[.int .i64 0, .int .i64 0]).cells = #[.int .i64 0, .int .i64 0] := rfl
set_option maxHeartbeats 800000 in
theorem take_calls {E : World} {L : List HProp} (hT : Bits.Table E) (p : Nat) (A : List (Int × List Bool)) (d : Int) (hA : ∀ x ∈ A, x.2.length ≤ 65536) (x : Wd E (At p A :: L)) :
    Calls Tryd.prog 12 #[ptr p, .int .i64 d] x.val fun e w' => e = .returned (takeVal A d) ∧ ∃ y : Wd E (At p (takeNext A d) :: L), w' = y.val := by
  unfold takeVal takeNext
  cases ha : aget A d with
  | none =>
    obtain ⟨m, es, clock, R, hR, rfl, hl, z, hz⟩ := open_none x ha
    rw [hz]
    clear ha hz
    go_enter Tryd.func12, Tryd.ntmps12
    go_wp2_with ((with_reducible refine galloc 36 ?_); go_must (refine wd_alloc z rfl 36 rfl (.agg #[.int .i64 0, .int .i64 0]) zero36 ?_; intro rb z; simp only [Value.cells] at z))
    refine bodyPost_ret (v := .tuple #[.agg #[.int .i64 0, .int .i64 0], .int .i64 8]) (by simp [results, Tryd.results12, go_sem]) rfl ⟨rfl, ?_⟩
    exact shut hR ((z.set0 0 (.int .i64 0)).set0 1 (.int .i64 0)).drop
  | some l =>
    obtain ⟨m, es, clock, b, R1, R2, hR, hA', h1, hl, z, hz⟩ := open_some x ha
    have hlen : l.length ≤ 65536 := hA _ (aget_mem ha)
    have hc := fun L => Bits.take_calls (E := E) (L := L) hT b l hlen
    rw [hz]
    clear ha hz hA
    dsimp only
    unfold Bits.NextIs Bits.takeLeast at hc
    cases hle : Bits.least l with
    | none =>
      rw [hle] at hc
      have HR := Lib.hid hR; have HA := Lib.hid hA'; have HC := Lib.hid hc
      clear hle hR hA' hc
      go_enter Tryd.func12, Tryd.ntmps12
      go_wp2_with ((with_reducible refine galloc 36 ?_); go_must (refine wd_alloc z rfl 36 rfl (.agg #[.int .i64 0, .int .i64 0]) zero36 ?_; intro rb z; simp only [Value.cells] at z))
      refine (HC.out _ z.up1).mono ?_; rintro e w' ⟨rfl, y, rfl⟩
      go_wp2_with fail
      refine bodyPost_ret (v := .tuple #[.agg #[.int .i64 0, .int .i64 0], .int .i64 4]) (by simp [results, Tryd.results12, go_sem]) rfl ⟨rfl, ?_⟩
      exact shut_same HR.out HA.out ((y.set1 0 (.int .i64 0)).set1 1 (.int .i64 0)).up1.drop
    | some i =>
      rw [hle] at hc
      have hi : (i : Int) ≤ 65536 := by have := (Bits.least_spec hle).1; omega
      have HR := Lib.hid hR; have HA := Lib.hid hA'; have HC := Lib.hid hc
      clear hle hR hA' hc
      go_enter Tryd.func12, Tryd.ntmps12
      go_wp2_with ((with_reducible refine galloc 36 ?_); go_must (refine wd_alloc z rfl 36 rfl (.agg #[.int .i64 0, .int .i64 0]) zero36 ?_; intro rb z; simp only [Value.cells] at z))
      refine (HC.out _ z.up1).mono ?_; rintro e w' ⟨rfl, y, rfl⟩
      go_wp2_with fail
      refine (place_calls y _ (by omega) (by omega)).mono ?_; rintro e w' ⟨rfl, y, rfl⟩
      go_wp2_with fail
      refine bodyPost_ret (v := .tuple #[.agg #[.int .i64 d, .int .i64 (114 + (i : Int) * 8)], .int .i64 0]) (by simp [results, Tryd.results12, go_sem]) rfl ⟨rfl, ?_⟩
      exact shut_some HR.out HA.out h1 _ ((y.set1 0 (.int .i64 d)).set1 1 (.int .i64 (114 + (i : Int) * 8))).up1.drop

/-! ### to: a change of an extent that is one -/
def toCode (code : List Bool → Nat → Int) (A : List (Int × List Bool)) (d s : Int) : Int := match aget A d with
  | none => 8
  | some l => match index s with
    | none => 1
    | some i => if i < l.length then code l i else 1
def toNext (next : List Bool → Nat → List Bool) (A : List (Int × List Bool)) (d s : Int) : List (Int × List Bool) := match aget A d with
  | none => A
  | some l => match index s with
    | none => A
    | some i => if i < l.length then aput A d (next l i) else A
/-- What a change does to a member's places. -/
def Change (E : World) (f : FuncId) (code : List Bool → Nat → Int) (next : List Bool → Nat → List Bool) : Prop :=
  ∀ (L : List HProp) (b : Nat) (l : List Bool) (i : Nat), l.length ≤ 65536 → i < l.length → ∀ y : Wd E (pt b (obj l) :: L),
    Calls Tryd.prog f #[ptr b, .int .i64 (i : Int)] y.val fun e w' => e = .returned (.int .i64 (code l i)) ∧ ∃ z : Wd E (pt b (obj (next l i)) :: L), w' = z.val
theorem index_nat {s : Int} {i : Nat} (h : index s = some i) : (i : Int) = (s - 114) / 8 ∧ ¬ s < 114 := by
  unfold index at h
  split at h
  · cases h
  · split at h
    · have := Option.some.inj h; omega
    · cases h
set_option maxHeartbeats 800000 in
theorem to_calls {E : World} {L : List HProp} (p : Nat) (A : List (Int × List Bool)) (d s : Int) (f : FuncId) (code : List Bool → Nat → Int) (next : List Bool → Nat → List Bool) (hF : Change E f code next)
    (ef : ∀ args w, (callFunc f args).run Tryd.prog w = .ok (.enter f args) w)
    (hs0 : -9223372036854775808 ≤ s) (hs1 : s ≤ 9223372036854775807) (hA : ∀ x ∈ A, x.2.length ≤ 65536) (x : Wd E (At p A :: L)) :
    Calls Tryd.prog 35 #[ptr p, .agg #[.int .i64 d, .int .i64 s], .agg #[.func (.func f) #[] #[]]] x.val fun e w' => e = .returned (.int .i64 (toCode code A d s)) ∧ ∃ y : Wd E (At p (toNext next A d s) :: L), w' = y.val := by
  unfold toCode toNext
  cases ha : aget A d with
  | none =>
    obtain ⟨m, es, clock, R, hR, rfl, hl, z, hz⟩ := open_none x ha
    rw [hz]
    clear ha hz
    have HR := Lib.hid hR; have HF := Lib.hid hF
    clear hR hA hF
    go_enter Tryd.func35, Tryd.ntmps35
    go_wp2_with (first
      | ((with_reducible refine gbox 36 ?_); go_must (refine wd_box z rfl 36 _ rfl #[.int .i64 d, .int .i64 s] rfl ?_; intro b1 z))
      | ((with_reducible refine gbox 67 ?_); go_must (refine wd_box z rfl 67 _ rfl #[.func (.func f) #[] #[]] rfl ?_; intro b2 z)))
    refine wp_region_wd z (by kernel_rfl) (by kernel_rfl) ?_
    have ne : Nonempty (Wd E (pt b2 (.cells #[.func (.func f) #[] #[]] 67) :: pt b1 (.cells #[.int .i64 d, .int .i64 s] 36) :: pt m (.map es clock) :: head p m :: bits R :: L)) := ⟨z⟩
    repeat (go_big_quiet_step (fail))
    refine wpQuiet_nil ?_
    intro z
    go_wp2_with fail
    go_ret
    exact ⟨rfl, shut HR.out z.drop.drop⟩
  | some l =>
    obtain ⟨m, es, clock, b, R1, R2, hR, hA', h1, hl, z, hz⟩ := open_some x ha
    have hlen : l.length ≤ 65536 := hA _ (aget_mem ha)
    have hc := hF
    rw [hz]
    clear ha hz hA hF
    dsimp only
    have HR := Lib.hid hR; have HA := Lib.hid hA'; have HC := Lib.hid hc
    clear hR hA' hc
    cases hi : index s with
    | none =>
      dsimp only
      have hx := fun L x => index_calls (E := E) (L := L) x s hs0 hs1
      rw [hi] at hx
      clear hi
      go_enter Tryd.func35, Tryd.ntmps35
      go_wp2_with (first
        | ((with_reducible refine gbox 36 ?_); go_must (refine wd_box z rfl 36 _ rfl #[.int .i64 d, .int .i64 s] rfl ?_; intro b1 z))
        | ((with_reducible refine gbox 67 ?_); go_must (refine wd_box z rfl 67 _ rfl #[.func (.func f) #[] #[]] rfl ?_; intro b2 z)))
      refine wp_region_wd z (by kernel_rfl) (by kernel_rfl) ?_
      have ne : Nonempty (Wd E (pt b2 (.cells #[.func (.func f) #[] #[]] 67) :: pt b1 (.cells #[.int .i64 d, .int .i64 s] 36) :: pt b (obj l) :: bits (R1 ++ R2) :: pt m (.map es clock) :: head p m :: L)) := ⟨z⟩
      repeat (go_big_quiet_step (fail))
      refine wpQuiet_nil ?_
      intro z
      go_wp2_with fail
      refine (hx _ z).mono ?_; rintro e w' ⟨rfl, y, rfl⟩
      unfold idxVal
      go_wp2_with fail
      go_ret
      exact ⟨rfl, shut_same HR.out HA.out y.drop.drop⟩
    | some i =>
      dsimp only
      obtain ⟨hi1, hi2⟩ := index_nat hi
      have hx := fun L x => index_calls (E := E) (L := L) x s hs0 hs1
      rw [hi] at hx
      clear hi
      have hib : (i : Int) ≤ 1152921504606846976 := by omega
      have HI := Lib.hid hi1; clear hi1
      by_cases hlt : i < l.length
      · rw [if_pos hlt, if_pos hlt]
        have hge : decide ((l.length : Int) ≤ (i : Int)) = false := by simp; omega
        go_enter Tryd.func35, Tryd.ntmps35
        go_wp2_with (first
          | ((with_reducible refine gbox 36 ?_); go_must (refine wd_box z rfl 36 _ rfl #[.int .i64 d, .int .i64 s] rfl ?_; intro b1 z))
          | ((with_reducible refine gbox 67 ?_); go_must (refine wd_box z rfl 67 _ rfl #[.func (.func f) #[] #[]] rfl ?_; intro b2 z)))
        refine wp_region_wd z (by kernel_rfl) (by kernel_rfl) ?_
        have ne : Nonempty (Wd E (pt b2 (.cells #[.func (.func f) #[] #[]] 67) :: pt b1 (.cells #[.int .i64 d, .int .i64 s] 36) :: pt b (obj l) :: bits (R1 ++ R2) :: pt m (.map es clock) :: head p m :: L)) := ⟨z⟩
        repeat (go_big_quiet_step (fail))
        refine wpQuiet_nil ?_
        intro z
        go_wp2_with fail
        refine (hx _ z).mono ?_; rintro e w' ⟨rfl, y, rfl⟩
        unfold idxVal
        go_wp2_with fail
        refine (Bits.len_calls y b l (fun y => Wd.heap2 y)).mono ?_; rintro e w' ⟨rfl, y, rfl⟩
        go_wp2_with fail
        refine (HC.out _ b l i hlen hlt y.up2).mono ?_; rintro e w' ⟨rfl, y, rfl⟩
        go_wp2_with fail
        go_ret
        exact ⟨rfl, shut_some HR.out HA.out h1 _ y.up1.drop.up1.drop⟩
      · rw [if_neg hlt, if_neg hlt]
        have hge : decide ((l.length : Int) ≤ (i : Int)) = true := by simp; omega
        go_enter Tryd.func35, Tryd.ntmps35
        go_wp2_with (first
          | ((with_reducible refine gbox 36 ?_); go_must (refine wd_box z rfl 36 _ rfl #[.int .i64 d, .int .i64 s] rfl ?_; intro b1 z))
          | ((with_reducible refine gbox 67 ?_); go_must (refine wd_box z rfl 67 _ rfl #[.func (.func f) #[] #[]] rfl ?_; intro b2 z)))
        refine wp_region_wd z (by kernel_rfl) (by kernel_rfl) ?_
        have ne : Nonempty (Wd E (pt b2 (.cells #[.func (.func f) #[] #[]] 67) :: pt b1 (.cells #[.int .i64 d, .int .i64 s] 36) :: pt b (obj l) :: bits (R1 ++ R2) :: pt m (.map es clock) :: head p m :: L)) := ⟨z⟩
        repeat (go_big_quiet_step (fail))
        refine wpQuiet_nil ?_
        intro z
        go_wp2_with fail
        refine (hx _ z).mono ?_; rintro e w' ⟨rfl, y, rfl⟩
        unfold idxVal
        go_wp2_with fail
        refine (Bits.len_calls y b l (fun y => Wd.heap2 y)).mono ?_; rintro e w' ⟨rfl, y, rfl⟩
        go_wp2_with fail
        go_ret
        exact ⟨rfl, shut_same HR.out HA.out y.drop.drop⟩

end Go.Proofs.YticilcmplgimpaaDoor.Ext
