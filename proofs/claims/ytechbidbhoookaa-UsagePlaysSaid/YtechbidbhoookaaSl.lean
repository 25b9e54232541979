/- The separation layer: HProp, Sat, Wd (worlds indexed by the list of what they own beyond a base world), and its rules for the walk. -/
import Derived.WalkKit
import Derived.WalkSpells
import Derived.WalkLawsBesides
import Derived.Deep.QuietTactic
import Derived.BigQuiet
import Derived.Laws.EntriesVeiled
import Derived.Lib.Hide
import Derived.Deep.DeepMust
namespace Go.Proofs.Ytechbidbhoookaa.Sl
open Go Go.RowKit

abbrev Hp := Nat → Option Obj
abbrev HProp := Hp → Prop
def emp : HProp := fun h => ∀ b, h b = none
def pt (b : Nat) (o : Obj) : HProp := fun h => ∀ b', h b' = if b' = b then some o else none
def star (A B : HProp) : HProp := fun h => ∃ h1 h2 : Hp, (∀ b, h1 b = none ∨ h2 b = none) ∧ (∀ b, h b = (h1 b).or (h2 b)) ∧ A h1 ∧ B h2
def stars : List HProp → HProp
  | [] => emp
  | A :: L => star A (stars L)
def ex {α : Sort _} (A : α → HProp) : HProp := fun h => ∃ x, A x h
def fact (p : Prop) : HProp := fun h => p ∧ emp h

theorem star_comm {A B : HProp} {h : Hp} (H : star A B h) : star B A h := by
  obtain ⟨h1, h2, hd, hu, ha, hb⟩ := H
  refine ⟨h2, h1, fun b => (hd b).symm, fun b => ?_, hb, ha⟩
  rw [hu b]
  rcases hd b with e | e <;> rw [e] <;> simp
theorem star_assoc {A B C : HProp} {h : Hp} (H : star (star A B) C h) : star A (star B C) h := by
  obtain ⟨h12, h3, hd, hu, ⟨h1, h2, hd', hu', ha, hb⟩, hc⟩ := H
  refine ⟨h1, fun b => (h2 b).or (h3 b), fun b => ?_, fun b => ?_, ha, h2, h3, fun b => ?_, fun _ => rfl, hb, hc⟩
  · rcases hd' b with e | e
    · exact .inl e
    · rcases hd b with f | f
      · rw [hu' b] at f
        left
        cases h : h1 b
        · rfl
        · rw [h] at f; simp at f
      · right; show (h2 b).or (h3 b) = none; rw [e, f]; rfl
  · rw [hu b, hu' b, Option.or_assoc]
  · rcases hd b with f | f
    · rw [hu' b] at f
      left
      cases h : h2 b
      · rfl
      · rw [h] at f; cases h' : h1 b <;> rw [h'] at f <;> simp at f
    · exact .inr f
theorem star_assoc' {A B C : HProp} {h : Hp} (H : star A (star B C) h) : star (star A B) C h := by
  have h1 := star_comm H
  have h2 : star B (star C A) h := star_assoc h1
  have h3 := star_comm h2
  have h4 : star C (star A B) h := star_assoc h3
  exact star_comm h4
theorem star_mono {A A' B B' : HProp} {h : Hp} (ha : ∀ h, A h → A' h) (hb : ∀ h, B h → B' h) (H : star A B h) : star A' B' h := by
  obtain ⟨h1, h2, hd, hu, x, y⟩ := H
  exact ⟨h1, h2, hd, hu, ha _ x, hb _ y⟩
theorem emp_star {A : HProp} {h : Hp} (H : star emp A h) : A h := by
  obtain ⟨h1, h2, hd, hu, x, y⟩ := H
  have : h = h2 := by
    funext b; rw [hu b, x b]; rfl
  rw [this]; exact y
theorem star_emp {A : HProp} {h : Hp} (H : A h) : star emp A h :=
  ⟨fun _ => none, h, fun _ => .inl rfl, fun _ => rfl, fun _ => rfl, H⟩
theorem stars_append {L M : List HProp} {h : Hp} : stars (L ++ M) h ↔ star (stars L) (stars M) h := by
  induction L generalizing h with
  | nil => exact ⟨star_emp, emp_star⟩
  | cons A L ih =>
    constructor
    · intro H
      exact star_assoc' (star_mono (fun _ x => x) (fun _ => ih.1) H)
    · intro H
      exact star_mono (fun _ x => x) (fun _ => ih.2) (star_assoc H)
theorem stars_swap {A B : HProp} {L : List HProp} {h : Hp} (H : stars (A :: B :: L) h) : stars (B :: A :: L) h := by
  have h1 : star A (star B (stars L)) h := H
  have h2 : star (star B A) (stars L) h := star_mono (fun _ => star_comm) (fun _ x => x) (star_assoc' h1)
  exact star_assoc h2
theorem stars_perm {L M : List HProp} (p : L.Perm M) : ∀ {h : Hp}, stars L h → stars M h := by
  induction p with
  | nil => exact fun H => H
  | cons A _ ih => exact fun H => star_mono (fun _ x => x) (fun _ => ih) H
  | swap A B L => exact fun H => stars_swap H
  | trans _ _ ih1 ih2 => exact fun H => ih2 (ih1 H)

/-- What lies beyond the base world E: the list L; all that lay in E is as it was. -/
structure Sat (E : World) (L : List HProp) (w : World) : Prop where
  below : Below E.heap.size E w
  own : ∃ h, stars L h ∧ ∀ b o, h b = some o → E.heap.size ≤ b ∧ w.heap[b]? = some o

theorem Sat.perm {E : World} {L M : List HProp} {w : World} (H : Sat E L w) (p : L.Perm M) : Sat E M w :=
  ⟨H.below, let ⟨h, x, y⟩ := H.own; ⟨h, stars_perm p x, y⟩⟩
theorem Sat.imp {E : World} {L M : List HProp} {w : World} (H : Sat E L w) (p : ∀ h, stars L h → stars M h) : Sat E M w :=
  ⟨H.below, let ⟨h, x, y⟩ := H.own; ⟨h, p _ x, y⟩⟩
theorem Sat.drop {E : World} {A : HProp} {L : List HProp} {w : World} (H : Sat E (A :: L) w) : Sat E L w := by
  obtain ⟨hb, h, ⟨h1, h2, hd, hu, x, y⟩, hw⟩ := H
  refine ⟨hb, h2, y, fun b o e => hw b o ?_⟩
  rw [hu b]
  rcases hd b with f | f
  · rw [f, e]; rfl
  · rw [e] at f; cases f
theorem Sat.drops {E : World} {M L : List HProp} {w : World} (H : Sat E (M ++ L) w) : Sat E L w := by
  induction M with
  | nil => exact H
  | cons A M ih => exact ih H.drop
theorem Sat.ex {E : World} {α : Sort _} {A : α → HProp} {L : List HProp} {w : World} (H : Sat E (ex A :: L) w) : ∃ x, Sat E (A x :: L) w := by
  obtain ⟨hb, h, ⟨h1, h2, hd, hu, ⟨x, hx⟩, y⟩, hw⟩ := H
  exact ⟨x, hb, h, ⟨h1, h2, hd, hu, hx, y⟩, hw⟩
theorem Sat.mkEx {E : World} {α : Sort _} {A : α → HProp} {L : List HProp} {w : World} (x : α) (H : Sat E (A x :: L) w) : Sat E (Sl.ex A :: L) w :=
  H.imp fun _ => star_mono (fun _ y => ⟨x, y⟩) (fun _ y => y)
theorem Sat.fact {E : World} {p : Prop} {L : List HProp} {w : World} (H : Sat E (fact p :: L) w) : p ∧ Sat E L w := by
  obtain ⟨hb, h, ⟨h1, h2, hd, hu, ⟨hp, he⟩, y⟩, hw⟩ := H
  refine ⟨hp, hb, h, emp_star ⟨h1, h2, hd, hu, he, y⟩, hw⟩
theorem Sat.mkFact {E : World} {p : Prop} {L : List HProp} {w : World} (hp : p) (H : Sat E L w) : Sat E (Sl.fact p :: L) w :=
  H.imp fun _ x => star_mono (fun _ y => ⟨hp, y⟩) (fun _ y => y) (star_emp x)
theorem Sat.stars {E : World} {M L : List HProp} {w : World} (H : Sat E (stars M :: L) w) : Sat E (M ++ L) w :=
  H.imp fun _ x => stars_append.2 x
theorem Sat.mkStars {E : World} {M L : List HProp} {w : World} (H : Sat E (M ++ L) w) : Sat E (Sl.stars M :: L) w :=
  H.imp fun _ x => stars_append.1 x
theorem Sat.head {E : World} {b : Nat} {o : Obj} {L : List HProp} {w : World} (H : Sat E (pt b o :: L) w) : E.heap.size ≤ b ∧ w.heap[b]? = some o := by
  obtain ⟨hb, h, ⟨h1, h2, hd, hu, x, y⟩, hw⟩ := H
  refine hw b o ?_
  rw [hu b, x b]; simp
theorem Sat.get {E : World} {b : Nat} {o : Obj} {L : List HProp} {w : World} (H : Sat E L w) (i : Nat) (hi : L[i]? = some (pt b o)) : E.heap.size ≤ b ∧ w.heap[b]? = some o := by
  have hlt : i < L.length := by
    by_cases h : i < L.length
    · exact h
    · rw [List.getElem?_eq_none (by omega)] at hi; cases hi
  have he : L = L.take i ++ (pt b o :: L.drop (i + 1)) := by
    rw [List.getElem?_eq_getElem hlt] at hi
    have := Option.some.inj hi
    rw [← this, List.getElem_cons_drop, List.take_append_drop]
  rw [he] at H
  exact (H.perm (List.perm_middle)).head
theorem Sat.ne {E : World} {b b' : Nat} {o o' : Obj} {L : List HProp} {w : World} (H : Sat E (pt b o :: pt b' o' :: L) w) : b ≠ b' := by
  intro hbb
  obtain ⟨hb, h, ⟨h1, h2, hd, hu, x, ⟨h3, h4, hd', hu', x', y⟩⟩, hw⟩ := H
  have e1 : h1 b ≠ none := by rw [x b]; simp
  have e3 : h3 b' ≠ none := by rw [x' b']; simp
  have e2 : h2 b ≠ none := by
    rw [hbb, hu' b']
    cases e : h3 b'
    · exact absurd e e3
    · simp
  rcases hd b with f | f
  · exact e1 f
  · exact e2 f
/-- The world's other parts do not matter. -/
theorem Sat.same {E : World} {L : List HProp} {w w' : World} (H : Sat E L w) (h1 : w'.heap = w.heap) (h2 : w'.os = w.os) (h3 : w'.tape = w.tape) (h4 : w'.output = w.output) : Sat E L w' := by
  obtain ⟨hb, h, x, y⟩ := H
  refine ⟨⟨h2.trans hb.os, h3.trans hb.tape, h4.trans hb.output, by rw [h1]; exact hb.size, fun k hk => by rw [h1]; exact hb.block k hk⟩, h, x, fun b o e => by rw [h1]; exact y b o e⟩
theorem Sat.drew {E : World} {L : List HProp} {w : World} (H : Sat E L w) : Sat E L w.drew := H.same rfl rfl rfl rfl
theorem Sat.new {E : World} {L : List HProp} {w : World} (H : Sat E L w) (o : Obj) : Sat E (pt w.heap.size o :: L) (w.alloc o) := by
  obtain ⟨hb, h, x, y⟩ := H
  refine ⟨hb.alloc hb.size o, fun b => if b = w.heap.size then some o else h b, ?_, ?_⟩
  · refine ⟨fun b => if b = w.heap.size then some o else none, h, fun b => ?_, fun b => ?_, fun _ => rfl, x⟩
    · by_cases e : b = w.heap.size
      · right
        cases e' : h b
        · rfl
        · have := (y b _ e').2
          rw [e, Array.getElem?_eq_none (by omega)] at this; cases this
      · left; simp [e]
    · by_cases e : b = w.heap.size
      · simp [e]
      · simp [e]
  · intro b o' e
    simp only [World.alloc]
    by_cases e' : b = w.heap.size
    · simp [e'] at e
      rw [← e, e']
      exact ⟨hb.size, by simp⟩
    · simp [e'] at e
      have h2 := y b o' e
      refine ⟨h2.1, ?_⟩
      rw [Array.getElem?_push, if_neg e']
      exact h2.2
/-- One block is put anew. -/
theorem Sat.put {E : World} {b : Nat} {o : Obj} {L : List HProp} {w w' : World} (H : Sat E (pt b o :: L) w) (o' : Obj)
    (h1 : w'.heap = w.heap.setIfInBounds b o') (h2 : w'.os = w.os) (h3 : w'.tape = w.tape) (h4 : w'.output = w.output) : Sat E (pt b o' :: L) w' := by
  have hhead := H.head
  obtain ⟨hb, h, ⟨h3', h4', hd, hu, x, y⟩, hw⟩ := H
  have hlt : b < w.heap.size := by
    by_cases h : b < w.heap.size
    · exact h
    · rw [Array.getElem?_eq_none (by omega)] at hhead; cases hhead.2
  refine ⟨⟨h2.trans hb.os, h3.trans hb.tape, h4.trans hb.output, by rw [h1]; simpa using hb.size, fun k hk => ?_⟩,
    fun b' => if b' = b then some o' else h4' b', ⟨fun b' => if b' = b then some o' else none, h4', fun b' => ?_, fun b' => ?_, fun _ => rfl, y⟩, ?_⟩
  · rw [h1, Array.getElem?_setIfInBounds, if_neg (by omega)]
    exact hb.block k hk
  · by_cases e : b' = b
    · right
      rcases hd b' with f | f
      · rw [x b', if_pos e] at f; cases f
      · exact f
    · left; simp [e]
  · by_cases e : b' = b
    · simp [e]
    · simp [e]
  · intro b' o'' e
    by_cases e' : b' = b
    · simp [e'] at e
      subst e
      rw [e', h1, Array.getElem?_setIfInBounds]
      exact ⟨hhead.1, by simp [hlt]⟩
    · simp [e'] at e
      have : h b' = some o'' := by rw [hu b', x b', if_neg e', e]; rfl
      have h5 := hw b' o'' this
      refine ⟨h5.1, ?_⟩
      rw [h1, Array.getElem?_setIfInBounds, if_neg (fun e => e' e.symm)]
      exact h5.2
theorem Sat.setCell {E : World} {b off : Nat} {c : Array Value} {T : TypeId} {fz : Nat × Nat} {L : List HProp} {w : World} (H : Sat E (pt b (.cells c T fz) :: L) w) (v : Value) :
    Sat E (pt b (.cells (c.setIfInBounds off v) T fz) :: L) (w.setCell ⟨b, off, none⟩ v) := by
  have h := H.head.2
  refine H.put _ ?_ rfl rfl rfl
  apply Array.ext_getElem?
  intro i
  simp only [World.setCell, Array.getElem?_modify, Array.getElem?_setIfInBounds]
  by_cases e : b = i
  · subst e
    have hlt : b < w.heap.size := by
      by_cases h' : b < w.heap.size
      · exact h'
      · rw [Array.getElem?_eq_none (by omega)] at h; cases h
    rw [h]; simp [hlt]
  · simp [e]
theorem Sat.base {E : World} {L : List HProp} {w : World} (H : Sat E L w) {b : Nat} (h : b < E.heap.size) : w.heap[b]? = E.heap[b]? := H.below.block b h

/-- One block put anew. -/
def putObj (w : World) (b : Nat) (o : Obj) : World := { w with heap := w.heap.setIfInBounds b o }
/-- A world that has what L says beyond E. -/
structure Wd (E : World) (L : List HProp) where
  val : World
  sat : Sat E L val
namespace Wd
variable {E : World} {L : List HProp}
def perm (x : Wd E L) (M : List HProp) (p : L.Perm M) : Wd E M := ⟨x.val, x.sat.perm p⟩
def cast {M : List HProp} (x : Wd E L) (h : L = M) : Wd E M := ⟨x.val, h ▸ x.sat⟩
theorem back {M : List HProp} {x : Wd E L} (h : L = M) : ∃ y : Wd E M, x.val = y.val := ⟨x.cast h, rfl⟩
def drop {A : HProp} (x : Wd E (A :: L)) : Wd E L := ⟨x.val, x.sat.drop⟩
def drew (x : Wd E L) : Wd E L := ⟨x.val.drew, x.sat.drew⟩
def drewN (x : Wd E L) (n : Nat) : Wd E L := ⟨x.val.drewN n, x.sat.same rfl rfl rfl rfl⟩
def new (x : Wd E L) (o : Obj) : Wd E (pt x.val.heap.size o :: L) := ⟨x.val.alloc o, x.sat.new o⟩
def newAt (x : Wd E L) (o : Obj) (b : Nat) (h : x.val.heap.size = b) : Wd E (pt b o :: L) := ⟨x.val.alloc o, h ▸ x.sat.new o⟩
theorem drew_val (x : Wd E L) : x.val.drew = x.drew.val := rfl
@[go_sem] theorem drewN_val (x : Wd E L) (n : Nat) : x.val.drewN n = (x.drewN n).val := rfl
theorem drawn_val (x : Wd E L) : { x.val with drawn := x.val.drawn + 1 } = x.drew.val := rfl
theorem new_val (x : Wd E L) (o : Obj) : x.val.alloc o = (x.new o).val := rfl
@[go_sem] theorem size_new (x : Wd E L) (o : Obj) : (x.new o).val.heap.size = x.val.heap.size + 1 := World.size_alloc _ _
@[go_sem] theorem size_drew (x : Wd E L) : x.drew.val.heap.size = x.val.heap.size := rfl
@[go_sem] theorem base_heap (x : Wd E L) (b : Nat) (h : b < E.heap.size) : x.val.heap[b]? = E.heap[b]? := x.sat.base h
@[go_sem] theorem base_cell (x : Wd E L) (b off : Nat) (s : Option Nat) (h : b < E.heap.size) : x.val.cell? ⟨b, off, s⟩ = E.cell? ⟨b, off, s⟩ := World.cell?_of_block (w := E) (x.sat.base h)
@[go_sem] theorem base_frozen (x : Wd E L) (b off : Nat) (s : Option Nat) (h : b < E.heap.size) : x.val.frozen? ⟨b, off, s⟩ = E.frozen? ⟨b, off, s⟩ := World.frozen?_of_block (w := E) (x.sat.base h)
theorem get (x : Wd E L) {b : Nat} {o : Obj} (i : Nat) (hi : L[i]? = some (pt b o)) : x.val.heap[b]? = some o := (x.sat.get i hi).2
theorem cell_of {w : World} {b : Nat} {c : Array Value} {T : TypeId} {fz : Nat × Nat} (h : w.heap[b]? = some (.cells c T fz)) (off : Nat) : w.cell? ⟨b, off, none⟩ = c[off]? := by
  simp [World.cell?, h]
theorem frozen_of {w : World} {b : Nat} {c : Array Value} {T : TypeId} (h : w.heap[b]? = some (.cells c T (0, 0))) (off : Nat) (s : Option Nat) : w.frozen? ⟨b, off, s⟩ = false := by
  simp [World.frozen?, h]
theorem shape_of {w : World} {b : Nat} {c : Array Value} {T : TypeId} {fz : Nat × Nat} (h : w.heap[b]? = some (.cells c T fz)) : w.shape? b = some (T, c.size) := by
  simp [World.shape?, h]

@[go_sem] theorem heap0 {b : Nat} {o : Obj} (x : Wd E (pt b o :: L)) : x.val.heap[b]? = some o := x.get 0 rfl
@[go_sem] theorem cell0 {b : Nat} {c : Array Value} {T : TypeId} {fz : Nat × Nat} (x : Wd E (pt b (.cells c T fz) :: L)) (off : Nat) : x.val.cell? ⟨b, off, none⟩ = c[off]? := cell_of (x.get 0 rfl) off
@[go_sem] theorem frozen0 {b : Nat} {c : Array Value} {T : TypeId} (x : Wd E (pt b (.cells c T (0, 0)) :: L)) (off : Nat) (s : Option Nat) : x.val.frozen? ⟨b, off, s⟩ = false := frozen_of (x.get 0 rfl) off s
@[go_sem] theorem shape0 {b : Nat} {c : Array Value} {T : TypeId} {fz : Nat × Nat} (x : Wd E (pt b (.cells c T fz) :: L)) : x.val.shape? b = some (T, c.size) := shape_of (x.get 0 rfl)
def put0 {b : Nat} {o : Obj} (x : Wd E (pt b o :: L)) (o' : Obj) : Wd E (pt b o' :: L) :=
  ⟨{ x.val with heap := x.val.heap.setIfInBounds b o' }, ((x.sat.perm (by exact List.Perm.refl _)).put (w' := { x.val with heap := x.val.heap.setIfInBounds b o' }) o' rfl rfl rfl rfl).perm (by exact List.Perm.refl _)⟩
@[go_sem] theorem put0_val {b : Nat} {o : Obj} (x : Wd E (pt b o :: L)) (o' : Obj) : putObj x.val b o' = (x.put0 o').val := rfl
@[go_sem] theorem put0_size {b : Nat} {o : Obj} (x : Wd E (pt b o :: L)) (o' : Obj) : (x.put0 o').val.heap.size = x.val.heap.size := by simp [put0]
def set0 {b : Nat} {c : Array Value} {T : TypeId} {fz : Nat × Nat} (x : Wd E (pt b (.cells c T fz) :: L)) (off : Nat) (v : Value) : Wd E (pt b (.cells (c.setIfInBounds off v) T fz) :: L) :=
  ⟨x.val.setCell ⟨b, off, none⟩ v, ((x.sat.perm (by exact List.Perm.refl _)).setCell v).perm (by exact List.Perm.refl _)⟩
@[go_sem] theorem set0_val {b : Nat} {c : Array Value} {T : TypeId} {fz : Nat × Nat} (x : Wd E (pt b (.cells c T fz) :: L)) (off : Nat) (v : Value) : x.val.setCell ⟨b, off, none⟩ v = (x.set0 off v).val := rfl
@[go_sem] theorem set0_size {b : Nat} {c : Array Value} {T : TypeId} {fz : Nat × Nat} (x : Wd E (pt b (.cells c T fz) :: L)) (off : Nat) (v : Value) : (x.set0 off v).val.heap.size = x.val.heap.size := by simp [set0, World.setCell]
@[go_sem] theorem heap1 {A0 : HProp} {b : Nat} {o : Obj} (x : Wd E (A0 :: pt b o :: L)) : x.val.heap[b]? = some o := x.get 1 rfl
@[go_sem] theorem cell1 {A0 : HProp} {b : Nat} {c : Array Value} {T : TypeId} {fz : Nat × Nat} (x : Wd E (A0 :: pt b (.cells c T fz) :: L)) (off : Nat) : x.val.cell? ⟨b, off, none⟩ = c[off]? := cell_of (x.get 1 rfl) off
@[go_sem] theorem frozen1 {A0 : HProp} {b : Nat} {c : Array Value} {T : TypeId} (x : Wd E (A0 :: pt b (.cells c T (0, 0)) :: L)) (off : Nat) (s : Option Nat) : x.val.frozen? ⟨b, off, s⟩ = false := frozen_of (x.get 1 rfl) off s
@[go_sem] theorem shape1 {A0 : HProp} {b : Nat} {c : Array Value} {T : TypeId} {fz : Nat × Nat} (x : Wd E (A0 :: pt b (.cells c T fz) :: L)) : x.val.shape? b = some (T, c.size) := shape_of (x.get 1 rfl)
def put1 {A0 : HProp} {b : Nat} {o : Obj} (x : Wd E (A0 :: pt b o :: L)) (o' : Obj) : Wd E (A0 :: pt b o' :: L) :=
  ⟨{ x.val with heap := x.val.heap.setIfInBounds b o' }, ((x.sat.perm (by exact List.perm_middle (l₁ := [A0]))).put (w' := { x.val with heap := x.val.heap.setIfInBounds b o' }) o' rfl rfl rfl rfl).perm (by exact (List.perm_middle (l₁ := [A0])).symm)⟩
@[go_sem] theorem put1_val {A0 : HProp} {b : Nat} {o : Obj} (x : Wd E (A0 :: pt b o :: L)) (o' : Obj) : putObj x.val b o' = (x.put1 o').val := rfl
@[go_sem] theorem put1_size {A0 : HProp} {b : Nat} {o : Obj} (x : Wd E (A0 :: pt b o :: L)) (o' : Obj) : (x.put1 o').val.heap.size = x.val.heap.size := by simp [put1]
def set1 {A0 : HProp} {b : Nat} {c : Array Value} {T : TypeId} {fz : Nat × Nat} (x : Wd E (A0 :: pt b (.cells c T fz) :: L)) (off : Nat) (v : Value) : Wd E (A0 :: pt b (.cells (c.setIfInBounds off v) T fz) :: L) :=
  ⟨x.val.setCell ⟨b, off, none⟩ v, ((x.sat.perm (by exact List.perm_middle (l₁ := [A0]))).setCell v).perm (by exact (List.perm_middle (l₁ := [A0])).symm)⟩
@[go_sem] theorem set1_val {A0 : HProp} {b : Nat} {c : Array Value} {T : TypeId} {fz : Nat × Nat} (x : Wd E (A0 :: pt b (.cells c T fz) :: L)) (off : Nat) (v : Value) : x.val.setCell ⟨b, off, none⟩ v = (x.set1 off v).val := rfl
@[go_sem] theorem set1_size {A0 : HProp} {b : Nat} {c : Array Value} {T : TypeId} {fz : Nat × Nat} (x : Wd E (A0 :: pt b (.cells c T fz) :: L)) (off : Nat) (v : Value) : (x.set1 off v).val.heap.size = x.val.heap.size := by simp [set1, World.setCell]
@[go_sem] theorem heap2 {A0 A1 : HProp} {b : Nat} {o : Obj} (x : Wd E (A0 :: A1 :: pt b o :: L)) : x.val.heap[b]? = some o := x.get 2 rfl
@[go_sem] theorem cell2 {A0 A1 : HProp} {b : Nat} {c : Array Value} {T : TypeId} {fz : Nat × Nat} (x : Wd E (A0 :: A1 :: pt b (.cells c T fz) :: L)) (off : Nat) : x.val.cell? ⟨b, off, none⟩ = c[off]? := cell_of (x.get 2 rfl) off
@[go_sem] theorem frozen2 {A0 A1 : HProp} {b : Nat} {c : Array Value} {T : TypeId} (x : Wd E (A0 :: A1 :: pt b (.cells c T (0, 0)) :: L)) (off : Nat) (s : Option Nat) : x.val.frozen? ⟨b, off, s⟩ = false := frozen_of (x.get 2 rfl) off s
@[go_sem] theorem shape2 {A0 A1 : HProp} {b : Nat} {c : Array Value} {T : TypeId} {fz : Nat × Nat} (x : Wd E (A0 :: A1 :: pt b (.cells c T fz) :: L)) : x.val.shape? b = some (T, c.size) := shape_of (x.get 2 rfl)
def put2 {A0 A1 : HProp} {b : Nat} {o : Obj} (x : Wd E (A0 :: A1 :: pt b o :: L)) (o' : Obj) : Wd E (A0 :: A1 :: pt b o' :: L) :=
  ⟨{ x.val with heap := x.val.heap.setIfInBounds b o' }, ((x.sat.perm (by exact List.perm_middle (l₁ := [A0, A1]))).put (w' := { x.val with heap := x.val.heap.setIfInBounds b o' }) o' rfl rfl rfl rfl).perm (by exact (List.perm_middle (l₁ := [A0, A1])).symm)⟩
@[go_sem] theorem put2_val {A0 A1 : HProp} {b : Nat} {o : Obj} (x : Wd E (A0 :: A1 :: pt b o :: L)) (o' : Obj) : putObj x.val b o' = (x.put2 o').val := rfl
@[go_sem] theorem put2_size {A0 A1 : HProp} {b : Nat} {o : Obj} (x : Wd E (A0 :: A1 :: pt b o :: L)) (o' : Obj) : (x.put2 o').val.heap.size = x.val.heap.size := by simp [put2]
def set2 {A0 A1 : HProp} {b : Nat} {c : Array Value} {T : TypeId} {fz : Nat × Nat} (x : Wd E (A0 :: A1 :: pt b (.cells c T fz) :: L)) (off : Nat) (v : Value) : Wd E (A0 :: A1 :: pt b (.cells (c.setIfInBounds off v) T fz) :: L) :=
  ⟨x.val.setCell ⟨b, off, none⟩ v, ((x.sat.perm (by exact List.perm_middle (l₁ := [A0, A1]))).setCell v).perm (by exact (List.perm_middle (l₁ := [A0, A1])).symm)⟩
@[go_sem] theorem set2_val {A0 A1 : HProp} {b : Nat} {c : Array Value} {T : TypeId} {fz : Nat × Nat} (x : Wd E (A0 :: A1 :: pt b (.cells c T fz) :: L)) (off : Nat) (v : Value) : x.val.setCell ⟨b, off, none⟩ v = (x.set2 off v).val := rfl
@[go_sem] theorem set2_size {A0 A1 : HProp} {b : Nat} {c : Array Value} {T : TypeId} {fz : Nat × Nat} (x : Wd E (A0 :: A1 :: pt b (.cells c T fz) :: L)) (off : Nat) (v : Value) : (x.set2 off v).val.heap.size = x.val.heap.size := by simp [set2, World.setCell]
@[go_sem] theorem heap3 {A0 A1 A2 : HProp} {b : Nat} {o : Obj} (x : Wd E (A0 :: A1 :: A2 :: pt b o :: L)) : x.val.heap[b]? = some o := x.get 3 rfl
@[go_sem] theorem cell3 {A0 A1 A2 : HProp} {b : Nat} {c : Array Value} {T : TypeId} {fz : Nat × Nat} (x : Wd E (A0 :: A1 :: A2 :: pt b (.cells c T fz) :: L)) (off : Nat) : x.val.cell? ⟨b, off, none⟩ = c[off]? := cell_of (x.get 3 rfl) off
@[go_sem] theorem frozen3 {A0 A1 A2 : HProp} {b : Nat} {c : Array Value} {T : TypeId} (x : Wd E (A0 :: A1 :: A2 :: pt b (.cells c T (0, 0)) :: L)) (off : Nat) (s : Option Nat) : x.val.frozen? ⟨b, off, s⟩ = false := frozen_of (x.get 3 rfl) off s
@[go_sem] theorem shape3 {A0 A1 A2 : HProp} {b : Nat} {c : Array Value} {T : TypeId} {fz : Nat × Nat} (x : Wd E (A0 :: A1 :: A2 :: pt b (.cells c T fz) :: L)) : x.val.shape? b = some (T, c.size) := shape_of (x.get 3 rfl)
def put3 {A0 A1 A2 : HProp} {b : Nat} {o : Obj} (x : Wd E (A0 :: A1 :: A2 :: pt b o :: L)) (o' : Obj) : Wd E (A0 :: A1 :: A2 :: pt b o' :: L) :=
  ⟨{ x.val with heap := x.val.heap.setIfInBounds b o' }, ((x.sat.perm (by exact List.perm_middle (l₁ := [A0, A1, A2]))).put (w' := { x.val with heap := x.val.heap.setIfInBounds b o' }) o' rfl rfl rfl rfl).perm (by exact (List.perm_middle (l₁ := [A0, A1, A2])).symm)⟩
@[go_sem] theorem put3_val {A0 A1 A2 : HProp} {b : Nat} {o : Obj} (x : Wd E (A0 :: A1 :: A2 :: pt b o :: L)) (o' : Obj) : putObj x.val b o' = (x.put3 o').val := rfl
@[go_sem] theorem put3_size {A0 A1 A2 : HProp} {b : Nat} {o : Obj} (x : Wd E (A0 :: A1 :: A2 :: pt b o :: L)) (o' : Obj) : (x.put3 o').val.heap.size = x.val.heap.size := by simp [put3]
def set3 {A0 A1 A2 : HProp} {b : Nat} {c : Array Value} {T : TypeId} {fz : Nat × Nat} (x : Wd E (A0 :: A1 :: A2 :: pt b (.cells c T fz) :: L)) (off : Nat) (v : Value) : Wd E (A0 :: A1 :: A2 :: pt b (.cells (c.setIfInBounds off v) T fz) :: L) :=
  ⟨x.val.setCell ⟨b, off, none⟩ v, ((x.sat.perm (by exact List.perm_middle (l₁ := [A0, A1, A2]))).setCell v).perm (by exact (List.perm_middle (l₁ := [A0, A1, A2])).symm)⟩
@[go_sem] theorem set3_val {A0 A1 A2 : HProp} {b : Nat} {c : Array Value} {T : TypeId} {fz : Nat × Nat} (x : Wd E (A0 :: A1 :: A2 :: pt b (.cells c T fz) :: L)) (off : Nat) (v : Value) : x.val.setCell ⟨b, off, none⟩ v = (x.set3 off v).val := rfl
@[go_sem] theorem set3_size {A0 A1 A2 : HProp} {b : Nat} {c : Array Value} {T : TypeId} {fz : Nat × Nat} (x : Wd E (A0 :: A1 :: A2 :: pt b (.cells c T fz) :: L)) (off : Nat) (v : Value) : (x.set3 off v).val.heap.size = x.val.heap.size := by simp [set3, World.setCell]
@[go_sem] theorem heap4 {A0 A1 A2 A3 : HProp} {b : Nat} {o : Obj} (x : Wd E (A0 :: A1 :: A2 :: A3 :: pt b o :: L)) : x.val.heap[b]? = some o := x.get 4 rfl
@[go_sem] theorem cell4 {A0 A1 A2 A3 : HProp} {b : Nat} {c : Array Value} {T : TypeId} {fz : Nat × Nat} (x : Wd E (A0 :: A1 :: A2 :: A3 :: pt b (.cells c T fz) :: L)) (off : Nat) : x.val.cell? ⟨b, off, none⟩ = c[off]? := cell_of (x.get 4 rfl) off
@[go_sem] theorem frozen4 {A0 A1 A2 A3 : HProp} {b : Nat} {c : Array Value} {T : TypeId} (x : Wd E (A0 :: A1 :: A2 :: A3 :: pt b (.cells c T (0, 0)) :: L)) (off : Nat) (s : Option Nat) : x.val.frozen? ⟨b, off, s⟩ = false := frozen_of (x.get 4 rfl) off s
@[go_sem] theorem shape4 {A0 A1 A2 A3 : HProp} {b : Nat} {c : Array Value} {T : TypeId} {fz : Nat × Nat} (x : Wd E (A0 :: A1 :: A2 :: A3 :: pt b (.cells c T fz) :: L)) : x.val.shape? b = some (T, c.size) := shape_of (x.get 4 rfl)
def put4 {A0 A1 A2 A3 : HProp} {b : Nat} {o : Obj} (x : Wd E (A0 :: A1 :: A2 :: A3 :: pt b o :: L)) (o' : Obj) : Wd E (A0 :: A1 :: A2 :: A3 :: pt b o' :: L) :=
  ⟨{ x.val with heap := x.val.heap.setIfInBounds b o' }, ((x.sat.perm (by exact List.perm_middle (l₁ := [A0, A1, A2, A3]))).put (w' := { x.val with heap := x.val.heap.setIfInBounds b o' }) o' rfl rfl rfl rfl).perm (by exact (List.perm_middle (l₁ := [A0, A1, A2, A3])).symm)⟩
@[go_sem] theorem put4_val {A0 A1 A2 A3 : HProp} {b : Nat} {o : Obj} (x : Wd E (A0 :: A1 :: A2 :: A3 :: pt b o :: L)) (o' : Obj) : putObj x.val b o' = (x.put4 o').val := rfl
@[go_sem] theorem put4_size {A0 A1 A2 A3 : HProp} {b : Nat} {o : Obj} (x : Wd E (A0 :: A1 :: A2 :: A3 :: pt b o :: L)) (o' : Obj) : (x.put4 o').val.heap.size = x.val.heap.size := by simp [put4]
def set4 {A0 A1 A2 A3 : HProp} {b : Nat} {c : Array Value} {T : TypeId} {fz : Nat × Nat} (x : Wd E (A0 :: A1 :: A2 :: A3 :: pt b (.cells c T fz) :: L)) (off : Nat) (v : Value) : Wd E (A0 :: A1 :: A2 :: A3 :: pt b (.cells (c.setIfInBounds off v) T fz) :: L) :=
  ⟨x.val.setCell ⟨b, off, none⟩ v, ((x.sat.perm (by exact List.perm_middle (l₁ := [A0, A1, A2, A3]))).setCell v).perm (by exact (List.perm_middle (l₁ := [A0, A1, A2, A3])).symm)⟩
@[go_sem] theorem set4_val {A0 A1 A2 A3 : HProp} {b : Nat} {c : Array Value} {T : TypeId} {fz : Nat × Nat} (x : Wd E (A0 :: A1 :: A2 :: A3 :: pt b (.cells c T fz) :: L)) (off : Nat) (v : Value) : x.val.setCell ⟨b, off, none⟩ v = (x.set4 off v).val := rfl
@[go_sem] theorem set4_size {A0 A1 A2 A3 : HProp} {b : Nat} {c : Array Value} {T : TypeId} {fz : Nat × Nat} (x : Wd E (A0 :: A1 :: A2 :: A3 :: pt b (.cells c T fz) :: L)) (off : Nat) (v : Value) : (x.set4 off v).val.heap.size = x.val.heap.size := by simp [set4, World.setCell]
@[go_sem] theorem heap5 {A0 A1 A2 A3 A4 : HProp} {b : Nat} {o : Obj} (x : Wd E (A0 :: A1 :: A2 :: A3 :: A4 :: pt b o :: L)) : x.val.heap[b]? = some o := x.get 5 rfl
@[go_sem] theorem cell5 {A0 A1 A2 A3 A4 : HProp} {b : Nat} {c : Array Value} {T : TypeId} {fz : Nat × Nat} (x : Wd E (A0 :: A1 :: A2 :: A3 :: A4 :: pt b (.cells c T fz) :: L)) (off : Nat) : x.val.cell? ⟨b, off, none⟩ = c[off]? := cell_of (x.get 5 rfl) off
@[go_sem] theorem frozen5 {A0 A1 A2 A3 A4 : HProp} {b : Nat} {c : Array Value} {T : TypeId} (x : Wd E (A0 :: A1 :: A2 :: A3 :: A4 :: pt b (.cells c T (0, 0)) :: L)) (off : Nat) (s : Option Nat) : x.val.frozen? ⟨b, off, s⟩ = false := frozen_of (x.get 5 rfl) off s
@[go_sem] theorem shape5 {A0 A1 A2 A3 A4 : HProp} {b : Nat} {c : Array Value} {T : TypeId} {fz : Nat × Nat} (x : Wd E (A0 :: A1 :: A2 :: A3 :: A4 :: pt b (.cells c T fz) :: L)) : x.val.shape? b = some (T, c.size) := shape_of (x.get 5 rfl)
def put5 {A0 A1 A2 A3 A4 : HProp} {b : Nat} {o : Obj} (x : Wd E (A0 :: A1 :: A2 :: A3 :: A4 :: pt b o :: L)) (o' : Obj) : Wd E (A0 :: A1 :: A2 :: A3 :: A4 :: pt b o' :: L) :=
  ⟨{ x.val with heap := x.val.heap.setIfInBounds b o' }, ((x.sat.perm (by exact List.perm_middle (l₁ := [A0, A1, A2, A3, A4]))).put (w' := { x.val with heap := x.val.heap.setIfInBounds b o' }) o' rfl rfl rfl rfl).perm (by exact (List.perm_middle (l₁ := [A0, A1, A2, A3, A4])).symm)⟩
@[go_sem] theorem put5_val {A0 A1 A2 A3 A4 : HProp} {b : Nat} {o : Obj} (x : Wd E (A0 :: A1 :: A2 :: A3 :: A4 :: pt b o :: L)) (o' : Obj) : putObj x.val b o' = (x.put5 o').val := rfl
@[go_sem] theorem put5_size {A0 A1 A2 A3 A4 : HProp} {b : Nat} {o : Obj} (x : Wd E (A0 :: A1 :: A2 :: A3 :: A4 :: pt b o :: L)) (o' : Obj) : (x.put5 o').val.heap.size = x.val.heap.size := by simp [put5]
def set5 {A0 A1 A2 A3 A4 : HProp} {b : Nat} {c : Array Value} {T : TypeId} {fz : Nat × Nat} (x : Wd E (A0 :: A1 :: A2 :: A3 :: A4 :: pt b (.cells c T fz) :: L)) (off : Nat) (v : Value) : Wd E (A0 :: A1 :: A2 :: A3 :: A4 :: pt b (.cells (c.setIfInBounds off v) T fz) :: L) :=
  ⟨x.val.setCell ⟨b, off, none⟩ v, ((x.sat.perm (by exact List.perm_middle (l₁ := [A0, A1, A2, A3, A4]))).setCell v).perm (by exact (List.perm_middle (l₁ := [A0, A1, A2, A3, A4])).symm)⟩
@[go_sem] theorem set5_val {A0 A1 A2 A3 A4 : HProp} {b : Nat} {c : Array Value} {T : TypeId} {fz : Nat × Nat} (x : Wd E (A0 :: A1 :: A2 :: A3 :: A4 :: pt b (.cells c T fz) :: L)) (off : Nat) (v : Value) : x.val.setCell ⟨b, off, none⟩ v = (x.set5 off v).val := rfl
@[go_sem] theorem set5_size {A0 A1 A2 A3 A4 : HProp} {b : Nat} {c : Array Value} {T : TypeId} {fz : Nat × Nat} (x : Wd E (A0 :: A1 :: A2 :: A3 :: A4 :: pt b (.cells c T fz) :: L)) (off : Nat) (v : Value) : (x.set5 off v).val.heap.size = x.val.heap.size := by simp [set5, World.setCell]
@[go_sem] theorem heap6 {A0 A1 A2 A3 A4 A5 : HProp} {b : Nat} {o : Obj} (x : Wd E (A0 :: A1 :: A2 :: A3 :: A4 :: A5 :: pt b o :: L)) : x.val.heap[b]? = some o := x.get 6 rfl
@[go_sem] theorem cell6 {A0 A1 A2 A3 A4 A5 : HProp} {b : Nat} {c : Array Value} {T : TypeId} {fz : Nat × Nat} (x : Wd E (A0 :: A1 :: A2 :: A3 :: A4 :: A5 :: pt b (.cells c T fz) :: L)) (off : Nat) : x.val.cell? ⟨b, off, none⟩ = c[off]? := cell_of (x.get 6 rfl) off
@[go_sem] theorem frozen6 {A0 A1 A2 A3 A4 A5 : HProp} {b : Nat} {c : Array Value} {T : TypeId} (x : Wd E (A0 :: A1 :: A2 :: A3 :: A4 :: A5 :: pt b (.cells c T (0, 0)) :: L)) (off : Nat) (s : Option Nat) : x.val.frozen? ⟨b, off, s⟩ = false := frozen_of (x.get 6 rfl) off s
@[go_sem] theorem shape6 {A0 A1 A2 A3 A4 A5 : HProp} {b : Nat} {c : Array Value} {T : TypeId} {fz : Nat × Nat} (x : Wd E (A0 :: A1 :: A2 :: A3 :: A4 :: A5 :: pt b (.cells c T fz) :: L)) : x.val.shape? b = some (T, c.size) := shape_of (x.get 6 rfl)
def put6 {A0 A1 A2 A3 A4 A5 : HProp} {b : Nat} {o : Obj} (x : Wd E (A0 :: A1 :: A2 :: A3 :: A4 :: A5 :: pt b o :: L)) (o' : Obj) : Wd E (A0 :: A1 :: A2 :: A3 :: A4 :: A5 :: pt b o' :: L) :=
  ⟨{ x.val with heap := x.val.heap.setIfInBounds b o' }, ((x.sat.perm (by exact List.perm_middle (l₁ := [A0, A1, A2, A3, A4, A5]))).put (w' := { x.val with heap := x.val.heap.setIfInBounds b o' }) o' rfl rfl rfl rfl).perm (by exact (List.perm_middle (l₁ := [A0, A1, A2, A3, A4, A5])).symm)⟩
@[go_sem] theorem put6_val {A0 A1 A2 A3 A4 A5 : HProp} {b : Nat} {o : Obj} (x : Wd E (A0 :: A1 :: A2 :: A3 :: A4 :: A5 :: pt b o :: L)) (o' : Obj) : putObj x.val b o' = (x.put6 o').val := rfl
@[go_sem] theorem put6_size {A0 A1 A2 A3 A4 A5 : HProp} {b : Nat} {o : Obj} (x : Wd E (A0 :: A1 :: A2 :: A3 :: A4 :: A5 :: pt b o :: L)) (o' : Obj) : (x.put6 o').val.heap.size = x.val.heap.size := by simp [put6]
def set6 {A0 A1 A2 A3 A4 A5 : HProp} {b : Nat} {c : Array Value} {T : TypeId} {fz : Nat × Nat} (x : Wd E (A0 :: A1 :: A2 :: A3 :: A4 :: A5 :: pt b (.cells c T fz) :: L)) (off : Nat) (v : Value) : Wd E (A0 :: A1 :: A2 :: A3 :: A4 :: A5 :: pt b (.cells (c.setIfInBounds off v) T fz) :: L) :=
  ⟨x.val.setCell ⟨b, off, none⟩ v, ((x.sat.perm (by exact List.perm_middle (l₁ := [A0, A1, A2, A3, A4, A5]))).setCell v).perm (by exact (List.perm_middle (l₁ := [A0, A1, A2, A3, A4, A5])).symm)⟩
@[go_sem] theorem set6_val {A0 A1 A2 A3 A4 A5 : HProp} {b : Nat} {c : Array Value} {T : TypeId} {fz : Nat × Nat} (x : Wd E (A0 :: A1 :: A2 :: A3 :: A4 :: A5 :: pt b (.cells c T fz) :: L)) (off : Nat) (v : Value) : x.val.setCell ⟨b, off, none⟩ v = (x.set6 off v).val := rfl
@[go_sem] theorem set6_size {A0 A1 A2 A3 A4 A5 : HProp} {b : Nat} {c : Array Value} {T : TypeId} {fz : Nat × Nat} (x : Wd E (A0 :: A1 :: A2 :: A3 :: A4 :: A5 :: pt b (.cells c T fz) :: L)) (off : Nat) (v : Value) : (x.set6 off v).val.heap.size = x.val.heap.size := by simp [set6, World.setCell]
@[go_sem] theorem heap7 {A0 A1 A2 A3 A4 A5 A6 : HProp} {b : Nat} {o : Obj} (x : Wd E (A0 :: A1 :: A2 :: A3 :: A4 :: A5 :: A6 :: pt b o :: L)) : x.val.heap[b]? = some o := x.get 7 rfl
@[go_sem] theorem cell7 {A0 A1 A2 A3 A4 A5 A6 : HProp} {b : Nat} {c : Array Value} {T : TypeId} {fz : Nat × Nat} (x : Wd E (A0 :: A1 :: A2 :: A3 :: A4 :: A5 :: A6 :: pt b (.cells c T fz) :: L)) (off : Nat) : x.val.cell? ⟨b, off, none⟩ = c[off]? := cell_of (x.get 7 rfl) off
@[go_sem] theorem frozen7 {A0 A1 A2 A3 A4 A5 A6 : HProp} {b : Nat} {c : Array Value} {T : TypeId} (x : Wd E (A0 :: A1 :: A2 :: A3 :: A4 :: A5 :: A6 :: pt b (.cells c T (0, 0)) :: L)) (off : Nat) (s : Option Nat) : x.val.frozen? ⟨b, off, s⟩ = false := frozen_of (x.get 7 rfl) off s
@[go_sem] theorem shape7 {A0 A1 A2 A3 A4 A5 A6 : HProp} {b : Nat} {c : Array Value} {T : TypeId} {fz : Nat × Nat} (x : Wd E (A0 :: A1 :: A2 :: A3 :: A4 :: A5 :: A6 :: pt b (.cells c T fz) :: L)) : x.val.shape? b = some (T, c.size) := shape_of (x.get 7 rfl)
def put7 {A0 A1 A2 A3 A4 A5 A6 : HProp} {b : Nat} {o : Obj} (x : Wd E (A0 :: A1 :: A2 :: A3 :: A4 :: A5 :: A6 :: pt b o :: L)) (o' : Obj) : Wd E (A0 :: A1 :: A2 :: A3 :: A4 :: A5 :: A6 :: pt b o' :: L) :=
  ⟨{ x.val with heap := x.val.heap.setIfInBounds b o' }, ((x.sat.perm (by exact List.perm_middle (l₁ := [A0, A1, A2, A3, A4, A5, A6]))).put (w' := { x.val with heap := x.val.heap.setIfInBounds b o' }) o' rfl rfl rfl rfl).perm (by exact (List.perm_middle (l₁ := [A0, A1, A2, A3, A4, A5, A6])).symm)⟩
@[go_sem] theorem put7_val {A0 A1 A2 A3 A4 A5 A6 : HProp} {b : Nat} {o : Obj} (x : Wd E (A0 :: A1 :: A2 :: A3 :: A4 :: A5 :: A6 :: pt b o :: L)) (o' : Obj) : putObj x.val b o' = (x.put7 o').val := rfl
@[go_sem] theorem put7_size {A0 A1 A2 A3 A4 A5 A6 : HProp} {b : Nat} {o : Obj} (x : Wd E (A0 :: A1 :: A2 :: A3 :: A4 :: A5 :: A6 :: pt b o :: L)) (o' : Obj) : (x.put7 o').val.heap.size = x.val.heap.size := by simp [put7]
def set7 {A0 A1 A2 A3 A4 A5 A6 : HProp} {b : Nat} {c : Array Value} {T : TypeId} {fz : Nat × Nat} (x : Wd E (A0 :: A1 :: A2 :: A3 :: A4 :: A5 :: A6 :: pt b (.cells c T fz) :: L)) (off : Nat) (v : Value) : Wd E (A0 :: A1 :: A2 :: A3 :: A4 :: A5 :: A6 :: pt b (.cells (c.setIfInBounds off v) T fz) :: L) :=
  ⟨x.val.setCell ⟨b, off, none⟩ v, ((x.sat.perm (by exact List.perm_middle (l₁ := [A0, A1, A2, A3, A4, A5, A6]))).setCell v).perm (by exact (List.perm_middle (l₁ := [A0, A1, A2, A3, A4, A5, A6])).symm)⟩
@[go_sem] theorem set7_val {A0 A1 A2 A3 A4 A5 A6 : HProp} {b : Nat} {c : Array Value} {T : TypeId} {fz : Nat × Nat} (x : Wd E (A0 :: A1 :: A2 :: A3 :: A4 :: A5 :: A6 :: pt b (.cells c T fz) :: L)) (off : Nat) (v : Value) : x.val.setCell ⟨b, off, none⟩ v = (x.set7 off v).val := rfl
@[go_sem] theorem set7_size {A0 A1 A2 A3 A4 A5 A6 : HProp} {b : Nat} {c : Array Value} {T : TypeId} {fz : Nat × Nat} (x : Wd E (A0 :: A1 :: A2 :: A3 :: A4 :: A5 :: A6 :: pt b (.cells c T fz) :: L)) (off : Nat) (v : Value) : (x.set7 off v).val.heap.size = x.val.heap.size := by simp [set7, World.setCell]
@[go_sem] theorem heap8 {A0 A1 A2 A3 A4 A5 A6 A7 : HProp} {b : Nat} {o : Obj} (x : Wd E (A0 :: A1 :: A2 :: A3 :: A4 :: A5 :: A6 :: A7 :: pt b o :: L)) : x.val.heap[b]? = some o := x.get 8 rfl
@[go_sem] theorem cell8 {A0 A1 A2 A3 A4 A5 A6 A7 : HProp} {b : Nat} {c : Array Value} {T : TypeId} {fz : Nat × Nat} (x : Wd E (A0 :: A1 :: A2 :: A3 :: A4 :: A5 :: A6 :: A7 :: pt b (.cells c T fz) :: L)) (off : Nat) : x.val.cell? ⟨b, off, none⟩ = c[off]? := cell_of (x.get 8 rfl) off
@[go_sem] theorem frozen8 {A0 A1 A2 A3 A4 A5 A6 A7 : HProp} {b : Nat} {c : Array Value} {T : TypeId} (x : Wd E (A0 :: A1 :: A2 :: A3 :: A4 :: A5 :: A6 :: A7 :: pt b (.cells c T (0, 0)) :: L)) (off : Nat) (s : Option Nat) : x.val.frozen? ⟨b, off, s⟩ = false := frozen_of (x.get 8 rfl) off s
@[go_sem] theorem shape8 {A0 A1 A2 A3 A4 A5 A6 A7 : HProp} {b : Nat} {c : Array Value} {T : TypeId} {fz : Nat × Nat} (x : Wd E (A0 :: A1 :: A2 :: A3 :: A4 :: A5 :: A6 :: A7 :: pt b (.cells c T fz) :: L)) : x.val.shape? b = some (T, c.size) := shape_of (x.get 8 rfl)
def put8 {A0 A1 A2 A3 A4 A5 A6 A7 : HProp} {b : Nat} {o : Obj} (x : Wd E (A0 :: A1 :: A2 :: A3 :: A4 :: A5 :: A6 :: A7 :: pt b o :: L)) (o' : Obj) : Wd E (A0 :: A1 :: A2 :: A3 :: A4 :: A5 :: A6 :: A7 :: pt b o' :: L) :=
  ⟨{ x.val with heap := x.val.heap.setIfInBounds b o' }, ((x.sat.perm (by exact List.perm_middle (l₁ := [A0, A1, A2, A3, A4, A5, A6, A7]))).put (w' := { x.val with heap := x.val.heap.setIfInBounds b o' }) o' rfl rfl rfl rfl).perm (by exact (List.perm_middle (l₁ := [A0, A1, A2, A3, A4, A5, A6, A7])).symm)⟩
@[go_sem] theorem put8_val {A0 A1 A2 A3 A4 A5 A6 A7 : HProp} {b : Nat} {o : Obj} (x : Wd E (A0 :: A1 :: A2 :: A3 :: A4 :: A5 :: A6 :: A7 :: pt b o :: L)) (o' : Obj) : putObj x.val b o' = (x.put8 o').val := rfl
@[go_sem] theorem put8_size {A0 A1 A2 A3 A4 A5 A6 A7 : HProp} {b : Nat} {o : Obj} (x : Wd E (A0 :: A1 :: A2 :: A3 :: A4 :: A5 :: A6 :: A7 :: pt b o :: L)) (o' : Obj) : (x.put8 o').val.heap.size = x.val.heap.size := by simp [put8]
def set8 {A0 A1 A2 A3 A4 A5 A6 A7 : HProp} {b : Nat} {c : Array Value} {T : TypeId} {fz : Nat × Nat} (x : Wd E (A0 :: A1 :: A2 :: A3 :: A4 :: A5 :: A6 :: A7 :: pt b (.cells c T fz) :: L)) (off : Nat) (v : Value) : Wd E (A0 :: A1 :: A2 :: A3 :: A4 :: A5 :: A6 :: A7 :: pt b (.cells (c.setIfInBounds off v) T fz) :: L) :=
  ⟨x.val.setCell ⟨b, off, none⟩ v, ((x.sat.perm (by exact List.perm_middle (l₁ := [A0, A1, A2, A3, A4, A5, A6, A7]))).setCell v).perm (by exact (List.perm_middle (l₁ := [A0, A1, A2, A3, A4, A5, A6, A7])).symm)⟩
@[go_sem] theorem set8_val {A0 A1 A2 A3 A4 A5 A6 A7 : HProp} {b : Nat} {c : Array Value} {T : TypeId} {fz : Nat × Nat} (x : Wd E (A0 :: A1 :: A2 :: A3 :: A4 :: A5 :: A6 :: A7 :: pt b (.cells c T fz) :: L)) (off : Nat) (v : Value) : x.val.setCell ⟨b, off, none⟩ v = (x.set8 off v).val := rfl
@[go_sem] theorem set8_size {A0 A1 A2 A3 A4 A5 A6 A7 : HProp} {b : Nat} {c : Array Value} {T : TypeId} {fz : Nat × Nat} (x : Wd E (A0 :: A1 :: A2 :: A3 :: A4 :: A5 :: A6 :: A7 :: pt b (.cells c T fz) :: L)) (off : Nat) (v : Value) : (x.set8 off v).val.heap.size = x.val.heap.size := by simp [set8, World.setCell]
@[go_sem] theorem heap9 {A0 A1 A2 A3 A4 A5 A6 A7 A8 : HProp} {b : Nat} {o : Obj} (x : Wd E (A0 :: A1 :: A2 :: A3 :: A4 :: A5 :: A6 :: A7 :: A8 :: pt b o :: L)) : x.val.heap[b]? = some o := x.get 9 rfl
@[go_sem] theorem cell9 {A0 A1 A2 A3 A4 A5 A6 A7 A8 : HProp} {b : Nat} {c : Array Value} {T : TypeId} {fz : Nat × Nat} (x : Wd E (A0 :: A1 :: A2 :: A3 :: A4 :: A5 :: A6 :: A7 :: A8 :: pt b (.cells c T fz) :: L)) (off : Nat) : x.val.cell? ⟨b, off, none⟩ = c[off]? := cell_of (x.get 9 rfl) off
@[go_sem] theorem frozen9 {A0 A1 A2 A3 A4 A5 A6 A7 A8 : HProp} {b : Nat} {c : Array Value} {T : TypeId} (x : Wd E (A0 :: A1 :: A2 :: A3 :: A4 :: A5 :: A6 :: A7 :: A8 :: pt b (.cells c T (0, 0)) :: L)) (off : Nat) (s : Option Nat) : x.val.frozen? ⟨b, off, s⟩ = false := frozen_of (x.get 9 rfl) off s
@[go_sem] theorem shape9 {A0 A1 A2 A3 A4 A5 A6 A7 A8 : HProp} {b : Nat} {c : Array Value} {T : TypeId} {fz : Nat × Nat} (x : Wd E (A0 :: A1 :: A2 :: A3 :: A4 :: A5 :: A6 :: A7 :: A8 :: pt b (.cells c T fz) :: L)) : x.val.shape? b = some (T, c.size) := shape_of (x.get 9 rfl)
def put9 {A0 A1 A2 A3 A4 A5 A6 A7 A8 : HProp} {b : Nat} {o : Obj} (x : Wd E (A0 :: A1 :: A2 :: A3 :: A4 :: A5 :: A6 :: A7 :: A8 :: pt b o :: L)) (o' : Obj) : Wd E (A0 :: A1 :: A2 :: A3 :: A4 :: A5 :: A6 :: A7 :: A8 :: pt b o' :: L) :=
  ⟨{ x.val with heap := x.val.heap.setIfInBounds b o' }, ((x.sat.perm (by exact List.perm_middle (l₁ := [A0, A1, A2, A3, A4, A5, A6, A7, A8]))).put (w' := { x.val with heap := x.val.heap.setIfInBounds b o' }) o' rfl rfl rfl rfl).perm (by exact (List.perm_middle (l₁ := [A0, A1, A2, A3, A4, A5, A6, A7, A8])).symm)⟩
@[go_sem] theorem put9_val {A0 A1 A2 A3 A4 A5 A6 A7 A8 : HProp} {b : Nat} {o : Obj} (x : Wd E (A0 :: A1 :: A2 :: A3 :: A4 :: A5 :: A6 :: A7 :: A8 :: pt b o :: L)) (o' : Obj) : putObj x.val b o' = (x.put9 o').val := rfl
@[go_sem] theorem put9_size {A0 A1 A2 A3 A4 A5 A6 A7 A8 : HProp} {b : Nat} {o : Obj} (x : Wd E (A0 :: A1 :: A2 :: A3 :: A4 :: A5 :: A6 :: A7 :: A8 :: pt b o :: L)) (o' : Obj) : (x.put9 o').val.heap.size = x.val.heap.size := by simp [put9]
def set9 {A0 A1 A2 A3 A4 A5 A6 A7 A8 : HProp} {b : Nat} {c : Array Value} {T : TypeId} {fz : Nat × Nat} (x : Wd E (A0 :: A1 :: A2 :: A3 :: A4 :: A5 :: A6 :: A7 :: A8 :: pt b (.cells c T fz) :: L)) (off : Nat) (v : Value) : Wd E (A0 :: A1 :: A2 :: A3 :: A4 :: A5 :: A6 :: A7 :: A8 :: pt b (.cells (c.setIfInBounds off v) T fz) :: L) :=
  ⟨x.val.setCell ⟨b, off, none⟩ v, ((x.sat.perm (by exact List.perm_middle (l₁ := [A0, A1, A2, A3, A4, A5, A6, A7, A8]))).setCell v).perm (by exact (List.perm_middle (l₁ := [A0, A1, A2, A3, A4, A5, A6, A7, A8])).symm)⟩
@[go_sem] theorem set9_val {A0 A1 A2 A3 A4 A5 A6 A7 A8 : HProp} {b : Nat} {c : Array Value} {T : TypeId} {fz : Nat × Nat} (x : Wd E (A0 :: A1 :: A2 :: A3 :: A4 :: A5 :: A6 :: A7 :: A8 :: pt b (.cells c T fz) :: L)) (off : Nat) (v : Value) : x.val.setCell ⟨b, off, none⟩ v = (x.set9 off v).val := rfl
@[go_sem] theorem set9_size {A0 A1 A2 A3 A4 A5 A6 A7 A8 : HProp} {b : Nat} {c : Array Value} {T : TypeId} {fz : Nat × Nat} (x : Wd E (A0 :: A1 :: A2 :: A3 :: A4 :: A5 :: A6 :: A7 :: A8 :: pt b (.cells c T fz) :: L)) (off : Nat) (v : Value) : (x.set9 off v).val.heap.size = x.val.heap.size := by simp [set9, World.setCell]
@[go_sem] theorem heap10 {A0 A1 A2 A3 A4 A5 A6 A7 A8 A9 : HProp} {b : Nat} {o : Obj} (x : Wd E (A0 :: A1 :: A2 :: A3 :: A4 :: A5 :: A6 :: A7 :: A8 :: A9 :: pt b o :: L)) : x.val.heap[b]? = some o := x.get 10 rfl
@[go_sem] theorem cell10 {A0 A1 A2 A3 A4 A5 A6 A7 A8 A9 : HProp} {b : Nat} {c : Array Value} {T : TypeId} {fz : Nat × Nat} (x : Wd E (A0 :: A1 :: A2 :: A3 :: A4 :: A5 :: A6 :: A7 :: A8 :: A9 :: pt b (.cells c T fz) :: L)) (off : Nat) : x.val.cell? ⟨b, off, none⟩ = c[off]? := cell_of (x.get 10 rfl) off
@[go_sem] theorem frozen10 {A0 A1 A2 A3 A4 A5 A6 A7 A8 A9 : HProp} {b : Nat} {c : Array Value} {T : TypeId} (x : Wd E (A0 :: A1 :: A2 :: A3 :: A4 :: A5 :: A6 :: A7 :: A8 :: A9 :: pt b (.cells c T (0, 0)) :: L)) (off : Nat) (s : Option Nat) : x.val.frozen? ⟨b, off, s⟩ = false := frozen_of (x.get 10 rfl) off s
@[go_sem] theorem shape10 {A0 A1 A2 A3 A4 A5 A6 A7 A8 A9 : HProp} {b : Nat} {c : Array Value} {T : TypeId} {fz : Nat × Nat} (x : Wd E (A0 :: A1 :: A2 :: A3 :: A4 :: A5 :: A6 :: A7 :: A8 :: A9 :: pt b (.cells c T fz) :: L)) : x.val.shape? b = some (T, c.size) := shape_of (x.get 10 rfl)
def put10 {A0 A1 A2 A3 A4 A5 A6 A7 A8 A9 : HProp} {b : Nat} {o : Obj} (x : Wd E (A0 :: A1 :: A2 :: A3 :: A4 :: A5 :: A6 :: A7 :: A8 :: A9 :: pt b o :: L)) (o' : Obj) : Wd E (A0 :: A1 :: A2 :: A3 :: A4 :: A5 :: A6 :: A7 :: A8 :: A9 :: pt b o' :: L) :=
  ⟨{ x.val with heap := x.val.heap.setIfInBounds b o' }, ((x.sat.perm (by exact List.perm_middle (l₁ := [A0, A1, A2, A3, A4, A5, A6, A7, A8, A9]))).put (w' := { x.val with heap := x.val.heap.setIfInBounds b o' }) o' rfl rfl rfl rfl).perm (by exact (List.perm_middle (l₁ := [A0, A1, A2, A3, A4, A5, A6, A7, A8, A9])).symm)⟩
@[go_sem] theorem put10_val {A0 A1 A2 A3 A4 A5 A6 A7 A8 A9 : HProp} {b : Nat} {o : Obj} (x : Wd E (A0 :: A1 :: A2 :: A3 :: A4 :: A5 :: A6 :: A7 :: A8 :: A9 :: pt b o :: L)) (o' : Obj) : putObj x.val b o' = (x.put10 o').val := rfl
@[go_sem] theorem put10_size {A0 A1 A2 A3 A4 A5 A6 A7 A8 A9 : HProp} {b : Nat} {o : Obj} (x : Wd E (A0 :: A1 :: A2 :: A3 :: A4 :: A5 :: A6 :: A7 :: A8 :: A9 :: pt b o :: L)) (o' : Obj) : (x.put10 o').val.heap.size = x.val.heap.size := by simp [put10]
def set10 {A0 A1 A2 A3 A4 A5 A6 A7 A8 A9 : HProp} {b : Nat} {c : Array Value} {T : TypeId} {fz : Nat × Nat} (x : Wd E (A0 :: A1 :: A2 :: A3 :: A4 :: A5 :: A6 :: A7 :: A8 :: A9 :: pt b (.cells c T fz) :: L)) (off : Nat) (v : Value) : Wd E (A0 :: A1 :: A2 :: A3 :: A4 :: A5 :: A6 :: A7 :: A8 :: A9 :: pt b (.cells (c.setIfInBounds off v) T fz) :: L) :=
  ⟨x.val.setCell ⟨b, off, none⟩ v, ((x.sat.perm (by exact List.perm_middle (l₁ := [A0, A1, A2, A3, A4, A5, A6, A7, A8, A9]))).setCell v).perm (by exact (List.perm_middle (l₁ := [A0, A1, A2, A3, A4, A5, A6, A7, A8, A9])).symm)⟩
@[go_sem] theorem set10_val {A0 A1 A2 A3 A4 A5 A6 A7 A8 A9 : HProp} {b : Nat} {c : Array Value} {T : TypeId} {fz : Nat × Nat} (x : Wd E (A0 :: A1 :: A2 :: A3 :: A4 :: A5 :: A6 :: A7 :: A8 :: A9 :: pt b (.cells c T fz) :: L)) (off : Nat) (v : Value) : x.val.setCell ⟨b, off, none⟩ v = (x.set10 off v).val := rfl
@[go_sem] theorem set10_size {A0 A1 A2 A3 A4 A5 A6 A7 A8 A9 : HProp} {b : Nat} {c : Array Value} {T : TypeId} {fz : Nat × Nat} (x : Wd E (A0 :: A1 :: A2 :: A3 :: A4 :: A5 :: A6 :: A7 :: A8 :: A9 :: pt b (.cells c T fz) :: L)) (off : Nat) (v : Value) : (x.set10 off v).val.heap.size = x.val.heap.size := by simp [set10, World.setCell]
@[go_sem] theorem heap11 {A0 A1 A2 A3 A4 A5 A6 A7 A8 A9 A10 : HProp} {b : Nat} {o : Obj} (x : Wd E (A0 :: A1 :: A2 :: A3 :: A4 :: A5 :: A6 :: A7 :: A8 :: A9 :: A10 :: pt b o :: L)) : x.val.heap[b]? = some o := x.get 11 rfl
@[go_sem] theorem cell11 {A0 A1 A2 A3 A4 A5 A6 A7 A8 A9 A10 : HProp} {b : Nat} {c : Array Value} {T : TypeId} {fz : Nat × Nat} (x : Wd E (A0 :: A1 :: A2 :: A3 :: A4 :: A5 :: A6 :: A7 :: A8 :: A9 :: A10 :: pt b (.cells c T fz) :: L)) (off : Nat) : x.val.cell? ⟨b, off, none⟩ = c[off]? := cell_of (x.get 11 rfl) off
@[go_sem] theorem frozen11 {A0 A1 A2 A3 A4 A5 A6 A7 A8 A9 A10 : HProp} {b : Nat} {c : Array Value} {T : TypeId} (x : Wd E (A0 :: A1 :: A2 :: A3 :: A4 :: A5 :: A6 :: A7 :: A8 :: A9 :: A10 :: pt b (.cells c T (0, 0)) :: L)) (off : Nat) (s : Option Nat) : x.val.frozen? ⟨b, off, s⟩ = false := frozen_of (x.get 11 rfl) off s
@[go_sem] theorem shape11 {A0 A1 A2 A3 A4 A5 A6 A7 A8 A9 A10 : HProp} {b : Nat} {c : Array Value} {T : TypeId} {fz : Nat × Nat} (x : Wd E (A0 :: A1 :: A2 :: A3 :: A4 :: A5 :: A6 :: A7 :: A8 :: A9 :: A10 :: pt b (.cells c T fz) :: L)) : x.val.shape? b = some (T, c.size) := shape_of (x.get 11 rfl)
def put11 {A0 A1 A2 A3 A4 A5 A6 A7 A8 A9 A10 : HProp} {b : Nat} {o : Obj} (x : Wd E (A0 :: A1 :: A2 :: A3 :: A4 :: A5 :: A6 :: A7 :: A8 :: A9 :: A10 :: pt b o :: L)) (o' : Obj) : Wd E (A0 :: A1 :: A2 :: A3 :: A4 :: A5 :: A6 :: A7 :: A8 :: A9 :: A10 :: pt b o' :: L) :=
  ⟨{ x.val with heap := x.val.heap.setIfInBounds b o' }, ((x.sat.perm (by exact List.perm_middle (l₁ := [A0, A1, A2, A3, A4, A5, A6, A7, A8, A9, A10]))).put (w' := { x.val with heap := x.val.heap.setIfInBounds b o' }) o' rfl rfl rfl rfl).perm (by exact (List.perm_middle (l₁ := [A0, A1, A2, A3, A4, A5, A6, A7, A8, A9, A10])).symm)⟩
@[go_sem] theorem put11_val {A0 A1 A2 A3 A4 A5 A6 A7 A8 A9 A10 : HProp} {b : Nat} {o : Obj} (x : Wd E (A0 :: A1 :: A2 :: A3 :: A4 :: A5 :: A6 :: A7 :: A8 :: A9 :: A10 :: pt b o :: L)) (o' : Obj) : putObj x.val b o' = (x.put11 o').val := rfl
@[go_sem] theorem put11_size {A0 A1 A2 A3 A4 A5 A6 A7 A8 A9 A10 : HProp} {b : Nat} {o : Obj} (x : Wd E (A0 :: A1 :: A2 :: A3 :: A4 :: A5 :: A6 :: A7 :: A8 :: A9 :: A10 :: pt b o :: L)) (o' : Obj) : (x.put11 o').val.heap.size = x.val.heap.size := by simp [put11]
def set11 {A0 A1 A2 A3 A4 A5 A6 A7 A8 A9 A10 : HProp} {b : Nat} {c : Array Value} {T : TypeId} {fz : Nat × Nat} (x : Wd E (A0 :: A1 :: A2 :: A3 :: A4 :: A5 :: A6 :: A7 :: A8 :: A9 :: A10 :: pt b (.cells c T fz) :: L)) (off : Nat) (v : Value) : Wd E (A0 :: A1 :: A2 :: A3 :: A4 :: A5 :: A6 :: A7 :: A8 :: A9 :: A10 :: pt b (.cells (c.setIfInBounds off v) T fz) :: L) :=
  ⟨x.val.setCell ⟨b, off, none⟩ v, ((x.sat.perm (by exact List.perm_middle (l₁ := [A0, A1, A2, A3, A4, A5, A6, A7, A8, A9, A10]))).setCell v).perm (by exact (List.perm_middle (l₁ := [A0, A1, A2, A3, A4, A5, A6, A7, A8, A9, A10])).symm)⟩
@[go_sem] theorem set11_val {A0 A1 A2 A3 A4 A5 A6 A7 A8 A9 A10 : HProp} {b : Nat} {c : Array Value} {T : TypeId} {fz : Nat × Nat} (x : Wd E (A0 :: A1 :: A2 :: A3 :: A4 :: A5 :: A6 :: A7 :: A8 :: A9 :: A10 :: pt b (.cells c T fz) :: L)) (off : Nat) (v : Value) : x.val.setCell ⟨b, off, none⟩ v = (x.set11 off v).val := rfl
@[go_sem] theorem set11_size {A0 A1 A2 A3 A4 A5 A6 A7 A8 A9 A10 : HProp} {b : Nat} {c : Array Value} {T : TypeId} {fz : Nat × Nat} (x : Wd E (A0 :: A1 :: A2 :: A3 :: A4 :: A5 :: A6 :: A7 :: A8 :: A9 :: A10 :: pt b (.cells c T fz) :: L)) (off : Nat) (v : Value) : (x.set11 off v).val.heap.size = x.val.heap.size := by simp [set11, World.setCell]
def up1 {A0 B : HProp} (x : Wd E (A0 :: B :: L)) : Wd E (B :: A0 :: L) := x.perm _ (List.perm_middle (l₁ := [A0]))
def down1 {A0 B : HProp} (x : Wd E (B :: A0 :: L)) : Wd E (A0 :: B :: L) := x.perm _ (List.perm_middle (l₁ := [A0])).symm
def up2 {A0 A1 B : HProp} (x : Wd E (A0 :: A1 :: B :: L)) : Wd E (B :: A0 :: A1 :: L) := x.perm _ (List.perm_middle (l₁ := [A0, A1]))
def down2 {A0 A1 B : HProp} (x : Wd E (B :: A0 :: A1 :: L)) : Wd E (A0 :: A1 :: B :: L) := x.perm _ (List.perm_middle (l₁ := [A0, A1])).symm
def up3 {A0 A1 A2 B : HProp} (x : Wd E (A0 :: A1 :: A2 :: B :: L)) : Wd E (B :: A0 :: A1 :: A2 :: L) := x.perm _ (List.perm_middle (l₁ := [A0, A1, A2]))
def down3 {A0 A1 A2 B : HProp} (x : Wd E (B :: A0 :: A1 :: A2 :: L)) : Wd E (A0 :: A1 :: A2 :: B :: L) := x.perm _ (List.perm_middle (l₁ := [A0, A1, A2])).symm
def up4 {A0 A1 A2 A3 B : HProp} (x : Wd E (A0 :: A1 :: A2 :: A3 :: B :: L)) : Wd E (B :: A0 :: A1 :: A2 :: A3 :: L) := x.perm _ (List.perm_middle (l₁ := [A0, A1, A2, A3]))
def down4 {A0 A1 A2 A3 B : HProp} (x : Wd E (B :: A0 :: A1 :: A2 :: A3 :: L)) : Wd E (A0 :: A1 :: A2 :: A3 :: B :: L) := x.perm _ (List.perm_middle (l₁ := [A0, A1, A2, A3])).symm
def up5 {A0 A1 A2 A3 A4 B : HProp} (x : Wd E (A0 :: A1 :: A2 :: A3 :: A4 :: B :: L)) : Wd E (B :: A0 :: A1 :: A2 :: A3 :: A4 :: L) := x.perm _ (List.perm_middle (l₁ := [A0, A1, A2, A3, A4]))
def down5 {A0 A1 A2 A3 A4 B : HProp} (x : Wd E (B :: A0 :: A1 :: A2 :: A3 :: A4 :: L)) : Wd E (A0 :: A1 :: A2 :: A3 :: A4 :: B :: L) := x.perm _ (List.perm_middle (l₁ := [A0, A1, A2, A3, A4])).symm
def up6 {A0 A1 A2 A3 A4 A5 B : HProp} (x : Wd E (A0 :: A1 :: A2 :: A3 :: A4 :: A5 :: B :: L)) : Wd E (B :: A0 :: A1 :: A2 :: A3 :: A4 :: A5 :: L) := x.perm _ (List.perm_middle (l₁ := [A0, A1, A2, A3, A4, A5]))
def down6 {A0 A1 A2 A3 A4 A5 B : HProp} (x : Wd E (B :: A0 :: A1 :: A2 :: A3 :: A4 :: A5 :: L)) : Wd E (A0 :: A1 :: A2 :: A3 :: A4 :: A5 :: B :: L) := x.perm _ (List.perm_middle (l₁ := [A0, A1, A2, A3, A4, A5])).symm
def up7 {A0 A1 A2 A3 A4 A5 A6 B : HProp} (x : Wd E (A0 :: A1 :: A2 :: A3 :: A4 :: A5 :: A6 :: B :: L)) : Wd E (B :: A0 :: A1 :: A2 :: A3 :: A4 :: A5 :: A6 :: L) := x.perm _ (List.perm_middle (l₁ := [A0, A1, A2, A3, A4, A5, A6]))
def down7 {A0 A1 A2 A3 A4 A5 A6 B : HProp} (x : Wd E (B :: A0 :: A1 :: A2 :: A3 :: A4 :: A5 :: A6 :: L)) : Wd E (A0 :: A1 :: A2 :: A3 :: A4 :: A5 :: A6 :: B :: L) := x.perm _ (List.perm_middle (l₁ := [A0, A1, A2, A3, A4, A5, A6])).symm
def up8 {A0 A1 A2 A3 A4 A5 A6 A7 B : HProp} (x : Wd E (A0 :: A1 :: A2 :: A3 :: A4 :: A5 :: A6 :: A7 :: B :: L)) : Wd E (B :: A0 :: A1 :: A2 :: A3 :: A4 :: A5 :: A6 :: A7 :: L) := x.perm _ (List.perm_middle (l₁ := [A0, A1, A2, A3, A4, A5, A6, A7]))
def down8 {A0 A1 A2 A3 A4 A5 A6 A7 B : HProp} (x : Wd E (B :: A0 :: A1 :: A2 :: A3 :: A4 :: A5 :: A6 :: A7 :: L)) : Wd E (A0 :: A1 :: A2 :: A3 :: A4 :: A5 :: A6 :: A7 :: B :: L) := x.perm _ (List.perm_middle (l₁ := [A0, A1, A2, A3, A4, A5, A6, A7])).symm
def addEmp (x : Wd E L) : Wd E (emp :: L) := ⟨x.val, x.sat.imp fun _ h => star_emp h⟩
theorem below (x : Wd E L) : Below E.heap.size E x.val := x.sat.below
/-- A call that leaves all that was there alone keeps all atoms. -/
theorem kept (x : Wd E L) {w : World} (h : Below x.val.heap.size x.val w) : Sat E L w := by
  obtain ⟨hb, hp, h1, h2⟩ := x.sat
  refine ⟨hb.trans (h.mono hb.size), hp, h1, fun b o e => ⟨(h2 b o e).1, ?_⟩⟩
  have h3 := (h2 b o e).2
  rw [h.block b ?_]
  · exact h3
  · by_cases h' : b < x.val.heap.size
    · exact h'
    · rw [Array.getElem?_eq_none (by omega)] at h3; cases h3
/-- .. and a block that is new is an atom more. -/
theorem kept_new (x : Wd E L) {w : World} (h : Below x.val.heap.size x.val w) {b : Nat} {o : Obj} (hb : x.val.heap.size ≤ b) (ho : w.heap[b]? = some o) : Sat E (pt b o :: L) w := by
  obtain ⟨hB, hp, h1, h2⟩ := x.sat
  have hs := hB.size
  have hlt : ∀ b' o', hp b' = some o' → b' < x.val.heap.size := fun b' o' e => by
    by_cases h' : b' < x.val.heap.size
    · exact h'
    · have h3 := (h2 b' o' e).2
      rw [Array.getElem?_eq_none (by omega)] at h3; cases h3
  refine ⟨hB.trans (h.mono hs), fun b' => if b' = b then some o else hp b', ⟨fun b' => if b' = b then some o else none, hp, fun b' => ?_, fun b' => ?_, fun _ => rfl, h1⟩, ?_⟩
  · by_cases e : b' = b
    · right
      cases e' : hp b'
      · rfl
      · have := hlt _ _ e'; omega
    · left; simp [e]
  · by_cases e : b' = b <;> simp [e]
  · intro b' o' e
    by_cases e' : b' = b
    · simp [e'] at e
      subst e
      rw [e']
      exact ⟨by omega, ho⟩
    · simp [e'] at e
      refine ⟨(h2 b' o' e).1, ?_⟩
      rw [h.block b' (hlt _ _ e)]
      exact (h2 b' o' e).2
end Wd
end Go.Proofs.Ytechbidbhoookaa.Sl
