/- The law of layer 6: the walk. -/
import Derived.Test.YticilcmplgimpaaDoorLaw06C
import Derived.Test.YticilcmplgimpaaDoorLaw06D
set_option linter.unusedVariables false
namespace Go.Proofs.YticilcmplgimpaaDoor.Law06
open Go Go.RowKit Go.Proofs.YticilcmplgimpaaDoor.Sl
open Go.Proofs.YticilcmplgimpaaDoor.Bits (ptr)

/-- The argument: n steps, in memory of the caller's. -/
def OpsAt (E : World) (v : Value) (n : Nat) : Prop := ∃ base cap, v = .slice base n cap ∧ n ≤ maxLen ∧ ∀ i, i < n → ∃ b off, base = some ⟨b, off, none⟩ ∧ b < E.heap.size ∧ ∃ k d s : Int, i64r d ∧ i64r s ∧
  E.cell? ⟨b, off + i * 3, none⟩ = some (.int .i64 k) ∧ E.cell? ⟨b, off + i * 3 + 1, none⟩ = some (.int .i64 d) ∧ E.cell? ⟨b, off + i * 3 + 2, none⟩ = some (.int .i64 s)
def Olds (old was : Value) (L : List HProp) : Prop := (old = .pointer none ∧ was = .pointer none) ∨ ∃ po qo A B L', Inv 1000 A B ∧ old = ptr po ∧ was = ptr qo ∧ L = Ext.At po A :: Ref06.At qo B :: L'
set_option maxRecDepth 100000 in
set_option maxHeartbeats 4000000 in
theorem plays_calls {E : World} (hT : Bits.Table E) {v : Value} {n : Nat} (hO : OpsAt E v n) (x : Wd E []) :
    Calls Tryd.prog 3 #[v] x.val fun e w' => e = .returned (.bool true) ∧ ∃ L, ∃ y : Wd E L, w' = y.val := by
  obtain ⟨base, cap, rfl, hm, hop⟩ := hO
  have HO := Lib.hid hop
  have HS := Lib.hid (fun L x => shown_calls (E := E) (L := L) hT x)
  have HD := Lib.hid (fun L n A B I hn p q k d s hd hs x => does_calls (E := E) (L := L) hT (n := n) (A := A) (B := B) I hn p q k d s hd hs x)
  clear hop hT
  go_enter Tryd.func3, Tryd.ntmps3
  go_wp2_with fail
  refine (HS.out _ x).mono ?_; rintro e w' ⟨rfl, z, rfl⟩
  go_wp2_with fail
  refine (Ext.new_calls z).mono ?_; rintro e w' ⟨p, rfl, z, rfl⟩
  go_wp2_with fail
  refine (Ref06.new_calls z).mono ?_; rintro e w' ⟨q, rfl, z, rfl⟩
  go_wp2_with fail
  go_loopw [4, 6, 7, 8] (fun m old was i wr => ∃ (k p : Nat) (A B : Ms) (L : List HProp), k ≤ n ∧ k ≤ 150 ∧ Inv k A B ∧ m = ptr p ∧ i = .int .i64 (k : Int) ∧ Olds old was L ∧ ∃ z : Wd E (Ext.At p A :: Ref06.At q B :: L), wr = z.val)
    (fun _ _ _ i _ => 150 - (intOf i).toNat)
  case atStart => exact ⟨0, p, [], [], [], by omega, by omega, ⟨List.Perm.refl _, by simp, by simp, by simp⟩, rfl, rfl, .inl ⟨rfl, rfl⟩, z.up1, rfl⟩
  case round =>
    obtain ⟨k, p, A, B, L, hk, hk2, hI, rfl, rfl, hold, z, rfl⟩ := hrel
    have HI := Lib.hid hI; have HOL := Lib.hid hold
    clear hI hold
    by_cases hlt : k < n ∧ k < 150
    · obtain ⟨h1, h2⟩ := hlt
      obtain ⟨b, off, rfl, hb, kind, d, s, hd, hs, hc0, hc1, hc2⟩ := HO.out k h1
      have HDS := Lib.hid hd; have HSS := Lib.hid hs
      clear hd hs
      by_cases h6 : kind = 6
      · subst h6
        go_wp2_with fail
        refine (Ref06.clone_calls q B (by have := HI.out.lenB; omega) (fun x hx => (HI.out.allB x hx).2.2) z.up1).mono ?_; rintro e w' ⟨cq, rfl, z, rfl⟩
        go_wp2_with fail
        refine (Ext.clone_calls p A HI.out.nodup z.up2).mono ?_; rintro e w' ⟨cp, A', rfl, hp, z, rfl⟩
        have hI' := HI.out.left hp
        have HI' := Lib.hid hI'; have HP := Lib.hid hp
        clear hI' hp
        go_wp2_with fail
        refine (same_calls HI'.out (by omega) cp q z.up3.up1).mono ?_; rintro e w' ⟨rfl, z, rfl⟩
        go_wp2_with fail
        exact ⟨⟨k + 1, cp, A', B, _, by omega, by omega, HI'.out.more (by omega), rfl, rfl, .inr ⟨p, cq, A, B, L, HI.out.more (by omega), rfl, rfl, rfl⟩, z, rfl⟩, by simp [intOf]; omega⟩
      · have b6 : (kind == 6) = false := by simp [h6]
        clear h6
        go_wp2_with fail
        refine (HD.out _ k A B HI.out (by omega) p q kind d s HDS.out HSS.out z).mono ?_; rintro e w' ⟨rfl, A2, B2, hI2, z, rfl⟩
        have HI2 := Lib.hid hI2; clear hI2
        go_wp2_with fail
        refine (same_calls HI2.out (by omega) p q z).mono ?_; rintro e w' ⟨rfl, z, rfl⟩
        go_wp2_with fail
        exact ⟨⟨k + 1, p, A2, B2, L, by omega, by omega, HI2.out, rfl, rfl, HOL.out, z, rfl⟩, by simp [intOf]; omega⟩
    · rcases HOL.out with ⟨rfl, rfl⟩ | ⟨po, qo, A0, B0, L0, hI0, rfl, rfl, rfl⟩
      · by_cases h1 : k < n
        · have h2 : ¬ k < 150 := fun h => hlt ⟨h1, h⟩
          clear hlt
          go_wp2_with fail
          go_ret
          exact ⟨rfl, _, z, rfl⟩
        · clear hlt
          go_wp2_with fail
          go_ret
          exact ⟨rfl, _, z, rfl⟩
      · have HI0 := Lib.hid hI0; clear hI0
        by_cases h1 : k < n
        · have h2 : ¬ k < 150 := fun h => hlt ⟨h1, h⟩
          clear hlt
          go_wp2_with fail
          refine (same_calls HI0.out (by omega) po qo z.up2.up3.up1).mono ?_; rintro e w' ⟨rfl, z, rfl⟩
          go_wp2_with fail
          go_ret
          exact ⟨rfl, _, z, rfl⟩
        · clear hlt
          go_wp2_with fail
          refine (same_calls HI0.out (by omega) po qo z.up2.up3.up1).mono ?_; rintro e w' ⟨rfl, z, rfl⟩
          go_wp2_with fail
          go_ret
          exact ⟨rfl, _, z, rfl⟩
end Go.Proofs.YticilcmplgimpaaDoor.Law06
