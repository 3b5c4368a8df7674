/- Walks: Check of any net. -/
import Derived.Test.YtcejjcopchkmeaaRoVa
import Derived.Test.YtcejjcopchkmeaaRoSx
import Derived.Test.YtcejjcopchkmeaaRoF
namespace Go.Proofs.Ytcejjcopchkmeaa.Ro
open Go.RowKit Go.Proofs Go.Maps
set_option linter.unusedVariables false
set_option maxRecDepth 100000
set_option linter.unusedSimpArgs false

set_option maxHeartbeats 6400000 in
theorem check_any (w : World) (N : Int) (T X C : Value) (m mx mc : Nat) (t x c : Nat → Int) (hT : Rd w T m t) (hX : Rd w X mx x) (hC : Rd w C mc c) (hm : m ≤ 999) :
    Calls Try.prog 18 #[.agg #[.int .i64 N, T, X, C]] w fun e w' => ∃ r, e = .returned (.int .i64 r) ∧ TellsAny N m mx mc t x c r ∧ Below w.heap.size w w' := by
  obtain ⟨A1, cap1, rfl, _⟩ := id hT
  obtain ⟨A3, cap3, rfl, r3⟩ := id hC
  go_enter Try.func18, Try.ntmps18
  go_wp2_with fail
  have B2 : Below w.heap.size w (w.alloc (.cells #[.int .i64 N, .slice A1 m cap1, X, .slice A3 mc cap3] 25)) := (Below.refl _ w).alloc (Nat.le_refl _) _
  have X2 : Box (w.alloc (.cells #[.int .i64 N, .slice A1 m cap1, X, .slice A3 mc cap3] 25)) w.heap.size N (.slice A1 m cap1) X (.slice A3 mc cap3) := heap_alloc_new _ _
  generalize (w.alloc (.cells #[.int .i64 N, .slice A1 m cap1, X, .slice A3 mc cap3] 25)) = w2 at *
  obtain ⟨p, hp⟩ : ∃ p, p = w.heap.size := ⟨_, rfl⟩
  rw [← hp] at X2 ⊢
  clear hp
  refine (shape_any _ N _ X _ m mx mc t x c (hT.below B2 (Nat.le_refl _)) (hX.below B2 (Nat.le_refl _)) (hC.below B2 (Nat.le_refl _)) hm).mono ?_
  rintro e w3 ⟨rfl, b3⟩
  have B3 := B2.trans (b3.mono B2.size)
  have X3 := X2.below b3 (Nat.le_refl _)
  clear B2 X2 b3
  have pl := blk_lt X3
  have c0 : w3.cell? ⟨p, 0, none⟩ = some (.int .i64 N) := blk_cell X3 0
  have c1 : w3.cell? ⟨p, 1, none⟩ = some (.slice A1 m cap1) := blk_cell X3 1
  have c2 : w3.cell? ⟨p, 2, none⟩ = some X := blk_cell X3 2
  have c3 : w3.cell? ⟨p, 3, none⟩ = some (.slice A3 mc cap3) := blk_cell X3 3
  by_cases hs : shapeF N m mx mc t x = 0
  rotate_left
  · have q1 : (shapeF N m mx mc t x != 0) = true := by simpa using hs
    have HS := Lib.hid hs
    clear hs
    go_wp2_with fail
    go_ret
    exact ⟨_, rfl, .inl ⟨HS.out, rfl⟩, B3⟩
  have HS := Lib.hid hs
  rw [hs]
  obtain ⟨n, rfl, rfl, rfl, g⟩ := shapeF_good hs
  clear hs
  have hm2 := g.few
  have hN := g.most
  go_wp2_with fail
  refine (turns_any _ n _ X _ mc t x c (hT.below B3 (Nat.le_refl _)) (hX.below B3 (Nat.le_refl _)) (hC.below B3 (Nat.le_refl _)) g).mono ?_
  rintro e w4 ⟨b, rfl, hb, b4⟩
  have B4 := B3.trans (b4.mono B3.size)
  have X4 := X3.below b4 (Nat.le_refl _)
  have HB := Lib.hid hb
  clear B3 X3 b4 c0 c1 c2 c3 pl hb
  have c3 : w4.cell? ⟨p, 3, none⟩ = some (.slice A3 mc cap3) := blk_cell X4 3
  cases b with
  | false =>
    go_wp2_with fail
    go_ret
    exact ⟨_, rfl, .inr ⟨HS.out, .inl ⟨fun h => (by have := HB.out.2 h; cases this), rfl⟩⟩, B4⟩
  | true =>
    have TT := HB.out.1 rfl
    have bp := TT.perm.bh g.even
    have HT := Lib.hid TT
    clear TT
    go_wp2_with fail
    clear c3
    go_loopw [21] (fun u wr => ∃ j : Nat, u = .int .i64 (j : Int) ∧ j ≤ mc ∧ Hid (∀ d, d < j → 0 ≤ c d ∧ c d ≤ 2147483648) ∧ Box wr p n (.slice A1 mc cap1) X (.slice A3 mc cap3) ∧ Below w.heap.size w wr) (fun u _ => mc - (intOf u).toNat)
    case atStart => exact ⟨0, rfl, Nat.zero_le _, Lib.hid fun d h => by omega, X4, B4⟩
    case round =>
      clear X4 B4
      obtain ⟨j, rfl, hj, hcap, Xb, B⟩ := hrel
      by_cases hlt : j < mc
      · have d1 : (j : Int) < (mc : Int) := by omega
        obtain ⟨y, rfl, hy, hc⟩ := r3 (by omega)
        have cr : wr.cell? (y.add j) = some (.int .i64 (c j)) := (B.cell (by rw [block_add]; exact hy)).trans (hc j hlt)
        clear hc r3
        by_cases hb : 0 ≤ c j ∧ c j ≤ 2147483648
        · have d2 : decide (c j < 0) = false := by simp; omega
          have d3 : decide (c j > 2147483648) = false := by simp; omega
          have HC2 : Hid (∀ d, d < j + 1 → 0 ≤ c d ∧ c d ≤ 2147483648) := Lib.hid fun d hd => by
            rcases Nat.lt_or_ge d j with q | q
            · exact hcap.out d q
            · rw [show d = j by omega]; exact hb
          clear hb
          go_wp2_with fail
          go_roundw
          case rel => exact ⟨j + 1, by simp, by omega, HC2, Xb, B⟩
          case measure => simp [intOf]; omega
        · have HN := Lib.hid (fun q => hb (q j hlt) : ¬ ∀ d, d < mc → 0 ≤ c d ∧ c d ≤ 2147483648)
          by_cases h0 : c j < 0
          · have d2 : decide (c j < 0) = true := by simp; omega
            clear hb h0
            go_wp2_with fail
            go_ret
            exact ⟨4, rfl, .inr ⟨HS.out, .inr (.inl ⟨HT.out, HN.out, rfl⟩)⟩, B⟩
          · have d2 : decide (c j < 0) = false := by simp; omega
            have d3 : decide (c j > 2147483648) = true := by simp; omega
            clear hb h0
            go_wp2_with fail
            go_ret
            exact ⟨4, rfl, .inr ⟨HS.out, .inr (.inl ⟨HT.out, HN.out, rfl⟩)⟩, B⟩
      · have d1 : ¬ ((j : Int) < (mc : Int)) := by omega
        obtain rfl : j = mc := by omega
        have pl := blk_lt Xb
        have c0 : wr.cell? ⟨p, 0, none⟩ = some (.int .i64 (n : Int)) := blk_cell Xb 0
        have c1 : wr.cell? ⟨p, 1, none⟩ = some (.slice A1 j cap1) := blk_cell Xb 1
        have c2 : wr.cell? ⟨p, 2, none⟩ = some X := blk_cell Xb 2
        have c3 : wr.cell? ⟨p, 3, none⟩ = some (.slice A3 j cap3) := blk_cell Xb 3
        clear r3
        go_wp2_with fail
        refine (parts_ok _ n _ X _ j t x c (hT.below B (Nat.le_refl _)) (hX.below B (Nat.le_refl _)) (hC.below B (Nat.le_refl _)) g).mono ?_
        rintro e w5 ⟨v5, o5, k5, rfl, _, _, P5, b5⟩
        have B5 := B.trans (b5.mono B.size)
        have X5 := Xb.below b5 (Nat.le_refl _)
        have HP := Lib.hid P5
        clear B Xb b5 c0 c1 c2 c3 pl P5
        have pl := blk_lt X5
        have c0 : w5.cell? ⟨p, 0, none⟩ = some (.int .i64 (n : Int)) := blk_cell X5 0
        have c1 : w5.cell? ⟨p, 1, none⟩ = some (.slice A1 j cap1) := blk_cell X5 1
        have c2 : w5.cell? ⟨p, 2, none⟩ = some X := blk_cell X5 2
        have c3 : w5.cell? ⟨p, 3, none⟩ = some (.slice A3 j cap3) := blk_cell X5 3
        by_cases hk : k5 = 1
        rotate_left
        · have e1 : ((k5 : Int) != 1) = true := by simp; omega
          have HK := Lib.hid hk
          clear hk
          go_wp2_with fail
          go_ret
          exact ⟨7, rfl, .inr ⟨HS.out, .inr (.inr ⟨HT.out, hcap.out, .inr ⟨HT.out, o5, k5, HP.out, .inl ⟨HK.out, rfl⟩⟩⟩)⟩, B5⟩
        subst hk
        go_wp2_with fail
        refine (faces_ok _ n _ X _ j t x c (hT.below B5 (Nat.le_refl _)) (hX.below B5 (Nat.le_refl _)) (hC.below B5 (Nat.le_refl _)) g bp).mono ?_
        rintro e w6 ⟨v6, o6, k6, rfl, _, _, O6, b6⟩
        have km := O6.le
        obtain ⟨F, hF⟩ : ∃ F, F = max k6 1 := ⟨_, rfl⟩
        rw [← hF]
        have HO := Lib.hid (And.intro hF O6)
        have hF2 : F ≤ 241 := by omega
        have B6 := B5.trans (b6.mono B5.size)
        have X6 := X5.below b6 (Nat.le_refl _)
        clear B5 X5 b6 c0 c1 c2 c3 pl O6 hF
        have c0 : w6.cell? ⟨p, 0, none⟩ = some (.int .i64 (n : Int)) := blk_cell X6 0
        have c1 : w6.cell? ⟨p, 1, none⟩ = some (.slice A1 j cap1) := blk_cell X6 1
        by_cases hE : n + F = 2 + j / 2
        · have e2 : ((n : Int) - (j : Int) / 2 + (F : Int) != 2) = false := by simp; omega
          have HE := Lib.hid hE
          clear hE
          go_wp2_with fail
          go_ret
          exact ⟨0, rfl, .inr ⟨HS.out, .inr (.inr ⟨HT.out, hcap.out, .inr ⟨HT.out, o5, 1, HP.out, .inr ⟨rfl, o6, k6, HO.out.2, .inr ⟨by rw [← HO.out.1]; exact HE.out, rfl⟩⟩⟩⟩)⟩, B6⟩
        · have e2 : ((n : Int) - (j : Int) / 2 + (F : Int) != 2) = true := by simp; omega
          have HE := Lib.hid hE
          clear hE
          go_wp2_with fail
          go_ret
          exact ⟨8, rfl, .inr ⟨HS.out, .inr (.inr ⟨HT.out, hcap.out, .inr ⟨HT.out, o5, 1, HP.out, .inr ⟨rfl, o6, k6, HO.out.2, .inl ⟨by rw [← HO.out.1]; exact HE.out, rfl⟩⟩⟩⟩)⟩, B6⟩
end Go.Proofs.Ytcejjcopchkmeaa.Ro
