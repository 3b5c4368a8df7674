/- Walks: Check of a plane net. -/
import Derived.Test.YtcejjcopchkmeaaRoV
namespace Go.Proofs.Ytcejjcopchkmeaa.Ro
open Go.RowKit Go.Proofs Go.Maps
set_option linter.unusedVariables false
set_option maxRecDepth 100000
set_option linter.unusedSimpArgs false

set_option maxHeartbeats 6400000 in
theorem check_ok (w : World) (N : Nat) (T X C : Value) (m : Nat) (t x c : Nat → Int) (hT : Rd w T m t) (hX : Rd w X m x) (hC : Rd w C m c) (pn : Plane N m t x c) :
    Calls Try.prog 18 #[.agg #[.int .i64 (N : Int), T, X, C]] w fun e w' => e = .returned (.int .i64 0) ∧ Below w.heap.size w w' := by
  have g := pn.good
  have hm := g.few
  have hN := g.most
  have hcap := pn.caps
  have bp := pn.turns.perm.bh g.even
  obtain ⟨A1, cap1, rfl, _⟩ := id hT
  obtain ⟨A3, cap3, rfl, r3⟩ := id hC
  go_enter Try.func18, Try.ntmps18
  go_wp2_with fail
  have B2 : Below w.heap.size w (w.alloc (.cells #[.int .i64 (N : Int), .slice A1 m cap1, X, .slice A3 m cap3] 25)) := (Below.refl _ w).alloc (Nat.le_refl _) _
  have X2 : Box (w.alloc (.cells #[.int .i64 (N : Int), .slice A1 m cap1, X, .slice A3 m cap3] 25)) w.heap.size N (.slice A1 m cap1) X (.slice A3 m cap3) := heap_alloc_new _ _
  generalize (w.alloc (.cells #[.int .i64 (N : Int), .slice A1 m cap1, X, .slice A3 m cap3] 25)) = w2 at *
  obtain ⟨p, hp⟩ : ∃ p, p = w.heap.size := ⟨_, rfl⟩
  rw [← hp] at X2 ⊢
  clear hp
  refine (shape_ok _ N _ X _ m t x c (hT.below B2 (Nat.le_refl _)) (hX.below B2 (Nat.le_refl _)) (hC.below B2 (Nat.le_refl _)) g).mono ?_
  rintro e w3 ⟨rfl, b3⟩
  have B3 := B2.trans (b3.mono B2.size)
  have X3 := X2.below b3 (Nat.le_refl _)
  clear B2 X2 b3
  have pl := blk_lt X3
  have c0 : w3.cell? ⟨p, 0, none⟩ = some (.int .i64 (N : Int)) := blk_cell X3 0
  have c1 : w3.cell? ⟨p, 1, none⟩ = some (.slice A1 m cap1) := blk_cell X3 1
  have c2 : w3.cell? ⟨p, 2, none⟩ = some X := blk_cell X3 2
  have c3 : w3.cell? ⟨p, 3, none⟩ = some (.slice A3 m cap3) := blk_cell X3 3
  go_wp2_with fail
  refine (turns_ok _ N _ X _ m t x c (hT.below B3 (Nat.le_refl _)) (hX.below B3 (Nat.le_refl _)) (hC.below B3 (Nat.le_refl _)) g pn.turns).mono ?_
  rintro e w4 ⟨rfl, b4⟩
  have B4 := B3.trans (b4.mono B3.size)
  have X4 := X3.below b4 (Nat.le_refl _)
  clear B3 X3 b4 c0 c1 c2 c3 pl
  have c3 : w4.cell? ⟨p, 3, none⟩ = some (.slice A3 m cap3) := blk_cell X4 3
  go_wp2_with fail
  clear c3
  go_loopw [21] (fun u wr => ∃ j : Nat, u = .int .i64 (j : Int) ∧ j ≤ m ∧ Box wr p N (.slice A1 m cap1) X (.slice A3 m cap3) ∧ Below w.heap.size w wr) (fun u _ => m - (intOf u).toNat)
  case atStart => exact ⟨0, rfl, Nat.zero_le _, X4, B4⟩
  case round =>
    clear X4 B4
    obtain ⟨j, rfl, hj, Xb, B⟩ := hrel
    by_cases hlt : j < m
    · have d1 : (j : Int) < (m : Int) := by omega
      obtain ⟨y, rfl, hy, hc⟩ := r3 (by omega)
      have cr : wr.cell? (y.add j) = some (.int .i64 (c j)) := (B.cell (by rw [block_add]; exact hy)).trans (hc j hlt)
      obtain ⟨e1, e2⟩ := hcap j hlt
      have d2 : ¬ (c j < 0) := by omega
      have d3 : ¬ (c j > 2147483648) := by omega
      clear hc r3
      go_wp2_with fail
      go_roundw
      case rel => exact ⟨j + 1, by simp, by omega, Xb, B⟩
      case measure => simp [intOf]; omega
    · have d1 : ¬ ((j : Int) < (m : Int)) := by omega
      have pl := blk_lt Xb
      have c0 : wr.cell? ⟨p, 0, none⟩ = some (.int .i64 (N : Int)) := blk_cell Xb 0
      have c1 : wr.cell? ⟨p, 1, none⟩ = some (.slice A1 m cap1) := blk_cell Xb 1
      have c2 : wr.cell? ⟨p, 2, none⟩ = some X := blk_cell Xb 2
      have c3 : wr.cell? ⟨p, 3, none⟩ = some (.slice A3 m cap3) := blk_cell Xb 3
      clear r3 hcap
      go_wp2_with fail
      refine (parts_ok _ N _ X _ m t x c (hT.below B (Nat.le_refl _)) (hX.below B (Nat.le_refl _)) (hC.below B (Nat.le_refl _)) g).mono ?_
      rintro e w5 ⟨v5, o5, k5, rfl, _, _, P5, b5⟩
      obtain rfl := pn.whole _ _ P5
      have B5 := B.trans (b5.mono B.size)
      have X5 := Xb.below b5 (Nat.le_refl _)
      clear B Xb b5 c0 c1 c2 c3 pl P5
      have pl := blk_lt X5
      have c0 : w5.cell? ⟨p, 0, none⟩ = some (.int .i64 (N : Int)) := blk_cell X5 0
      have c1 : w5.cell? ⟨p, 1, none⟩ = some (.slice A1 m cap1) := blk_cell X5 1
      have c2 : w5.cell? ⟨p, 2, none⟩ = some X := blk_cell X5 2
      have c3 : w5.cell? ⟨p, 3, none⟩ = some (.slice A3 m cap3) := blk_cell X5 3
      go_wp2_with fail
      refine (faces_ok _ N _ X _ m t x c (hT.below B5 (Nat.le_refl _)) (hX.below B5 (Nat.le_refl _)) (hC.below B5 (Nat.le_refl _)) g bp).mono ?_
      rintro e w6 ⟨v6, o6, k6, rfl, _, _, O6, b6⟩
      have eu := pn.euler _ _ O6
      generalize max k6 1 = F at *
      have B6 := B5.trans (b6.mono B5.size)
      have X6 := X5.below b6 (Nat.le_refl _)
      clear B5 X5 b6 c0 c1 c2 c3 pl O6
      have c0 : w6.cell? ⟨p, 0, none⟩ = some (.int .i64 (N : Int)) := blk_cell X6 0
      have c1 : w6.cell? ⟨p, 1, none⟩ = some (.slice A1 m cap1) := blk_cell X6 1
      have s1 : (N : Int) - (m : Int) / 2 + (F : Int) = 2 := by omega
      go_wp2_with fail
      go_ret
      exact ⟨rfl, B6⟩
end Go.Proofs.Ytcejjcopchkmeaa.Ro
