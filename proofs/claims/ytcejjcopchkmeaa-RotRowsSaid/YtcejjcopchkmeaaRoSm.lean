/- Walks: nets that are the same. -/
import Derived.Test.YtcejjcopchkmeaaRoI
namespace Go.Proofs.Ytcejjcopchkmeaa.Ro
open Go.RowKit Go.Proofs Go.Maps
set_option linter.unusedVariables false
set_option maxRecDepth 100000
set_option linter.unusedSimpArgs false

set_option maxHeartbeats 3200000 in
theorem same_ok (w : World) (N : Int) (T X C T' X' C' : Value) (m : Nat) (t x c t' x' c' : Nat → Int) (hm : m ≤ 1000) (hT : Rd w T m t) (hX : Rd w X m x) (hC : Rd w C m c) (hT' : Rd w T' m t') (hX' : Rd w X' m x') (hC' : Rd w C' m c')
    (et : ∀ j, j < m → t j = t' j) (ex : ∀ j, j < m → x j = x' j) (ec : ∀ j, j < m → c j = c' j) :
    Calls Try.prog 26 #[.agg #[.int .i64 N, T, X, C], .agg #[.int .i64 N, T', X', C']] w fun e w' => e = .returned (.bool true) ∧ Below w.heap.size w w' := by
  have q0 : (N == N) = true := by simp
  have ET := Lib.hid et
  have EX := Lib.hid ex
  have EC := Lib.hid ec
  clear et ex ec
  go_enter Try.func26, Try.ntmps26
  go_upto_region 1 with fail
  have B1 : Below w.heap.size w (w.alloc (.cells #[.int .i64 N, T, X, C] 25)) := (Below.refl _ w).alloc (Nat.le_refl _) _
  have X1 : Box (w.alloc (.cells #[.int .i64 N, T, X, C] 25)) w.heap.size N T X C := heap_alloc_new _ _
  have s1 : (w.alloc (.cells #[.int .i64 N, T, X, C] 25)).heap.size = w.heap.size + 1 := by simp
  generalize (w.alloc (.cells #[.int .i64 N, T, X, C] 25)) = w1 at *
  have b2 : Below w1.heap.size w1 (w1.alloc (.cells #[.int .i64 N, T', X', C'] 25)) := (Below.refl _ w1).alloc (Nat.le_refl _) _
  have Y2 : Box (w1.alloc (.cells #[.int .i64 N, T', X', C'] 25)) w1.heap.size N T' X' C' := heap_alloc_new _ _
  have X2 := X1.below b2 (Nat.le_refl _)
  have B2 := B1.trans (b2.mono B1.size)
  rw [s1] at Y2
  clear b2 B1 X1 s1
  generalize (w1.alloc (.cells #[.int .i64 N, T', X', C'] 25)) = w2 at *
  clear w1
  obtain ⟨p, hp⟩ : ∃ p, p = w.heap.size := ⟨_, rfl⟩
  rw [← hp] at X2 Y2 ⊢
  clear hp
  have a0 : w2.cell? ⟨p, 0, none⟩ = some (.int .i64 N) := blk_cell X2 0
  have a1 : w2.cell? ⟨p, 1, none⟩ = some T := blk_cell X2 1
  have c0 : w2.cell? ⟨p + 1, 0, none⟩ = some (.int .i64 N) := blk_cell Y2 0
  have c1 : w2.cell? ⟨p + 1, 1, none⟩ = some T' := blk_cell Y2 1
  go_wp2_with fail
  refine (ints_same _ T T' m t t' hm (hT.below B2 (Nat.le_refl _)) (hT'.below B2 (Nat.le_refl _)) ET.out).mono ?_
  rintro e w3 ⟨rfl, b3⟩
  have X3 := X2.below b3 (Nat.le_refl _)
  have Y3 := Y2.below b3 (Nat.le_refl _)
  have B3 := B2.trans (b3.mono B2.size)
  clear b3 X2 Y2 B2 a0 a1 c0 c1
  have a1 : w3.cell? ⟨p, 2, none⟩ = some X := blk_cell X3 2
  have c1 : w3.cell? ⟨p + 1, 2, none⟩ = some X' := blk_cell Y3 2
  go_wp2_with fail
  refine (ints_same _ X X' m x x' hm (hX.below B3 (Nat.le_refl _)) (hX'.below B3 (Nat.le_refl _)) EX.out).mono ?_
  rintro e w4 ⟨rfl, b4⟩
  have X4 := X3.below b4 (Nat.le_refl _)
  have Y4 := Y3.below b4 (Nat.le_refl _)
  have B4 := B3.trans (b4.mono B3.size)
  clear b4 X3 Y3 B3 a1 c1
  have a1 : w4.cell? ⟨p, 3, none⟩ = some C := blk_cell X4 3
  have c1 : w4.cell? ⟨p + 1, 3, none⟩ = some C' := blk_cell Y4 3
  go_wp2_with fail
  refine (ints_same _ C C' m c c' hm (hC.below B4 (Nat.le_refl _)) (hC'.below B4 (Nat.le_refl _)) EC.out).mono ?_
  rintro e w5 ⟨rfl, b5⟩
  have B5 := B4.trans (b5.mono B4.size)
  go_wp2_with fail
  go_ret
  exact ⟨rfl, B5⟩
end Go.Proofs.Ytcejjcopchkmeaa.Ro
