/- Walks: Face and About. -/
import Derived.Test.YtcejjcopchkmeaaRoG
namespace Go.Proofs.Ytcejjcopchkmeaa.Ro
open Go.RowKit Go.Proofs Go.Maps
set_option linter.unusedVariables false
set_option maxRecDepth 100000
set_option linter.unusedSimpArgs false

theorem RoundPost.of {w W w' : World} {f : Nat → Nat} {d : Nat} {e : Ending} (h : RoundPost W.heap.size W f d e w') (b : Below w.heap.size w W) : RoundPost w.heap.size w f d e w' := by
  obtain ⟨y, k, cur, h1, h2, h3, h4, h5, h6⟩ := h
  exact ⟨y, k, cur, h1, Nat.le_trans b.size h2, h3, h4, h5, b.trans (h6.mono b.size)⟩

set_option maxHeartbeats 3200000 in
theorem face_ok (w : World) (N : Nat) (T X C : Value) (m : Nat) (t x c : Nat → Int) (hT : Rd w T m t) (hX : Rd w X m x) (hC : Rd w C m c) (g : Good N m t x) (pf : Perm (bh x) m) (d : Nat) (hd : d < m) :
    Calls Try.prog 33 #[.agg #[.int .i64 (N : Int), T, X, C], .int .i64 (d : Int)] w (RoundPost w.heap.size w (bh x) d) := by
  go_enter Try.func33, Try.ntmps33
  go_upto_region 1 with fail
  have B2 : Below w.heap.size w (w.alloc (.cells #[.int .i64 (N : Int), T, X, C] 25)) := (Below.refl _ w).alloc (Nat.le_refl _) _
  have X2 : Box (w.alloc (.cells #[.int .i64 (N : Int), T, X, C] 25)) w.heap.size N T X C := heap_alloc_new _ _
  generalize (w.alloc (.cells #[.int .i64 (N : Int), T, X, C] 25)) = w3 at *
  have pl := blk_lt X2
  have c0 : w3.cell? ⟨w.heap.size, 0, none⟩ = some (.int .i64 (N : Int)) := blk_cell X2 0
  have c1 : w3.cell? ⟨w.heap.size, 1, none⟩ = some T := blk_cell X2 1
  have c2 : w3.cell? ⟨w.heap.size, 2, none⟩ = some X := blk_cell X2 2
  have c3 : w3.cell? ⟨w.heap.size, 3, none⟩ = some C := blk_cell X2 3
  have Bx : Box (w3.alloc (.cells #[.int .i64 (N : Int), T, X, C] 25)).drew w3.heap.size N T X C := heap_alloc_new w3 _
  have b5 : Below w3.heap.size w3 (w3.alloc (.cells #[.int .i64 (N : Int), T, X, C] 25)).drew := ((Below.refl _ w3).alloc (Nat.le_refl _) _).drew
  have B5 := B2.trans (b5.mono B2.size)
  have hT5 := hT.below B5 (Nat.le_refl _)
  have hX5 := hX.below B5 (Nat.le_refl _)
  have hC5 := hC.below B5 (Nat.le_refl _)
  go_region_with (first | (refine (behind_any _ _ _ _ _).mono ?_; rintro e w5 ⟨rfl, rfl⟩) | (refine (round_behind _ _ N T X C m t x c Bx hT5 hX5 hC5 g pf d hd).mono ?_; rintro e w6 R6; have R7 := R6.of B5; obtain ⟨y, k, cur, rfl, h2, h3, h4, h5, h6⟩ := R7))
  all_goals
    go_simp
    go_wp2_with fail
    go_ret
    exact ⟨y, k, cur, rfl, h2, h3, h4, h5, h6⟩

theorem RoundPost.row {B : Nat} {w w' : World} {f : Nat → Nat} {d : Nat} {e : Ending} (h : RoundPost B w f d e w') : ∃ b k, e = .returned (.slice (some ⟨b, 0, none⟩) k k) ∧ B ≤ b ∧ b < w'.heap.size ∧ (∀ j, j < k → w'.cell? ⟨b, j, none⟩ = some (.int .i64 (it f j d : Int))) ∧ Rnd f d k ∧ Below B w w' := by
  obtain ⟨b, k, cur, rfl, h1, h2, h3, h4, h5⟩ := h
  exact ⟨b, k, rfl, h1, blk_lt h2, fun j hj => by rw [blk_cell h2]; exact h3 j hj, h4, h5⟩

end Go.Proofs.Ytcejjcopchkmeaa.Ro
