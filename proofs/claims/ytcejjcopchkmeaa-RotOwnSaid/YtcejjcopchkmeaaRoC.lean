/- Walks: Face and About. -/
import Derived.Test.YtcejjcopchkmeaaRoB
namespace Go.Proofs.Ytcejjcopchkmeaa.Ro
open Go.RowKit Go.Proofs Go.Maps
set_option linter.unusedVariables false
set_option linter.unusedSimpArgs false

theorem RoundPost.of {w W w' : World} {f : Nat → Nat} {d : Nat} {e : Ending} (h : RoundPost W.heap.size W f d e w') (b : Below w.heap.size w W) : RoundPost w.heap.size w f d e w' := by
  obtain ⟨y, k, cur, h1, h2, h3, h4, h5, h6⟩ := h
  exact ⟨y, k, cur, h1, Nat.le_trans b.size h2, h3, h4, h5, b.trans (h6.mono b.size)⟩

set_option maxHeartbeats 3200000 in
theorem face_ok (w : World) (N : Nat) (T X C : Value) (m : Nat) (t x c : Nat → Int) (hT : Rd w T m t) (hX : Rd w X m x) (hC : Rd w C m c) (g : Good N m t x) (pf : Perm (bh x) m) (d : Nat) (hd : d < m) :
    Calls Try.prog 33 #[.agg #[.int .i64 (N : Int), T, X, C], .int .i64 (d : Int)] w (RoundPost w.heap.size w (bh x) d) := by
  go_enter Try.func33, Try.ntmps33
  go_upto_region 1 with fail
  have B2 : Below w.heap.size w (w.alloc (.cells #[.int .i64 (N : Int), T, X, C] 25)) := (Below.refl _ w).alloc (Nat.le_refl _) _
  have X2 : Box (w.alloc (.cells #[.int .i64 (N : Int), T, X, C] 25)) w.heap.size N T X C := heap_alloc_new _ _
  generalize (w.alloc (.cells #[.int .i64 (N : Int), T, X, C] 25)) = w3 at *
  have pl := blk_lt X2
  have c0 : w3.cell? ⟨w.heap.size, 0, none⟩ = some (.int .i64 (N : Int)) := blk_cell X2 0
  have c1 : w3.cell? ⟨w.heap.size, 1, none⟩ = some T := blk_cell X2 1
  have c2 : w3.cell? ⟨w.heap.size, 2, none⟩ = some X := blk_cell X2 2
  have c3 : w3.cell? ⟨w.heap.size, 3, none⟩ = some C := blk_cell X2 3
  have Bx : Box (w3.alloc (.cells #[.int .i64 (N : Int), T, X, C] 25)).drew w3.heap.size N T X C := heap_alloc_new w3 _
  have b5 : Below w3.heap.size w3 (w3.alloc (.cells #[.int .i64 (N : Int), T, X, C] 25)).drew := ((Below.refl _ w3).alloc (Nat.le_refl _) _).drew
  have B5 := B2.trans (b5.mono B2.size)
  have hT5 := hT.below B5 (Nat.le_refl _)
  have hX5 := hX.below B5 (Nat.le_refl _)
  have hC5 := hC.below B5 (Nat.le_refl _)
  go_region_with (first | (refine (behind_any _ _ _ _ _).mono ?_; rintro e w5 ⟨rfl, rfl⟩) | (refine (round_behind _ _ N T X C m t x c Bx hT5 hX5 hC5 g pf d hd).mono ?_; rintro e w6 R6; have R7 := R6.of B5; obtain ⟨y, k, cur, rfl, h2, h3, h4, h5, h6⟩ := R7))
  all_goals
    go_simp
    go_wp2_with fail
    go_ret
    exact ⟨y, k, cur, rfl, h2, h3, h4, h5, h6⟩

set_option maxHeartbeats 3200000 in
theorem about_ok (w : World) (N : Nat) (T X C : Value) (m : Nat) (t x c : Nat → Int) (hT : Rd w T m t) (hX : Rd w X m x) (hC : Rd w C m c) (g : Good N m t x) (pf : Perm (ab x) m) (d : Nat) (hd : d < m) :
    Calls Try.prog 31 #[.agg #[.int .i64 (N : Int), T, X, C], .int .i64 (d : Int)] w (RoundPost w.heap.size w (ab x) d) := by
  have hmf : ∀ (fn : Fn) (first cap : Array Value) (w : World), (Instr.makeFunc fn first cap).run Try.prog w = .ok (.func fn first cap) w := fun _ _ _ _ => rfl
  go_enter Try.func31, Try.ntmps31
  go_wp2_with fail
  have B2 : Below w.heap.size w (w.alloc (.cells #[.int .i64 (N : Int), T, X, C] 25)) := (Below.refl _ w).alloc (Nat.le_refl _) _
  have X2 : Box (w.alloc (.cells #[.int .i64 (N : Int), T, X, C] 25)) w.heap.size N T X C := heap_alloc_new _ _
  refine (round_about _ _ N T X C m t x c X2 (hT.below B2 (Nat.le_refl _)) (hX.below B2 (Nat.le_refl _)) (hC.below B2 (Nat.le_refl _)) g pf d hd).mono ?_
  rintro e w6 R6
  have R7 := R6.of B2
  obtain ⟨y, k, cur, rfl, h2, h3, h4, h5, h6⟩ := R7
  go_wp2_with fail
  go_ret
  exact ⟨y, k, cur, rfl, h2, h3, h4, h5, h6⟩

theorem head_ok (w : World) (N : Nat) (T X C : Value) (m : Nat) (t : Nat → Int) (hT : Rd w T m t) (d : Nat) (hd : d ≤ 999) (ho : oth d < m) :
    Calls Try.prog 29 #[.agg #[.int .i64 (N : Int), T, X, C], .int .i64 (d : Int)] w fun e w' => e = .returned (.int .i64 (t (oth d))) ∧ Below w.heap.size w w' := by
  obtain ⟨A, cap, rfl, r⟩ := hT
  obtain ⟨y, rfl, hy, hc⟩ := r (by omega)
  have cx := hc (oth d) ho
  have d1 : (oth d : Int) < (m : Int) := by omega
  have d2 : ¬ ((d : Int) < 0) := by omega
  have d3 : decide ((d : Int) < 0) = false := by simp
  have d4 : decide ((m : Int) ≤ (oth d : Int)) = false := by simp; omega
  have d5 : decide ((oth d : Int) ≥ (m : Int)) = false := by simp; omega
  have d6 : decide (m ≤ oth d) = false := by simp; omega
  clear hc r
  go_enter Try.func29, Try.ntmps29
  go_upto_region 1 with fail
  have B2 : Below w.heap.size w (w.alloc (.cells #[.int .i64 (N : Int), .slice (some y) m cap, X, C] 25)) := (Below.refl _ w).alloc (Nat.le_refl _) _
  have X2 : Box (w.alloc (.cells #[.int .i64 (N : Int), .slice (some y) m cap, X, C] 25)) w.heap.size N (.slice (some y) m cap) X C := heap_alloc_new _ _
  have cy := (B2.cell (p := y.add (oth d)) (by rw [block_add]; exact hy)).trans cx
  generalize (w.alloc (.cells #[.int .i64 (N : Int), .slice (some y) m cap, X, C] 25)) = w3 at *
  have c1 : w3.cell? ⟨w.heap.size, 1, none⟩ = some (.slice (some y) m cap) := blk_cell X2 1
  go_big_quiet (exact (other_any _ d (by omega)).mono fun e w' h => ⟨h.1, _, h.2.symm⟩)
  go_wp2_with fail
  go_big_quiet (exact (other_any _ d (by omega)).mono fun e w' h => ⟨h.1, _, h.2.symm⟩)
  go_wp2_with fail
  go_ret
  exact ⟨rfl, B2.os, B2.tape, B2.output, B2.size, B2.block⟩
end Go.Proofs.Ytcejjcopchkmeaa.Ro
