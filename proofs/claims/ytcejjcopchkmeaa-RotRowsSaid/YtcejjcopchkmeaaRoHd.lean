/- Walks: where a dart ends. -/
import Derived.Test.YtcejjcopchkmeaaRoF
namespace Go.Proofs.Ytcejjcopchkmeaa.Ro
open Go.RowKit Go.Proofs Go.Maps
set_option linter.unusedVariables false
set_option maxRecDepth 100000
set_option linter.unusedSimpArgs false

theorem head_ok (w : World) (N : Nat) (T X C : Value) (m : Nat) (t : Nat → Int) (hT : Rd w T m t) (d : Nat) (hd : d ≤ 999) (ho : oth d < m) :
    Calls Try.prog 29 #[.agg #[.int .i64 (N : Int), T, X, C], .int .i64 (d : Int)] w fun e w' => e = .returned (.int .i64 (t (oth d))) ∧ Below w.heap.size w w' := by
  obtain ⟨A, cap, rfl, r⟩ := hT
  obtain ⟨y, rfl, hy, hc⟩ := r (by omega)
  have cx := hc (oth d) ho
  have d1 : (oth d : Int) < (m : Int) := by omega
  have d2 : ¬ ((d : Int) < 0) := by omega
  have d3 : decide ((d : Int) < 0) = false := by simp
  have d4 : decide ((m : Int) ≤ (oth d : Int)) = false := by simp; omega
  have d5 : decide ((oth d : Int) ≥ (m : Int)) = false := by simp; omega
  have d6 : decide (m ≤ oth d) = false := by simp; omega
  clear hc r
  go_enter Try.func29, Try.ntmps29
  go_upto_region 1 with fail
  have B2 : Below w.heap.size w (w.alloc (.cells #[.int .i64 (N : Int), .slice (some y) m cap, X, C] 25)) := (Below.refl _ w).alloc (Nat.le_refl _) _
  have X2 : Box (w.alloc (.cells #[.int .i64 (N : Int), .slice (some y) m cap, X, C] 25)) w.heap.size N (.slice (some y) m cap) X C := heap_alloc_new _ _
  have cy := (B2.cell (p := y.add (oth d)) (by rw [block_add]; exact hy)).trans cx
  generalize (w.alloc (.cells #[.int .i64 (N : Int), .slice (some y) m cap, X, C] 25)) = w3 at *
  have c1 : w3.cell? ⟨w.heap.size, 1, none⟩ = some (.slice (some y) m cap) := blk_cell X2 1
  go_big_quiet (exact (other_any _ d (by omega)).mono fun e w' h => ⟨h.1, _, h.2.symm⟩)
  go_wp2_with fail
  go_big_quiet (exact (other_any _ d (by omega)).mono fun e w' h => ⟨h.1, _, h.2.symm⟩)
  go_wp2_with fail
  go_ret
  exact ⟨rfl, B2.os, B2.tape, B2.output, B2.size, B2.block⟩
end Go.Proofs.Ytcejjcopchkmeaa.Ro
