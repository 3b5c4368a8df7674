/- Walks: a good net's shape is told to be so; it is fine. -/
import Derived.Test.YtcejjcopchkmeaaRoN
namespace Go.Proofs.Ytcejjcopchkmeaa.Ro
open Go.RowKit Go.Proofs
set_option linter.unusedVariables false
set_option maxRecDepth 100000
set_option linter.unusedSimpArgs false

structure Good (N m : Nat) (t x : Nat → Int) : Prop where
  one : 1 ≤ N
  most : N ≤ 60
  few : m ≤ 240
  even : m % 2 = 0
  next : ∀ d, d < m → 0 ≤ x d ∧ x d < m
  tail : ∀ d, d < m → 0 ≤ t d ∧ t d < N

set_option maxHeartbeats 3200000 in
theorem shape_ok (w : World) (N : Nat) (T X C : Value) (m : Nat) (t x c : Nat → Int) (hT : Rd w T m t) (hX : Rd w X m x) (hC : Rd w C m c) (g : Good N m t x) :
    Calls Try.prog 40 #[.agg #[.int .i64 (N : Int), T, X, C]] w fun e w' => e = .returned (.int .i64 0) ∧ Below w.heap.size w w' := by
  obtain ⟨A1, cap1, rfl, r1⟩ := hT
  obtain ⟨A2, cap2, rfl, r2⟩ := hX
  obtain ⟨A3, cap3, rfl, r3⟩ := hC
  obtain ⟨n1, n2, m1, m2, hx, ht⟩ := g
  have q1 : ¬ ((N : Int) > 60) := by omega
  have q2 : ¬ ((m : Int) > 240) := by omega
  have q3 : ((m : Int) % 2) = 0 := by omega
  have q5 : ¬ ((N : Int) < 1) := by omega
  go_enter Try.func40, Try.ntmps40
  go_wp2_with fail
  have B2 : Below w.heap.size w (w.alloc (.cells #[.int .i64 (N : Int), .slice A1 m cap1, .slice A2 m cap2, .slice A3 m cap3] 25)) := (Below.refl _ w).alloc (Nat.le_refl _) _
  have X2 : Box (w.alloc (.cells #[.int .i64 (N : Int), .slice A1 m cap1, .slice A2 m cap2, .slice A3 m cap3] 25)) w.heap.size N (.slice A1 m cap1) (.slice A2 m cap2) (.slice A3 m cap3) := heap_alloc_new _ _
  generalize (w.alloc (.cells #[.int .i64 (N : Int), .slice A1 m cap1, .slice A2 m cap2, .slice A3 m cap3] 25)) = w2 at *
  obtain ⟨p, hp⟩ : ∃ p, p = w.heap.size := ⟨_, rfl⟩
  rw [← hp] at X2 ⊢
  clear hp
  go_loopw [40] (fun u wr => ∃ i : Nat, u = .int .i64 (i : Int) ∧ i ≤ m ∧ Box wr p N (.slice A1 m cap1) (.slice A2 m cap2) (.slice A3 m cap3) ∧ Below w.heap.size w wr) (fun u _ => m - (intOf u).toNat)
  case atStart => exact ⟨0, rfl, Nat.zero_le _, X2, B2⟩
  case round =>
    clear X2 B2
    obtain ⟨i, rfl, hi, X, B⟩ := hrel
    by_cases hlt : i < m
    · obtain ⟨y, rfl, hy, hc⟩ := r2 (by omega)
      have cr : wr.cell? (y.add i) = some (.int .i64 (x i)) := (B.cell (by rw [block_add]; exact hy)).trans (hc i hlt)
      have d1 : (i : Int) < (m : Int) := by omega
      obtain ⟨e1, e2⟩ := hx i hlt
      have d2 : ¬ (x i < 0) := by omega
      have d3 : ¬ (x i ≥ (m : Int)) := by omega
      clear hc r1 r2 r3
      go_wp2_with fail
      go_roundw
      case rel => exact ⟨i + 1, by simp, by omega, X, B⟩
      case measure => simp [intOf]; omega
    · have d1 : ¬ ((i : Int) < (m : Int)) := by omega
      have c0 : wr.cell? ⟨p, 0, none⟩ = some (.int .i64 (N : Int)) := blk_cell X 0
      have c1 : wr.cell? ⟨p, 1, none⟩ = some (.slice A1 m cap1) := blk_cell X 1
      go_wp2_with fail
      clear c0 c1 d1 hlt hi hx r2 r3
      go_loopw [58] (fun u wr => ∃ i : Nat, u = .int .i64 (i : Int) ∧ i ≤ m ∧ Box wr p N (.slice A1 m cap1) (.slice A2 m cap2) (.slice A3 m cap3) ∧ Below w.heap.size w wr) (fun u _ => m - (intOf u).toNat)
      case atStart => exact ⟨0, rfl, Nat.zero_le _, X, B⟩
      case round =>
        clear X B
        obtain ⟨i, rfl, hi, X, B⟩ := hrel
        by_cases hlt : i < m
        · obtain ⟨y, rfl, hy, hc⟩ := r1 (by omega)
          have cr : wr.cell? (y.add i) = some (.int .i64 (t i)) := (B.cell (by rw [block_add]; exact hy)).trans (hc i hlt)
          have c0 : wr.cell? ⟨p, 0, none⟩ = some (.int .i64 (N : Int)) := blk_cell X 0
          have d1 : (i : Int) < (m : Int) := by omega
          obtain ⟨e1, e2⟩ := ht i hlt
          have d2 : ¬ (t i < 0) := by omega
          have d3 : ¬ (t i ≥ (N : Int)) := by omega
          clear hc r1
          go_wp2_with fail
          go_roundw
          case rel => exact ⟨i + 1, by simp, by omega, X, B⟩
          case measure => simp [intOf]; omega
        · have d1 : ¬ ((i : Int) < (m : Int)) := by omega
          clear r1
          go_wp2
          go_ret
          exact ⟨rfl, B⟩

theorem fine_ok (w : World) (N : Nat) (T X C : Value) (m : Nat) (t x c : Nat → Int) (hT : Rd w T m t) (hX : Rd w X m x) (hC : Rd w C m c) (g : Good N m t x) :
    Calls Try.prog 43 #[.agg #[.int .i64 (N : Int), T, X, C]] w fun e w' => e = .returned (.bool true) ∧ Below w.heap.size w w' := by
  go_enter Try.func43, Try.ntmps43
  go_wp2_with fail
  have B2 : Below w.heap.size w (w.alloc (.cells #[.int .i64 (N : Int), T, X, C] 25)) := (Below.refl _ w).alloc (Nat.le_refl _) _
  refine (shape_ok _ N T X C m t x c (hT.below B2 (Nat.le_refl _)) (hX.below B2 (Nat.le_refl _)) (hC.below B2 (Nat.le_refl _)) g).mono ?_
  rintro e w3 ⟨rfl, b3⟩
  have B3 := B2.trans (b3.mono B2.size)
  go_wp2_with fail
  go_ret
  exact ⟨rfl, B3⟩
end Go.Proofs.Ytcejjcopchkmeaa.Ro
