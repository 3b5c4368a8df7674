/- Walks: Faces of a net whose next ones are a permutation. -/
import Derived.Test.YtcejjcopchkmeaaRoS
namespace Go.Proofs.Ytcejjcopchkmeaa.Ro
open Go.RowKit Go.Proofs
set_option linter.unusedVariables false
set_option maxRecDepth 100000
set_option linter.unusedSimpArgs false

theorem behind_any (w : World) (N : Int) (T X C : Value) :
    Calls Try.prog 45 #[.agg #[.int .i64 N, T, X, C]] w fun e w' => e = .returned (.func (.func 53) #[] #[.pointer (some ⟨w.heap.size, 0, none⟩)]) ∧ w.alloc (.cells #[.int .i64 N, T, X, C] 25) = w' := by
  have hmf : ∀ (fn : Fn) (first cap : Array Value) (w : World), (Instr.makeFunc fn first cap).run Try.prog w = .ok (.func fn first cap) w := fun _ _ _ _ => rfl
  go_enter Try.func45, Try.ntmps45
  go_wp2_with fail
  go_ret
  exact ⟨rfl, rfl⟩

/-- the dart behind one, about its face -/
def bh (x : Nat → Int) (d : Nat) : Nat := (x (oth d)).toNat

set_option maxHeartbeats 3200000 in
theorem faces_ok (w : World) (N : Nat) (T X C : Value) (m : Nat) (t x c : Nat → Int) (hT : Rd w T m t) (hX : Rd w X m x) (hC : Rd w C m c) (g : Good N m t x) (pf : Perm (bh x) m) :
    Calls Try.prog 21 #[.agg #[.int .i64 (N : Int), T, X, C]] w
      fun e w' => ∃ v o k, e = .returned (.tuple #[v, .int .i64 ((max k 1 : Nat) : Int)]) ∧ Ow w' v m o ∧ (∀ k, v.ownBlock = some k → w.heap.size ≤ k) ∧ Orb (bh x) m o k ∧ Below w.heap.size w w' := by
  have hv : ∀ d, d < m → x (oth d) = (bh x d : Int) := fun d hd => by
    have := g.next (oth d) (oth_lt hd g.even)
    unfold bh; omega
  have hT' := hT
  obtain ⟨A1, cap1, rfl, r1⟩ := hT
  clear r1
  go_enter Try.func21, Try.ntmps21
  go_wp2_with fail
  have B2 : Below w.heap.size w (w.alloc (.cells #[.int .i64 (N : Int), .slice A1 m cap1, X, C] 25)) := (Below.refl _ w).alloc (Nat.le_refl _) _
  have X2 : Box (w.alloc (.cells #[.int .i64 (N : Int), .slice A1 m cap1, X, C] 25)) w.heap.size N (.slice A1 m cap1) X C := heap_alloc_new _ _
  generalize (w.alloc (.cells #[.int .i64 (N : Int), .slice A1 m cap1, X, C] 25)) = w2 at *
  refine (fine_ok _ N _ X C m t x c (hT'.below B2 (Nat.le_refl _)) (hX.below B2 (Nat.le_refl _)) (hC.below B2 (Nat.le_refl _)) g).mono ?_
  rintro e w3 ⟨rfl, b3⟩
  have B3 := B2.trans (b3.mono B2.size)
  have X3 := X2.below b3 (Nat.le_refl _)
  clear B2 X2 b3
  obtain ⟨p, hp⟩ : ∃ p, p = w.heap.size := ⟨_, rfl⟩
  rw [← hp] at X3 ⊢
  have pl := blk_lt X3
  have c0 : w3.cell? ⟨p, 0, none⟩ = some (.int .i64 (N : Int)) := blk_cell X3 0
  have c1 : w3.cell? ⟨p, 1, none⟩ = some (.slice A1 m cap1) := blk_cell X3 1
  have c2 : w3.cell? ⟨p, 2, none⟩ = some X := blk_cell X3 2
  have c3 : w3.cell? ⟨p, 3, none⟩ = some C := blk_cell X3 3
  rw [hp]
  rw [hp] at c0 c1 c2 c3 pl X3
  clear hp
  go_upto_region 3 with fail
  have Bx : Box (w3.alloc (.cells #[.int .i64 (N : Int), .slice A1 m cap1, X, C] 25)).drew w3.heap.size N (.slice A1 m cap1) X C := heap_alloc_new w3 _
  have b5 : Below w3.heap.size w3 (w3.alloc (.cells #[.int .i64 (N : Int), .slice A1 m cap1, X, C] 25)).drew := ((Below.refl _ w3).alloc (Nat.le_refl _) _).drew
  have hX5 : Rd (w3.alloc (.cells #[.int .i64 (N : Int), .slice A1 m cap1, X, C] 25)).drew X m x := (hX.below B3 (Nat.le_refl _)).below b5 (Nat.le_refl _)
  have hm : m ≤ 999 := by have := g.few; omega
  have B5 := B3.trans (b5.mono B3.size)
  go_region_with (first | (refine (behind_any _ _ _ _ _).mono ?_; rintro e w5 ⟨rfl, rfl⟩) | (refine (orbits_behind _ _ _ _ _ _ m x Bx hX5 hm g.even (bh x) hv pf).mono ?_; rintro e w6 ⟨v, o, k, rfl, O6, n6, R6, b6⟩))
  all_goals
    go_simp
    go_wp2_with fail
    all_goals
      go_ret2
      refine ⟨v, o, k, ?_, O6, fun j hj => Nat.le_trans B5.size (n6 j hj), R6, B5.trans (b6.mono B5.size)⟩
      simp
      omega

/-- the next dart about a vertex -/
def ab (x : Nat → Int) (d : Nat) : Nat := (x d).toNat
end Go.Proofs.Ytcejjcopchkmeaa.Ro
