/- Walks: a dart's other one, and the closures that step on. -/
import Derived.Test.YtcejjcopchkmeaaRoW
namespace Go.Proofs.Ytcejjcopchkmeaa.Ro
open Go.RowKit Go.Proofs
set_option linter.unusedVariables false
set_option maxRecDepth 100000
set_option linter.unusedSimpArgs false

def oth (d : Nat) : Nat := if d % 2 = 0 then d + 1 else d - 1
theorem oth_oth (d : Nat) : oth (oth d) = d := by unfold oth; split <;> split <;> omega
theorem oth_lt {d m : Nat} (h : d < m) (hm : m % 2 = 0) : oth d < m := by unfold oth; split <;> omega
theorem xor_fin : ∀ d : Fin 1001, bits BinOp.xor IntKind.i64 ((d.val : Nat) : Int) 1 = ((oth d.val : Nat) : Int) := by decide +kernel
theorem xor_one (d : Nat) (h : d ≤ 1000) : bits BinOp.xor IntKind.i64 (d : Int) 1 = (oth d : Int) := xor_fin ⟨d, by omega⟩

theorem other_any (w : World) (d : Nat) (hd : d ≤ 1000) : Calls Try.prog 48 #[.int .i64 (d : Int)] w fun e w' => e = .returned (.int .i64 (oth d : Int)) ∧ w = w' := by
  have hx := xor_one d hd
  go_enter Try.func48, Try.ntmps48
  go_wp2_with fail
  go_ret
  exact ⟨rfl, rfl⟩

/-- a net in a variable of its own -/
def Box (w : World) (p : Nat) (N : Int) (T X C : Value) : Prop := w.heap[p]? = some (.cells #[.int .i64 N, T, X, C] 25 (0, 0))
theorem Box.below {w w' : World} {p B : Nat} {N : Int} {T X C : Value} (h : Box w p N T X C) (hb : Below B w w') (hB : w.heap.size ≤ B) : Box w' p N T X C :=
  (hb.block p (Nat.lt_of_lt_of_le (blk_lt h) hB)).trans h

theorem below_draws (w : World) (n : Nat) : Below w.heap.size w (w.drewN n) := ⟨rfl, rfl, rfl, Nat.le_refl _, fun _ _ => rfl⟩

theorem behind1_any (w : World) (p : Nat) (N : Int) (T X C : Value) (m : Nat) (x : Nat → Int) (hb : Box w p N T X C) (hx : Rd w X m x) (d : Nat) (hd : d ≤ 999) (ho : oth d < m) :
    Calls Try.prog 53 #[.int .i64 (d : Int), .pointer (some ⟨p, 0, none⟩)] w fun e w' => e = .returned (.int .i64 (x (oth d))) ∧ Below w.heap.size w w' := by
  obtain ⟨A, cap, rfl, r⟩ := hx
  obtain ⟨y, rfl, hy, hc⟩ := r (by omega)
  have c2 : w.cell? ⟨p, 2, none⟩ = some (.slice (some y) m cap) := blk_cell hb 2
  have cx := hc (oth d) ho
  have d1 : (oth d : Int) < (m : Int) := by omega
  clear hc r hb
  go_enter Try.func53, Try.ntmps53
  go_wp2_with fail
  go_big_quiet (exact (other_any _ d (by omega)).mono fun e w' h => ⟨h.1, _, h.2.symm⟩)
  go_wp2_with fail
  go_ret
  exact ⟨rfl, below_draws _ _⟩

end Go.Proofs.Ytcejjcopchkmeaa.Ro
