/- Walks: the closures that step on about a vertex. -/
import Derived.Test.YtcejjcopchkmeaaRoO
namespace Go.Proofs.Ytcejjcopchkmeaa.Ro
open Go.RowKit Go.Proofs Go.Maps
set_option linter.unusedVariables false
set_option maxRecDepth 100000
set_option linter.unusedSimpArgs false

theorem turns1_any (w : World) (p : Nat) (N : Int) (T X C : Value) (m : Nat) (x : Nat → Int) (hb : Box w p N T X C) (hx : Rd w X m x) (d : Nat) (hd : d < m) :
    Calls Try.prog 52 #[.int .i64 (d : Int), .pointer (some ⟨p, 0, none⟩)] w fun e w' => e = .returned (.int .i64 (x d)) ∧ Below w.heap.size w w' := by
  obtain ⟨A, cap, rfl, r⟩ := hx
  obtain ⟨y, rfl, hy, hc⟩ := r (by omega)
  have c2 : w.cell? ⟨p, 2, none⟩ = some (.slice (some y) m cap) := blk_cell hb 2
  have cx := hc d hd
  have d1 : (d : Int) < (m : Int) := by omega
  clear hc r hb
  go_enter Try.func52, Try.ntmps52
  go_wp2_with fail
  go_ret
  exact ⟨rfl, Below.refl _ _⟩
end Go.Proofs.Ytcejjcopchkmeaa.Ro
