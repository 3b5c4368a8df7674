/- Walks: what is about a vertex, from a dart on; where a dart ends. -/
import Derived.Test.YtcejjcopchkmeaaRoC
import Derived.Test.YtcejjcopchkmeaaRoB
import Derived.Test.YtcejjcopchkmeaaRoHd
namespace Go.Proofs.Ytcejjcopchkmeaa.Ro
open Go.RowKit Go.Proofs Go.Maps
set_option linter.unusedVariables false
set_option maxRecDepth 100000
set_option linter.unusedSimpArgs false

set_option maxHeartbeats 3200000 in
theorem about_ok (w : World) (N : Nat) (T X C : Value) (m : Nat) (t x c : Nat → Int) (hT : Rd w T m t) (hX : Rd w X m x) (hC : Rd w C m c) (g : Good N m t x) (pf : Perm (ab x) m) (d : Nat) (hd : d < m) :
    Calls Try.prog 31 #[.agg #[.int .i64 (N : Int), T, X, C], .int .i64 (d : Int)] w (RoundPost w.heap.size w (ab x) d) := by
  have hmf : ∀ (fn : Fn) (first cap : Array Value) (w : World), (Instr.makeFunc fn first cap).run Try.prog w = .ok (.func fn first cap) w := fun _ _ _ _ => rfl
  go_enter Try.func31, Try.ntmps31
  go_wp2_with fail
  have B2 : Below w.heap.size w (w.alloc (.cells #[.int .i64 (N : Int), T, X, C] 25)) := (Below.refl _ w).alloc (Nat.le_refl _) _
  have X2 : Box (w.alloc (.cells #[.int .i64 (N : Int), T, X, C] 25)) w.heap.size N T X C := heap_alloc_new _ _
  refine (round_about _ _ N T X C m t x c X2 (hT.below B2 (Nat.le_refl _)) (hX.below B2 (Nat.le_refl _)) (hC.below B2 (Nat.le_refl _)) g pf d hd).mono ?_
  rintro e w6 R6
  have R7 := R6.of B2
  obtain ⟨y, k, cur, rfl, h2, h3, h4, h5, h6⟩ := R7
  go_wp2_with fail
  go_ret
  exact ⟨y, k, cur, rfl, h2, h3, h4, h5, h6⟩

end Go.Proofs.Ytcejjcopchkmeaa.Ro
