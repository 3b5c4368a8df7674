/- What is known of the net of a law's numbers. -/
import Derived.Test.YtcejjcopchkmeaaRoPo
import Derived.Test.YtcejjcopchkmeaaRoNt
namespace Go.Proofs.Ytcejjcopchkmeaa.Ro
open Go.RowKit Go.Proofs Go.Maps
set_option linter.unusedVariables false
set_option maxRecDepth 100000
set_option linter.unusedSimpArgs false

/-- what Plane hands back -/
def PlanePost (B : Nat) (w : World) (e : Ending) (w' : World) : Prop :=
  ∃ (N m : Nat) (t x c : Nat → Int) (TA : Option Addr) (tp : Nat) (XA : Option Addr) (xp : Nat) (CA : Option Addr) (cp : Nat),
    e = .returned (.agg #[.int .i64 (N : Int), .slice TA m tp, .slice XA m xp, .slice CA m cp]) ∧ Grown N m t x c ∧ N ≤ 25 ∧ m ≤ 48 ∧ Rows w' B (.slice TA m tp) (.slice XA m xp) (.slice CA m cp) m t x c ∧ Below B w w'
theorem plane_post (w : World) (V : Value) (n : Nat) (z : Nat → Int) (hV : Rd w V n z) (hz : ∀ i, i < n → Small (z i)) (hn : n ≤ 9223372036854775807) :
    Calls Try.prog 16 #[V] w (PlanePost w.heap.size w) := by
  refine (plane_any w V n z hV hz hn).mono ?_
  rintro e w' ⟨T, X, C, rfl, R, b⟩
  obtain ⟨gr, h1, h2⟩ := plane_ok z n
  obtain ⟨TA, tp, rfl, -⟩ := id R.ot.rd
  obtain ⟨XA, xp, rfl, -⟩ := id R.ox.rd
  obtain ⟨CA, cp, rfl, -⟩ := id R.oc.rd
  exact ⟨_, _, _, _, _, TA, tp, XA, xp, CA, cp, rfl, gr, h1, h2, R, b⟩
end Go.Proofs.Ytcejjcopchkmeaa.Ro
