/- Numbers that an int holds; a number within bounds. -/
import Derived.Test.YtcejjcopchkmeaaRoW
namespace Go.Proofs.Ytcejjcopchkmeaa.Ro
open Go.RowKit Go.Proofs Go.Maps
set_option linter.unusedVariables false
set_option maxRecDepth 100000
set_option linter.unusedSimpArgs false

def Small (k : Int) : Prop := (Lit.int .i64 k).wf = true
theorem small_bounds {k : Int} (h : Small k) : -9223372036854775808 ≤ k ∧ k ≤ 9223372036854775807 := by
  unfold Small at h
  simp [Lit.wf, IntKind.min, IntKind.max, IntKind.signed, IntKind.bits] at h
  omega
end Go.Proofs.Ytcejjcopchkmeaa.Ro
