/-
  No cell of these rows narrows 'for every input' (looked for: loops, veiled, ifaces, maps, wideKeys, modest, calm, conditions, laid).
  DERIVED. THE GIVEN ROWS OF THIS SEAT. 10 by the template 'for every input the law returns true; each argument reads behind the call as it read before'; 0 by the template 'total and deterministic' (their statements: YtcdlnohnkdalbaaTotals.lean).
  GIVEN WITH THE SEED: the statements are not yours to turn. If you find one false, say at which input.
  Laid BY PROGRAM, IN A SANDBOX (cutbox-rows.mjs): the forced cells as the released guide's own fill.sh prints them over the translation 8a3135c89356fac4… (all of the seat's roots in one cut). By AI agents, Wed Nov 11 2026. No macro, syntax, notation, axiom, sorry.
-/
import Derived.Test.YtcdlnohnkdalbaaChecked
import GoSem.Claim
import GoSem.ClaimJoined
import GoSem.ClaimMapViews
import Derived.JoinedTies
import Derived.KernelRfl
namespace Go.Proofs.Ytcdlnohnkdalbaa
/- THE CELL 'sum', in the pinned program and in every row, IS THE sha256 OF THE DUMP (.gsa) THAT YtcdlnohnkdalbaaProg.lean LOADS. Nothing in Lean hashes anything: it is a label: what it is worth is what the hold of that sum in a sandbox is worth. -/
noncomputable def Try.pinned : Pinned := { name := "ytcdlnohnkdalbaa", sum := "8a3135c89356fac4271b571d0316bff1d64d6f9596445dc2cfe59f808707b9ea", checked := Try.checked }
namespace Rows
def none {H : Type} : Left H := { results := [], args := [] }

/-- 'watershedlaw8.RimAll': WHATEVER THE INPUT: true; the input reads as it did. -/
def rimAllSpec : ChangeSpec := { name := "rimAll", fn := fun _ => fun
  | [d1, d2, d3, d4, d5] => { results := [.lit (.bool true)], args := [d1, d2, d3, d4, d5] }
  | _ => none }
def rimAllRow : OpenClaim := { program := "ytcdlnohnkdalbaa", sum := "8a3135c89356fac4271b571d0316bff1d64d6f9596445dc2cfe59f808707b9ea", func := "watershed/watershedlaw8.RimAll", spec := "rimAll", unfollowed := true, recurses := true, apart := false }
def RimAllSaid : Prop := rimAllRow.holds Try.pinned (OpenSpec.ofChange rimAllSpec)

/-- ITS FALSE NEIGHBOUR: 'it returns false'. Refute it at one input. -/
def rimAllWrong : ChangeSpec := { name := "rimAll", fn := fun _ => fun
  | [d1, d2, d3, d4, d5] => { results := [.lit (.bool false)], args := [d1, d2, d3, d4, d5] }
  | _ => none }
def RimAllWrongFalsely : Prop := rimAllRow.holds Try.pinned (OpenSpec.ofChange rimAllWrong)

/-- 'watershedlaw8.RimFlows': WHATEVER THE INPUT: true; the input reads as it did. -/
def rimFlowsSpec : ChangeSpec := { name := "rimFlows", fn := fun _ => fun
  | [d1, d2, d3] => { results := [.lit (.bool true)], args := [d1, d2, d3] }
  | _ => none }
def rimFlowsRow : OpenClaim := { program := "ytcdlnohnkdalbaa", sum := "8a3135c89356fac4271b571d0316bff1d64d6f9596445dc2cfe59f808707b9ea", func := "watershed/watershedlaw8.RimFlows", spec := "rimFlows", unfollowed := true, recurses := true, apart := false }
def RimFlowsSaid : Prop := rimFlowsRow.holds Try.pinned (OpenSpec.ofChange rimFlowsSpec)

/-- ITS FALSE NEIGHBOUR: 'it returns false'. Refute it at one input. -/
def rimFlowsWrong : ChangeSpec := { name := "rimFlows", fn := fun _ => fun
  | [d1, d2, d3] => { results := [.lit (.bool false)], args := [d1, d2, d3] }
  | _ => none }
def RimFlowsWrongFalsely : Prop := rimFlowsRow.holds Try.pinned (OpenSpec.ofChange rimFlowsWrong)

/-- 'watershedlaw8.RimHeights': WHATEVER THE INPUT: true; the input reads as it did. -/
def rimHeightsSpec : ChangeSpec := { name := "rimHeights", fn := fun _ => fun
  | [d1, d2, d3] => { results := [.lit (.bool true)], args := [d1, d2, d3] }
  | _ => none }
def rimHeightsRow : OpenClaim := { program := "ytcdlnohnkdalbaa", sum := "8a3135c89356fac4271b571d0316bff1d64d6f9596445dc2cfe59f808707b9ea", func := "watershed/watershedlaw8.RimHeights", spec := "rimHeights", unfollowed := true, recurses := true, apart := false }
def RimHeightsSaid : Prop := rimHeightsRow.holds Try.pinned (OpenSpec.ofChange rimHeightsSpec)

/-- ITS FALSE NEIGHBOUR: 'it returns false'. Refute it at one input. -/
def rimHeightsWrong : ChangeSpec := { name := "rimHeights", fn := fun _ => fun
  | [d1, d2, d3] => { results := [.lit (.bool false)], args := [d1, d2, d3] }
  | _ => none }
def RimHeightsWrongFalsely : Prop := rimHeightsRow.holds Try.pinned (OpenSpec.ofChange rimHeightsWrong)

/-- 'watershedlaw8.RimBack': WHATEVER THE INPUT: true; the input reads as it did. -/
def rimBackSpec : ChangeSpec := { name := "rimBack", fn := fun _ => fun
  | [d1, d2, d3] => { results := [.lit (.bool true)], args := [d1, d2, d3] }
  | _ => none }
def rimBackRow : OpenClaim := { program := "ytcdlnohnkdalbaa", sum := "8a3135c89356fac4271b571d0316bff1d64d6f9596445dc2cfe59f808707b9ea", func := "watershed/watershedlaw8.RimBack", spec := "rimBack", unfollowed := true, recurses := true, apart := false }
def RimBackSaid : Prop := rimBackRow.holds Try.pinned (OpenSpec.ofChange rimBackSpec)

/-- ITS FALSE NEIGHBOUR: 'it returns false'. Refute it at one input. -/
def rimBackWrong : ChangeSpec := { name := "rimBack", fn := fun _ => fun
  | [d1, d2, d3] => { results := [.lit (.bool false)], args := [d1, d2, d3] }
  | _ => none }
def RimBackWrongFalsely : Prop := rimBackRow.holds Try.pinned (OpenSpec.ofChange rimBackWrong)

/-- 'watershedlaw8.RimMore': WHATEVER THE INPUT: true; the input reads as it did. -/
def rimMoreSpec : ChangeSpec := { name := "rimMore", fn := fun _ => fun
  | [d1, d2, d3, d4, d5] => { results := [.lit (.bool true)], args := [d1, d2, d3, d4, d5] }
  | _ => none }
def rimMoreRow : OpenClaim := { program := "ytcdlnohnkdalbaa", sum := "8a3135c89356fac4271b571d0316bff1d64d6f9596445dc2cfe59f808707b9ea", func := "watershed/watershedlaw8.RimMore", spec := "rimMore", unfollowed := true, recurses := true, apart := false }
def RimMoreSaid : Prop := rimMoreRow.holds Try.pinned (OpenSpec.ofChange rimMoreSpec)

/-- ITS FALSE NEIGHBOUR: 'it returns false'. Refute it at one input. -/
def rimMoreWrong : ChangeSpec := { name := "rimMore", fn := fun _ => fun
  | [d1, d2, d3, d4, d5] => { results := [.lit (.bool false)], args := [d1, d2, d3, d4, d5] }
  | _ => none }
def RimMoreWrongFalsely : Prop := rimMoreRow.holds Try.pinned (OpenSpec.ofChange rimMoreWrong)

/-- 'watershedlaw8.RimEdges': WHATEVER THE INPUT: true; the input reads as it did. -/
def rimEdgesSpec : ChangeSpec := { name := "rimEdges", fn := fun _ => fun
  | [d1, d2] => { results := [.lit (.bool true)], args := [d1, d2] }
  | _ => none }
def rimEdgesRow : OpenClaim := { program := "ytcdlnohnkdalbaa", sum := "8a3135c89356fac4271b571d0316bff1d64d6f9596445dc2cfe59f808707b9ea", func := "watershed/watershedlaw8.RimEdges", spec := "rimEdges", unfollowed := true, recurses := true, apart := false }
def RimEdgesSaid : Prop := rimEdgesRow.holds Try.pinned (OpenSpec.ofChange rimEdgesSpec)

/-- ITS FALSE NEIGHBOUR: 'it returns false'. Refute it at one input. -/
def rimEdgesWrong : ChangeSpec := { name := "rimEdges", fn := fun _ => fun
  | [d1, d2] => { results := [.lit (.bool false)], args := [d1, d2] }
  | _ => none }
def RimEdgesWrongFalsely : Prop := rimEdgesRow.holds Try.pinned (OpenSpec.ofChange rimEdgesWrong)

/-- 'watershedlaw8.RimKnown': WHATEVER THE INPUT: true; the input reads as it did. -/
def rimKnownSpec : ChangeSpec := { name := "rimKnown", fn := fun _ => fun
  | [d1, d2, d3, d4] => { results := [.lit (.bool true)], args := [d1, d2, d3, d4] }
  | _ => none }
def rimKnownRow : OpenClaim := { program := "ytcdlnohnkdalbaa", sum := "8a3135c89356fac4271b571d0316bff1d64d6f9596445dc2cfe59f808707b9ea", func := "watershed/watershedlaw8.RimKnown", spec := "rimKnown", unfollowed := true, recurses := true, apart := false }
def RimKnownSaid : Prop := rimKnownRow.holds Try.pinned (OpenSpec.ofChange rimKnownSpec)

/-- ITS FALSE NEIGHBOUR: 'it returns false'. Refute it at one input. -/
def rimKnownWrong : ChangeSpec := { name := "rimKnown", fn := fun _ => fun
  | [d1, d2, d3, d4] => { results := [.lit (.bool false)], args := [d1, d2, d3, d4] }
  | _ => none }
def RimKnownWrongFalsely : Prop := rimKnownRow.holds Try.pinned (OpenSpec.ofChange rimKnownWrong)

/-- 'watershedlaw8.RimNone': WHATEVER THE INPUT: true; the input reads as it did. -/
def rimNoneSpec : ChangeSpec := { name := "rimNone", fn := fun _ => fun
  | [d1, d2, d3] => { results := [.lit (.bool true)], args := [d1, d2, d3] }
  | _ => none }
def rimNoneRow : OpenClaim := { program := "ytcdlnohnkdalbaa", sum := "8a3135c89356fac4271b571d0316bff1d64d6f9596445dc2cfe59f808707b9ea", func := "watershed/watershedlaw8.RimNone", spec := "rimNone", unfollowed := true, recurses := true, apart := false }
def RimNoneSaid : Prop := rimNoneRow.holds Try.pinned (OpenSpec.ofChange rimNoneSpec)

/-- ITS FALSE NEIGHBOUR: 'it returns false'. Refute it at one input. -/
def rimNoneWrong : ChangeSpec := { name := "rimNone", fn := fun _ => fun
  | [d1, d2, d3] => { results := [.lit (.bool false)], args := [d1, d2, d3] }
  | _ => none }
def RimNoneWrongFalsely : Prop := rimNoneRow.holds Try.pinned (OpenSpec.ofChange rimNoneWrong)

/-- 'watershedlaw8.RimFalls': WHATEVER THE INPUT: true; the input reads as it did. -/
def rimFallsSpec : ChangeSpec := { name := "rimFalls", fn := fun _ => fun
  | [d1, d2, d3] => { results := [.lit (.bool true)], args := [d1, d2, d3] }
  | _ => none }
def rimFallsRow : OpenClaim := { program := "ytcdlnohnkdalbaa", sum := "8a3135c89356fac4271b571d0316bff1d64d6f9596445dc2cfe59f808707b9ea", func := "watershed/watershedlaw8.RimFalls", spec := "rimFalls", unfollowed := true, recurses := true, apart := false }
def RimFallsSaid : Prop := rimFallsRow.holds Try.pinned (OpenSpec.ofChange rimFallsSpec)

/-- ITS FALSE NEIGHBOUR: 'it returns false'. Refute it at one input. -/
def rimFallsWrong : ChangeSpec := { name := "rimFalls", fn := fun _ => fun
  | [d1, d2, d3] => { results := [.lit (.bool false)], args := [d1, d2, d3] }
  | _ => none }
def RimFallsWrongFalsely : Prop := rimFallsRow.holds Try.pinned (OpenSpec.ofChange rimFallsWrong)

/-- 'watershedlaw8.RimOwn': WHATEVER THE INPUT: true; the input reads as it did. -/
def rimOwnSpec : ChangeSpec := { name := "rimOwn", fn := fun _ => fun
  | [d1, d2, d3] => { results := [.lit (.bool true)], args := [d1, d2, d3] }
  | _ => none }
def rimOwnRow : OpenClaim := { program := "ytcdlnohnkdalbaa", sum := "8a3135c89356fac4271b571d0316bff1d64d6f9596445dc2cfe59f808707b9ea", func := "watershed/watershedlaw8.RimOwn", spec := "rimOwn", unfollowed := true, recurses := true, apart := false }
def RimOwnSaid : Prop := rimOwnRow.holds Try.pinned (OpenSpec.ofChange rimOwnSpec)

/-- ITS FALSE NEIGHBOUR: 'it returns false'. Refute it at one input. -/
def rimOwnWrong : ChangeSpec := { name := "rimOwn", fn := fun _ => fun
  | [d1, d2, d3] => { results := [.lit (.bool false)], args := [d1, d2, d3] }
  | _ => none }
def RimOwnWrongFalsely : Prop := rimOwnRow.holds Try.pinned (OpenSpec.ofChange rimOwnWrong)

/- THE SECOND FORM. 'bulk': how many values and letters a reading holds, each counted each time it is reached (what is shared counts as often as it is met; a slice's spare places count too). A statement '..UptoSaid' is the law's where the arguments, and the package variables that the reading takes, are together of bulk at most 1048576: NARROWER than '..Said'. Prove '..Said' where nothing that the law and all that it calls make is longer than what came in: it says more and counts as full. Else prove '..UptoSaid'. A law counts once. -/
mutual
def uptoBulk {H : Type} : DataW H → Nat
  | .lit (.string bytes) => bytes.length + 1
  | .lit _ => 1
  | .nil => 1
  | .ptr d => uptoBulk d + 1
  | .slice elems spare => uptoBulkAll elems + uptoBulkAll spare + 1
  | .agg parts => uptoBulkAll parts + 1
  | .iface _ d => uptoBulk d + 1
  | .map entries => uptoBulkEntries entries + 1
  | .held _ => 1
def uptoBulkAll {H : Type} : List (DataW H) → Nat
  | [] => 0
  | d :: r => uptoBulk d + uptoBulkAll r
def uptoBulkEntries {H : Type} : List (Lit × DataW H) → Nat
  | [] => 0
  | x :: r => uptoBulkEntry x + uptoBulkEntries r
def uptoBulkEntry {H : Type} : Lit × DataW H → Nat
  | (.string bytes, d) => bytes.length + uptoBulk d + 1
  | (_, d) => uptoBulk d + 1
 end
def uptoSmall : (H : Type) → List (DataW H) → Bool := fun _ ds => decide (uptoBulkAll ds ≤ 1048576)
def OpenSpec.upto (s : _root_.Go.ChangeSpec) : _root_.Go.OpenSpec := { _root_.Go.OpenSpec.ofChange s with cond := some uptoSmall }

/-- 'watershedlaw8.RimAll', WHERE WHAT IT READS IS OF BULK AT MOST 1048576: true; the input reads as it did. -/
def rimAllUptoRow : OpenClaim := { program := "ytcdlnohnkdalbaa", sum := "8a3135c89356fac4271b571d0316bff1d64d6f9596445dc2cfe59f808707b9ea", func := "watershed/watershedlaw8.RimAll", spec := "rimAll", unfollowed := true, recurses := true, apart := false, narrowed := true }
def RimAllUptoSaid : Prop := rimAllUptoRow.holds Try.pinned (OpenSpec.upto rimAllSpec)

/-- 'watershedlaw8.RimFlows', WHERE WHAT IT READS IS OF BULK AT MOST 1048576: true; the input reads as it did. -/
def rimFlowsUptoRow : OpenClaim := { program := "ytcdlnohnkdalbaa", sum := "8a3135c89356fac4271b571d0316bff1d64d6f9596445dc2cfe59f808707b9ea", func := "watershed/watershedlaw8.RimFlows", spec := "rimFlows", unfollowed := true, recurses := true, apart := false, narrowed := true }
def RimFlowsUptoSaid : Prop := rimFlowsUptoRow.holds Try.pinned (OpenSpec.upto rimFlowsSpec)

/-- 'watershedlaw8.RimHeights', WHERE WHAT IT READS IS OF BULK AT MOST 1048576: true; the input reads as it did. -/
def rimHeightsUptoRow : OpenClaim := { program := "ytcdlnohnkdalbaa", sum := "8a3135c89356fac4271b571d0316bff1d64d6f9596445dc2cfe59f808707b9ea", func := "watershed/watershedlaw8.RimHeights", spec := "rimHeights", unfollowed := true, recurses := true, apart := false, narrowed := true }
def RimHeightsUptoSaid : Prop := rimHeightsUptoRow.holds Try.pinned (OpenSpec.upto rimHeightsSpec)

/-- 'watershedlaw8.RimBack', WHERE WHAT IT READS IS OF BULK AT MOST 1048576: true; the input reads as it did. -/
def rimBackUptoRow : OpenClaim := { program := "ytcdlnohnkdalbaa", sum := "8a3135c89356fac4271b571d0316bff1d64d6f9596445dc2cfe59f808707b9ea", func := "watershed/watershedlaw8.RimBack", spec := "rimBack", unfollowed := true, recurses := true, apart := false, narrowed := true }
def RimBackUptoSaid : Prop := rimBackUptoRow.holds Try.pinned (OpenSpec.upto rimBackSpec)

/-- 'watershedlaw8.RimMore', WHERE WHAT IT READS IS OF BULK AT MOST 1048576: true; the input reads as it did. -/
def rimMoreUptoRow : OpenClaim := { program := "ytcdlnohnkdalbaa", sum := "8a3135c89356fac4271b571d0316bff1d64d6f9596445dc2cfe59f808707b9ea", func := "watershed/watershedlaw8.RimMore", spec := "rimMore", unfollowed := true, recurses := true, apart := false, narrowed := true }
def RimMoreUptoSaid : Prop := rimMoreUptoRow.holds Try.pinned (OpenSpec.upto rimMoreSpec)

/-- 'watershedlaw8.RimEdges', WHERE WHAT IT READS IS OF BULK AT MOST 1048576: true; the input reads as it did. -/
def rimEdgesUptoRow : OpenClaim := { program := "ytcdlnohnkdalbaa", sum := "8a3135c89356fac4271b571d0316bff1d64d6f9596445dc2cfe59f808707b9ea", func := "watershed/watershedlaw8.RimEdges", spec := "rimEdges", unfollowed := true, recurses := true, apart := false, narrowed := true }
def RimEdgesUptoSaid : Prop := rimEdgesUptoRow.holds Try.pinned (OpenSpec.upto rimEdgesSpec)

/-- 'watershedlaw8.RimKnown', WHERE WHAT IT READS IS OF BULK AT MOST 1048576: true; the input reads as it did. -/
def rimKnownUptoRow : OpenClaim := { program := "ytcdlnohnkdalbaa", sum := "8a3135c89356fac4271b571d0316bff1d64d6f9596445dc2cfe59f808707b9ea", func := "watershed/watershedlaw8.RimKnown", spec := "rimKnown", unfollowed := true, recurses := true, apart := false, narrowed := true }
def RimKnownUptoSaid : Prop := rimKnownUptoRow.holds Try.pinned (OpenSpec.upto rimKnownSpec)

/-- 'watershedlaw8.RimNone', WHERE WHAT IT READS IS OF BULK AT MOST 1048576: true; the input reads as it did. -/
def rimNoneUptoRow : OpenClaim := { program := "ytcdlnohnkdalbaa", sum := "8a3135c89356fac4271b571d0316bff1d64d6f9596445dc2cfe59f808707b9ea", func := "watershed/watershedlaw8.RimNone", spec := "rimNone", unfollowed := true, recurses := true, apart := false, narrowed := true }
def RimNoneUptoSaid : Prop := rimNoneUptoRow.holds Try.pinned (OpenSpec.upto rimNoneSpec)

/-- 'watershedlaw8.RimFalls', WHERE WHAT IT READS IS OF BULK AT MOST 1048576: true; the input reads as it did. -/
def rimFallsUptoRow : OpenClaim := { program := "ytcdlnohnkdalbaa", sum := "8a3135c89356fac4271b571d0316bff1d64d6f9596445dc2cfe59f808707b9ea", func := "watershed/watershedlaw8.RimFalls", spec := "rimFalls", unfollowed := true, recurses := true, apart := false, narrowed := true }
def RimFallsUptoSaid : Prop := rimFallsUptoRow.holds Try.pinned (OpenSpec.upto rimFallsSpec)

/-- 'watershedlaw8.RimOwn', WHERE WHAT IT READS IS OF BULK AT MOST 1048576: true; the input reads as it did. -/
def rimOwnUptoRow : OpenClaim := { program := "ytcdlnohnkdalbaa", sum := "8a3135c89356fac4271b571d0316bff1d64d6f9596445dc2cfe59f808707b9ea", func := "watershed/watershedlaw8.RimOwn", spec := "rimOwn", unfollowed := true, recurses := true, apart := false, narrowed := true }
def RimOwnUptoSaid : Prop := rimOwnUptoRow.holds Try.pinned (OpenSpec.upto rimOwnSpec)

end Rows
end Go.Proofs.Ytcdlnohnkdalbaa
