/-
  No cell of these rows narrows 'for every input' (looked for: loops, veiled, ifaces, maps, wideKeys, modest, calm, conditions, laid).
  DERIVED. THE GIVEN ROWS OF THIS SEAT. 10 by the template 'for every input the law returns true; each argument reads behind the call as it read before'; 0 by the template 'total and deterministic' (their statements: YtchlccendggfpaaTotals.lean).
  GIVEN WITH THE SEED: the statements are not yours to turn. If you find one false, say at which input.
  Laid BY PROGRAM, IN A SANDBOX (cutbox-rows.mjs): the forced cells as the released guide's own fill.sh prints them over the translation cc924eedc26da6ca… (all of the seat's roots in one cut). By AI agents, Wed Nov 11 2026. No macro, syntax, notation, axiom, sorry.
-/
import Derived.Test.YtchlccendggfpaaChecked
import GoSem.Claim
import GoSem.ClaimJoined
import GoSem.ClaimMapViews
import Derived.JoinedTies
import Derived.KernelRfl
namespace Go.Proofs.Ytchlccendggfpaa
/- THE CELL 'sum', in the pinned program and in every row, IS THE sha256 OF THE DUMP (.gsa) THAT YtchlccendggfpaaProg.lean LOADS. Nothing in Lean hashes anything: it is a label: what it is worth is what the hold of that sum in a sandbox is worth. -/
noncomputable def Try.pinned : Pinned := { name := "ytchlccendggfpaa", sum := "cc924eedc26da6cadbbd9379b2c7217eb523f68d6e5d4383f9267b3aadeb764c", checked := Try.checked }
namespace Rows
def none {H : Type} : Left H := { results := [], args := [] }

/-- 'watershedlaw6.PathFrom': WHATEVER THE INPUT: true; the input reads as it did. -/
def pathFromSpec : ChangeSpec := { name := "pathFrom", fn := fun _ => fun
  | [d1, d2, d3] => { results := [.lit (.bool true)], args := [d1, d2, d3] }
  | _ => none }
def pathFromRow : OpenClaim := { program := "ytchlccendggfpaa", sum := "cc924eedc26da6cadbbd9379b2c7217eb523f68d6e5d4383f9267b3aadeb764c", func := "watershed/watershedlaw6.PathFrom", spec := "pathFrom", unfollowed := true, recurses := true, apart := false }
def PathFromSaid : Prop := pathFromRow.holds Try.pinned (OpenSpec.ofChange pathFromSpec)

/-- ITS FALSE NEIGHBOUR: 'it returns false'. Refute it at one input. -/
def pathFromWrong : ChangeSpec := { name := "pathFrom", fn := fun _ => fun
  | [d1, d2, d3] => { results := [.lit (.bool false)], args := [d1, d2, d3] }
  | _ => none }
def PathFromWrongFalsely : Prop := pathFromRow.holds Try.pinned (OpenSpec.ofChange pathFromWrong)

/-- 'watershedlaw6.PathAny': WHATEVER THE INPUT: true; the input reads as it did. -/
def pathAnySpec : ChangeSpec := { name := "pathAny", fn := fun _ => fun
  | [d1, d2, d3, d4] => { results := [.lit (.bool true)], args := [d1, d2, d3, d4] }
  | _ => none }
def pathAnyRow : OpenClaim := { program := "ytchlccendggfpaa", sum := "cc924eedc26da6cadbbd9379b2c7217eb523f68d6e5d4383f9267b3aadeb764c", func := "watershed/watershedlaw6.PathAny", spec := "pathAny", unfollowed := true, recurses := true, apart := false }
def PathAnySaid : Prop := pathAnyRow.holds Try.pinned (OpenSpec.ofChange pathAnySpec)

/-- ITS FALSE NEIGHBOUR: 'it returns false'. Refute it at one input. -/
def pathAnyWrong : ChangeSpec := { name := "pathAny", fn := fun _ => fun
  | [d1, d2, d3, d4] => { results := [.lit (.bool false)], args := [d1, d2, d3, d4] }
  | _ => none }
def PathAnyWrongFalsely : Prop := pathAnyRow.holds Try.pinned (OpenSpec.ofChange pathAnyWrong)

/-- 'watershedlaw6.PathRight': WHATEVER THE INPUT: true; the input reads as it did. -/
def pathRightSpec : ChangeSpec := { name := "pathRight", fn := fun _ => fun
  | [d1, d2, d3, d4, d5, d6, d7] => { results := [.lit (.bool true)], args := [d1, d2, d3, d4, d5, d6, d7] }
  | _ => none }
def pathRightRow : OpenClaim := { program := "ytchlccendggfpaa", sum := "cc924eedc26da6cadbbd9379b2c7217eb523f68d6e5d4383f9267b3aadeb764c", func := "watershed/watershedlaw6.PathRight", spec := "pathRight", unfollowed := true, recurses := true, apart := false }
def PathRightSaid : Prop := pathRightRow.holds Try.pinned (OpenSpec.ofChange pathRightSpec)

/-- ITS FALSE NEIGHBOUR: 'it returns false'. Refute it at one input. -/
def pathRightWrong : ChangeSpec := { name := "pathRight", fn := fun _ => fun
  | [d1, d2, d3, d4, d5, d6, d7] => { results := [.lit (.bool false)], args := [d1, d2, d3, d4, d5, d6, d7] }
  | _ => none }
def PathRightWrongFalsely : Prop := pathRightRow.holds Try.pinned (OpenSpec.ofChange pathRightWrong)

/-- 'watershedlaw6.PathWays': WHATEVER THE INPUT: true; the input reads as it did. -/
def pathWaysSpec : ChangeSpec := { name := "pathWays", fn := fun _ => fun
  | [d1, d2, d3, d4] => { results := [.lit (.bool true)], args := [d1, d2, d3, d4] }
  | _ => none }
def pathWaysRow : OpenClaim := { program := "ytchlccendggfpaa", sum := "cc924eedc26da6cadbbd9379b2c7217eb523f68d6e5d4383f9267b3aadeb764c", func := "watershed/watershedlaw6.PathWays", spec := "pathWays", unfollowed := true, recurses := true, apart := false }
def PathWaysSaid : Prop := pathWaysRow.holds Try.pinned (OpenSpec.ofChange pathWaysSpec)

/-- ITS FALSE NEIGHBOUR: 'it returns false'. Refute it at one input. -/
def pathWaysWrong : ChangeSpec := { name := "pathWays", fn := fun _ => fun
  | [d1, d2, d3, d4] => { results := [.lit (.bool false)], args := [d1, d2, d3, d4] }
  | _ => none }
def PathWaysWrongFalsely : Prop := pathWaysRow.holds Try.pinned (OpenSpec.ofChange pathWaysWrong)

/-- 'watershedlaw6.PathMore': WHATEVER THE INPUT: true; the input reads as it did. -/
def pathMoreSpec : ChangeSpec := { name := "pathMore", fn := fun _ => fun
  | [d1, d2, d3, d4, d5] => { results := [.lit (.bool true)], args := [d1, d2, d3, d4, d5] }
  | _ => none }
def pathMoreRow : OpenClaim := { program := "ytchlccendggfpaa", sum := "cc924eedc26da6cadbbd9379b2c7217eb523f68d6e5d4383f9267b3aadeb764c", func := "watershed/watershedlaw6.PathMore", spec := "pathMore", unfollowed := true, recurses := true, apart := false }
def PathMoreSaid : Prop := pathMoreRow.holds Try.pinned (OpenSpec.ofChange pathMoreSpec)

/-- ITS FALSE NEIGHBOUR: 'it returns false'. Refute it at one input. -/
def pathMoreWrong : ChangeSpec := { name := "pathMore", fn := fun _ => fun
  | [d1, d2, d3, d4, d5] => { results := [.lit (.bool false)], args := [d1, d2, d3, d4, d5] }
  | _ => none }
def PathMoreWrongFalsely : Prop := pathMoreRow.holds Try.pinned (OpenSpec.ofChange pathMoreWrong)

/-- 'watershedlaw6.PathParts': WHATEVER THE INPUT: true; the input reads as it did. -/
def pathPartsSpec : ChangeSpec := { name := "pathParts", fn := fun _ => fun
  | [d1, d2, d3, d4, d5] => { results := [.lit (.bool true)], args := [d1, d2, d3, d4, d5] }
  | _ => none }
def pathPartsRow : OpenClaim := { program := "ytchlccendggfpaa", sum := "cc924eedc26da6cadbbd9379b2c7217eb523f68d6e5d4383f9267b3aadeb764c", func := "watershed/watershedlaw6.PathParts", spec := "pathParts", unfollowed := true, recurses := true, apart := false }
def PathPartsSaid : Prop := pathPartsRow.holds Try.pinned (OpenSpec.ofChange pathPartsSpec)

/-- ITS FALSE NEIGHBOUR: 'it returns false'. Refute it at one input. -/
def pathPartsWrong : ChangeSpec := { name := "pathParts", fn := fun _ => fun
  | [d1, d2, d3, d4, d5] => { results := [.lit (.bool false)], args := [d1, d2, d3, d4, d5] }
  | _ => none }
def PathPartsWrongFalsely : Prop := pathPartsRow.holds Try.pinned (OpenSpec.ofChange pathPartsWrong)

/-- 'watershedlaw6.PathRounds': WHATEVER THE INPUT: true; the input reads as it did. -/
def pathRoundsSpec : ChangeSpec := { name := "pathRounds", fn := fun _ => fun
  | [d1, d2, d3, d4] => { results := [.lit (.bool true)], args := [d1, d2, d3, d4] }
  | _ => none }
def pathRoundsRow : OpenClaim := { program := "ytchlccendggfpaa", sum := "cc924eedc26da6cadbbd9379b2c7217eb523f68d6e5d4383f9267b3aadeb764c", func := "watershed/watershedlaw6.PathRounds", spec := "pathRounds", unfollowed := true, recurses := true, apart := false }
def PathRoundsSaid : Prop := pathRoundsRow.holds Try.pinned (OpenSpec.ofChange pathRoundsSpec)

/-- ITS FALSE NEIGHBOUR: 'it returns false'. Refute it at one input. -/
def pathRoundsWrong : ChangeSpec := { name := "pathRounds", fn := fun _ => fun
  | [d1, d2, d3, d4] => { results := [.lit (.bool false)], args := [d1, d2, d3, d4] }
  | _ => none }
def PathRoundsWrongFalsely : Prop := pathRoundsRow.holds Try.pinned (OpenSpec.ofChange pathRoundsWrong)

/-- 'watershedlaw6.PathLow': WHATEVER THE INPUT: true; the input reads as it did. -/
def pathLowSpec : ChangeSpec := { name := "pathLow", fn := fun _ => fun
  | [d1, d2] => { results := [.lit (.bool true)], args := [d1, d2] }
  | _ => none }
def pathLowRow : OpenClaim := { program := "ytchlccendggfpaa", sum := "cc924eedc26da6cadbbd9379b2c7217eb523f68d6e5d4383f9267b3aadeb764c", func := "watershed/watershedlaw6.PathLow", spec := "pathLow", unfollowed := true, recurses := true, apart := false }
def PathLowSaid : Prop := pathLowRow.holds Try.pinned (OpenSpec.ofChange pathLowSpec)

/-- ITS FALSE NEIGHBOUR: 'it returns false'. Refute it at one input. -/
def pathLowWrong : ChangeSpec := { name := "pathLow", fn := fun _ => fun
  | [d1, d2] => { results := [.lit (.bool false)], args := [d1, d2] }
  | _ => none }
def PathLowWrongFalsely : Prop := pathLowRow.holds Try.pinned (OpenSpec.ofChange pathLowWrong)

/-- 'watershedlaw6.PathFew': WHATEVER THE INPUT: true; the input reads as it did. -/
def pathFewSpec : ChangeSpec := { name := "pathFew", fn := fun _ => fun
  | [d] => { results := [.lit (.bool true)], args := [d] }
  | _ => none }
def pathFewRow : OpenClaim := { program := "ytchlccendggfpaa", sum := "cc924eedc26da6cadbbd9379b2c7217eb523f68d6e5d4383f9267b3aadeb764c", func := "watershed/watershedlaw6.PathFew", spec := "pathFew", unfollowed := true, recurses := true, apart := false }
def PathFewSaid : Prop := pathFewRow.holds Try.pinned (OpenSpec.ofChange pathFewSpec)

/-- ITS FALSE NEIGHBOUR: 'it returns false'. Refute it at one input. -/
def pathFewWrong : ChangeSpec := { name := "pathFew", fn := fun _ => fun
  | [d] => { results := [.lit (.bool false)], args := [d] }
  | _ => none }
def PathFewWrongFalsely : Prop := pathFewRow.holds Try.pinned (OpenSpec.ofChange pathFewWrong)

/-- 'watershedlaw6.PathOwn': WHATEVER THE INPUT: true; the input reads as it did. -/
def pathOwnSpec : ChangeSpec := { name := "pathOwn", fn := fun _ => fun
  | [d1, d2, d3, d4] => { results := [.lit (.bool true)], args := [d1, d2, d3, d4] }
  | _ => none }
def pathOwnRow : OpenClaim := { program := "ytchlccendggfpaa", sum := "cc924eedc26da6cadbbd9379b2c7217eb523f68d6e5d4383f9267b3aadeb764c", func := "watershed/watershedlaw6.PathOwn", spec := "pathOwn", unfollowed := true, recurses := true, apart := false }
def PathOwnSaid : Prop := pathOwnRow.holds Try.pinned (OpenSpec.ofChange pathOwnSpec)

/-- ITS FALSE NEIGHBOUR: 'it returns false'. Refute it at one input. -/
def pathOwnWrong : ChangeSpec := { name := "pathOwn", fn := fun _ => fun
  | [d1, d2, d3, d4] => { results := [.lit (.bool false)], args := [d1, d2, d3, d4] }
  | _ => none }
def PathOwnWrongFalsely : Prop := pathOwnRow.holds Try.pinned (OpenSpec.ofChange pathOwnWrong)

/- THE SECOND FORM. 'bulk': how many values and letters a reading holds, each counted each time it is reached (what is shared counts as often as it is met; a slice's spare places count too). A statement '..UptoSaid' is the law's where the arguments, and the package variables that the reading takes, are together of bulk at most 1048576: NARROWER than '..Said'. Prove '..Said' where nothing that the law and all that it calls make is longer than what came in: it says more and counts as full. Else prove '..UptoSaid'. A law counts once. -/
mutual
def uptoBulk {H : Type} : DataW H → Nat
  | .lit (.string bytes) => bytes.length + 1
  | .lit _ => 1
  | .nil => 1
  | .ptr d => uptoBulk d + 1
  | .slice elems spare => uptoBulkAll elems + uptoBulkAll spare + 1
  | .agg parts => uptoBulkAll parts + 1
  | .iface _ d => uptoBulk d + 1
  | .map entries => uptoBulkEntries entries + 1
  | .held _ => 1
def uptoBulkAll {H : Type} : List (DataW H) → Nat
  | [] => 0
  | d :: r => uptoBulk d + uptoBulkAll r
def uptoBulkEntries {H : Type} : List (Lit × DataW H) → Nat
  | [] => 0
  | x :: r => uptoBulkEntry x + uptoBulkEntries r
def uptoBulkEntry {H : Type} : Lit × DataW H → Nat
  | (.string bytes, d) => bytes.length + uptoBulk d + 1
  | (_, d) => uptoBulk d + 1
 end
def uptoSmall : (H : Type) → List (DataW H) → Bool := fun _ ds => decide (uptoBulkAll ds ≤ 1048576)
def OpenSpec.upto (s : _root_.Go.ChangeSpec) : _root_.Go.OpenSpec := { _root_.Go.OpenSpec.ofChange s with cond := some uptoSmall }

/-- 'watershedlaw6.PathFrom', WHERE WHAT IT READS IS OF BULK AT MOST 1048576: true; the input reads as it did. -/
def pathFromUptoRow : OpenClaim := { program := "ytchlccendggfpaa", sum := "cc924eedc26da6cadbbd9379b2c7217eb523f68d6e5d4383f9267b3aadeb764c", func := "watershed/watershedlaw6.PathFrom", spec := "pathFrom", unfollowed := true, recurses := true, apart := false, narrowed := true }
def PathFromUptoSaid : Prop := pathFromUptoRow.holds Try.pinned (OpenSpec.upto pathFromSpec)

/-- 'watershedlaw6.PathAny', WHERE WHAT IT READS IS OF BULK AT MOST 1048576: true; the input reads as it did. -/
def pathAnyUptoRow : OpenClaim := { program := "ytchlccendggfpaa", sum := "cc924eedc26da6cadbbd9379b2c7217eb523f68d6e5d4383f9267b3aadeb764c", func := "watershed/watershedlaw6.PathAny", spec := "pathAny", unfollowed := true, recurses := true, apart := false, narrowed := true }
def PathAnyUptoSaid : Prop := pathAnyUptoRow.holds Try.pinned (OpenSpec.upto pathAnySpec)

/-- 'watershedlaw6.PathRight', WHERE WHAT IT READS IS OF BULK AT MOST 1048576: true; the input reads as it did. -/
def pathRightUptoRow : OpenClaim := { program := "ytchlccendggfpaa", sum := "cc924eedc26da6cadbbd9379b2c7217eb523f68d6e5d4383f9267b3aadeb764c", func := "watershed/watershedlaw6.PathRight", spec := "pathRight", unfollowed := true, recurses := true, apart := false, narrowed := true }
def PathRightUptoSaid : Prop := pathRightUptoRow.holds Try.pinned (OpenSpec.upto pathRightSpec)

/-- 'watershedlaw6.PathWays', WHERE WHAT IT READS IS OF BULK AT MOST 1048576: true; the input reads as it did. -/
def pathWaysUptoRow : OpenClaim := { program := "ytchlccendggfpaa", sum := "cc924eedc26da6cadbbd9379b2c7217eb523f68d6e5d4383f9267b3aadeb764c", func := "watershed/watershedlaw6.PathWays", spec := "pathWays", unfollowed := true, recurses := true, apart := false, narrowed := true }
def PathWaysUptoSaid : Prop := pathWaysUptoRow.holds Try.pinned (OpenSpec.upto pathWaysSpec)

/-- 'watershedlaw6.PathMore', WHERE WHAT IT READS IS OF BULK AT MOST 1048576: true; the input reads as it did. -/
def pathMoreUptoRow : OpenClaim := { program := "ytchlccendggfpaa", sum := "cc924eedc26da6cadbbd9379b2c7217eb523f68d6e5d4383f9267b3aadeb764c", func := "watershed/watershedlaw6.PathMore", spec := "pathMore", unfollowed := true, recurses := true, apart := false, narrowed := true }
def PathMoreUptoSaid : Prop := pathMoreUptoRow.holds Try.pinned (OpenSpec.upto pathMoreSpec)

/-- 'watershedlaw6.PathParts', WHERE WHAT IT READS IS OF BULK AT MOST 1048576: true; the input reads as it did. -/
def pathPartsUptoRow : OpenClaim := { program := "ytchlccendggfpaa", sum := "cc924eedc26da6cadbbd9379b2c7217eb523f68d6e5d4383f9267b3aadeb764c", func := "watershed/watershedlaw6.PathParts", spec := "pathParts", unfollowed := true, recurses := true, apart := false, narrowed := true }
def PathPartsUptoSaid : Prop := pathPartsUptoRow.holds Try.pinned (OpenSpec.upto pathPartsSpec)

/-- 'watershedlaw6.PathRounds', WHERE WHAT IT READS IS OF BULK AT MOST 1048576: true; the input reads as it did. -/
def pathRoundsUptoRow : OpenClaim := { program := "ytchlccendggfpaa", sum := "cc924eedc26da6cadbbd9379b2c7217eb523f68d6e5d4383f9267b3aadeb764c", func := "watershed/watershedlaw6.PathRounds", spec := "pathRounds", unfollowed := true, recurses := true, apart := false, narrowed := true }
def PathRoundsUptoSaid : Prop := pathRoundsUptoRow.holds Try.pinned (OpenSpec.upto pathRoundsSpec)

/-- 'watershedlaw6.PathLow', WHERE WHAT IT READS IS OF BULK AT MOST 1048576: true; the input reads as it did. -/
def pathLowUptoRow : OpenClaim := { program := "ytchlccendggfpaa", sum := "cc924eedc26da6cadbbd9379b2c7217eb523f68d6e5d4383f9267b3aadeb764c", func := "watershed/watershedlaw6.PathLow", spec := "pathLow", unfollowed := true, recurses := true, apart := false, narrowed := true }
def PathLowUptoSaid : Prop := pathLowUptoRow.holds Try.pinned (OpenSpec.upto pathLowSpec)

/-- 'watershedlaw6.PathFew', WHERE WHAT IT READS IS OF BULK AT MOST 1048576: true; the input reads as it did. -/
def pathFewUptoRow : OpenClaim := { program := "ytchlccendggfpaa", sum := "cc924eedc26da6cadbbd9379b2c7217eb523f68d6e5d4383f9267b3aadeb764c", func := "watershed/watershedlaw6.PathFew", spec := "pathFew", unfollowed := true, recurses := true, apart := false, narrowed := true }
def PathFewUptoSaid : Prop := pathFewUptoRow.holds Try.pinned (OpenSpec.upto pathFewSpec)

/-- 'watershedlaw6.PathOwn', WHERE WHAT IT READS IS OF BULK AT MOST 1048576: true; the input reads as it did. -/
def pathOwnUptoRow : OpenClaim := { program := "ytchlccendggfpaa", sum := "cc924eedc26da6cadbbd9379b2c7217eb523f68d6e5d4383f9267b3aadeb764c", func := "watershed/watershedlaw6.PathOwn", spec := "pathOwn", unfollowed := true, recurses := true, apart := false, narrowed := true }
def PathOwnUptoSaid : Prop := pathOwnUptoRow.holds Try.pinned (OpenSpec.upto pathOwnSpec)

end Rows
end Go.Proofs.Ytchlccendggfpaa
