/-
  No cell of these rows narrows 'for every input' (looked for: loops, veiled, ifaces, maps, wideKeys, modest, calm, conditions, laid).
  DERIVED. THE GIVEN ROWS OF THIS SEAT. 10 by the template 'for every input the law returns true; each argument reads behind the call as it read before'; 0 by the template 'total and deterministic' (their statements: YtbnghpemlcmogaaTotals.lean).
  GIVEN WITH THE SEED: the statements are not yours to turn. If you find one false, say at which input.
  Laid BY PROGRAM, IN A SANDBOX (cutbox-rows.mjs): the forced cells as the released guide's own fill.sh prints them over the translation a6e0c6fbcd97e272… (all of the seat's roots in one cut). By AI agents, Wed Nov 11 2026. No macro, syntax, notation, axiom, sorry.
-/
import Derived.Test.YtbnghpemlcmogaaChecked
import GoSem.Claim
import GoSem.ClaimJoined
import GoSem.ClaimMapViews
import Derived.JoinedTies
import Derived.KernelRfl
namespace Go.Proofs.Ytbnghpemlcmogaa
/- THE CELL 'sum', in the pinned program and in every row, IS THE sha256 OF THE DUMP (.gsa) THAT YtbnghpemlcmogaaProg.lean LOADS. Nothing in Lean hashes anything: it is a label: what it is worth is what the hold of that sum in a sandbox is worth. -/
noncomputable def Try.pinned : Pinned := { name := "ytbnghpemlcmogaa", sum := "a6e0c6fbcd97e2729b0c09b0968bfe65315f2713858dae60c7b38ee8efc5e794", checked := Try.checked }
namespace Rows
def none {H : Type} : Left H := { results := [], args := [] }

/-- 'watershedlaw3.DualMakes': WHATEVER THE INPUT: true; the input reads as it did. -/
def dualMakesSpec : ChangeSpec := { name := "dualMakes", fn := fun _ => fun
  | [d] => { results := [.lit (.bool true)], args := [d] }
  | _ => none }
def dualMakesRow : OpenClaim := { program := "ytbnghpemlcmogaa", sum := "a6e0c6fbcd97e2729b0c09b0968bfe65315f2713858dae60c7b38ee8efc5e794", func := "watershed/watershedlaw3.DualMakes", spec := "dualMakes", unfollowed := true, recurses := true, apart := false }
def DualMakesSaid : Prop := dualMakesRow.holds Try.pinned (OpenSpec.ofChange dualMakesSpec)

/-- ITS FALSE NEIGHBOUR: 'it returns false'. Refute it at one input. -/
def dualMakesWrong : ChangeSpec := { name := "dualMakes", fn := fun _ => fun
  | [d] => { results := [.lit (.bool false)], args := [d] }
  | _ => none }
def DualMakesWrongFalsely : Prop := dualMakesRow.holds Try.pinned (OpenSpec.ofChange dualMakesWrong)

/-- 'watershedlaw3.DualTwice': WHATEVER THE INPUT: true; the input reads as it did. -/
def dualTwiceSpec : ChangeSpec := { name := "dualTwice", fn := fun _ => fun
  | [d1, d2, d3] => { results := [.lit (.bool true)], args := [d1, d2, d3] }
  | _ => none }
def dualTwiceRow : OpenClaim := { program := "ytbnghpemlcmogaa", sum := "a6e0c6fbcd97e2729b0c09b0968bfe65315f2713858dae60c7b38ee8efc5e794", func := "watershed/watershedlaw3.DualTwice", spec := "dualTwice", unfollowed := true, recurses := true, apart := false }
def DualTwiceSaid : Prop := dualTwiceRow.holds Try.pinned (OpenSpec.ofChange dualTwiceSpec)

/-- ITS FALSE NEIGHBOUR: 'it returns false'. Refute it at one input. -/
def dualTwiceWrong : ChangeSpec := { name := "dualTwice", fn := fun _ => fun
  | [d1, d2, d3] => { results := [.lit (.bool false)], args := [d1, d2, d3] }
  | _ => none }
def DualTwiceWrongFalsely : Prop := dualTwiceRow.holds Try.pinned (OpenSpec.ofChange dualTwiceWrong)

/-- 'watershedlaw3.DualShares': WHATEVER THE INPUT: true; the input reads as it did. -/
def dualSharesSpec : ChangeSpec := { name := "dualShares", fn := fun _ => fun
  | [d1, d2, d3, d4, d5] => { results := [.lit (.bool true)], args := [d1, d2, d3, d4, d5] }
  | _ => none }
def dualSharesRow : OpenClaim := { program := "ytbnghpemlcmogaa", sum := "a6e0c6fbcd97e2729b0c09b0968bfe65315f2713858dae60c7b38ee8efc5e794", func := "watershed/watershedlaw3.DualShares", spec := "dualShares", unfollowed := true, recurses := true, apart := false }
def DualSharesSaid : Prop := dualSharesRow.holds Try.pinned (OpenSpec.ofChange dualSharesSpec)

/-- ITS FALSE NEIGHBOUR: 'it returns false'. Refute it at one input. -/
def dualSharesWrong : ChangeSpec := { name := "dualShares", fn := fun _ => fun
  | [d1, d2, d3, d4, d5] => { results := [.lit (.bool false)], args := [d1, d2, d3, d4, d5] }
  | _ => none }
def DualSharesWrongFalsely : Prop := dualSharesRow.holds Try.pinned (OpenSpec.ofChange dualSharesWrong)

/-- 'watershedlaw3.DualSplits': WHATEVER THE INPUT: true; the input reads as it did. -/
def dualSplitsSpec : ChangeSpec := { name := "dualSplits", fn := fun _ => fun
  | [d1, d2, d3, d4, d5] => { results := [.lit (.bool true)], args := [d1, d2, d3, d4, d5] }
  | _ => none }
def dualSplitsRow : OpenClaim := { program := "ytbnghpemlcmogaa", sum := "a6e0c6fbcd97e2729b0c09b0968bfe65315f2713858dae60c7b38ee8efc5e794", func := "watershed/watershedlaw3.DualSplits", spec := "dualSplits", unfollowed := true, recurses := true, apart := false }
def DualSplitsSaid : Prop := dualSplitsRow.holds Try.pinned (OpenSpec.ofChange dualSplitsSpec)

/-- ITS FALSE NEIGHBOUR: 'it returns false'. Refute it at one input. -/
def dualSplitsWrong : ChangeSpec := { name := "dualSplits", fn := fun _ => fun
  | [d1, d2, d3, d4, d5] => { results := [.lit (.bool false)], args := [d1, d2, d3, d4, d5] }
  | _ => none }
def DualSplitsWrongFalsely : Prop := dualSplitsRow.holds Try.pinned (OpenSpec.ofChange dualSplitsWrong)

/-- 'watershedlaw3.DualHalves': WHATEVER THE INPUT: true; the input reads as it did. -/
def dualHalvesSpec : ChangeSpec := { name := "dualHalves", fn := fun _ => fun
  | [d1, d2, d3] => { results := [.lit (.bool true)], args := [d1, d2, d3] }
  | _ => none }
def dualHalvesRow : OpenClaim := { program := "ytbnghpemlcmogaa", sum := "a6e0c6fbcd97e2729b0c09b0968bfe65315f2713858dae60c7b38ee8efc5e794", func := "watershed/watershedlaw3.DualHalves", spec := "dualHalves", unfollowed := true, recurses := true, apart := false }
def DualHalvesSaid : Prop := dualHalvesRow.holds Try.pinned (OpenSpec.ofChange dualHalvesSpec)

/-- ITS FALSE NEIGHBOUR: 'it returns false'. Refute it at one input. -/
def dualHalvesWrong : ChangeSpec := { name := "dualHalves", fn := fun _ => fun
  | [d1, d2, d3] => { results := [.lit (.bool false)], args := [d1, d2, d3] }
  | _ => none }
def DualHalvesWrongFalsely : Prop := dualHalvesRow.holds Try.pinned (OpenSpec.ofChange dualHalvesWrong)

/-- 'watershedlaw3.DualDarts': WHATEVER THE INPUT: true; the input reads as it did. -/
def dualDartsSpec : ChangeSpec := { name := "dualDarts", fn := fun _ => fun
  | [d1, d2] => { results := [.lit (.bool true)], args := [d1, d2] }
  | _ => none }
def dualDartsRow : OpenClaim := { program := "ytbnghpemlcmogaa", sum := "a6e0c6fbcd97e2729b0c09b0968bfe65315f2713858dae60c7b38ee8efc5e794", func := "watershed/watershedlaw3.DualDarts", spec := "dualDarts", unfollowed := true, recurses := true, apart := false }
def DualDartsSaid : Prop := dualDartsRow.holds Try.pinned (OpenSpec.ofChange dualDartsSpec)

/-- ITS FALSE NEIGHBOUR: 'it returns false'. Refute it at one input. -/
def dualDartsWrong : ChangeSpec := { name := "dualDarts", fn := fun _ => fun
  | [d1, d2] => { results := [.lit (.bool false)], args := [d1, d2] }
  | _ => none }
def DualDartsWrongFalsely : Prop := dualDartsRow.holds Try.pinned (OpenSpec.ofChange dualDartsWrong)

/-- 'watershedlaw3.DualKnown': WHATEVER THE INPUT: true; the input reads as it did. -/
def dualKnownSpec : ChangeSpec := { name := "dualKnown", fn := fun _ => fun
  | [d] => { results := [.lit (.bool true)], args := [d] }
  | _ => none }
def dualKnownRow : OpenClaim := { program := "ytbnghpemlcmogaa", sum := "a6e0c6fbcd97e2729b0c09b0968bfe65315f2713858dae60c7b38ee8efc5e794", func := "watershed/watershedlaw3.DualKnown", spec := "dualKnown", unfollowed := true, recurses := true, apart := false }
def DualKnownSaid : Prop := dualKnownRow.holds Try.pinned (OpenSpec.ofChange dualKnownSpec)

/-- ITS FALSE NEIGHBOUR: 'it returns false'. Refute it at one input. -/
def dualKnownWrong : ChangeSpec := { name := "dualKnown", fn := fun _ => fun
  | [d] => { results := [.lit (.bool false)], args := [d] }
  | _ => none }
def DualKnownWrongFalsely : Prop := dualKnownRow.holds Try.pinned (OpenSpec.ofChange dualKnownWrong)

/-- 'watershedlaw3.DualFirst': WHATEVER THE INPUT: true; the input reads as it did. -/
def dualFirstSpec : ChangeSpec := { name := "dualFirst", fn := fun _ => fun
  | [d1, d2, d3, d4] => { results := [.lit (.bool true)], args := [d1, d2, d3, d4] }
  | _ => none }
def dualFirstRow : OpenClaim := { program := "ytbnghpemlcmogaa", sum := "a6e0c6fbcd97e2729b0c09b0968bfe65315f2713858dae60c7b38ee8efc5e794", func := "watershed/watershedlaw3.DualFirst", spec := "dualFirst", unfollowed := true, recurses := true, apart := false }
def DualFirstSaid : Prop := dualFirstRow.holds Try.pinned (OpenSpec.ofChange dualFirstSpec)

/-- ITS FALSE NEIGHBOUR: 'it returns false'. Refute it at one input. -/
def dualFirstWrong : ChangeSpec := { name := "dualFirst", fn := fun _ => fun
  | [d1, d2, d3, d4] => { results := [.lit (.bool false)], args := [d1, d2, d3, d4] }
  | _ => none }
def DualFirstWrongFalsely : Prop := dualFirstRow.holds Try.pinned (OpenSpec.ofChange dualFirstWrong)

/-- 'watershedlaw3.DualBack': WHATEVER THE INPUT: true; the input reads as it did. -/
def dualBackSpec : ChangeSpec := { name := "dualBack", fn := fun _ => fun
  | [d1, d2, d3] => { results := [.lit (.bool true)], args := [d1, d2, d3] }
  | _ => none }
def dualBackRow : OpenClaim := { program := "ytbnghpemlcmogaa", sum := "a6e0c6fbcd97e2729b0c09b0968bfe65315f2713858dae60c7b38ee8efc5e794", func := "watershed/watershedlaw3.DualBack", spec := "dualBack", unfollowed := true, recurses := true, apart := false }
def DualBackSaid : Prop := dualBackRow.holds Try.pinned (OpenSpec.ofChange dualBackSpec)

/-- ITS FALSE NEIGHBOUR: 'it returns false'. Refute it at one input. -/
def dualBackWrong : ChangeSpec := { name := "dualBack", fn := fun _ => fun
  | [d1, d2, d3] => { results := [.lit (.bool false)], args := [d1, d2, d3] }
  | _ => none }
def DualBackWrongFalsely : Prop := dualBackRow.holds Try.pinned (OpenSpec.ofChange dualBackWrong)

/-- 'watershedlaw3.DualOwn': WHATEVER THE INPUT: true; the input reads as it did. -/
def dualOwnSpec : ChangeSpec := { name := "dualOwn", fn := fun _ => fun
  | [d1, d2, d3] => { results := [.lit (.bool true)], args := [d1, d2, d3] }
  | _ => none }
def dualOwnRow : OpenClaim := { program := "ytbnghpemlcmogaa", sum := "a6e0c6fbcd97e2729b0c09b0968bfe65315f2713858dae60c7b38ee8efc5e794", func := "watershed/watershedlaw3.DualOwn", spec := "dualOwn", unfollowed := true, recurses := true, apart := false }
def DualOwnSaid : Prop := dualOwnRow.holds Try.pinned (OpenSpec.ofChange dualOwnSpec)

/-- ITS FALSE NEIGHBOUR: 'it returns false'. Refute it at one input. -/
def dualOwnWrong : ChangeSpec := { name := "dualOwn", fn := fun _ => fun
  | [d1, d2, d3] => { results := [.lit (.bool false)], args := [d1, d2, d3] }
  | _ => none }
def DualOwnWrongFalsely : Prop := dualOwnRow.holds Try.pinned (OpenSpec.ofChange dualOwnWrong)

/- THE SECOND FORM. 'bulk': how many values and letters a reading holds, each counted each time it is reached (what is shared counts as often as it is met; a slice's spare places count too). A statement '..UptoSaid' is the law's where the arguments, and the package variables that the reading takes, are together of bulk at most 1048576: NARROWER than '..Said'. Prove '..Said' where nothing that the law and all that it calls make is longer than what came in: it says more and counts as full. Else prove '..UptoSaid'. A law counts once. -/
mutual
def uptoBulk {H : Type} : DataW H → Nat
  | .lit (.string bytes) => bytes.length + 1
  | .lit _ => 1
  | .nil => 1
  | .ptr d => uptoBulk d + 1
  | .slice elems spare => uptoBulkAll elems + uptoBulkAll spare + 1
  | .agg parts => uptoBulkAll parts + 1
  | .iface _ d => uptoBulk d + 1
  | .map entries => uptoBulkEntries entries + 1
  | .held _ => 1
def uptoBulkAll {H : Type} : List (DataW H) → Nat
  | [] => 0
  | d :: r => uptoBulk d + uptoBulkAll r
def uptoBulkEntries {H : Type} : List (Lit × DataW H) → Nat
  | [] => 0
  | x :: r => uptoBulkEntry x + uptoBulkEntries r
def uptoBulkEntry {H : Type} : Lit × DataW H → Nat
  | (.string bytes, d) => bytes.length + uptoBulk d + 1
  | (_, d) => uptoBulk d + 1
 end
def uptoSmall : (H : Type) → List (DataW H) → Bool := fun _ ds => decide (uptoBulkAll ds ≤ 1048576)
def OpenSpec.upto (s : _root_.Go.ChangeSpec) : _root_.Go.OpenSpec := { _root_.Go.OpenSpec.ofChange s with cond := some uptoSmall }

/-- 'watershedlaw3.DualMakes', WHERE WHAT IT READS IS OF BULK AT MOST 1048576: true; the input reads as it did. -/
def dualMakesUptoRow : OpenClaim := { program := "ytbnghpemlcmogaa", sum := "a6e0c6fbcd97e2729b0c09b0968bfe65315f2713858dae60c7b38ee8efc5e794", func := "watershed/watershedlaw3.DualMakes", spec := "dualMakes", unfollowed := true, recurses := true, apart := false, narrowed := true }
def DualMakesUptoSaid : Prop := dualMakesUptoRow.holds Try.pinned (OpenSpec.upto dualMakesSpec)

/-- 'watershedlaw3.DualTwice', WHERE WHAT IT READS IS OF BULK AT MOST 1048576: true; the input reads as it did. -/
def dualTwiceUptoRow : OpenClaim := { program := "ytbnghpemlcmogaa", sum := "a6e0c6fbcd97e2729b0c09b0968bfe65315f2713858dae60c7b38ee8efc5e794", func := "watershed/watershedlaw3.DualTwice", spec := "dualTwice", unfollowed := true, recurses := true, apart := false, narrowed := true }
def DualTwiceUptoSaid : Prop := dualTwiceUptoRow.holds Try.pinned (OpenSpec.upto dualTwiceSpec)

/-- 'watershedlaw3.DualShares', WHERE WHAT IT READS IS OF BULK AT MOST 1048576: true; the input reads as it did. -/
def dualSharesUptoRow : OpenClaim := { program := "ytbnghpemlcmogaa", sum := "a6e0c6fbcd97e2729b0c09b0968bfe65315f2713858dae60c7b38ee8efc5e794", func := "watershed/watershedlaw3.DualShares", spec := "dualShares", unfollowed := true, recurses := true, apart := false, narrowed := true }
def DualSharesUptoSaid : Prop := dualSharesUptoRow.holds Try.pinned (OpenSpec.upto dualSharesSpec)

/-- 'watershedlaw3.DualSplits', WHERE WHAT IT READS IS OF BULK AT MOST 1048576: true; the input reads as it did. -/
def dualSplitsUptoRow : OpenClaim := { program := "ytbnghpemlcmogaa", sum := "a6e0c6fbcd97e2729b0c09b0968bfe65315f2713858dae60c7b38ee8efc5e794", func := "watershed/watershedlaw3.DualSplits", spec := "dualSplits", unfollowed := true, recurses := true, apart := false, narrowed := true }
def DualSplitsUptoSaid : Prop := dualSplitsUptoRow.holds Try.pinned (OpenSpec.upto dualSplitsSpec)

/-- 'watershedlaw3.DualHalves', WHERE WHAT IT READS IS OF BULK AT MOST 1048576: true; the input reads as it did. -/
def dualHalvesUptoRow : OpenClaim := { program := "ytbnghpemlcmogaa", sum := "a6e0c6fbcd97e2729b0c09b0968bfe65315f2713858dae60c7b38ee8efc5e794", func := "watershed/watershedlaw3.DualHalves", spec := "dualHalves", unfollowed := true, recurses := true, apart := false, narrowed := true }
def DualHalvesUptoSaid : Prop := dualHalvesUptoRow.holds Try.pinned (OpenSpec.upto dualHalvesSpec)

/-- 'watershedlaw3.DualDarts', WHERE WHAT IT READS IS OF BULK AT MOST 1048576: true; the input reads as it did. -/
def dualDartsUptoRow : OpenClaim := { program := "ytbnghpemlcmogaa", sum := "a6e0c6fbcd97e2729b0c09b0968bfe65315f2713858dae60c7b38ee8efc5e794", func := "watershed/watershedlaw3.DualDarts", spec := "dualDarts", unfollowed := true, recurses := true, apart := false, narrowed := true }
def DualDartsUptoSaid : Prop := dualDartsUptoRow.holds Try.pinned (OpenSpec.upto dualDartsSpec)

/-- 'watershedlaw3.DualKnown', WHERE WHAT IT READS IS OF BULK AT MOST 1048576: true; the input reads as it did. -/
def dualKnownUptoRow : OpenClaim := { program := "ytbnghpemlcmogaa", sum := "a6e0c6fbcd97e2729b0c09b0968bfe65315f2713858dae60c7b38ee8efc5e794", func := "watershed/watershedlaw3.DualKnown", spec := "dualKnown", unfollowed := true, recurses := true, apart := false, narrowed := true }
def DualKnownUptoSaid : Prop := dualKnownUptoRow.holds Try.pinned (OpenSpec.upto dualKnownSpec)

/-- 'watershedlaw3.DualFirst', WHERE WHAT IT READS IS OF BULK AT MOST 1048576: true; the input reads as it did. -/
def dualFirstUptoRow : OpenClaim := { program := "ytbnghpemlcmogaa", sum := "a6e0c6fbcd97e2729b0c09b0968bfe65315f2713858dae60c7b38ee8efc5e794", func := "watershed/watershedlaw3.DualFirst", spec := "dualFirst", unfollowed := true, recurses := true, apart := false, narrowed := true }
def DualFirstUptoSaid : Prop := dualFirstUptoRow.holds Try.pinned (OpenSpec.upto dualFirstSpec)

/-- 'watershedlaw3.DualBack', WHERE WHAT IT READS IS OF BULK AT MOST 1048576: true; the input reads as it did. -/
def dualBackUptoRow : OpenClaim := { program := "ytbnghpemlcmogaa", sum := "a6e0c6fbcd97e2729b0c09b0968bfe65315f2713858dae60c7b38ee8efc5e794", func := "watershed/watershedlaw3.DualBack", spec := "dualBack", unfollowed := true, recurses := true, apart := false, narrowed := true }
def DualBackUptoSaid : Prop := dualBackUptoRow.holds Try.pinned (OpenSpec.upto dualBackSpec)

/-- 'watershedlaw3.DualOwn', WHERE WHAT IT READS IS OF BULK AT MOST 1048576: true; the input reads as it did. -/
def dualOwnUptoRow : OpenClaim := { program := "ytbnghpemlcmogaa", sum := "a6e0c6fbcd97e2729b0c09b0968bfe65315f2713858dae60c7b38ee8efc5e794", func := "watershed/watershedlaw3.DualOwn", spec := "dualOwn", unfollowed := true, recurses := true, apart := false, narrowed := true }
def DualOwnUptoSaid : Prop := dualOwnUptoRow.holds Try.pinned (OpenSpec.upto dualOwnSpec)

end Rows
end Go.Proofs.Ytbnghpemlcmogaa
