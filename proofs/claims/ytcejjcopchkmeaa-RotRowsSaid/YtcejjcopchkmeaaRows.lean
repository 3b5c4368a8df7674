/-
  No cell of these rows narrows 'for every input' (looked for: loops, veiled, ifaces, maps, wideKeys, modest, calm, conditions, laid).
  DERIVED. THE GIVEN ROWS OF THIS SEAT. 12 by the template 'for every input the law returns true; each argument reads behind the call as it read before'; 0 by the template 'total and deterministic' (their statements: YtcejjcopchkmeaaTotals.lean).
  GIVEN WITH THE SEED: the statements are not yours to turn. If you find one false, say at which input.
  Laid BY PROGRAM, IN A SANDBOX (cutbox-rows.mjs): the forced cells as the released guide's own fill.sh prints them over the translation 42e329d3ae49f483… (all of the seat's roots in one cut). By AI agents, Wed Nov 11 2026. No macro, syntax, notation, axiom, sorry.
-/
import Derived.Test.YtcejjcopchkmeaaChecked
import GoSem.Claim
import GoSem.ClaimJoined
import GoSem.ClaimMapViews
import Derived.JoinedTies
import Derived.KernelRfl
namespace Go.Proofs.Ytcejjcopchkmeaa
/- THE CELL 'sum', in the pinned program and in every row, IS THE sha256 OF THE DUMP (.gsa) THAT YtcejjcopchkmeaaProg.lean LOADS. Nothing in Lean hashes anything: it is a label: what it is worth is what the hold of that sum in a sandbox is worth. -/
noncomputable def Try.pinned : Pinned := { name := "ytcejjcopchkmeaa", sum := "42e329d3ae49f48344a6a49669f68645ee30d6de24febf17ce78ffee5018cebb", checked := Try.checked }
namespace Rows
def none {H : Type} : Left H := { results := [], args := [] }

/-- 'watershedlaw2.RotPlanes': WHATEVER THE INPUT: true; the input reads as it did. -/
def rotPlanesSpec : ChangeSpec := { name := "rotPlanes", fn := fun _ => fun
  | [d1, d2, d3] => { results := [.lit (.bool true)], args := [d1, d2, d3] }
  | _ => none }
def rotPlanesRow : OpenClaim := { program := "ytcejjcopchkmeaa", sum := "42e329d3ae49f48344a6a49669f68645ee30d6de24febf17ce78ffee5018cebb", func := "watershed/watershedlaw2.RotPlanes", spec := "rotPlanes", unfollowed := true, recurses := true, apart := false }
def RotPlanesSaid : Prop := rotPlanesRow.holds Try.pinned (OpenSpec.ofChange rotPlanesSpec)

/-- ITS FALSE NEIGHBOUR: 'it returns false'. Refute it at one input. -/
def rotPlanesWrong : ChangeSpec := { name := "rotPlanes", fn := fun _ => fun
  | [d1, d2, d3] => { results := [.lit (.bool false)], args := [d1, d2, d3] }
  | _ => none }
def RotPlanesWrongFalsely : Prop := rotPlanesRow.holds Try.pinned (OpenSpec.ofChange rotPlanesWrong)

/-- 'watershedlaw2.RotChecks': WHATEVER THE INPUT: true; the input reads as it did. -/
def rotChecksSpec : ChangeSpec := { name := "rotChecks", fn := fun _ => fun
  | [d1, d2, d3, d4, d5] => { results := [.lit (.bool true)], args := [d1, d2, d3, d4, d5] }
  | _ => none }
def rotChecksRow : OpenClaim := { program := "ytcejjcopchkmeaa", sum := "42e329d3ae49f48344a6a49669f68645ee30d6de24febf17ce78ffee5018cebb", func := "watershed/watershedlaw2.RotChecks", spec := "rotChecks", unfollowed := true, recurses := true, apart := false }
def RotChecksSaid : Prop := rotChecksRow.holds Try.pinned (OpenSpec.ofChange rotChecksSpec)

/-- ITS FALSE NEIGHBOUR: 'it returns false'. Refute it at one input. -/
def rotChecksWrong : ChangeSpec := { name := "rotChecks", fn := fun _ => fun
  | [d1, d2, d3, d4, d5] => { results := [.lit (.bool false)], args := [d1, d2, d3, d4, d5] }
  | _ => none }
def RotChecksWrongFalsely : Prop := rotChecksRow.holds Try.pinned (OpenSpec.ofChange rotChecksWrong)

/-- 'watershedlaw2.RotRows': WHATEVER THE INPUT: true; the input reads as it did. -/
def rotRowsSpec : ChangeSpec := { name := "rotRows", fn := fun _ => fun
  | [d1, d2, d3, d4] => { results := [.lit (.bool true)], args := [d1, d2, d3, d4] }
  | _ => none }
def rotRowsRow : OpenClaim := { program := "ytcejjcopchkmeaa", sum := "42e329d3ae49f48344a6a49669f68645ee30d6de24febf17ce78ffee5018cebb", func := "watershed/watershedlaw2.RotRows", spec := "rotRows", unfollowed := true, recurses := true, apart := false }
def RotRowsSaid : Prop := rotRowsRow.holds Try.pinned (OpenSpec.ofChange rotRowsSpec)

/-- ITS FALSE NEIGHBOUR: 'it returns false'. Refute it at one input. -/
def rotRowsWrong : ChangeSpec := { name := "rotRows", fn := fun _ => fun
  | [d1, d2, d3, d4] => { results := [.lit (.bool false)], args := [d1, d2, d3, d4] }
  | _ => none }
def RotRowsWrongFalsely : Prop := rotRowsRow.holds Try.pinned (OpenSpec.ofChange rotRowsWrong)

/-- 'watershedlaw2.RotTurns': WHATEVER THE INPUT: true; the input reads as it did. -/
def rotTurnsSpec : ChangeSpec := { name := "rotTurns", fn := fun _ => fun
  | [d] => { results := [.lit (.bool true)], args := [d] }
  | _ => none }
def rotTurnsRow : OpenClaim := { program := "ytcejjcopchkmeaa", sum := "42e329d3ae49f48344a6a49669f68645ee30d6de24febf17ce78ffee5018cebb", func := "watershed/watershedlaw2.RotTurns", spec := "rotTurns", unfollowed := true, recurses := true, apart := false }
def RotTurnsSaid : Prop := rotTurnsRow.holds Try.pinned (OpenSpec.ofChange rotTurnsSpec)

/-- ITS FALSE NEIGHBOUR: 'it returns false'. Refute it at one input. -/
def rotTurnsWrong : ChangeSpec := { name := "rotTurns", fn := fun _ => fun
  | [d] => { results := [.lit (.bool false)], args := [d] }
  | _ => none }
def RotTurnsWrongFalsely : Prop := rotTurnsRow.holds Try.pinned (OpenSpec.ofChange rotTurnsWrong)

/-- 'watershedlaw2.RotRounds': WHATEVER THE INPUT: true; the input reads as it did. -/
def rotRoundsSpec : ChangeSpec := { name := "rotRounds", fn := fun _ => fun
  | [d] => { results := [.lit (.bool true)], args := [d] }
  | _ => none }
def rotRoundsRow : OpenClaim := { program := "ytcejjcopchkmeaa", sum := "42e329d3ae49f48344a6a49669f68645ee30d6de24febf17ce78ffee5018cebb", func := "watershed/watershedlaw2.RotRounds", spec := "rotRounds", unfollowed := true, recurses := true, apart := false }
def RotRoundsSaid : Prop := rotRoundsRow.holds Try.pinned (OpenSpec.ofChange rotRoundsSpec)

/-- ITS FALSE NEIGHBOUR: 'it returns false'. Refute it at one input. -/
def rotRoundsWrong : ChangeSpec := { name := "rotRounds", fn := fun _ => fun
  | [d] => { results := [.lit (.bool false)], args := [d] }
  | _ => none }
def RotRoundsWrongFalsely : Prop := rotRoundsRow.holds Try.pinned (OpenSpec.ofChange rotRoundsWrong)

/-- 'watershedlaw2.RotParts': WHATEVER THE INPUT: true; the input reads as it did. -/
def rotPartsSpec : ChangeSpec := { name := "rotParts", fn := fun _ => fun
  | [d1, d2, d3, d4] => { results := [.lit (.bool true)], args := [d1, d2, d3, d4] }
  | _ => none }
def rotPartsRow : OpenClaim := { program := "ytcejjcopchkmeaa", sum := "42e329d3ae49f48344a6a49669f68645ee30d6de24febf17ce78ffee5018cebb", func := "watershed/watershedlaw2.RotParts", spec := "rotParts", unfollowed := true, recurses := true, apart := false }
def RotPartsSaid : Prop := rotPartsRow.holds Try.pinned (OpenSpec.ofChange rotPartsSpec)

/-- ITS FALSE NEIGHBOUR: 'it returns false'. Refute it at one input. -/
def rotPartsWrong : ChangeSpec := { name := "rotParts", fn := fun _ => fun
  | [d1, d2, d3, d4] => { results := [.lit (.bool false)], args := [d1, d2, d3, d4] }
  | _ => none }
def RotPartsWrongFalsely : Prop := rotPartsRow.holds Try.pinned (OpenSpec.ofChange rotPartsWrong)

/-- 'watershedlaw2.RotKnown': WHATEVER THE INPUT: true; the input reads as it did. -/
def rotKnownSpec : ChangeSpec := { name := "rotKnown", fn := fun _ => fun
  | [d] => { results := [.lit (.bool true)], args := [d] }
  | _ => none }
def rotKnownRow : OpenClaim := { program := "ytcejjcopchkmeaa", sum := "42e329d3ae49f48344a6a49669f68645ee30d6de24febf17ce78ffee5018cebb", func := "watershed/watershedlaw2.RotKnown", spec := "rotKnown", unfollowed := true, recurses := true, apart := false }
def RotKnownSaid : Prop := rotKnownRow.holds Try.pinned (OpenSpec.ofChange rotKnownSpec)

/-- ITS FALSE NEIGHBOUR: 'it returns false'. Refute it at one input. -/
def rotKnownWrong : ChangeSpec := { name := "rotKnown", fn := fun _ => fun
  | [d] => { results := [.lit (.bool false)], args := [d] }
  | _ => none }
def RotKnownWrongFalsely : Prop := rotKnownRow.holds Try.pinned (OpenSpec.ofChange rotKnownWrong)

/-- 'watershedlaw2.RotHeads': WHATEVER THE INPUT: true; the input reads as it did. -/
def rotHeadsSpec : ChangeSpec := { name := "rotHeads", fn := fun _ => fun
  | [d1, d2] => { results := [.lit (.bool true)], args := [d1, d2] }
  | _ => none }
def rotHeadsRow : OpenClaim := { program := "ytcejjcopchkmeaa", sum := "42e329d3ae49f48344a6a49669f68645ee30d6de24febf17ce78ffee5018cebb", func := "watershed/watershedlaw2.RotHeads", spec := "rotHeads", unfollowed := true, recurses := true, apart := false }
def RotHeadsSaid : Prop := rotHeadsRow.holds Try.pinned (OpenSpec.ofChange rotHeadsSpec)

/-- ITS FALSE NEIGHBOUR: 'it returns false'. Refute it at one input. -/
def rotHeadsWrong : ChangeSpec := { name := "rotHeads", fn := fun _ => fun
  | [d1, d2] => { results := [.lit (.bool false)], args := [d1, d2] }
  | _ => none }
def RotHeadsWrongFalsely : Prop := rotHeadsRow.holds Try.pinned (OpenSpec.ofChange rotHeadsWrong)

/-- 'watershedlaw2.RotAbouts': WHATEVER THE INPUT: true; the input reads as it did. -/
def rotAboutsSpec : ChangeSpec := { name := "rotAbouts", fn := fun _ => fun
  | [d1, d2] => { results := [.lit (.bool true)], args := [d1, d2] }
  | _ => none }
def rotAboutsRow : OpenClaim := { program := "ytcejjcopchkmeaa", sum := "42e329d3ae49f48344a6a49669f68645ee30d6de24febf17ce78ffee5018cebb", func := "watershed/watershedlaw2.RotAbouts", spec := "rotAbouts", unfollowed := true, recurses := true, apart := false }
def RotAboutsSaid : Prop := rotAboutsRow.holds Try.pinned (OpenSpec.ofChange rotAboutsSpec)

/-- ITS FALSE NEIGHBOUR: 'it returns false'. Refute it at one input. -/
def rotAboutsWrong : ChangeSpec := { name := "rotAbouts", fn := fun _ => fun
  | [d1, d2] => { results := [.lit (.bool false)], args := [d1, d2] }
  | _ => none }
def RotAboutsWrongFalsely : Prop := rotAboutsRow.holds Try.pinned (OpenSpec.ofChange rotAboutsWrong)

/-- 'watershedlaw2.RotOnes': WHATEVER THE INPUT: true; the input reads as it did. -/
def rotOnesSpec : ChangeSpec := { name := "rotOnes", fn := fun _ => fun
  | [d1, d2] => { results := [.lit (.bool true)], args := [d1, d2] }
  | _ => none }
def rotOnesRow : OpenClaim := { program := "ytcejjcopchkmeaa", sum := "42e329d3ae49f48344a6a49669f68645ee30d6de24febf17ce78ffee5018cebb", func := "watershed/watershedlaw2.RotOnes", spec := "rotOnes", unfollowed := true, recurses := true, apart := false }
def RotOnesSaid : Prop := rotOnesRow.holds Try.pinned (OpenSpec.ofChange rotOnesSpec)

/-- ITS FALSE NEIGHBOUR: 'it returns false'. Refute it at one input. -/
def rotOnesWrong : ChangeSpec := { name := "rotOnes", fn := fun _ => fun
  | [d1, d2] => { results := [.lit (.bool false)], args := [d1, d2] }
  | _ => none }
def RotOnesWrongFalsely : Prop := rotOnesRow.holds Try.pinned (OpenSpec.ofChange rotOnesWrong)

/-- 'watershedlaw2.RotGrows': WHATEVER THE INPUT: true; the input reads as it did. -/
def rotGrowsSpec : ChangeSpec := { name := "rotGrows", fn := fun _ => fun
  | [d1, d2, d3, d4] => { results := [.lit (.bool true)], args := [d1, d2, d3, d4] }
  | _ => none }
def rotGrowsRow : OpenClaim := { program := "ytcejjcopchkmeaa", sum := "42e329d3ae49f48344a6a49669f68645ee30d6de24febf17ce78ffee5018cebb", func := "watershed/watershedlaw2.RotGrows", spec := "rotGrows", unfollowed := true, recurses := true, apart := false }
def RotGrowsSaid : Prop := rotGrowsRow.holds Try.pinned (OpenSpec.ofChange rotGrowsSpec)

/-- ITS FALSE NEIGHBOUR: 'it returns false'. Refute it at one input. -/
def rotGrowsWrong : ChangeSpec := { name := "rotGrows", fn := fun _ => fun
  | [d1, d2, d3, d4] => { results := [.lit (.bool false)], args := [d1, d2, d3, d4] }
  | _ => none }
def RotGrowsWrongFalsely : Prop := rotGrowsRow.holds Try.pinned (OpenSpec.ofChange rotGrowsWrong)

/-- 'watershedlaw2.RotOwn': WHATEVER THE INPUT: true; the input reads as it did. -/
def rotOwnSpec : ChangeSpec := { name := "rotOwn", fn := fun _ => fun
  | [d1, d2] => { results := [.lit (.bool true)], args := [d1, d2] }
  | _ => none }
def rotOwnRow : OpenClaim := { program := "ytcejjcopchkmeaa", sum := "42e329d3ae49f48344a6a49669f68645ee30d6de24febf17ce78ffee5018cebb", func := "watershed/watershedlaw2.RotOwn", spec := "rotOwn", unfollowed := true, recurses := true, apart := false }
def RotOwnSaid : Prop := rotOwnRow.holds Try.pinned (OpenSpec.ofChange rotOwnSpec)

/-- ITS FALSE NEIGHBOUR: 'it returns false'. Refute it at one input. -/
def rotOwnWrong : ChangeSpec := { name := "rotOwn", fn := fun _ => fun
  | [d1, d2] => { results := [.lit (.bool false)], args := [d1, d2] }
  | _ => none }
def RotOwnWrongFalsely : Prop := rotOwnRow.holds Try.pinned (OpenSpec.ofChange rotOwnWrong)

/- THE SECOND FORM. 'bulk': how many values and letters a reading holds, each counted each time it is reached (what is shared counts as often as it is met; a slice's spare places count too). A statement '..UptoSaid' is the law's where the arguments, and the package variables that the reading takes, are together of bulk at most 1048576: NARROWER than '..Said'. Prove '..Said' where nothing that the law and all that it calls make is longer than what came in: it says more and counts as full. Else prove '..UptoSaid'. A law counts once. -/
mutual
def uptoBulk {H : Type} : DataW H → Nat
  | .lit (.string bytes) => bytes.length + 1
  | .lit _ => 1
  | .nil => 1
  | .ptr d => uptoBulk d + 1
  | .slice elems spare => uptoBulkAll elems + uptoBulkAll spare + 1
  | .agg parts => uptoBulkAll parts + 1
  | .iface _ d => uptoBulk d + 1
  | .map entries => uptoBulkEntries entries + 1
  | .held _ => 1
def uptoBulkAll {H : Type} : List (DataW H) → Nat
  | [] => 0
  | d :: r => uptoBulk d + uptoBulkAll r
def uptoBulkEntries {H : Type} : List (Lit × DataW H) → Nat
  | [] => 0
  | x :: r => uptoBulkEntry x + uptoBulkEntries r
def uptoBulkEntry {H : Type} : Lit × DataW H → Nat
  | (.string bytes, d) => bytes.length + uptoBulk d + 1
  | (_, d) => uptoBulk d + 1
 end
def uptoSmall : (H : Type) → List (DataW H) → Bool := fun _ ds => decide (uptoBulkAll ds ≤ 1048576)
def OpenSpec.upto (s : _root_.Go.ChangeSpec) : _root_.Go.OpenSpec := { _root_.Go.OpenSpec.ofChange s with cond := some uptoSmall }

/-- 'watershedlaw2.RotPlanes', WHERE WHAT IT READS IS OF BULK AT MOST 1048576: true; the input reads as it did. -/
def rotPlanesUptoRow : OpenClaim := { program := "ytcejjcopchkmeaa", sum := "42e329d3ae49f48344a6a49669f68645ee30d6de24febf17ce78ffee5018cebb", func := "watershed/watershedlaw2.RotPlanes", spec := "rotPlanes", unfollowed := true, recurses := true, apart := false, narrowed := true }
def RotPlanesUptoSaid : Prop := rotPlanesUptoRow.holds Try.pinned (OpenSpec.upto rotPlanesSpec)

/-- 'watershedlaw2.RotChecks', WHERE WHAT IT READS IS OF BULK AT MOST 1048576: true; the input reads as it did. -/
def rotChecksUptoRow : OpenClaim := { program := "ytcejjcopchkmeaa", sum := "42e329d3ae49f48344a6a49669f68645ee30d6de24febf17ce78ffee5018cebb", func := "watershed/watershedlaw2.RotChecks", spec := "rotChecks", unfollowed := true, recurses := true, apart := false, narrowed := true }
def RotChecksUptoSaid : Prop := rotChecksUptoRow.holds Try.pinned (OpenSpec.upto rotChecksSpec)

/-- 'watershedlaw2.RotRows', WHERE WHAT IT READS IS OF BULK AT MOST 1048576: true; the input reads as it did. -/
def rotRowsUptoRow : OpenClaim := { program := "ytcejjcopchkmeaa", sum := "42e329d3ae49f48344a6a49669f68645ee30d6de24febf17ce78ffee5018cebb", func := "watershed/watershedlaw2.RotRows", spec := "rotRows", unfollowed := true, recurses := true, apart := false, narrowed := true }
def RotRowsUptoSaid : Prop := rotRowsUptoRow.holds Try.pinned (OpenSpec.upto rotRowsSpec)

/-- 'watershedlaw2.RotTurns', WHERE WHAT IT READS IS OF BULK AT MOST 1048576: true; the input reads as it did. -/
def rotTurnsUptoRow : OpenClaim := { program := "ytcejjcopchkmeaa", sum := "42e329d3ae49f48344a6a49669f68645ee30d6de24febf17ce78ffee5018cebb", func := "watershed/watershedlaw2.RotTurns", spec := "rotTurns", unfollowed := true, recurses := true, apart := false, narrowed := true }
def RotTurnsUptoSaid : Prop := rotTurnsUptoRow.holds Try.pinned (OpenSpec.upto rotTurnsSpec)

/-- 'watershedlaw2.RotRounds', WHERE WHAT IT READS IS OF BULK AT MOST 1048576: true; the input reads as it did. -/
def rotRoundsUptoRow : OpenClaim := { program := "ytcejjcopchkmeaa", sum := "42e329d3ae49f48344a6a49669f68645ee30d6de24febf17ce78ffee5018cebb", func := "watershed/watershedlaw2.RotRounds", spec := "rotRounds", unfollowed := true, recurses := true, apart := false, narrowed := true }
def RotRoundsUptoSaid : Prop := rotRoundsUptoRow.holds Try.pinned (OpenSpec.upto rotRoundsSpec)

/-- 'watershedlaw2.RotParts', WHERE WHAT IT READS IS OF BULK AT MOST 1048576: true; the input reads as it did. -/
def rotPartsUptoRow : OpenClaim := { program := "ytcejjcopchkmeaa", sum := "42e329d3ae49f48344a6a49669f68645ee30d6de24febf17ce78ffee5018cebb", func := "watershed/watershedlaw2.RotParts", spec := "rotParts", unfollowed := true, recurses := true, apart := false, narrowed := true }
def RotPartsUptoSaid : Prop := rotPartsUptoRow.holds Try.pinned (OpenSpec.upto rotPartsSpec)

/-- 'watershedlaw2.RotKnown', WHERE WHAT IT READS IS OF BULK AT MOST 1048576: true; the input reads as it did. -/
def rotKnownUptoRow : OpenClaim := { program := "ytcejjcopchkmeaa", sum := "42e329d3ae49f48344a6a49669f68645ee30d6de24febf17ce78ffee5018cebb", func := "watershed/watershedlaw2.RotKnown", spec := "rotKnown", unfollowed := true, recurses := true, apart := false, narrowed := true }
def RotKnownUptoSaid : Prop := rotKnownUptoRow.holds Try.pinned (OpenSpec.upto rotKnownSpec)

/-- 'watershedlaw2.RotHeads', WHERE WHAT IT READS IS OF BULK AT MOST 1048576: true; the input reads as it did. -/
def rotHeadsUptoRow : OpenClaim := { program := "ytcejjcopchkmeaa", sum := "42e329d3ae49f48344a6a49669f68645ee30d6de24febf17ce78ffee5018cebb", func := "watershed/watershedlaw2.RotHeads", spec := "rotHeads", unfollowed := true, recurses := true, apart := false, narrowed := true }
def RotHeadsUptoSaid : Prop := rotHeadsUptoRow.holds Try.pinned (OpenSpec.upto rotHeadsSpec)

/-- 'watershedlaw2.RotAbouts', WHERE WHAT IT READS IS OF BULK AT MOST 1048576: true; the input reads as it did. -/
def rotAboutsUptoRow : OpenClaim := { program := "ytcejjcopchkmeaa", sum := "42e329d3ae49f48344a6a49669f68645ee30d6de24febf17ce78ffee5018cebb", func := "watershed/watershedlaw2.RotAbouts", spec := "rotAbouts", unfollowed := true, recurses := true, apart := false, narrowed := true }
def RotAboutsUptoSaid : Prop := rotAboutsUptoRow.holds Try.pinned (OpenSpec.upto rotAboutsSpec)

/-- 'watershedlaw2.RotOnes', WHERE WHAT IT READS IS OF BULK AT MOST 1048576: true; the input reads as it did. -/
def rotOnesUptoRow : OpenClaim := { program := "ytcejjcopchkmeaa", sum := "42e329d3ae49f48344a6a49669f68645ee30d6de24febf17ce78ffee5018cebb", func := "watershed/watershedlaw2.RotOnes", spec := "rotOnes", unfollowed := true, recurses := true, apart := false, narrowed := true }
def RotOnesUptoSaid : Prop := rotOnesUptoRow.holds Try.pinned (OpenSpec.upto rotOnesSpec)

/-- 'watershedlaw2.RotGrows', WHERE WHAT IT READS IS OF BULK AT MOST 1048576: true; the input reads as it did. -/
def rotGrowsUptoRow : OpenClaim := { program := "ytcejjcopchkmeaa", sum := "42e329d3ae49f48344a6a49669f68645ee30d6de24febf17ce78ffee5018cebb", func := "watershed/watershedlaw2.RotGrows", spec := "rotGrows", unfollowed := true, recurses := true, apart := false, narrowed := true }
def RotGrowsUptoSaid : Prop := rotGrowsUptoRow.holds Try.pinned (OpenSpec.upto rotGrowsSpec)

/-- 'watershedlaw2.RotOwn', WHERE WHAT IT READS IS OF BULK AT MOST 1048576: true; the input reads as it did. -/
def rotOwnUptoRow : OpenClaim := { program := "ytcejjcopchkmeaa", sum := "42e329d3ae49f48344a6a49669f68645ee30d6de24febf17ce78ffee5018cebb", func := "watershed/watershedlaw2.RotOwn", spec := "rotOwn", unfollowed := true, recurses := true, apart := false, narrowed := true }
def RotOwnUptoSaid : Prop := rotOwnUptoRow.holds Try.pinned (OpenSpec.upto rotOwnSpec)

end Rows
end Go.Proofs.Ytcejjcopchkmeaa
