/-
  No cell of these rows narrows 'for every input' (looked for: loops, veiled, ifaces, maps, wideKeys, modest, calm, conditions, laid).
  DERIVED. THE GIVEN ROWS OF THIS SEAT. 9 by the template 'for every input the law returns true; each argument reads behind the call as it read before'; 0 by the template 'total and deterministic' (their statements: YtnbemaijhmgooaaTotals.lean).
  GIVEN WITH THE SEED: the statements are not yours to turn. If you find one false, say at which input.
  Laid BY PROGRAM, IN A SANDBOX (cutbox-rows.mjs): the forced cells as the released guide's own fill.sh prints them over the translation 8c490bafe6d6153a… (all of the seat's roots in one cut). By AI agents, Wed Nov 11 2026. No macro, syntax, notation, axiom, sorry.
-/
import Derived.Test.YtnbemaijhmgooaaChecked
import GoSem.Claim
import GoSem.ClaimJoined
import GoSem.ClaimMapViews
import Derived.JoinedTies
import Derived.KernelRfl
namespace Go.Proofs.Ytnbemaijhmgooaa
/- THE CELL 'sum', in the pinned program and in every row, IS THE sha256 OF THE DUMP (.gsa) THAT YtnbemaijhmgooaaProg.lean LOADS. Nothing in Lean hashes anything: it is a label: what it is worth is what the hold of that sum in a sandbox is worth. -/
noncomputable def Try.pinned : Pinned := { name := "ytnbemaijhmgooaa", sum := "8c490bafe6d6153a592fb485fc88ac6baaa04c5b632979c1b090e6fa8ce91ee5", checked := Try.checked }
namespace Rows
def none {H : Type} : Left H := { results := [], args := [] }

/-- 'watershedlaw5.HeapRises': WHATEVER THE INPUT: true; the input reads as it did. -/
def heapRisesSpec : ChangeSpec := { name := "heapRises", fn := fun _ => fun
  | [d] => { results := [.lit (.bool true)], args := [d] }
  | _ => none }
def heapRisesRow : OpenClaim := { program := "ytnbemaijhmgooaa", sum := "8c490bafe6d6153a592fb485fc88ac6baaa04c5b632979c1b090e6fa8ce91ee5", func := "watershed/watershedlaw5.HeapRises", spec := "heapRises", apart := false }
def HeapRisesSaid : Prop := heapRisesRow.holds Try.pinned (OpenSpec.ofChange heapRisesSpec)

/-- ITS FALSE NEIGHBOUR: 'it returns false'. Refute it at one input. -/
def heapRisesWrong : ChangeSpec := { name := "heapRises", fn := fun _ => fun
  | [d] => { results := [.lit (.bool false)], args := [d] }
  | _ => none }
def HeapRisesWrongFalsely : Prop := heapRisesRow.holds Try.pinned (OpenSpec.ofChange heapRisesWrong)

/-- 'watershedlaw5.HeapTies': WHATEVER THE INPUT: true; the input reads as it did. -/
def heapTiesSpec : ChangeSpec := { name := "heapTies", fn := fun _ => fun
  | [d1, d2] => { results := [.lit (.bool true)], args := [d1, d2] }
  | _ => none }
def heapTiesRow : OpenClaim := { program := "ytnbemaijhmgooaa", sum := "8c490bafe6d6153a592fb485fc88ac6baaa04c5b632979c1b090e6fa8ce91ee5", func := "watershed/watershedlaw5.HeapTies", spec := "heapTies", apart := false }
def HeapTiesSaid : Prop := heapTiesRow.holds Try.pinned (OpenSpec.ofChange heapTiesSpec)

/-- ITS FALSE NEIGHBOUR: 'it returns false'. Refute it at one input. -/
def heapTiesWrong : ChangeSpec := { name := "heapTies", fn := fun _ => fun
  | [d1, d2] => { results := [.lit (.bool false)], args := [d1, d2] }
  | _ => none }
def HeapTiesWrongFalsely : Prop := heapTiesRow.holds Try.pinned (OpenSpec.ofChange heapTiesWrong)

/-- 'watershedlaw5.HeapLeast': WHATEVER THE INPUT: true; the input reads as it did. -/
def heapLeastSpec : ChangeSpec := { name := "heapLeast", fn := fun _ => fun
  | [d] => { results := [.lit (.bool true)], args := [d] }
  | _ => none }
def heapLeastRow : OpenClaim := { program := "ytnbemaijhmgooaa", sum := "8c490bafe6d6153a592fb485fc88ac6baaa04c5b632979c1b090e6fa8ce91ee5", func := "watershed/watershedlaw5.HeapLeast", spec := "heapLeast", apart := false }
def HeapLeastSaid : Prop := heapLeastRow.holds Try.pinned (OpenSpec.ofChange heapLeastSpec)

/-- ITS FALSE NEIGHBOUR: 'it returns false'. Refute it at one input. -/
def heapLeastWrong : ChangeSpec := { name := "heapLeast", fn := fun _ => fun
  | [d] => { results := [.lit (.bool false)], args := [d] }
  | _ => none }
def HeapLeastWrongFalsely : Prop := heapLeastRow.holds Try.pinned (OpenSpec.ofChange heapLeastWrong)

/-- 'watershedlaw5.HeapFar': WHATEVER THE INPUT: true; the input reads as it did. -/
def heapFarSpec : ChangeSpec := { name := "heapFar", fn := fun _ => fun
  | [d1, d2, d3] => { results := [.lit (.bool true)], args := [d1, d2, d3] }
  | _ => none }
def heapFarRow : OpenClaim := { program := "ytnbemaijhmgooaa", sum := "8c490bafe6d6153a592fb485fc88ac6baaa04c5b632979c1b090e6fa8ce91ee5", func := "watershed/watershedlaw5.HeapFar", spec := "heapFar", apart := false }
def HeapFarSaid : Prop := heapFarRow.holds Try.pinned (OpenSpec.ofChange heapFarSpec)

/-- ITS FALSE NEIGHBOUR: 'it returns false'. Refute it at one input. -/
def heapFarWrong : ChangeSpec := { name := "heapFar", fn := fun _ => fun
  | [d1, d2, d3] => { results := [.lit (.bool false)], args := [d1, d2, d3] }
  | _ => none }
def HeapFarWrongFalsely : Prop := heapFarRow.holds Try.pinned (OpenSpec.ofChange heapFarWrong)

/-- 'watershedlaw5.HeapPlays': WHATEVER THE INPUT: true; the input reads as it did. -/
def heapPlaysSpec : ChangeSpec := { name := "heapPlays", fn := fun _ => fun
  | [d1, d2] => { results := [.lit (.bool true)], args := [d1, d2] }
  | _ => none }
def heapPlaysRow : OpenClaim := { program := "ytnbemaijhmgooaa", sum := "8c490bafe6d6153a592fb485fc88ac6baaa04c5b632979c1b090e6fa8ce91ee5", func := "watershed/watershedlaw5.HeapPlays", spec := "heapPlays", apart := false }
def HeapPlaysSaid : Prop := heapPlaysRow.holds Try.pinned (OpenSpec.ofChange heapPlaysSpec)

/-- ITS FALSE NEIGHBOUR: 'it returns false'. Refute it at one input. -/
def heapPlaysWrong : ChangeSpec := { name := "heapPlays", fn := fun _ => fun
  | [d1, d2] => { results := [.lit (.bool false)], args := [d1, d2] }
  | _ => none }
def HeapPlaysWrongFalsely : Prop := heapPlaysRow.holds Try.pinned (OpenSpec.ofChange heapPlaysWrong)

/-- 'watershedlaw5.HeapAnew': WHATEVER THE INPUT: true; the input reads as it did. -/
def heapAnewSpec : ChangeSpec := { name := "heapAnew", fn := fun _ => fun
  | [d1, d2, d3, d4] => { results := [.lit (.bool true)], args := [d1, d2, d3, d4] }
  | _ => none }
def heapAnewRow : OpenClaim := { program := "ytnbemaijhmgooaa", sum := "8c490bafe6d6153a592fb485fc88ac6baaa04c5b632979c1b090e6fa8ce91ee5", func := "watershed/watershedlaw5.HeapAnew", spec := "heapAnew", apart := false }
def HeapAnewSaid : Prop := heapAnewRow.holds Try.pinned (OpenSpec.ofChange heapAnewSpec)

/-- ITS FALSE NEIGHBOUR: 'it returns false'. Refute it at one input. -/
def heapAnewWrong : ChangeSpec := { name := "heapAnew", fn := fun _ => fun
  | [d1, d2, d3, d4] => { results := [.lit (.bool false)], args := [d1, d2, d3, d4] }
  | _ => none }
def HeapAnewWrongFalsely : Prop := heapAnewRow.holds Try.pinned (OpenSpec.ofChange heapAnewWrong)

/-- 'watershedlaw5.HeapDrops': WHATEVER THE INPUT: true; the input reads as it did. -/
def heapDropsSpec : ChangeSpec := { name := "heapDrops", fn := fun _ => fun
  | [d1, d2] => { results := [.lit (.bool true)], args := [d1, d2] }
  | _ => none }
def heapDropsRow : OpenClaim := { program := "ytnbemaijhmgooaa", sum := "8c490bafe6d6153a592fb485fc88ac6baaa04c5b632979c1b090e6fa8ce91ee5", func := "watershed/watershedlaw5.HeapDrops", spec := "heapDrops", apart := false }
def HeapDropsSaid : Prop := heapDropsRow.holds Try.pinned (OpenSpec.ofChange heapDropsSpec)

/-- ITS FALSE NEIGHBOUR: 'it returns false'. Refute it at one input. -/
def heapDropsWrong : ChangeSpec := { name := "heapDrops", fn := fun _ => fun
  | [d1, d2] => { results := [.lit (.bool false)], args := [d1, d2] }
  | _ => none }
def HeapDropsWrongFalsely : Prop := heapDropsRow.holds Try.pinned (OpenSpec.ofChange heapDropsWrong)

/-- 'watershedlaw5.HeapApart': WHATEVER THE INPUT: true; the input reads as it did. -/
def heapApartSpec : ChangeSpec := { name := "heapApart", fn := fun _ => fun
  | [d1, d2, d3] => { results := [.lit (.bool true)], args := [d1, d2, d3] }
  | _ => none }
def heapApartRow : OpenClaim := { program := "ytnbemaijhmgooaa", sum := "8c490bafe6d6153a592fb485fc88ac6baaa04c5b632979c1b090e6fa8ce91ee5", func := "watershed/watershedlaw5.HeapApart", spec := "heapApart", apart := false }
def HeapApartSaid : Prop := heapApartRow.holds Try.pinned (OpenSpec.ofChange heapApartSpec)

/-- ITS FALSE NEIGHBOUR: 'it returns false'. Refute it at one input. -/
def heapApartWrong : ChangeSpec := { name := "heapApart", fn := fun _ => fun
  | [d1, d2, d3] => { results := [.lit (.bool false)], args := [d1, d2, d3] }
  | _ => none }
def HeapApartWrongFalsely : Prop := heapApartRow.holds Try.pinned (OpenSpec.ofChange heapApartWrong)

/-- 'watershedlaw5.HeapKeys': WHATEVER THE INPUT: true; the input reads as it did. -/
def heapKeysSpec : ChangeSpec := { name := "heapKeys", fn := fun _ => fun
  | [d1, d2, d3] => { results := [.lit (.bool true)], args := [d1, d2, d3] }
  | _ => none }
def heapKeysRow : OpenClaim := { program := "ytnbemaijhmgooaa", sum := "8c490bafe6d6153a592fb485fc88ac6baaa04c5b632979c1b090e6fa8ce91ee5", func := "watershed/watershedlaw5.HeapKeys", spec := "heapKeys", apart := false }
def HeapKeysSaid : Prop := heapKeysRow.holds Try.pinned (OpenSpec.ofChange heapKeysSpec)

/-- ITS FALSE NEIGHBOUR: 'it returns false'. Refute it at one input. -/
def heapKeysWrong : ChangeSpec := { name := "heapKeys", fn := fun _ => fun
  | [d1, d2, d3] => { results := [.lit (.bool false)], args := [d1, d2, d3] }
  | _ => none }
def HeapKeysWrongFalsely : Prop := heapKeysRow.holds Try.pinned (OpenSpec.ofChange heapKeysWrong)

/- THE SECOND FORM. 'bulk': how many values and letters a reading holds, each counted each time it is reached (what is shared counts as often as it is met; a slice's spare places count too). A statement '..UptoSaid' is the law's where the arguments, and the package variables that the reading takes, are together of bulk at most 1048576: NARROWER than '..Said'. Prove '..Said' where nothing that the law and all that it calls make is longer than what came in: it says more and counts as full. Else prove '..UptoSaid'. A law counts once. -/
mutual
def uptoBulk {H : Type} : DataW H → Nat
  | .lit (.string bytes) => bytes.length + 1
  | .lit _ => 1
  | .nil => 1
  | .ptr d => uptoBulk d + 1
  | .slice elems spare => uptoBulkAll elems + uptoBulkAll spare + 1
  | .agg parts => uptoBulkAll parts + 1
  | .iface _ d => uptoBulk d + 1
  | .map entries => uptoBulkEntries entries + 1
  | .held _ => 1
def uptoBulkAll {H : Type} : List (DataW H) → Nat
  | [] => 0
  | d :: r => uptoBulk d + uptoBulkAll r
def uptoBulkEntries {H : Type} : List (Lit × DataW H) → Nat
  | [] => 0
  | x :: r => uptoBulkEntry x + uptoBulkEntries r
def uptoBulkEntry {H : Type} : Lit × DataW H → Nat
  | (.string bytes, d) => bytes.length + uptoBulk d + 1
  | (_, d) => uptoBulk d + 1
 end
def uptoSmall : (H : Type) → List (DataW H) → Bool := fun _ ds => decide (uptoBulkAll ds ≤ 1048576)
def OpenSpec.upto (s : _root_.Go.ChangeSpec) : _root_.Go.OpenSpec := { _root_.Go.OpenSpec.ofChange s with cond := some uptoSmall }

/-- 'watershedlaw5.HeapRises', WHERE WHAT IT READS IS OF BULK AT MOST 1048576: true; the input reads as it did. -/
def heapRisesUptoRow : OpenClaim := { program := "ytnbemaijhmgooaa", sum := "8c490bafe6d6153a592fb485fc88ac6baaa04c5b632979c1b090e6fa8ce91ee5", func := "watershed/watershedlaw5.HeapRises", spec := "heapRises", apart := false, narrowed := true }
def HeapRisesUptoSaid : Prop := heapRisesUptoRow.holds Try.pinned (OpenSpec.upto heapRisesSpec)

/-- 'watershedlaw5.HeapTies', WHERE WHAT IT READS IS OF BULK AT MOST 1048576: true; the input reads as it did. -/
def heapTiesUptoRow : OpenClaim := { program := "ytnbemaijhmgooaa", sum := "8c490bafe6d6153a592fb485fc88ac6baaa04c5b632979c1b090e6fa8ce91ee5", func := "watershed/watershedlaw5.HeapTies", spec := "heapTies", apart := false, narrowed := true }
def HeapTiesUptoSaid : Prop := heapTiesUptoRow.holds Try.pinned (OpenSpec.upto heapTiesSpec)

/-- 'watershedlaw5.HeapLeast', WHERE WHAT IT READS IS OF BULK AT MOST 1048576: true; the input reads as it did. -/
def heapLeastUptoRow : OpenClaim := { program := "ytnbemaijhmgooaa", sum := "8c490bafe6d6153a592fb485fc88ac6baaa04c5b632979c1b090e6fa8ce91ee5", func := "watershed/watershedlaw5.HeapLeast", spec := "heapLeast", apart := false, narrowed := true }
def HeapLeastUptoSaid : Prop := heapLeastUptoRow.holds Try.pinned (OpenSpec.upto heapLeastSpec)

/-- 'watershedlaw5.HeapFar', WHERE WHAT IT READS IS OF BULK AT MOST 1048576: true; the input reads as it did. -/
def heapFarUptoRow : OpenClaim := { program := "ytnbemaijhmgooaa", sum := "8c490bafe6d6153a592fb485fc88ac6baaa04c5b632979c1b090e6fa8ce91ee5", func := "watershed/watershedlaw5.HeapFar", spec := "heapFar", apart := false, narrowed := true }
def HeapFarUptoSaid : Prop := heapFarUptoRow.holds Try.pinned (OpenSpec.upto heapFarSpec)

/-- 'watershedlaw5.HeapPlays', WHERE WHAT IT READS IS OF BULK AT MOST 1048576: true; the input reads as it did. -/
def heapPlaysUptoRow : OpenClaim := { program := "ytnbemaijhmgooaa", sum := "8c490bafe6d6153a592fb485fc88ac6baaa04c5b632979c1b090e6fa8ce91ee5", func := "watershed/watershedlaw5.HeapPlays", spec := "heapPlays", apart := false, narrowed := true }
def HeapPlaysUptoSaid : Prop := heapPlaysUptoRow.holds Try.pinned (OpenSpec.upto heapPlaysSpec)

/-- 'watershedlaw5.HeapAnew', WHERE WHAT IT READS IS OF BULK AT MOST 1048576: true; the input reads as it did. -/
def heapAnewUptoRow : OpenClaim := { program := "ytnbemaijhmgooaa", sum := "8c490bafe6d6153a592fb485fc88ac6baaa04c5b632979c1b090e6fa8ce91ee5", func := "watershed/watershedlaw5.HeapAnew", spec := "heapAnew", apart := false, narrowed := true }
def HeapAnewUptoSaid : Prop := heapAnewUptoRow.holds Try.pinned (OpenSpec.upto heapAnewSpec)

/-- 'watershedlaw5.HeapDrops', WHERE WHAT IT READS IS OF BULK AT MOST 1048576: true; the input reads as it did. -/
def heapDropsUptoRow : OpenClaim := { program := "ytnbemaijhmgooaa", sum := "8c490bafe6d6153a592fb485fc88ac6baaa04c5b632979c1b090e6fa8ce91ee5", func := "watershed/watershedlaw5.HeapDrops", spec := "heapDrops", apart := false, narrowed := true }
def HeapDropsUptoSaid : Prop := heapDropsUptoRow.holds Try.pinned (OpenSpec.upto heapDropsSpec)

/-- 'watershedlaw5.HeapApart', WHERE WHAT IT READS IS OF BULK AT MOST 1048576: true; the input reads as it did. -/
def heapApartUptoRow : OpenClaim := { program := "ytnbemaijhmgooaa", sum := "8c490bafe6d6153a592fb485fc88ac6baaa04c5b632979c1b090e6fa8ce91ee5", func := "watershed/watershedlaw5.HeapApart", spec := "heapApart", apart := false, narrowed := true }
def HeapApartUptoSaid : Prop := heapApartUptoRow.holds Try.pinned (OpenSpec.upto heapApartSpec)

/-- 'watershedlaw5.HeapKeys', WHERE WHAT IT READS IS OF BULK AT MOST 1048576: true; the input reads as it did. -/
def heapKeysUptoRow : OpenClaim := { program := "ytnbemaijhmgooaa", sum := "8c490bafe6d6153a592fb485fc88ac6baaa04c5b632979c1b090e6fa8ce91ee5", func := "watershed/watershedlaw5.HeapKeys", spec := "heapKeys", apart := false, narrowed := true }
def HeapKeysUptoSaid : Prop := heapKeysUptoRow.holds Try.pinned (OpenSpec.upto heapKeysSpec)

end Rows
end Go.Proofs.Ytnbemaijhmgooaa
