/- What is known of a net in a variable. -/
import Derived.Test.YtcejjcopchkmeaaRoD
namespace Go.Proofs.Ytcejjcopchkmeaa.Ro
open Go.RowKit Go.Proofs Go.Maps
set_option linter.unusedVariables false
set_option maxRecDepth 100000
set_option linter.unusedSimpArgs false

/-- a net in a variable, its rows readable -/
structure NetAt (w : World) (p : Nat) (N : Int) (T X C : Value) (m : Nat) (t x c : Nat → Int) : Prop where
  box : Box w p N T X C
  rt : Rd w T m t
  rx : Rd w X m x
  rc : Rd w C m c
section
variable {w w' : World} {p m B : Nat} {N : Int} {T X C : Value} {t x c : Nat → Int}
theorem NetAt.below (h : NetAt w p N T X C m t x c) (hb : Below B w w') (hB : w.heap.size ≤ B) : NetAt w' p N T X C m t x c :=
  ⟨h.box.below hb hB, h.rt.below hb hB, h.rx.below hb hB, h.rc.below hb hB⟩
theorem NetAt.c0 (h : NetAt w p N T X C m t x c) : w.cell? ⟨p, 0, none⟩ = some (.int .i64 N) := blk_cell h.box 0
theorem NetAt.c1 (h : NetAt w p N T X C m t x c) : w.cell? ⟨p, 1, none⟩ = some T := blk_cell h.box 1
theorem NetAt.c2 (h : NetAt w p N T X C m t x c) : w.cell? ⟨p, 2, none⟩ = some X := blk_cell h.box 2
theorem NetAt.c3 (h : NetAt w p N T X C m t x c) : w.cell? ⟨p, 3, none⟩ = some C := blk_cell h.box 3
theorem NetAt.lt (h : NetAt w p N T X C m t x c) : p < w.heap.size := blk_lt h.box
theorem net_enter (N : Int) (hT : Rd w T m t) (hX : Rd w X m x) (hC : Rd w C m c) :
    ∃ w2, w.alloc (.cells #[.int .i64 N, T, X, C] 25) = w2 ∧ NetAt w2 w.heap.size N T X C m t x c ∧ Below w.heap.size w w2 :=
  ⟨_, rfl, ⟨heap_alloc_new _ _, hT.below (below_new w _) (Nat.le_refl _), hX.below (below_new w _) (Nat.le_refl _), hC.below (below_new w _) (Nat.le_refl _)⟩, below_new w _⟩
theorem rows_enter {B0 : Nat} (N : Int) (h : Rows w B0 T X C m t x c) :
    ∃ w2, w.alloc (.cells #[.int .i64 N, T, X, C] 25) = w2 ∧ Box w2 w.heap.size N T X C ∧ Rows w2 B0 T X C m t x c ∧ Below w.heap.size w w2 :=
  ⟨_, rfl, heap_alloc_new _ _, h.below (below_new w _) (Nat.le_refl _), below_new w _⟩
theorem NetAt.of {B0 : Nat} (b : Box w p N T X C) (h : Rows w B0 T X C m t x c) : NetAt w p N T X C m t x c := ⟨b, h.ot.rd, h.ox.rd, h.oc.rd⟩
/-- a cell read through later worlds -/
theorem rd_cell {w1 : World} {y : Addr} {v : Value} (hb : Below B w w1) (hy : y.block < w.heap.size) (hB : w.heap.size ≤ B) {i : Nat} (h : w.cell? (y.add i) = some v) : w1.cell? (y.add i) = some v :=
  (hb.cell (by rw [block_add]; omega)).trans h
theorem NetAt.store {w0 : World} {a : Addr} {u : Value} (h : NetAt w p N T X C m t x c) (hT : Rd w0 T m t) (hX : Rd w0 X m x) (hC : Rd w0 C m c) (hb : Below w0.heap.size w0 (w.setCell a u)) (hne : p ≠ a.block) : NetAt (w.setCell a u) p N T X C m t x c :=
  ⟨(Below.heap_setCell _ _ _ _ hne).trans h.box, hT.below hb (Nat.le_refl _), hX.below hb (Nat.le_refl _), hC.below hb (Nat.le_refl _)⟩
theorem Ow.apart {b q i n cap : Nat} {o : Nat → Int} (h : Ow w (.slice (some ⟨b, 0, none⟩) n cap) n o) (hne : b ≠ q) (u : Value) : Ow (w.setCell ⟨q, i, none⟩ u) (.slice (some ⟨b, 0, none⟩) n cap) n o :=
  h.keep fun z hz => Below.heap_setCell _ _ _ _ (by have e : some b = some z := hz; injection e with e; subst e; exact hne)
end
end Go.Proofs.Ytcejjcopchkmeaa.Ro
