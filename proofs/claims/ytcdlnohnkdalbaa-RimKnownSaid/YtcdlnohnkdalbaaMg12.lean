/- What is known of a net in a variable. A split in a variable. What is known of a law's net, of a round told. -/
import Derived.Test.YtcdlnohnkdalbaaMxRoD
namespace Go.Proofs.Ytcdlnohnkdalbaa.Ro
open Go.RowKit Go.Proofs Go.Maps
set_option linter.unusedVariables false
set_option maxRecDepth 100000
set_option linter.unusedSimpArgs false

/-- a net in a variable, its rows readable -/
structure NetAt (w : World) (p : Nat) (N : Int) (T X C : Value) (m : Nat) (t x c : Nat → Int) : Prop where
  box : Box w p N T X C
  rt : Rd w T m t
  rx : Rd w X m x
  rc : Rd w C m c
section
variable {w w' : World} {p m B : Nat} {N : Int} {T X C : Value} {t x c : Nat → Int}
theorem NetAt.below (h : NetAt w p N T X C m t x c) (hb : Below B w w') (hB : w.heap.size ≤ B) : NetAt w' p N T X C m t x c :=
  ⟨h.box.below hb hB, h.rt.below hb hB, h.rx.below hb hB, h.rc.below hb hB⟩
theorem NetAt.c0 (h : NetAt w p N T X C m t x c) : w.cell? ⟨p, 0, none⟩ = some (.int .i64 N) := blk_cell h.box 0
theorem NetAt.c1 (h : NetAt w p N T X C m t x c) : w.cell? ⟨p, 1, none⟩ = some T := blk_cell h.box 1
theorem NetAt.c2 (h : NetAt w p N T X C m t x c) : w.cell? ⟨p, 2, none⟩ = some X := blk_cell h.box 2
theorem NetAt.c3 (h : NetAt w p N T X C m t x c) : w.cell? ⟨p, 3, none⟩ = some C := blk_cell h.box 3
theorem NetAt.lt (h : NetAt w p N T X C m t x c) : p < w.heap.size := blk_lt h.box
theorem net_enter (N : Int) (hT : Rd w T m t) (hX : Rd w X m x) (hC : Rd w C m c) :
    ∃ w2, w.alloc (.cells #[.int .i64 N, T, X, C] 25) = w2 ∧ NetAt w2 w.heap.size N T X C m t x c ∧ Below w.heap.size w w2 :=
  ⟨_, rfl, ⟨heap_alloc_new _ _, hT.below (below_new w _) (Nat.le_refl _), hX.below (below_new w _) (Nat.le_refl _), hC.below (below_new w _) (Nat.le_refl _)⟩, below_new w _⟩
theorem rows_enter {B0 : Nat} (N : Int) (h : Rows w B0 T X C m t x c) :
    ∃ w2, w.alloc (.cells #[.int .i64 N, T, X, C] 25) = w2 ∧ Box w2 w.heap.size N T X C ∧ Rows w2 B0 T X C m t x c ∧ Below w.heap.size w w2 :=
  ⟨_, rfl, heap_alloc_new _ _, h.below (below_new w _) (Nat.le_refl _), below_new w _⟩
theorem NetAt.of {B0 : Nat} (b : Box w p N T X C) (h : Rows w B0 T X C m t x c) : NetAt w p N T X C m t x c := ⟨b, h.ot.rd, h.ox.rd, h.oc.rd⟩
/-- a cell read through later worlds -/
theorem rd_cell {w1 : World} {y : Addr} {v : Value} (hb : Below B w w1) (hy : y.block < w.heap.size) (hB : w.heap.size ≤ B) {i : Nat} (h : w.cell? (y.add i) = some v) : w1.cell? (y.add i) = some v :=
  (hb.cell (by rw [block_add]; omega)).trans h
theorem NetAt.store {w0 : World} {a : Addr} {u : Value} (h : NetAt w p N T X C m t x c) (hT : Rd w0 T m t) (hX : Rd w0 X m x) (hC : Rd w0 C m c) (hb : Below w0.heap.size w0 (w.setCell a u)) (hne : p ≠ a.block) : NetAt (w.setCell a u) p N T X C m t x c :=
  ⟨(Below.heap_setCell _ _ _ _ hne).trans h.box, hT.below hb (Nat.le_refl _), hX.below hb (Nat.le_refl _), hC.below hb (Nat.le_refl _)⟩
theorem Ow.apart {b q i n cap : Nat} {o : Nat → Int} (h : Ow w (.slice (some ⟨b, 0, none⟩) n cap) n o) (hne : b ≠ q) (u : Value) : Ow (w.setCell ⟨q, i, none⟩ u) (.slice (some ⟨b, 0, none⟩) n cap) n o :=
  h.keep fun z hz => Below.heap_setCell _ _ _ _ (by have e : some b = some z := hz; injection e with e; subst e; exact hne)
end
end Go.Proofs.Ytcdlnohnkdalbaa.Ro
namespace Go.Proofs.Ytcdlnohnkdalbaa.Ro
open Go.RowKit Go.Proofs Go.Maps
set_option linter.unusedVariables false
set_option maxRecDepth 100000
set_option linter.unusedSimpArgs false

/-- a split in a variable -/
def SplitAt (w : World) (q : Nat) (a0 a1 a2 a3 a4 a5 a6 a7 : Value) : Prop := w.heap[q]? = some (.cells #[a0, a1, a2, a3, a4, a5, a6, a7] 57 (0, 0))
theorem SplitAt.facts {w : World} {q : Nat} {a0 a1 a2 a3 a4 a5 a6 a7 : Value} (h : SplitAt w q a0 a1 a2 a3 a4 a5 a6 a7) :
    w.cell? ⟨q, 0, none⟩ = some a0 ∧ w.cell? ⟨q, 1, none⟩ = some a1 ∧ w.cell? ⟨q, 2, none⟩ = some a2 ∧ w.cell? ⟨q, 3, none⟩ = some a3 ∧ w.cell? ⟨q, 4, none⟩ = some a4 ∧ w.cell? ⟨q, 5, none⟩ = some a5 ∧ w.cell? ⟨q, 6, none⟩ = some a6 ∧ w.cell? ⟨q, 7, none⟩ = some a7 ∧
    w.frozen? ⟨q, 0, none⟩ = false ∧ w.frozen? ⟨q, 1, none⟩ = false ∧ w.frozen? ⟨q, 2, none⟩ = false ∧ w.frozen? ⟨q, 3, none⟩ = false ∧ w.frozen? ⟨q, 4, none⟩ = false ∧ w.frozen? ⟨q, 5, none⟩ = false ∧ w.frozen? ⟨q, 6, none⟩ = false ∧ w.frozen? ⟨q, 7, none⟩ = false :=
  ⟨blk_cell h 0, blk_cell h 1, blk_cell h 2, blk_cell h 3, blk_cell h 4, blk_cell h 5, blk_cell h 6, blk_cell h 7, blk_frozen h 0, blk_frozen h 1, blk_frozen h 2, blk_frozen h 3, blk_frozen h 4, blk_frozen h 5, blk_frozen h 6, blk_frozen h 7⟩
def put8 (w : World) (p : Nat) (a0 a1 a2 a3 a4 a5 a6 a7 : Value) : World := (((((((w.setCell ⟨p, 0, none⟩ a0).setCell ⟨p, 1, none⟩ a1).setCell ⟨p, 2, none⟩ a2).setCell ⟨p, 3, none⟩ a3).setCell ⟨p, 4, none⟩ a4).setCell ⟨p, 5, none⟩ a5).setCell ⟨p, 6, none⟩ a6).setCell ⟨p, 7, none⟩ a7
theorem SplitAt.put {w : World} {p : Nat} {b0 b1 b2 b3 b4 b5 b6 b7 : Value} (h : SplitAt w p b0 b1 b2 b3 b4 b5 b6 b7) (a0 a1 a2 a3 a4 a5 a6 a7 : Value) : SplitAt (put8 w p a0 a1 a2 a3 a4 a5 a6 a7) p a0 a1 a2 a3 a4 a5 a6 a7 := by
  unfold SplitAt at h ⊢
  unfold put8
  have h0 : (w.setCell ⟨p, 0, none⟩ a0).heap[p]? = some (.cells #[a0, b1, b2, b3, b4, b5, b6, b7] 57 (0, 0)) := blk_set (i := 0) h a0
  generalize (w.setCell ⟨p, 0, none⟩ a0) = w0 at h0 ⊢
  have h1 : (w0.setCell ⟨p, 1, none⟩ a1).heap[p]? = some (.cells #[a0, a1, b2, b3, b4, b5, b6, b7] 57 (0, 0)) := blk_set (i := 1) h0 a1
  generalize (w0.setCell ⟨p, 1, none⟩ a1) = w1 at h1 ⊢
  have h2 : (w1.setCell ⟨p, 2, none⟩ a2).heap[p]? = some (.cells #[a0, a1, a2, b3, b4, b5, b6, b7] 57 (0, 0)) := blk_set (i := 2) h1 a2
  generalize (w1.setCell ⟨p, 2, none⟩ a2) = w2 at h2 ⊢
  have h3 : (w2.setCell ⟨p, 3, none⟩ a3).heap[p]? = some (.cells #[a0, a1, a2, a3, b4, b5, b6, b7] 57 (0, 0)) := blk_set (i := 3) h2 a3
  generalize (w2.setCell ⟨p, 3, none⟩ a3) = w3 at h3 ⊢
  have h4 : (w3.setCell ⟨p, 4, none⟩ a4).heap[p]? = some (.cells #[a0, a1, a2, a3, a4, b5, b6, b7] 57 (0, 0)) := blk_set (i := 4) h3 a4
  generalize (w3.setCell ⟨p, 4, none⟩ a4) = w4 at h4 ⊢
  have h5 : (w4.setCell ⟨p, 5, none⟩ a5).heap[p]? = some (.cells #[a0, a1, a2, a3, a4, a5, b6, b7] 57 (0, 0)) := blk_set (i := 5) h4 a5
  generalize (w4.setCell ⟨p, 5, none⟩ a5) = w5 at h5 ⊢
  have h6 : (w5.setCell ⟨p, 6, none⟩ a6).heap[p]? = some (.cells #[a0, a1, a2, a3, a4, a5, a6, b7] 57 (0, 0)) := blk_set (i := 6) h5 a6
  generalize (w5.setCell ⟨p, 6, none⟩ a6) = w6 at h6 ⊢
  have h7 : (w6.setCell ⟨p, 7, none⟩ a7).heap[p]? = some (.cells #[a0, a1, a2, a3, a4, a5, a6, a7] 57 (0, 0)) := blk_set (i := 7) h6 a7
  exact h7
theorem put8_below {w0 w : World} {L p : Nat} (h : Below L w0 w) (hp : L ≤ p) (a0 a1 a2 a3 a4 a5 a6 a7 : Value) : Below L w0 (put8 w p a0 a1 a2 a3 a4 a5 a6 a7) := Below.setCell (p := ⟨p, 7, none⟩) (Below.setCell (p := ⟨p, 6, none⟩) (Below.setCell (p := ⟨p, 5, none⟩) (Below.setCell (p := ⟨p, 4, none⟩) (Below.setCell (p := ⟨p, 3, none⟩) (Below.setCell (p := ⟨p, 2, none⟩) (Below.setCell (p := ⟨p, 1, none⟩) (Below.setCell (p := ⟨p, 0, none⟩) h hp a0) hp a1) hp a2) hp a3) hp a4) hp a5) hp a6) hp a7
theorem SplitAt.below {w w' : World} {q L : Nat} {a0 a1 a2 a3 a4 a5 a6 a7 : Value} (h : SplitAt w q a0 a1 a2 a3 a4 a5 a6 a7) (hb : Below L w w') (hL : w.heap.size ≤ L) : SplitAt w' q a0 a1 a2 a3 a4 a5 a6 a7 := (hb.block q (Nat.lt_of_lt_of_le (blk_lt h) hL)).trans h
theorem no_split {w0 w : World} {L p : Nat} {Z0 Z1 Z2 Z3 Z4 Z5 Z6 Z7 : Value} (h : SplitAt w p Z0 Z1 Z2 Z3 Z4 Z5 Z6 Z7) (b : Below L w0 w) (hp : L ≤ p) :
    ∃ w4, put8 w p (.int .i64 0) (.slice none 0 0) (.slice none 0 0) (.slice none 0 0) (.slice none 0 0) (.int .i64 0) (.int .i64 0) (.int .i64 0) = w4 ∧ SplitAt w4 p (.int .i64 0) (.slice none 0 0) (.slice none 0 0) (.slice none 0 0) (.slice none 0 0) (.int .i64 0) (.int .i64 0) (.int .i64 0) ∧ Below L w0 w4 := ⟨_, rfl, h.put _ _ _ _ _ _ _ _, put8_below b hp _ _ _ _ _ _ _ _⟩
def put47 (w : World) (p : Nat) (a4 a5 a6 a7 : Value) : World := (((w.setCell ⟨p, 4, none⟩ a4).setCell ⟨p, 5, none⟩ a5).setCell ⟨p, 6, none⟩ a6).setCell ⟨p, 7, none⟩ a7
theorem SplitAt.put47 {w : World} {p : Nat} {b0 b1 b2 b3 b4 b5 b6 b7 : Value} (h : SplitAt w p b0 b1 b2 b3 b4 b5 b6 b7) (a4 a5 a6 a7 : Value) : SplitAt (put47 w p a4 a5 a6 a7) p b0 b1 b2 b3 a4 a5 a6 a7 := by
  unfold SplitAt at h ⊢
  unfold Ro.put47
  have h4 : (w.setCell ⟨p, 4, none⟩ a4).heap[p]? = some (.cells #[b0, b1, b2, b3, a4, b5, b6, b7] 57 (0, 0)) := blk_set (i := 4) h a4
  generalize (w.setCell ⟨p, 4, none⟩ a4) = w4 at h4 ⊢
  have h5 : (w4.setCell ⟨p, 5, none⟩ a5).heap[p]? = some (.cells #[b0, b1, b2, b3, a4, a5, b6, b7] 57 (0, 0)) := blk_set (i := 5) h4 a5
  generalize (w4.setCell ⟨p, 5, none⟩ a5) = w5 at h5 ⊢
  have h6 : (w5.setCell ⟨p, 6, none⟩ a6).heap[p]? = some (.cells #[b0, b1, b2, b3, a4, a5, a6, b7] 57 (0, 0)) := blk_set (i := 6) h5 a6
  generalize (w5.setCell ⟨p, 6, none⟩ a6) = w6 at h6 ⊢
  have h7 : (w6.setCell ⟨p, 7, none⟩ a7).heap[p]? = some (.cells #[b0, b1, b2, b3, a4, a5, a6, a7] 57 (0, 0)) := blk_set (i := 7) h6 a7
  exact h7
theorem put47_below {w0 w : World} {L p : Nat} (h : Below L w0 w) (hp : L ≤ p) (a4 a5 a6 a7 : Value) : Below L w0 (put47 w p a4 a5 a6 a7) := Below.setCell (p := ⟨p, 7, none⟩) (Below.setCell (p := ⟨p, 6, none⟩) (Below.setCell (p := ⟨p, 5, none⟩) (Below.setCell (p := ⟨p, 4, none⟩) h hp a4) hp a5) hp a6) hp a7
theorem put47_ne {w : World} {p k : Nat} (h : k ≠ p) (a4 a5 a6 a7 : Value) : (put47 w p a4 a5 a6 a7).heap[k]? = w.heap[k]? :=
  (Below.heap_setCell _ _ _ _ h).trans ((Below.heap_setCell _ _ _ _ h).trans ((Below.heap_setCell _ _ _ _ h).trans (Below.heap_setCell _ _ _ _ h)))
theorem put47_of {w0 w : World} {L p q : Nat} {a0 a1 a2 a3 a4 a5 a6 a7 b0 b1 b2 b3 b4 b5 b6 b7 : Value} (d4 d5 d6 d7 : Value) (h : SplitAt w p a0 a1 a2 a3 a4 a5 a6 a7) (k : SplitAt w q b0 b1 b2 b3 b4 b5 b6 b7) (hne : q ≠ p) (b : Below L w0 w) (hp : L ≤ p) :
    ∃ w4, put47 w p d4 d5 d6 d7 = w4 ∧ SplitAt w4 p a0 a1 a2 a3 d4 d5 d6 d7 ∧ SplitAt w4 q b0 b1 b2 b3 b4 b5 b6 b7 ∧ Below L w0 w4 ∧ ∀ j, j ≠ p → w4.heap[j]? = w.heap[j]? :=
  ⟨_, rfl, h.put47 _ _ _ _, (put47_ne hne _ _ _ _).trans k, put47_below b hp _ _ _ _, fun j hj => put47_ne hj _ _ _ _⟩
theorem put8_ne {w : World} {p k : Nat} (h : k ≠ p) (a0 a1 a2 a3 a4 a5 a6 a7 : Value) : (put8 w p a0 a1 a2 a3 a4 a5 a6 a7).heap[k]? = w.heap[k]? :=
  (Below.heap_setCell _ _ _ _ h).trans ((Below.heap_setCell _ _ _ _ h).trans ((Below.heap_setCell _ _ _ _ h).trans ((Below.heap_setCell _ _ _ _ h).trans ((Below.heap_setCell _ _ _ _ h).trans ((Below.heap_setCell _ _ _ _ h).trans ((Below.heap_setCell _ _ _ _ h).trans (Below.heap_setCell _ _ _ _ h)))))))
theorem put8_of {w0 w : World} {L p : Nat} {Z0 Z1 Z2 Z3 Z4 Z5 Z6 Z7 : Value} (a0 a1 a2 a3 a4 a5 a6 a7 : Value) (h : SplitAt w p Z0 Z1 Z2 Z3 Z4 Z5 Z6 Z7) (b : Below L w0 w) (hp : L ≤ p) :
    ∃ w4, put8 w p a0 a1 a2 a3 a4 a5 a6 a7 = w4 ∧ SplitAt w4 p a0 a1 a2 a3 a4 a5 a6 a7 ∧ Below L w0 w4 ∧ ∀ j, j ≠ p → w4.heap[j]? = w.heap[j]? := ⟨_, rfl, h.put _ _ _ _ _ _ _ _, put8_below b hp _ _ _ _ _ _ _ _, fun j hj => put8_ne hj _ _ _ _ _ _ _ _⟩
end Go.Proofs.Ytcdlnohnkdalbaa.Ro
namespace Go.Proofs.Ytcdlnohnkdalbaa.Ro
open Go.RowKit Go.Proofs Go.Maps
set_option linter.unusedVariables false
set_option maxRecDepth 100000
set_option linter.unusedSimpArgs false

theorem small_within {d : Int} {m : Nat} (h0 : 0 < m) : ∃ x : Nat, d % (m : Int) = (x : Int) ∧ x < m :=
  ⟨(d % (m : Int)).toNat, by have := Int.emod_nonneg d (b := (m : Int)) (by omega); omega, by have := Int.emod_nonneg d (b := (m : Int)) (by omega); have := Int.emod_lt_of_pos d (b := (m : Int)) (by omega); omega⟩

/-- the net of a law's numbers: what is known of it -/
theorem plane_ok (z : Nat → Int) (n : Nat) : (planeOf z n).Ok ∧ (planeOf z n).N ≤ 25 ∧ (planeOf z n).m ≤ 48 := by
  obtain ⟨h1, h2, h3, _⟩ := planeUp_ok z (min n 24) (Nat.min_le_right _ _)
  have := Nat.min_le_right n 24
  exact ⟨h1, by show (planeUp z (min n 24)).N ≤ 25; omega, by show (planeUp z (min n 24)).m ≤ 48; omega⟩

theorem RoundPost.row {B : Nat} {w w' : World} {f : Nat → Nat} {d : Nat} {e : Ending} (h : RoundPost B w f d e w') : ∃ b k, e = .returned (.slice (some ⟨b, 0, none⟩) k k) ∧ B ≤ b ∧ b < w'.heap.size ∧ (∀ j, j < k → w'.cell? ⟨b, j, none⟩ = some (.int .i64 (it f j d : Int))) ∧ Rnd f d k ∧ Below B w w' := by
  obtain ⟨b, k, cur, rfl, h1, h2, h3, h4, h5⟩ := h
  exact ⟨b, k, rfl, h1, blk_lt h2, fun j hj => by rw [blk_cell h2]; exact h3 j hj, h4, h5⟩

end Go.Proofs.Ytcdlnohnkdalbaa.Ro
