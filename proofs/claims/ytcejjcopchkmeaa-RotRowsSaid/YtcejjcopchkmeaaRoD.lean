/- Walks: Plane: the net that numbers make. -/
import Derived.Test.YtcejjcopchkmeaaRoRe
import Derived.Deep.AppendLies
import Derived.Deep.DeepCutAuto
import Derived.Deep.RegionLaw
namespace Go.Proofs.Ytcejjcopchkmeaa.Ro
open Go.RowKit Go.Proofs Go.Maps
set_option linter.unusedVariables false
set_option maxRecDepth 100000
set_option linter.unusedSimpArgs false

/-- a net's three rows, of the call's own, apart -/
structure Rows (w : World) (B : Nat) (T X C : Value) (m : Nat) (t x c : Nat → Int) : Prop where
  ot : Ow w T m t
  ox : Ow w X m x
  oc : Ow w C m c
  bt : ∀ k, T.ownBlock = some k → B ≤ k
  bx : ∀ k, X.ownBlock = some k → B ≤ k
  bc : ∀ k, C.ownBlock = some k → B ≤ k
  tx : ∀ k, T.ownBlock = some k → X.ownBlock ≠ some k
  tc : ∀ k, T.ownBlock = some k → C.ownBlock ≠ some k
  xc : ∀ k, X.ownBlock = some k → C.ownBlock ≠ some k
theorem Rows.keep {w w' : World} {B : Nat} {T X C : Value} {m : Nat} {t x c : Nat → Int} (h : Rows w B T X C m t x c) (hb : ∀ k, T.ownBlock = some k ∨ X.ownBlock = some k ∨ C.ownBlock = some k → w'.heap[k]? = w.heap[k]?) : Rows w' B T X C m t x c :=
  ⟨h.ot.keep fun k hk => hb k (.inl hk), h.ox.keep fun k hk => hb k (.inr (.inl hk)), h.oc.keep fun k hk => hb k (.inr (.inr hk)), h.bt, h.bx, h.bc, h.tx, h.tc, h.xc⟩
theorem Rows.lt {w : World} {B : Nat} {T X C : Value} {m : Nat} {t x c : Nat → Int} (h : Rows w B T X C m t x c) {k : Nat} (hk : T.ownBlock = some k ∨ X.ownBlock = some k ∨ C.ownBlock = some k) : B ≤ k ∧ k < w.heap.size := by
  rcases hk with q | q | q
  · exact ⟨h.bt k q, h.ot.lt q⟩
  · exact ⟨h.bx k q, h.ox.lt q⟩
  · exact ⟨h.bc k q, h.oc.lt q⟩
theorem Rows.below {w w' : World} {B B' : Nat} {T X C : Value} {m : Nat} {t x c : Nat → Int} (h : Rows w B T X C m t x c) (hb : Below B' w w') (hB : w.heap.size ≤ B') : Rows w' B T X C m t x c :=
  h.keep fun k hk => hb.block k (Nat.lt_of_lt_of_le (h.lt hk).2 hB)
theorem Rows.base {w : World} {B B' : Nat} {T X C : Value} {m : Nat} {t x c : Nat → Int} (h : Rows w B T X C m t x c) (hB : B' ≤ B) : Rows w B' T X C m t x c :=
  ⟨h.ot, h.ox, h.oc, fun k hk => Nat.le_trans hB (h.bt k hk), fun k hk => Nat.le_trans hB (h.bx k hk), fun k hk => Nat.le_trans hB (h.bc k hk), h.tx, h.tc, h.xc⟩

theorem blk_frozen {w : World} {g : Nat} {cs : Array Value} {t : TypeId} (h : w.heap[g]? = some (.cells cs t (0, 0))) (i : Nat) : w.frozen? ⟨g, i, none⟩ = false := by simp [World.frozen?, h]
theorem blk_set {w : World} {g i : Nat} {cs : Array Value} {t : TypeId} {fr : Nat × Nat} (h : w.heap[g]? = some (.cells cs t fr)) (v : Value) : (w.setCell ⟨g, i, none⟩ v).heap[g]? = some (.cells (cs.setIfInBounds i v) t fr) := by
  simp [World.setCell, Array.getElem?_modify, h]
/-- a whole net laid into a variable -/
def put4 (w : World) (p : Nat) (N : Int) (T X C : Value) : World := (((w.setCell ⟨p, 0, none⟩ (.int .i64 N)).setCell ⟨p, 1, none⟩ T).setCell ⟨p, 2, none⟩ X).setCell ⟨p, 3, none⟩ C
theorem put4_box {w : World} {p : Nat} {N0 : Int} {T0 X0 C0 : Value} (h : Box w p N0 T0 X0 C0) (N : Int) (T X C : Value) : Box (put4 w p N T X C) p N T X C := by
  have h1 := blk_set (i := 3) (blk_set (i := 2) (blk_set (i := 1) (blk_set (i := 0) h (.int .i64 N)) T) X) C
  exact h1
theorem put4_ne {w : World} {p k : Nat} {N : Int} {T X C : Value} (h : k ≠ p) : (put4 w p N T X C).heap[k]? = w.heap[k]? :=
  (Below.heap_setCell _ _ _ _ h).trans ((Below.heap_setCell _ _ _ _ h).trans ((Below.heap_setCell _ _ _ _ h).trans (Below.heap_setCell _ _ _ _ h)))
theorem put4_size (w : World) (p : Nat) (N : Int) (T X C : Value) : (put4 w p N T X C).heap.size = w.heap.size := by simp [put4, World.setCell]
theorem put4_below {w0 w : World} {B p : Nat} (h : Below B w0 w) (hp : B ≤ p) (N : Int) (T X C : Value) : Below B w0 (put4 w p N T X C) :=
  (((h.setCell (p := ⟨p, 0, none⟩) hp _).setCell (p := ⟨p, 1, none⟩) hp _).setCell (p := ⟨p, 2, none⟩) hp _).setCell (p := ⟨p, 3, none⟩) hp _
theorem below3 (W : World) (a b c : Obj) : Below W.heap.size W (((W.alloc a).alloc b).alloc c) :=
  (((Below.refl _ W).alloc (Nat.le_refl _) _).alloc (by simp) _).alloc (by simp; omega) _
theorem fresh3 (W : World) (B : Nat) (hB : B ≤ W.heap.size) (a0 a1 b0 b1 c0 c1 : Int) :
    Rows (((W.alloc (.cells #[.int .i64 a0, .int .i64 a1] 3)).alloc (.cells #[.int .i64 b0, .int .i64 b1] 3)).alloc (.cells #[.int .i64 c0, .int .i64 c1] 3)) B
      (.slice (some ⟨W.heap.size, 0, none⟩) 2 2) (.slice (some ⟨W.heap.size + 1, 0, none⟩) 2 2) (.slice (some ⟨W.heap.size + 1 + 1, 0, none⟩) 2 2) 2 (two a0 a1) (two b0 b1) (two c0 c1) := by
  have s1 : (W.alloc (.cells #[.int .i64 a0, .int .i64 a1] 3)).heap.size = W.heap.size + 1 := by simp
  have o1 : Ow (W.alloc (.cells #[.int .i64 a0, .int .i64 a1] 3)) (.slice (some ⟨W.heap.size, 0, none⟩) 2 2) 2 (two a0 a1) := Ow.lit2 W _ _ _ rfl rfl
  generalize W.alloc (.cells #[.int .i64 a0, .int .i64 a1] 3) = W1 at *
  have s2 : (W1.alloc (.cells #[.int .i64 b0, .int .i64 b1] 3)).heap.size = W1.heap.size + 1 := by simp
  have o2 : Ow (W1.alloc (.cells #[.int .i64 b0, .int .i64 b1] 3)) (.slice (some ⟨W1.heap.size, 0, none⟩) 2 2) 2 (two b0 b1) := Ow.lit2 W1 _ _ _ rfl rfl
  have o12 := o1.below ((Below.refl _ W1).alloc (Nat.le_refl _) (.cells #[.int .i64 b0, .int .i64 b1] 3)) (Nat.le_refl _)
  rw [s1] at o2 s2
  generalize W1.alloc (.cells #[.int .i64 b0, .int .i64 b1] 3) = W2 at *
  have o3 : Ow (W2.alloc (.cells #[.int .i64 c0, .int .i64 c1] 3)) (.slice (some ⟨W2.heap.size, 0, none⟩) 2 2) 2 (two c0 c1) := Ow.lit2 W2 _ _ _ rfl rfl
  have bb := (Below.refl _ W2).alloc (Nat.le_refl _) (.cells #[.int .i64 c0, .int .i64 c1] 3)
  have o13 := o12.below bb (Nat.le_refl _)
  have o23 := o2.below bb (Nat.le_refl _)
  rw [s2] at o3
  have own : ∀ b k, (Value.slice (some ⟨b, 0, none⟩) 2 2).ownBlock = some k → k = b := fun b k h => by
    have e : some b = some k := h
    injection e with e; exact e.symm
  exact ⟨o13, o23, o3, fun k h => by have := own _ _ h; omega, fun k h => by have := own _ _ h; omega, fun k h => by have := own _ _ h; omega,
    fun k h h' => by have := own _ _ h; have := own _ _ h'; omega, fun k h h' => by have := own _ _ h; have := own _ _ h'; omega, fun k h h' => by have := own _ _ h; have := own _ _ h'; omega⟩
theorem Rows.turn {w w' : World} {B b n cap : Nat} {T C : Value} {m : Nat} {t x x' c : Nat → Int} (h : Rows w B T (.slice (some ⟨b, 0, none⟩) n cap) C m t x c) (k : Turn (fun k => k = b) w w') (hn : Ow w' (.slice (some ⟨b, 0, none⟩) n cap) m x') :
    Rows w' B T (.slice (some ⟨b, 0, none⟩) n cap) C m t x' c :=
  ⟨h.ot.keep fun j hj => k.block j (h.ot.lt hj) (fun e => by have e : j = b := e; exact h.tx j hj (by rw [e]; rfl)), hn, h.oc.keep fun j hj => k.block j (h.oc.lt hj) (fun e => by have e : j = b := e; exact h.xc j (by rw [e]; rfl) hj), h.bt, h.bx, h.bc, h.tx, h.tc, h.xc⟩
theorem Box.turn {w w' : World} {p b : Nat} {N : Int} {T X C : Value} (h : Box w p N T X C) (k : Turn (fun k => k = b) w w') (hp : p ≠ b) : Box w' p N T X C :=
  (k.block p (blk_lt h) hp).trans h
theorem Below.turn {a w w' : World} {B b : Nat} (h : Below B a w) (k : Turn (fun k => k = b) w w') (hb : B ≤ b) (hB : B ≤ w.heap.size) : Below B a w' :=
  h.trans (k.below (fun j hj => by have : j = b := hj; omega) hB)
theorem first25 {w w8 w2 : World} {q b2 c2 n2 j tb c1 xb cx cb cc : Nat} {Nn : Int} {t x c y : Nat → Int}
    (X8 : Box w8 (q + 1) Nn (.slice (some ⟨tb, 0, none⟩) j c1) (.slice (some ⟨xb, 0, none⟩) j cx) (.slice (some ⟨cb, 0, none⟩) j cc)) (Q8 : Box w8 q 0 (.slice none 0 0) (.slice none 0 0) (.slice none 0 0))
    (R8 : Rows w8 (q + 2) (.slice (some ⟨tb, 0, none⟩) j c1) (.slice (some ⟨xb, 0, none⟩) j cx) (.slice (some ⟨cb, 0, none⟩) j cc) j t x c) (B8 : Below w.heap.size w w8) (hq : w.heap.size ≤ q)
    (B2 : Below w8.heap.size w8 w2) (hb2 : w8.heap.size ≤ b2) (O2 : Ow w2 (.slice (some ⟨b2, 0, none⟩) n2 c2) n2 y) :
    Box (w2.setCell ⟨q + 1, 1, none⟩ (.slice (some ⟨b2, 0, none⟩) n2 c2)) (q + 1) Nn (.slice (some ⟨b2, 0, none⟩) n2 c2) (.slice (some ⟨xb, 0, none⟩) j cx) (.slice (some ⟨cb, 0, none⟩) j cc) ∧
    Box (w2.setCell ⟨q + 1, 1, none⟩ (.slice (some ⟨b2, 0, none⟩) n2 c2)) q 0 (.slice none 0 0) (.slice none 0 0) (.slice none 0 0) ∧
    Rows (w2.setCell ⟨q + 1, 1, none⟩ (.slice (some ⟨b2, 0, none⟩) n2 c2)) (q + 2) (.slice (some ⟨tb, 0, none⟩) j c1) (.slice (some ⟨xb, 0, none⟩) j cx) (.slice (some ⟨cb, 0, none⟩) j cc) j t x c ∧
    Ow (w2.setCell ⟨q + 1, 1, none⟩ (.slice (some ⟨b2, 0, none⟩) n2 c2)) (.slice (some ⟨b2, 0, none⟩) n2 c2) n2 y ∧ (q + 2 ≤ b2 ∧ b2 ≠ xb ∧ b2 ≠ cb) ∧
    Below w.heap.size w (w2.setCell ⟨q + 1, 1, none⟩ (.slice (some ⟨b2, 0, none⟩) n2 c2)) := by
  have h1 : ∀ k, k ≠ q + 1 → (w2.setCell ⟨q + 1, 1, none⟩ (.slice (some ⟨b2, 0, none⟩) n2 c2)).heap[k]? = w2.heap[k]? := fun k hk => Below.heap_setCell _ _ _ _ hk
  have xl := blk_lt X8
  have lx := (R8.lt (k := xb) (.inr (.inl rfl))).2
  have lc := (R8.lt (k := cb) (.inr (.inr rfl))).2
  refine ⟨blk_set (i := 1) (X8.below B2 (Nat.le_refl _)) _, (h1 q (by omega)).trans (Q8.below B2 (Nat.le_refl _)), (R8.below B2 (Nat.le_refl _)).keep fun k hk => h1 k (by have := (R8.lt hk).1; omega),
    O2.keep fun k hk => h1 k (by have e : some b2 = some k := hk; injection e with e; omega), ⟨by omega, by omega, by omega⟩, (B8.trans (B2.mono B8.size)).setCell (p := ⟨q + 1, 1, none⟩) (by show w.heap.size ≤ q + 1; omega) _⟩
theorem small_of {u : Int} (h0 : -9223372036854775808 ≤ u) (h1 : u ≤ 9223372036854775807) : Small u := by
  unfold Small
  simp [Lit.wf, IntKind.min, IntKind.max, IntKind.signed, IntKind.bits]
  omega

set_option maxRecDepth 100000 in
set_option maxHeartbeats 12800000 in
theorem plane_any (w : World) (V : Value) (n : Nat) (z : Nat → Int) (hV : Rd w V n z) (hz : ∀ i, i < n → Small (z i)) (hn : n ≤ 9223372036854775807) :
    Calls Try.prog 16 #[V] w
      fun e w' => ∃ T X C, e = .returned (.agg #[.int .i64 ((planeOf z n).N : Int), T, X, C]) ∧ Rows w' w.heap.size T X C (planeOf z n).m (planeOf z n).t (planeOf z n).x (planeOf z n).c ∧ Below w.heap.size w w' := by
  obtain ⟨A, cap, rfl, r⟩ := hV
  go_enter Try.func16, Try.ntmps16
  go_wp2_with fail
  have B0 : Below w.heap.size w (w.alloc (.cells #[.int .i64 0, .slice none 0 0, .slice none 0 0, .slice none 0 0] 25)) := (Below.refl _ w).alloc (Nat.le_refl _) _
  have Q0 : Box (w.alloc (.cells #[.int .i64 0, .slice none 0 0, .slice none 0 0, .slice none 0 0] 25)) w.heap.size 0 (.slice none 0 0) (.slice none 0 0) (.slice none 0 0) := heap_alloc_new _ _
  have sz : (w.alloc (.cells #[.int .i64 0, .slice none 0 0, .slice none 0 0, .slice none 0 0] 25)).heap.size = w.heap.size + 1 := by simp
  generalize (w.alloc (.cells #[.int .i64 0, .slice none 0 0, .slice none 0 0, .slice none 0 0] 25)) = w0 at *
  have b1 : Below w0.heap.size w0 (w0.alloc (.cells #[.int .i64 1, .slice none 0 0, .slice none 0 0, .slice none 0 0] 25)) := (Below.refl _ w0).alloc (Nat.le_refl _) _
  have X1 : Box (w0.alloc (.cells #[.int .i64 1, .slice none 0 0, .slice none 0 0, .slice none 0 0] 25)) w0.heap.size 1 (.slice none 0 0) (.slice none 0 0) (.slice none 0 0) := heap_alloc_new _ _
  have B1 := B0.trans (b1.mono B0.size)
  have Q1 := Q0.below b1 (Nat.le_refl _)
  rw [sz] at X1
  clear b1 B0 Q0 sz
  generalize (w0.alloc (.cells #[.int .i64 1, .slice none 0 0, .slice none 0 0, .slice none 0 0] 25)) = w1 at *
  clear w0
  obtain ⟨q, hq⟩ : ∃ q, q = w.heap.size := ⟨_, rfl⟩
  rw [← hq] at X1 Q1 ⊢
  have hqw : w.heap.size ≤ q := by omega
  have hwq : q ≤ w.heap.size := by omega
  clear hq
  go_loopw [4] (fun u wr => ∃ (i : Nat) (T X C : Value), u = .int .i64 (i : Int) ∧ i ≤ n ∧ i ≤ 24 ∧ Box wr q 0 (.slice none 0 0) (.slice none 0 0) (.slice none 0 0) ∧ Box wr (q + 1) (planeUp z i).N T X C ∧ Rows wr (q + 2) T X C (planeUp z i).m (planeUp z i).t (planeUp z i).x (planeUp z i).c ∧ Below w.heap.size w wr) (fun u _ => 24 - (intOf u).toNat)
  case atStart => exact ⟨0, _, _, _, rfl, Nat.zero_le _, Nat.zero_le _, Q1, X1, ⟨Ow.nil _ _, Ow.nil _ _, Ow.nil _ _, fun k hk => by simp [Value.ownBlock] at hk, fun k hk => by simp [Value.ownBlock] at hk, fun k hk => by simp [Value.ownBlock] at hk, fun k hk => by simp [Value.ownBlock] at hk, fun k hk => by simp [Value.ownBlock] at hk, fun k hk => by simp [Value.ownBlock] at hk⟩, B1⟩
  case round =>
    clear Q1 X1 B1 w1
    obtain ⟨i, T, X, C, rfl, hi, hi2, Qb, Xb, R, B⟩ := hrel
    by_cases hlt : i < n ∧ i < 24
    · obtain ⟨hin, hi24⟩ := hlt
      have d1 : (i : Int) < (n : Int) := by omega
      have d2 : (i : Int) < 24 := by omega
      obtain ⟨y, rfl, hy, hc⟩ := r (by omega)
      have cr : wr.cell? (y.add i) = some (.int .i64 (z i)) := (B.cell (by rw [block_add]; exact hy)).trans (hc i hin)
      have hzi := hz i hin
      obtain ⟨gr, hN, hM, hM0⟩ := planeUp_ok z i hi2
      obtain ⟨g0, gN, gm⟩ : Good (planeUp z i).N (planeUp z i).m (planeUp z i).t (planeUp z i).x ∧ (planeUp z i).N ≤ 25 ∧ (planeUp z i).m ≤ 48 := ⟨gr.good, by omega, by omega⟩
      have hnx : planeUp z (i + 1) = grow1 (planeUp z i) (z i % 1125899906842624) := rfl
      have HN := Lib.hid hnx
      clear hnx hc hM0 hz r hM hN g0
      generalize planeUp z i = s at *
      obtain ⟨N, m, t, x, c⟩ := s
      dsimp only at *
      go_upto_region 6 with (go_at_call 20; refine (within2_any _ (z i) 1125899906842624 hzi (by omega) (by omega)).mono ?_; rintro e w2 ⟨rfl, rfl⟩)
      have hk0 := Int.emod_nonneg (z i) (b := 1125899906842624) (by omega)
      have hk1 := Int.emod_lt_of_pos (z i) (b := 1125899906842624) (by omega)
      generalize z i % 1125899906842624 = k at *
      clear cr hzi
      obtain ⟨A1, cap1, rfl, -⟩ := id R.ot.rd
      have c1 : wr.cell? ⟨q + 1, 1, none⟩ = some (.slice A1 m cap1) := blk_cell Xb 1
      go_wp2_with fail
      refine (cap_any _ (k / 30) (small_of (by omega) (by omega))).mono ?_
      rintro e w3 ⟨rfl, b3⟩
      have R3 := R.below b3 (Nat.le_refl _)
      have Q3 := Qb.below b3 (Nat.le_refl _)
      have X3 := Xb.below b3 (Nat.le_refl _)
      have B3 := B.trans (b3.mono B.size)
      clear b3 R Qb Xb B c1
      go_wp2_with fail
      refine (cap_any _ (k / 7000) (small_of (by omega) (by omega))).mono ?_
      rintro e w4 ⟨rfl, b4⟩
      have R4 := R3.below b4 (Nat.le_refl _)
      have Q4 := Q3.below b4 (Nat.le_refl _)
      have X4 := X3.below b4 (Nat.le_refl _)
      have B4 := B3.trans (b4.mono B3.size)
      clear b4 R3 Q3 X3 B3 wr w3
      have hcc : capOf (k / 30) = capOf (k / 30) := rfl
      by_cases hm : m = 0
      · subst hm
        have z0 : ((0 : Nat) : Int) == 0 := by simp
        have c0 : w4.cell? ⟨q + 1, 0, none⟩ = some (.int .i64 (N : Int)) := blk_cell X4 0
        have c1 : w4.cell? ⟨q + 1, 1, none⟩ = some (.slice A1 0 cap1) := blk_cell X4 1
        have c2 : w4.cell? ⟨q + 1, 2, none⟩ = some X := blk_cell X4 2
        have c3 : w4.cell? ⟨q + 1, 3, none⟩ = some C := blk_cell X4 3
        have f0 := blk_frozen X4 0
        have f1 := blk_frozen X4 1
        have f2 := blk_frozen X4 2
        have f3 := blk_frozen X4 3
        have pl := blk_lt X4
        have pl1 : q + 1 < w4.heap.size + 1 := by omega
        have pl2 : q + 1 < w4.heap.size + 1 + 1 := by omega
        go_upto_region 10 with fail
        clear c0 c1 c2 c3 f0 f1 f2 f3 pl1 pl2 R4 z0
        have X5 := put4_box X4 2 (.slice (some ⟨w4.heap.size, 0, none⟩) 2 2) (.slice (some ⟨w4.heap.size + 1, 0, none⟩) 2 2) (.slice (some ⟨w4.heap.size + 1 + 1, 0, none⟩) 2 2)
        have Q5 : Box (put4 w4 (q + 1) 2 (.slice (some ⟨w4.heap.size, 0, none⟩) 2 2) (.slice (some ⟨w4.heap.size + 1, 0, none⟩) 2 2) (.slice (some ⟨w4.heap.size + 1 + 1, 0, none⟩) 2 2)) q 0 (.slice none 0 0) (.slice none 0 0) (.slice none 0 0) := (put4_ne (by omega)).trans Q4
        have B5 := put4_below B4 (p := q + 1) (by omega) 2 (.slice (some ⟨w4.heap.size, 0, none⟩) 2 2) (.slice (some ⟨w4.heap.size + 1, 0, none⟩) 2 2) (.slice (some ⟨w4.heap.size + 1 + 1, 0, none⟩) 2 2)
        have s5 := put4_size w4 (q + 1) 2 (.slice (some ⟨w4.heap.size, 0, none⟩) 2 2) (.slice (some ⟨w4.heap.size + 1, 0, none⟩) 2 2) (.slice (some ⟨w4.heap.size + 1 + 1, 0, none⟩) 2 2)
        unfold put4 at X5 Q5 B5 s5
        generalize (((w4.setCell ⟨q + 1, 0, none⟩ (.int .i64 2)).setCell ⟨q + 1, 1, none⟩ (.slice (some ⟨w4.heap.size, 0, none⟩) 2 2)).setCell ⟨q + 1, 2, none⟩ (.slice (some ⟨w4.heap.size + 1, 0, none⟩) 2 2)).setCell ⟨q + 1, 3, none⟩ (.slice (some ⟨w4.heap.size + 1 + 1, 0, none⟩) 2 2) = w5 at *
        have R6 := fresh3 w5 (q + 2) (by omega) 0 1 0 1 (capOf (k / 30)) (capOf (k / 7000))
        rw [s5] at R6
        have b6 := below3 w5 (.cells #[.int .i64 0, .int .i64 1] 3) (.cells #[.int .i64 0, .int .i64 1] 3) (.cells #[.int .i64 (capOf (k / 30)), .int .i64 (capOf (k / 7000))] 3)
        have X6 := X5.below b6 (Nat.le_refl _)
        have Q6 := Q5.below b6 (Nat.le_refl _)
        have B6 := B5.trans (b6.mono B5.size)
        clear X5 Q5 B5 b6 s5 pl X4 Q4 B4
        generalize (((w5.alloc (.cells #[.int .i64 0, .int .i64 1] 3)).alloc (.cells #[.int .i64 0, .int .i64 1] 3)).alloc (.cells #[.int .i64 (capOf (k / 30)), .int .i64 (capOf (k / 7000))] 3)) = w6 at *
        generalize w4.heap.size = g at *
        clear w5
        by_cases h5 : k % 5 = 0
        · have z1 : (k % 5 == 0) = true := by simpa using h5
          have H5 := Lib.hid h5
          clear h5
          have c0 : w6.cell? ⟨q + 1, 0, none⟩ = some (.int .i64 2) := blk_cell X6 0
          have c1 : w6.cell? ⟨q + 1, 1, none⟩ = some (.slice (some ⟨g, 0, none⟩) 2 2) := blk_cell X6 1
          have c2 : w6.cell? ⟨q + 1, 2, none⟩ = some (.slice (some ⟨g + 1, 0, none⟩) 2 2) := blk_cell X6 2
          have c3 : w6.cell? ⟨q + 1, 3, none⟩ = some (.slice (some ⟨g + 1 + 1, 0, none⟩) 2 2) := blk_cell X6 3
          have f0 := blk_frozen X6 0
          have f1 := blk_frozen X6 1
          have f2 := blk_frozen X6 2
          have f3 := blk_frozen X6 3
          have pl := blk_lt X6
          have pl1 : q + 1 < w6.heap.size + 1 := by omega
          have pl2 : q + 1 < w6.heap.size + 1 + 1 := by omega
          go_upto_region 4 with fail
          clear c0 c1 c2 c3 f0 f1 f2 f3 pl1 pl2 R6 z1
          have X7 := put4_box X6 1 (.slice (some ⟨w6.heap.size, 0, none⟩) 2 2) (.slice (some ⟨w6.heap.size + 1, 0, none⟩) 2 2) (.slice (some ⟨w6.heap.size + 1 + 1, 0, none⟩) 2 2)
          have Q7 : Box (put4 w6 (q + 1) 1 (.slice (some ⟨w6.heap.size, 0, none⟩) 2 2) (.slice (some ⟨w6.heap.size + 1, 0, none⟩) 2 2) (.slice (some ⟨w6.heap.size + 1 + 1, 0, none⟩) 2 2)) q 0 (.slice none 0 0) (.slice none 0 0) (.slice none 0 0) := (put4_ne (by omega)).trans Q6
          have B7 := put4_below B6 (p := q + 1) (by omega) 1 (.slice (some ⟨w6.heap.size, 0, none⟩) 2 2) (.slice (some ⟨w6.heap.size + 1, 0, none⟩) 2 2) (.slice (some ⟨w6.heap.size + 1 + 1, 0, none⟩) 2 2)
          have s7 := put4_size w6 (q + 1) 1 (.slice (some ⟨w6.heap.size, 0, none⟩) 2 2) (.slice (some ⟨w6.heap.size + 1, 0, none⟩) 2 2) (.slice (some ⟨w6.heap.size + 1 + 1, 0, none⟩) 2 2)
          unfold put4 at X7 Q7 B7 s7
          generalize (((w6.setCell ⟨q + 1, 0, none⟩ (.int .i64 1)).setCell ⟨q + 1, 1, none⟩ (.slice (some ⟨w6.heap.size, 0, none⟩) 2 2)).setCell ⟨q + 1, 2, none⟩ (.slice (some ⟨w6.heap.size + 1, 0, none⟩) 2 2)).setCell ⟨q + 1, 3, none⟩ (.slice (some ⟨w6.heap.size + 1 + 1, 0, none⟩) 2 2) = w7 at *
          have R8 := fresh3 w7 (q + 2) (by omega) 0 0 1 0 (capOf (k / 30)) (capOf (k / 7000))
          rw [s7] at R8
          have b8 := below3 w7 (.cells #[.int .i64 0, .int .i64 0] 3) (.cells #[.int .i64 1, .int .i64 0] 3) (.cells #[.int .i64 (capOf (k / 30)), .int .i64 (capOf (k / 7000))] 3)
          have X8 := X7.below b8 (Nat.le_refl _)
          have Q8 := Q7.below b8 (Nat.le_refl _)
          have B8 := B7.trans (b8.mono B7.size)
          clear X7 Q7 B7 b8 s7 pl X6 Q6 B6
          generalize (((w7.alloc (.cells #[.int .i64 0, .int .i64 0] 3)).alloc (.cells #[.int .i64 1, .int .i64 0] 3)).alloc (.cells #[.int .i64 (capOf (k / 30)), .int .i64 (capOf (k / 7000))] 3)) = w8 at *
          generalize w6.heap.size = g at *
          clear w7
          have FX : Hid (∃ T X C, Box w8 (q + 1) (planeUp z (i + 1)).N T X C ∧ Rows w8 (q + 2) T X C (planeUp z (i + 1)).m (planeUp z (i + 1)).t (planeUp z (i + 1)).x (planeUp z (i + 1)).c) := Lib.hid (by
            rw [HN.out]; unfold grow1 onlyEdge; rw [if_pos rfl, if_pos H5.out]; exact ⟨_, _, _, X8, R8⟩)
          clear X8 R8
          go_wp2_with fail
          go_roundw
          case rel =>
            obtain ⟨T', X', C', h1, h2⟩ := FX.out
            exact ⟨i + 1, T', X', C', by simp, by omega, by omega, Q8, h1, h2, B8⟩
          case measure => simp [intOf]; omega
        · have z1 : (k % 5 == 0) = false := by simpa using h5
          have FX : Hid (∃ T X C, Box w6 (q + 1) (planeUp z (i + 1)).N T X C ∧ Rows w6 (q + 2) T X C (planeUp z (i + 1)).m (planeUp z (i + 1)).t (planeUp z (i + 1)).x (planeUp z (i + 1)).c) := Lib.hid (by
            rw [HN.out]; unfold grow1 onlyEdge; rw [if_pos rfl, if_neg h5]; exact ⟨_, _, _, X6, R6⟩)
          clear h5 X6 R6
          go_wp2_with fail
          go_roundw
          case rel =>
            obtain ⟨T', X', C', h1, h2⟩ := FX.out
            exact ⟨i + 1, T', X', C', by simp, by omega, by omega, Q6, h1, h2, B6⟩
          case measure => simp [intOf]; omega
      · have gz := gr
        obtain ⟨gd, gt, -, -, -⟩ := gz
        dsimp only at gd gt
        have pb := gt.perm.bh gd.even
        have hxp : ∀ d, d < m → 0 ≤ x d := fun d hd => (gd.next d hd).1
        have hxa : ∀ d, d < m → x d = (ab x d : Int) := fun d hd => by have := gd.next d hd; unfold ab; omega
        have hal : ∀ d, d < m → ab x d < m := gt.perm.lt
        have z0 : ((m : Int) == 0) = false := by simp; omega
        have hm0 : 0 < m := by omega
        have k5 : 0 ≤ k / 5 := by omega
        have m0 : (0 : Int) < (m : Int) := by omega
        obtain ⟨e1, e2⟩ := pickE_lt (s := ⟨N, m, t, x, c⟩) hk0 hm0
        obtain ⟨e3, e4, e5, e6, e7⟩ := pickG_in (s := ⟨N, m, t, x, c⟩) hk0 hm0
        dsimp only at e1 e2 e3 e4 e5 e6 e7
        have HG : Hid (∃ e g, pickE ⟨N, m, t, x, c⟩ k = e ∧ pickG ⟨N, m, t, x, c⟩ k = g) := Lib.hid ⟨_, _, rfl, rfl⟩
        have E2 := Lib.hid e2
        have E7 := Lib.hid e7
        clear e2 e7 hm
        go_upto_region 13 with fail
        rw [E2.out]
        generalize hge : pickE ⟨N, m, t, x, c⟩ k = e at *
        have HE := Lib.hid hge
        clear hge
        have pl := blk_lt X4
        have c0 : w4.cell? ⟨q + 1, 0, none⟩ = some (.int .i64 (N : Int)) := blk_cell X4 0
        have c1 : w4.cell? ⟨q + 1, 1, none⟩ = some (.slice A1 m cap1) := blk_cell X4 1
        have c2 : w4.cell? ⟨q + 1, 2, none⟩ = some X := blk_cell X4 2
        have c3 : w4.cell? ⟨q + 1, 3, none⟩ = some C := blk_cell X4 3
        go_wp2_with fail
        refine (refFaces_ok _ _ _ X C m t x R4.ot.rd R4.ox.rd (by omega) gd.even hxp pb).mono ?_
        rintro en w5 ⟨fb, o, kf, rfl, F5, hfb, O5, -, b5⟩
        have fo : ∀ j, j < m → o j = facesOf m x j := fun j hj => facesOf_eq pb O5 hj
        have R5 := R4.below b5 (Nat.le_refl _)
        have Q5 := Q4.below b5 (Nat.le_refl _)
        have X5 := X4.below b5 (Nat.le_refl _)
        have B5 := B4.trans (b5.mono B4.size)
        obtain ⟨A2, cap2, rfl, -⟩ := id R5.ox.rd
        clear b5 R4 Q4 X4 B4 c0 c1 c2 c3 pl w4 z0 k5 m0 O5 hfb
        go_wp2_with fail
        go_loopw [12, 13] (fun u v wr => ∃ j : Nat, v = .int .i64 (j : Int) ∧ j ≤ m ∧ Ow wr u (sameOf m x e j).length (fun y => ((sameOf m x e j).getD y 0 : Nat)) ∧ (∀ k, u.ownBlock = some k → w5.heap.size ≤ k) ∧ Below w5.heap.size w5 wr) (fun _ v _ => m - (intOf v).toNat)
        case atStart => exact ⟨0, rfl, Nat.zero_le _, Ow.nil _ _, fun k hk => by simp [Value.ownBlock] at hk, Below.refl _ _⟩
        case round =>
          obtain ⟨j, rfl, hj, S, hs, b6⟩ := hrel
          obtain ⟨A3, cap3, rfl, -⟩ := id S.rd
          by_cases hjm : j < m
          · have c2 : wr.cell? ⟨q + 1, 2, none⟩ = some (.slice A2 m cap2) := blk_cell (X5.below b6 (Nat.le_refl _)) 2
            have F6 := F5.below b6 (Nat.le_refl _)
            have x6 := R5.ox.below b6 (Nat.le_refl _)
            obtain ⟨xb, xcap, xe, -⟩ := x6.form hm0
            injection xe with xe1 xe2 xe3
            subst xe1 xe3
            have cj := x6.cell hjm
            rw [hxa j hjm] at cj
            have ce := x6.cell e1
            rw [hxa e e1] at ce
            have fj := F6.cell (hal j hjm)
            have fe := F6.cell (hal e e1)
            rw [fo _ (hal j hjm)] at fj
            rw [fo _ (hal e e1)] at fe
            have i1 : (j : Int) < (m : Int) := by omega
            have i2 : (e : Int) < (m : Int) := by omega
            have i3 : (ab x j : Int) < (m : Int) := by have := hal j hjm; omega
            have i4 : (ab x e : Int) < (m : Int) := by have := hal e e1; omega
            by_cases hf : facesOf m x (ab x j) = facesOf m x (ab x e)
            · have hb : (facesOf m x (ab x j) == facesOf m x (ab x e)) = true := by simp [hf]
              have L2 := Lib.hid (sameOf_yes hf)
              have ls := sameOf_len m x e j
              clear hf F6 x6
              go_upto_region 18 with fail
              go_big_quiet (fail)
              have bq := below_draws wr nq
              have S7 := S.below bq (Nat.le_refl _)
              have b7 := b6.trans (bq.mono b6.size)
              clear bq c2 cj ce fj fe S b6 hb i1 i2 i3 i4
              generalize wr.drewN nq = w7 at *
              have n0 : (w7.alloc (.cells #[.int .i64 (j : Int)] 3)).cell? ⟨w7.heap.size, 0, none⟩ = some (.int .i64 (j : Int)) := by rw [blk_cell (heap_alloc_new w7 _)]; rfl
              have Ba : Below w7.heap.size w7 (w7.alloc (.cells #[.int .i64 (j : Int)] 3)) := (Below.refl _ w7).alloc (Nat.le_refl _) _
              have Oa := S7.below Ba (Nat.le_refl _)
              have b8 := b7.trans (Ba.mono b7.size)
              have sz : w7.heap.size ≤ (w7.alloc (.cells #[.int .i64 (j : Int)] 3)).heap.size := Ba.size
              have z7 := b7.size
              go_upto_region 17 with (at_builtin; go_must (refine wpList_grow rfl _ _ rfl _ (sameOf m x e j).length _ rfl Oa ⟨w7.heap.size, 0, none⟩ 1 (j : Int) rfl n0 (by omega) ?_); intro b' c' w9 O9 g9 l9)
              have b9 := Below.grown b8 g9 b8.size hs
              have hs9 : ∀ k, (Value.slice (some ⟨b', 0, none⟩) ((sameOf m x e j).length + 1) c').ownBlock = some k → w5.heap.size ≤ k := fun k hk => by
                have e : some b' = some k := hk
                injection e with e
                subst e
                rcases l9 with e | e
                · exact hs _ e.symm
                · omega
              clear n0 Ba Oa b8 sz z7 g9 l9 S7 b7
              go_wp2_with fail
              go_roundw
              case rel =>
                refine ⟨j + 1, by simp, by omega, ?_, hs9, b9⟩
                rw [L2.out, List.length_append]
                refine O9.congr fun y hy => ?_
                by_cases q : y = (sameOf m x e j).length
                · subst q
                  rw [upd_same, List.getD_eq_getElem?_getD, List.getElem?_append_right (Nat.le_refl _), Nat.sub_self]; rfl
                · rw [upd_ne q, List.getD_eq_getElem?_getD, List.getD_eq_getElem?_getD, List.getElem?_append_left (by omega)]
              case measure => simp [intOf]; omega
            · have hb : (facesOf m x (ab x j) == facesOf m x (ab x e)) = false := by simp [hf]
              have L2 := Lib.hid (sameOf_no hf)
              clear hf F6 x6
              go_upto_region 18 with fail
              go_big_quiet (fail)
              have bq := below_draws wr nq
              have S7 := S.below bq (Nat.le_refl _)
              have b7 := b6.trans (bq.mono b6.size)
              clear bq c2 cj ce fj fe S b6 hb i1 i2 i3 i4
              generalize wr.drewN nq = w7 at *
              go_wp2_with fail
              go_roundw
              case rel => exact ⟨j + 1, by simp, by omega, by rw [L2.out]; exact S7, hs, b7⟩
              case measure => simp [intOf]; omega
          · have i1 : ¬ ((j : Int) < (m : Int)) := by omega
            obtain rfl : j = m := by omega
            have gi : k / 1200 % ((sameOf j x e j).length : Int) = ((k / 1200 % ((sameOf j x e j).length : Int)).toNat : Int) := by omega
            have hpg : pickG ⟨N, j, t, x, c⟩ k = (sameOf j x e j).getD (k / 1200 % ((sameOf j x e j).length : Int)).toNat 0 := by
              unfold pickG; rw [HE.out]
            have GI := Lib.hid gi
            have HP := Lib.hid hpg
            clear gi hpg
            obtain ⟨sb, scap, se, -⟩ := S.form e3
            injection se with se1 se2 se3
            subst se1 se3
            have cs := S.cell e4
            rw [← HP.out] at cs
            generalize hgg : pickG ⟨N, j, t, x, c⟩ k = g at *
            have Q6 := Q5.below b6 (Nat.le_refl _)
            have X6 := X5.below b6 (Nat.le_refl _)
            have R6 := R5.below b6 (Nat.le_refl _)
            have B6 := B5.trans (b6.mono B5.size)
            clear Q5 X5 R5 B5 F5 fo hs S b6
            obtain ⟨tb, tcap, te, -⟩ := R6.ot.form hm0
            injection te with te1 te2 te3
            subst te1 te3
            obtain ⟨xb, xcap, xe, -⟩ := R6.ox.form hm0
            injection xe with xe1 xe2 xe3
            subst xe1 xe3
            obtain ⟨cb, ccap, rfl, -⟩ := R6.oc.form hm0
            have c1 : wr.cell? ⟨q + 1, 1, none⟩ = some (.slice (some ⟨tb, 0, none⟩) j cap1) := blk_cell X6 1
            have ctg := R6.ot.cell e6
            have k12 : 0 ≤ k / 1200 := by omega
            have ln : (0 : Int) < ((sameOf j x e j).length : Int) := by omega
            have gi2 : (k / 1200 % ((sameOf j x e j).length : Int)) < ((sameOf j x e j).length : Int) := Int.emod_lt_of_pos _ ln
            have HGG := Lib.hid hgg
            clear hgg i1 hjm hj
            have e6i : (g : Int) < (j : Int) := by omega
            go_upto_if 108 with fail
            have HX : Hid (Box wr (q + 1) (N : Int) (.slice (some ⟨tb, 0, none⟩) j cap1) (.slice (some ⟨xb, 0, none⟩) j cap2) (.slice (some ⟨cb, 0, none⟩) j ccap)) := Lib.hid X6
            go_cut [15] (fun s15 wx => ∃ (wv Nn : Int), s15 = .int .i64 wv ∧ ((k % 5 < 2 ∧ wv = N ∧ Nn = N + 1) ∨ (¬ k % 5 < 2 ∧ wv = t g ∧ Nn = N)) ∧ Box wx (q + 1) Nn (.slice (some ⟨tb, 0, none⟩) j cap1) (.slice (some ⟨xb, 0, none⟩) j cap2) (.slice (some ⟨cb, 0, none⟩) j ccap) ∧ Box wx q 0 (.slice none 0 0) (.slice none 0 0) (.slice none 0 0) ∧ Rows wx (q + 2) (.slice (some ⟨tb, 0, none⟩) j cap1) (.slice (some ⟨xb, 0, none⟩) j cap2) (.slice (some ⟨cb, 0, none⟩) j ccap) j t x c ∧ Below w.heap.size w wx)
            case first =>
              by_cases h5 : k % 5 < 2
              · have f0 := blk_frozen X6 0
                have c0 : wr.cell? ⟨q + 1, 0, none⟩ = some (.int .i64 (N : Int)) := blk_cell X6 0
                have d5 : decide (k % 5 < 2) = true := by simpa using h5
                have nb : (N : Int) ≤ 25 := by omega
                have X8 : Box (wr.setCell ⟨q + 1, 0, none⟩ (.int .i64 ((N : Int) + 1))) (q + 1) ((N : Int) + 1) (.slice (some ⟨tb, 0, none⟩) j cap1) (.slice (some ⟨xb, 0, none⟩) j cap2) (.slice (some ⟨cb, 0, none⟩) j ccap) := blk_set (i := 0) X6 _
                have Q8 : Box (wr.setCell ⟨q + 1, 0, none⟩ (.int .i64 ((N : Int) + 1))) q 0 (.slice none 0 0) (.slice none 0 0) (.slice none 0 0) := (Below.heap_setCell _ _ _ _ (by simp)).trans Q6
                have R8 := R6.keep (w' := wr.setCell ⟨q + 1, 0, none⟩ (.int .i64 ((N : Int) + 1))) fun k hk => Below.heap_setCell _ _ _ _ (by have := (R6.lt hk).1; simp; omega)
                have B8 := B6.setCell (p := ⟨q + 1, 0, none⟩) (by simp; omega) (.int .i64 ((N : Int) + 1))
                have H5 := Lib.hid h5
                clear X6 Q6 R6 B6 d5
                go_wp2_with fail
                go_meet
                exact ⟨_, _, rfl, .inl ⟨H5.out, rfl, rfl⟩, X8, Q8, R8, B8⟩
              · have d5 : decide (k % 5 < 2) = false := by simpa using h5
                have H5 := Lib.hid h5
                clear d5
                go_wp2_with fail
                go_meet
                exact ⟨_, _, rfl, .inr ⟨H5.out, rfl, rfl⟩, X6, Q6, R6, B6⟩
            case rest =>
              clear X6 Q6 R6 B6 c1 cs ctg HX
              obtain ⟨wv, Nn, rfl, hcase, X8, Q8, R8, B8⟩ := hcut
              have HCase := Lib.hid hcase
              clear hcase
              generalize wc = w8 at *
              go_upto_region 25 with fail
              have gtb : q + 2 ≤ tb := R8.bt tb rfl
              go_cut [] (fun wx => ∃ b2 c2 : Nat, Box wx (q + 1) Nn (.slice (some ⟨b2, 0, none⟩) (j + 2) c2) (.slice (some ⟨xb, 0, none⟩) j cap2) (.slice (some ⟨cb, 0, none⟩) j ccap) ∧ Box wx q 0 (.slice none 0 0) (.slice none 0 0) (.slice none 0 0) ∧ Rows wx (q + 2) (.slice (some ⟨tb, 0, none⟩) j cap1) (.slice (some ⟨xb, 0, none⟩) j cap2) (.slice (some ⟨cb, 0, none⟩) j ccap) j t x c ∧ Ow wx (.slice (some ⟨b2, 0, none⟩) (j + 2) c2) (j + 2) (cat t j (two (t e) wv)) ∧ (q + 2 ≤ b2 ∧ b2 ≠ xb ∧ b2 ≠ cb) ∧ Below w.heap.size w wx)
              case first =>
                refine Code.wp_mono NoPanic.imp (reg25 w8 q e j tb cap1 wv t _ _ _ _ _ _ _ _ _ _ _ _ _ _ _ _ _ _ _ _ _ _ _ _ _ _ _ _ _ _ _ _ _ _ _ _ _ _ _ _ _ _ _ _ _ _ _ _ _ _ _ _ _ _ _ _ _ _ _ _ _ _ _ _ _ _ _ _ _ _ _ _ _ _ _ _ _ _ _ _ _ _ _ _ _ _ _ _ _ _ _ _ _ _ _ _ _ _ _ _ _ _ _ _ _ _ _ _ _ _ _ _ _ _ _ _ _ _ _ _ _ _ _ _ _ _ _ _ _ _ _ _ _ _ _ _ _ _ _ _ _ _ _ _ _ _ _ _ _ _ _ _ _ _ _ _ _ _ _ _ _ _ _ _ _ (blk_cell X8 1) (blk_frozen X8 1) R8.ot e1 hm0 gm (blk_lt X8) (R8.bt tb rfl) ?_)
                intro u115 u116 u117 u118 u119 u120 u121 u122 u123 u124 u125 u126 u127 b2 c2 w2 B2 hb2 O2
                go_wp2_with fail
                go_meet
                exact ⟨b2, c2, first25 X8 Q8 R8 B8 hqw B2 hb2 O2⟩
              case rest =>
                obtain ⟨b2, c2, X9, Q9, R9, O9, hb9, B9⟩ := hcut
                generalize wc = w9 at *
                clear X8 Q8 R8 B8
                have jn : ((j + 1 : Nat) : Int) = (j : Int) + 1 := by omega
                have HJ := Lib.hid jn
                clear jn
                have OEX : Ow (w9.alloc (.cells #[] 3)) (.slice (some ⟨w9.heap.size, 0, none⟩) 0 0) 0 (fun _ => 0) := Ow.empty w9 _
                have bEX : Below w9.heap.size w9 (w9.alloc (.cells #[] 3)) := (Below.refl _ _).alloc (Nat.le_refl _) _
                have sEX : (w9.alloc (.cells #[] 3)).heap.size = w9.heap.size + 1 := by simp
                have CTX : ∀ i, i < j → (w9.alloc (.cells #[] 3)).cell? ((⟨xb, 0, none⟩ : Addr).add i) = some (.int .i64 (x i)) := fun i hi => by rw [add_head]; exact (R9.ox.below bEX (Nat.le_refl _)).cell hi
                have HTX := Lib.hid CTX
                have HEX := Lib.hid sEX
                have cxX : w9.cell? ⟨q + 1, 2, none⟩ = some (.slice (some ⟨xb, 0, none⟩) j cap2) := blk_cell X9 2
                have plX := blk_lt X9
                clear CTX sEX
                go_upto_region 27 with (first | (at_builtin; refine wpList_cop (o := ⟨some 131, _, _, _, _, _⟩) rfl _ _ rfl (.slice (some ⟨w9.heap.size, 0, none⟩) 0 0) (fun _ => 0) rfl OEX ⟨xb, 0, none⟩ j cap2 x rfl HTX.out (by omega) (by omega) ?_; intro b3 c3 w10 O10 gX lX; have BXa : Below w9.heap.size w9 w10 := Below.grown bEX gX (by rw [HEX.out]; omega) (fun k hk => by simp [Value.ownBlock] at hk; omega); have hbXa : w9.heap.size ≤ b3 := (by have := HEX.out; simp [Value.ownBlock] at lX; omega); have ODX : Ow (w10.alloc (.cells #[.int .i64 (j : Int), .int .i64 ((j : Int) + 1)] 3)) (.slice (some ⟨w10.heap.size, 0, none⟩) 2 2) 2 (two (j : Int) ((j : Int) + 1)) := Ow.lit2 w10 _ _ _ rfl rfl; have bDX : Below w10.heap.size w10 (w10.alloc (.cells #[.int .i64 (j : Int), .int .i64 ((j : Int) + 1)] 3)) := (Below.refl _ _).alloc (Nat.le_refl _) _; have sDX : (w10.alloc (.cells #[.int .i64 (j : Int), .int .i64 ((j : Int) + 1)] 3)).heap.size = w10.heap.size + 1 := (by simp); have OOX := O10.below bDX (Nat.le_refl _); have BBX := BXa.trans (bDX.mono BXa.size); have HDX := Lib.hid sDX; clear OEX bEX gX lX O10 sDX HTX HEX cxX) | (at_builtin; refine wpList_app (o := ⟨some 136, _, _, _, _, _⟩) rfl _ _ rfl (.slice (some ⟨b3, 0, none⟩) j c3) j x rfl OOX ⟨w10.heap.size, 0, none⟩ 2 2 (two (j : Int) ((j : Int) + 1)) rfl (fun i hi => by rw [add_head]; exact ODX.cell hi) (by omega) (by omega) ?_; intro b4 c4 w11 O11 gX lX; have hbX : w9.heap.size ≤ b4 := (by have := HDX.out; have := BXa.size; simp [Value.ownBlock] at lX; omega); have BXb : Below w9.heap.size w9 w11 := Below.grown BBX gX BBX.size (fun k hk => by simp [Value.ownBlock] at hk; omega); have XbX := X9.below BXb (Nat.le_refl _); have cxX : w11.cell? ⟨q + 1, 2, none⟩ = some (.slice (some ⟨xb, 0, none⟩) j cap2) := blk_cell XbX 2; have fxX := blk_frozen XbX 2; clear ODX bDX OOX BBX gX lX HDX BXa hbXa plX))
                clear cxX fxX
                have b12 : ∀ k, k ≠ q + 1 → (w11.setCell ⟨q + 1, 2, none⟩ (.slice (some ⟨b4, 0, none⟩) (j + 2) c4)).heap[k]? = w11.heap[k]? := fun k hk => Below.heap_setCell _ _ _ _ hk
                have s12 : (w11.setCell ⟨q + 1, 2, none⟩ (.slice (some ⟨b4, 0, none⟩) (j + 2) c4)).heap.size = w11.heap.size := by simp [World.setCell]
                have X12 : Box (w11.setCell ⟨q + 1, 2, none⟩ (.slice (some ⟨b4, 0, none⟩) (j + 2) c4)) (q + 1) Nn (.slice (some ⟨b2, 0, none⟩) (j + 2) c2) (.slice (some ⟨b4, 0, none⟩) (j + 2) c4) (.slice (some ⟨cb, 0, none⟩) j ccap) := blk_set (i := 2) XbX _
                have Q12 : Box (w11.setCell ⟨q + 1, 2, none⟩ (.slice (some ⟨b4, 0, none⟩) (j + 2) c4)) q 0 (.slice none 0 0) (.slice none 0 0) (.slice none 0 0) := (b12 q (by omega)).trans (Q9.below BXb (Nat.le_refl _))
                have R12 := (R9.below BXb (Nat.le_refl _)).keep (w' := w11.setCell ⟨q + 1, 2, none⟩ (.slice (some ⟨b4, 0, none⟩) (j + 2) c4)) fun k hk => b12 k (by have := (R9.lt hk).1; omega)
                have T12 : Ow (w11.setCell ⟨q + 1, 2, none⟩ (.slice (some ⟨b4, 0, none⟩) (j + 2) c4)) (.slice (some ⟨b2, 0, none⟩) (j + 2) c2) (j + 2) (cat t j (two (t e) wv)) := (O9.below BXb (Nat.le_refl _)).keep fun k hk => b12 k (by simp [Value.ownBlock] at hk; omega)
                have N12 : Ow (w11.setCell ⟨q + 1, 2, none⟩ (.slice (some ⟨b4, 0, none⟩) (j + 2) c4)) (.slice (some ⟨b4, 0, none⟩) (j + 2) c4) (j + 2) (cat x j (two (j : Int) ((j : Int) + 1))) := O11.keep fun k hk => b12 k (by simp [Value.ownBlock] at hk; have := O9.lt (k := b2) rfl; have := blk_lt X9; omega)
                have B12 := (B9.trans (BXb.mono B9.size)).setCell (p := ⟨q + 1, 2, none⟩) (by simp; omega) (.slice (some ⟨b4, 0, none⟩) (j + 2) c4)
                have h24 : b2 < b4 := by have := O9.lt (k := b2) rfl; omega
                have l4 : b4 < w11.heap.size := O11.lt (k := b4) rfl
                have l2 : b2 < w11.heap.size := by omega
                have xq := blk_lt X9
                have hq4 : q + 2 ≤ b4 := by omega
                clear X9 Q9 R9 O9 B9 XbX BXb O11 b12 xq
                generalize w11.setCell ⟨q + 1, 2, none⟩ (.slice (some ⟨b4, 0, none⟩) (j + 2) c4) = w12 at *
                rw [← s12] at l4 l2
                clear s12 hbX
                have OEC : Ow (w12.alloc (.cells #[] 3)) (.slice (some ⟨w12.heap.size, 0, none⟩) 0 0) 0 (fun _ => 0) := Ow.empty w12 _
                have bEC : Below w12.heap.size w12 (w12.alloc (.cells #[] 3)) := (Below.refl _ _).alloc (Nat.le_refl _) _
                have sEC : (w12.alloc (.cells #[] 3)).heap.size = w12.heap.size + 1 := by simp
                have CTC : ∀ i, i < j → (w12.alloc (.cells #[] 3)).cell? ((⟨cb, 0, none⟩ : Addr).add i) = some (.int .i64 (c i)) := fun i hi => by rw [add_head]; exact (R12.oc.below bEC (Nat.le_refl _)).cell hi
                have HTC := Lib.hid CTC
                have HEC := Lib.hid sEC
                have cxC : w12.cell? ⟨q + 1, 3, none⟩ = some (.slice (some ⟨cb, 0, none⟩) j ccap) := blk_cell X12 3
                have plC := blk_lt X12
                clear CTC sEC
                go_upto_region 28 with (first | (at_builtin; refine wpList_cop (o := ⟨some 141, _, _, _, _, _⟩) rfl _ _ rfl (.slice (some ⟨w12.heap.size, 0, none⟩) 0 0) (fun _ => 0) rfl OEC ⟨cb, 0, none⟩ j ccap c rfl HTC.out (by omega) (by omega) ?_; intro b5 c5 w13 O13 gC lC; have BCa : Below w12.heap.size w12 w13 := Below.grown bEC gC (by rw [HEC.out]; omega) (fun k hk => by simp [Value.ownBlock] at hk; omega); have hbCa : w12.heap.size ≤ b5 := (by have := HEC.out; simp [Value.ownBlock] at lC; omega); have ODC : Ow (w13.alloc (.cells #[.int .i64 (capOf (k / 30)), .int .i64 (capOf (k / 7000))] 3)) (.slice (some ⟨w13.heap.size, 0, none⟩) 2 2) 2 (two (capOf (k / 30)) (capOf (k / 7000))) := Ow.lit2 w13 _ _ _ rfl rfl; have bDC : Below w13.heap.size w13 (w13.alloc (.cells #[.int .i64 (capOf (k / 30)), .int .i64 (capOf (k / 7000))] 3)) := (Below.refl _ _).alloc (Nat.le_refl _) _; have sDC : (w13.alloc (.cells #[.int .i64 (capOf (k / 30)), .int .i64 (capOf (k / 7000))] 3)).heap.size = w13.heap.size + 1 := (by simp); have OOC := O13.below bDC (Nat.le_refl _); have BBC := BCa.trans (bDC.mono BCa.size); have HDC := Lib.hid sDC; clear OEC bEC gC lC O13 sDC HTC HEC cxC) | (at_builtin; refine wpList_app (o := ⟨some 145, _, _, _, _, _⟩) rfl _ _ rfl (.slice (some ⟨b5, 0, none⟩) j c5) j c rfl OOC ⟨w13.heap.size, 0, none⟩ 2 2 (two (capOf (k / 30)) (capOf (k / 7000))) rfl (fun i hi => by rw [add_head]; exact ODC.cell hi) (by omega) (by omega) ?_; intro b6 c6 w14 O14 gC lC; have hbC : w12.heap.size ≤ b6 := (by have := HDC.out; have := BCa.size; simp [Value.ownBlock] at lC; omega); have BCb : Below w12.heap.size w12 w14 := Below.grown BBC gC BBC.size (fun k hk => by simp [Value.ownBlock] at hk; omega); have XbC := X12.below BCb (Nat.le_refl _); have cxC : w14.cell? ⟨q + 1, 3, none⟩ = some (.slice (some ⟨cb, 0, none⟩) j ccap) := blk_cell XbC 3; have fxC := blk_frozen XbC 3; clear ODC bDC OOC BBC gC lC HDC BCa hbCa plC))
                clear cxC fxC
                have b15 : ∀ k, k ≠ q + 1 → (w14.setCell ⟨q + 1, 3, none⟩ (.slice (some ⟨b6, 0, none⟩) (j + 2) c6)).heap[k]? = w14.heap[k]? := fun k hk => Below.heap_setCell _ _ _ _ hk
                have s15 : (w14.setCell ⟨q + 1, 3, none⟩ (.slice (some ⟨b6, 0, none⟩) (j + 2) c6)).heap.size = w14.heap.size := by simp [World.setCell]
                have X15 : Box (w14.setCell ⟨q + 1, 3, none⟩ (.slice (some ⟨b6, 0, none⟩) (j + 2) c6)) (q + 1) Nn (.slice (some ⟨b2, 0, none⟩) (j + 2) c2) (.slice (some ⟨b4, 0, none⟩) (j + 2) c4) (.slice (some ⟨b6, 0, none⟩) (j + 2) c6) := blk_set (i := 3) XbC _
                have Q15 : Box (w14.setCell ⟨q + 1, 3, none⟩ (.slice (some ⟨b6, 0, none⟩) (j + 2) c6)) q 0 (.slice none 0 0) (.slice none 0 0) (.slice none 0 0) := (b15 q (by omega)).trans (Q12.below BCb (Nat.le_refl _))
                have xq := blk_lt X12
                have B15 := (B12.trans (BCb.mono B12.size)).setCell (p := ⟨q + 1, 3, none⟩) (by simp; omega) (.slice (some ⟨b6, 0, none⟩) (j + 2) c6)
                have own : ∀ b c k, (Value.slice (some ⟨b, 0, none⟩) (j + 2) c).ownBlock = some k → k = b := fun b c k h => by
                  have e : some b = some k := h
                  injection e with e; exact e.symm
                have R15 : Rows (w14.setCell ⟨q + 1, 3, none⟩ (.slice (some ⟨b6, 0, none⟩) (j + 2) c6)) (q + 2) (.slice (some ⟨b2, 0, none⟩) (j + 2) c2) (.slice (some ⟨b4, 0, none⟩) (j + 2) c4) (.slice (some ⟨b6, 0, none⟩) (j + 2) c6) (j + 2) (cat t j (two (t e) wv)) (cat x j (two (j : Int) ((j : Int) + 1))) (cat c j (two (capOf (k / 30)) (capOf (k / 7000)))) :=
                  ⟨(T12.below BCb (Nat.le_refl _)).keep fun k hk => b15 k (by have := own _ _ _ hk; omega), (N12.below BCb (Nat.le_refl _)).keep fun k hk => b15 k (by have := own _ _ _ hk; omega), O14.keep fun k hk => b15 k (by have := own _ _ _ hk; omega),
                    fun k hk => by have := own _ _ _ hk; omega, fun k hk => by have := own _ _ _ hk; omega, fun k hk => by have := own _ _ _ hk; omega,
                    fun k hk hk' => by have := own _ _ _ hk; have := own _ _ _ hk'; omega, fun k hk hk' => by have := own _ _ _ hk; have := own _ _ _ hk'; omega, fun k hk hk' => by have := own _ _ _ hk; have := own _ _ _ hk'; omega⟩
                clear X12 Q12 R12 T12 N12 B12 XbC BCb O14 b15 s15 hbC xq h24 l4 l2
                generalize w14.setCell ⟨q + 1, 3, none⟩ (.slice (some ⟨b6, 0, none⟩) (j + 2) c6) = w15 at *
                have cx : w15.cell? ⟨q + 1, 2, none⟩ = some (.slice (some ⟨b4, 0, none⟩) (j + 2) c4) := blk_cell X15 2
                go_wp2_with fail
                clear cx
                refine (lay_any _ b4 (j + 2) c4 _ R15.ox e j (by omega) (by omega)).mono ?_
                rintro en w16 ⟨rfl, N16, T16⟩
                have X16 := X15.turn T16 (by omega)
                have Q16 := Q15.turn T16 (by omega)
                have B16 := Below.turn B15 T16 (by omega) B15.size
                have R16 := R15.turn T16 N16
                clear X15 Q15 R15 B15 N16 T16
                have HGrow : Hid (∀ h : j ≠ 0, grow1 ⟨N, j, t, x, c⟩ k = if k % 5 < 2 then ⟨N + 1, j + 2, cat t j (two (t e) N), layIn (cat x j (two (j : Int) ((j : Int) + 1))) e j, cat c j (two (capOf (k / 30)) (capOf (k / 7000)))⟩
                    else ⟨N, j + 2, cat t j (two (t e) (t g)), layIn (layIn (cat x j (two (j : Int) ((j : Int) + 1))) e j) (if g = e then j else g) (j + 1), cat c j (two (capOf (k / 30)) (capOf (k / 7000)))⟩) := Lib.hid fun h => by
                  unfold grow1 more1 more2
                  rw [if_neg h, HE.out, HGG.out]
                  dsimp only
                  rw [HJ.out]
                rcases HCase.out with ⟨h5, rfl, rfl⟩ | ⟨h5, rfl, rfl⟩
                · have d5 : ¬ (k % 5 ≥ 2) := by omega
                  have FX : Hid (∃ T X C, Box w16 (q + 1) (planeUp z (i + 1)).N T X C ∧ Rows w16 (q + 2) T X C (planeUp z (i + 1)).m (planeUp z (i + 1)).t (planeUp z (i + 1)).x (planeUp z (i + 1)).c) := Lib.hid (by
                    rw [HN.out, HGrow.out (by omega), if_pos h5]; exact ⟨_, _, _, X16, R16⟩)
                  clear X16 R16 HGrow
                  go_wp2_with fail
                  go_roundw
                  case rel =>
                    obtain ⟨T', X', C', h1, h2⟩ := FX.out
                    exact ⟨i + 1, T', X', C', by simp, by omega, by omega, Q16, h1, h2, B16⟩
                  case measure => simp [intOf]; omega
                · have d5 : k % 5 ≥ 2 := by omega
                  have cx : w16.cell? ⟨q + 1, 2, none⟩ = some (.slice (some ⟨b4, 0, none⟩) (j + 2) c4) := blk_cell X16 2
                  obtain ⟨g', hg'⟩ : ∃ g', (if g = e then j else g) = g' := ⟨_, rfl⟩
                  have HG' := Lib.hid hg'
                  have hgl : g' < j + 2 := by rw [← hg']; split <;> omega
                  clear hg'
                  by_cases hge : g = e
                  · have hb : ((g : Int) == (e : Int)) = true := by simp [hge]
                    have e1' : g' = j := by rw [← HG'.out, if_pos hge]
                    have E1 := Lib.hid e1'
                    clear e1' hge
                    go_wp2_with fail
                    clear cx hb
                    rw [← HJ.out]
                    refine (lay_any _ b4 (j + 2) c4 _ R16.ox j (j + 1) (by omega) (by omega)).mono ?_
                    rintro en w17 ⟨rfl, N17, T17⟩
                    have X17 := X16.turn T17 (by omega)
                    have Q17 := Q16.turn T17 (by omega)
                    have B17 := Below.turn B16 T17 (by omega) B16.size
                    have R17 := R16.turn T17 N17
                    clear X16 Q16 R16 B16 N17 T17
                    have FX : Hid (∃ T X C, Box w17 (q + 1) (planeUp z (i + 1)).N T X C ∧ Rows w17 (q + 2) T X C (planeUp z (i + 1)).m (planeUp z (i + 1)).t (planeUp z (i + 1)).x (planeUp z (i + 1)).c) := Lib.hid (by
                      rw [HN.out, HGrow.out (by omega), if_neg (by omega), HG'.out, E1.out]; exact ⟨_, _, _, X17, R17⟩)
                    clear X17 R17 HGrow
                    go_wp2_with fail
                    go_roundw
                    case rel =>
                      obtain ⟨T', X', C', h1, h2⟩ := FX.out
                      exact ⟨i + 1, T', X', C', by simp, by omega, by omega, Q17, h1, h2, B17⟩
                    case measure => simp [intOf]; omega
                  · have hb : ((g : Int) == (e : Int)) = false := by simp; omega
                    have e1' : g' = g := by rw [← HG'.out, if_neg hge]
                    have E1 := Lib.hid e1'
                    clear e1' hge
                    go_wp2_with fail
                    clear cx hb
                    rw [← HJ.out]
                    refine (lay_any _ b4 (j + 2) c4 _ R16.ox g (j + 1) (by omega) (by omega)).mono ?_
                    rintro en w17 ⟨rfl, N17, T17⟩
                    have X17 := X16.turn T17 (by omega)
                    have Q17 := Q16.turn T17 (by omega)
                    have B17 := Below.turn B16 T17 (by omega) B16.size
                    have R17 := R16.turn T17 N17
                    clear X16 Q16 R16 B16 N17 T17
                    have FX : Hid (∃ T X C, Box w17 (q + 1) (planeUp z (i + 1)).N T X C ∧ Rows w17 (q + 2) T X C (planeUp z (i + 1)).m (planeUp z (i + 1)).t (planeUp z (i + 1)).x (planeUp z (i + 1)).c) := Lib.hid (by
                      rw [HN.out, HGrow.out (by omega), if_neg (by omega), HG'.out, E1.out]; exact ⟨_, _, _, X17, R17⟩)
                    clear X17 R17 HGrow
                    go_wp2_with fail
                    go_roundw
                    case rel =>
                      obtain ⟨T', X', C', h1, h2⟩ := FX.out
                      exact ⟨i + 1, T', X', C', by simp, by omega, by omega, Q17, h1, h2, B17⟩
                    case measure => simp [intOf]; omega
    · have hmin : i = min n 24 := by omega
      have hpl : planeOf z n = planeUp z i := by unfold planeOf; rw [hmin]
      have HP := Lib.hid hpl
      obtain ⟨A1, p1, rfl, -⟩ := id R.ot.rd
      obtain ⟨A2, p2, rfl, -⟩ := id R.ox.rd
      obtain ⟨A3, p3, rfl, -⟩ := id R.oc.rd
      have c0 : wr.cell? ⟨q + 1, 0, none⟩ = some (.int .i64 ((planeUp z i).N : Int)) := blk_cell Xb 0
      have c1 : wr.cell? ⟨q + 1, 1, none⟩ = some (.slice A1 (planeUp z i).m p1) := blk_cell Xb 1
      have c2 : wr.cell? ⟨q + 1, 2, none⟩ = some (.slice A2 (planeUp z i).m p2) := blk_cell Xb 2
      have c3 : wr.cell? ⟨q + 1, 3, none⟩ = some (.slice A3 (planeUp z i).m p3) := blk_cell Xb 3
      have r0 : wr.cell? ⟨q, 0, none⟩ = some (.int .i64 0) := blk_cell Qb 0
      have r1 : wr.cell? ⟨q, 1, none⟩ = some (.slice none 0 0) := blk_cell Qb 1
      have r2 : wr.cell? ⟨q, 2, none⟩ = some (.slice none 0 0) := blk_cell Qb 2
      have r3 : wr.cell? ⟨q, 3, none⟩ = some (.slice none 0 0) := blk_cell Qb 3
      have f0 := blk_frozen Qb 0
      have f1 := blk_frozen Qb 1
      have f2 := blk_frozen Qb 2
      have f3 := blk_frozen Qb 3
      have Q7 := put4_box Qb (planeUp z i).N (.slice A1 (planeUp z i).m p1) (.slice A2 (planeUp z i).m p2) (.slice A3 (planeUp z i).m p3)
      have R7 := R.keep (w' := put4 wr q (planeUp z i).N (.slice A1 (planeUp z i).m p1) (.slice A2 (planeUp z i).m p2) (.slice A3 (planeUp z i).m p3)) fun k hk => put4_ne (by have := (R.lt hk).1; omega)
      have B7 := put4_below B (p := q) (by omega) (planeUp z i).N (.slice A1 (planeUp z i).m p1) (.slice A2 (planeUp z i).m p2) (.slice A3 (planeUp z i).m p3)
      unfold put4 at Q7 R7 B7
      have g0 : (wr.setCell ⟨q, 0, none⟩ (.int .i64 ((planeUp z i).N : Int))).cell? ⟨q, 0, none⟩ = some (.int .i64 ((planeUp z i).N : Int)) := blk_cell (blk_set (i := 0) Qb _) 0
      have g1 : ((wr.setCell ⟨q, 0, none⟩ (.int .i64 ((planeUp z i).N : Int))).setCell ⟨q, 1, none⟩ (.slice A1 (planeUp z i).m p1)).cell? ⟨q, 1, none⟩ = some (.slice A1 (planeUp z i).m p1) := blk_cell (blk_set (i := 1) (blk_set (i := 0) Qb _) _) 1
      have g2 : (((wr.setCell ⟨q, 0, none⟩ (.int .i64 ((planeUp z i).N : Int))).setCell ⟨q, 1, none⟩ (.slice A1 (planeUp z i).m p1)).setCell ⟨q, 2, none⟩ (.slice A2 (planeUp z i).m p2)).cell? ⟨q, 2, none⟩ = some (.slice A2 (planeUp z i).m p2) := blk_cell (blk_set (i := 2) (blk_set (i := 1) (blk_set (i := 0) Qb _) _) _) 2
      have g3 : ((((wr.setCell ⟨q, 0, none⟩ (.int .i64 ((planeUp z i).N : Int))).setCell ⟨q, 1, none⟩ (.slice A1 (planeUp z i).m p1)).setCell ⟨q, 2, none⟩ (.slice A2 (planeUp z i).m p2)).setCell ⟨q, 3, none⟩ (.slice A3 (planeUp z i).m p3)).cell? ⟨q, 3, none⟩ = some (.slice A3 (planeUp z i).m p3) := blk_cell (blk_set (i := 3) (blk_set (i := 2) (blk_set (i := 1) (blk_set (i := 0) Qb _) _) _) _) 3
      have HX := Lib.hid Xb
      clear Xb Qb hpl hmin B R
      by_cases hin : i < n
      · have d1 : (i : Int) < (n : Int) := by omega
        have d2 : ¬ ((i : Int) < 24) := by omega
        clear hlt
        go_wp2_with fail
        exact bodyPost_ret (v := .agg #[.int .i64 ((planeUp z i).N : Int), .slice A1 (planeUp z i).m p1, .slice A2 (planeUp z i).m p2, .slice A3 (planeUp z i).m p3]) (by simp [results, Try.results16, go_sem, g0, g1, g2, g3]) rfl ⟨_, _, _, by rw [HP.out], by rw [HP.out]; exact R7.base (by omega), B7⟩
      · have d1 : ¬ ((i : Int) < (n : Int)) := by omega
        clear hlt
        go_wp2_with fail
        exact bodyPost_ret (v := .agg #[.int .i64 ((planeUp z i).N : Int), .slice A1 (planeUp z i).m p1, .slice A2 (planeUp z i).m p2, .slice A3 (planeUp z i).m p3]) (by simp [results, Try.results16, go_sem, g0, g1, g2, g3]) rfl ⟨_, _, _, by rw [HP.out], by rw [HP.out]; exact R7.base (by omega), B7⟩
end Go.Proofs.Ytcejjcopchkmeaa.Ro
