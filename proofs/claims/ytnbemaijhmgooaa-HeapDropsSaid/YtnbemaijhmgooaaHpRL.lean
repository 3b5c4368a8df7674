/- Walks: the reference's heap: the least one. -/
import Derived.Test.YtnbemaijhmgooaaHpS
namespace Go.Proofs.Ytnbemaijhmgooaa.Hp
open Go.RowKit Go.Maps Go.Proofs
set_option linter.unusedVariables false
set_option linter.unusedSimpArgs false

/-- the least of the first i -/
def Best (G : Nat → It) (i : Nat) (x : It) : Prop := (i = 0 ∧ x = (0, 0)) ∨ ∃ j, j < i ∧ x = G j ∧ ∀ c, c < i → le x (G c)

structure LRel (w : World) (y z : Nat) (g : Nat) (v : Value) (n : Nat) (G : Nat → It) (u : Value) (wr : World) (i : Nat) (x : It) : Prop where
  at_ : u = .int .i64 (i : Int)
  hi : i ≤ n
  raw : RawR wr g v n G
  best : Best G i x
  below : Below w.heap.size w wr
  m0 : wr.cell? ⟨z, 0, none⟩ = some (.int .i64 x.1)
  m1 : wr.cell? ⟨z, 1, none⟩ = some (.int .i64 x.2)
  q0 : wr.frozen? ⟨z, 0, none⟩ = false
  q1 : wr.frozen? ⟨z, 1, none⟩ = false
  r0 : wr.cell? ⟨y, 0, none⟩ = some (.int .i64 0)
  r1 : wr.cell? ⟨y, 1, none⟩ = some (.int .i64 0)
  p0 : wr.frozen? ⟨y, 0, none⟩ = false
  p1 : wr.frozen? ⟨y, 1, none⟩ = false
  zl : z < wr.heap.size

theorem cell_alloc' {w : World} {y : Nat} (h : y < w.heap.size) (o : Obj) (i : Nat) : (w.alloc o).cell? ⟨y, i, none⟩ = w.cell? ⟨y, i, none⟩ := World.cell?_of_block (w := w) (Below.heap_alloc _ _ y h)
theorem frozen_alloc' {w : World} {y : Nat} (h : y < w.heap.size) (o : Obj) (i : Nat) : (w.alloc o).frozen? ⟨y, i, none⟩ = w.frozen? ⟨y, i, none⟩ := World.frozen?_of_block (w := w) (Below.heap_alloc _ _ y h)
theorem cell_far' {w : World} {y z : Nat} (h : y ≠ z) (j : Nat) (u : Value) (i : Nat) : (w.setCell ⟨z, j, none⟩ u).cell? ⟨y, i, none⟩ = w.cell? ⟨y, i, none⟩ := World.cell?_of_block (w := w) (Below.heap_setCell w ⟨z, j, none⟩ u y h)
theorem frozen_far' {w : World} {y z : Nat} (h : y ≠ z) (j : Nat) (u : Value) (i : Nat) : (w.setCell ⟨z, j, none⟩ u).frozen? ⟨y, i, none⟩ = w.frozen? ⟨y, i, none⟩ := World.frozen?_of_block (w := w) (Below.heap_setCell w ⟨z, j, none⟩ u y h)

theorem LRel.skip {w wr : World} {y z g n i : Nat} {v u : Value} {G : Nat → It} {x : It} (h : LRel w y z g v n G u wr i x) (hy : y < z) (hi : i + 1 ≤ n) (nb : Best G (i + 1) x) (o : Obj) : LRel w y z g v n G (.int .i64 ((i + 1 : Nat) : Int)) (wr.alloc o) (i + 1) x :=
  have yl : y < wr.heap.size := Nat.lt_trans hy h.zl
  ⟨rfl, hi, h.raw.alloc o, nb, h.below.alloc h.below.size o, (cell_alloc' h.zl o 0).trans h.m0, (cell_alloc' h.zl o 1).trans h.m1, (frozen_alloc' h.zl o 0).trans h.q0, (frozen_alloc' h.zl o 1).trans h.q1,
    (cell_alloc' yl o 0).trans h.r0, (cell_alloc' yl o 1).trans h.r1, (frozen_alloc' yl o 0).trans h.p0, (frozen_alloc' yl o 1).trans h.p1, by have := h.zl; simp; omega⟩
theorem LRel.take {w wr : World} {y z g n i : Nat} {v u : Value} {G : Nat → It} {x t : It} (h : LRel w y z g v n G u wr i x) (hy : y < z) (hz : w.heap.size ≤ z) (hf : ∀ k, RowFoot g v k → k < y) (hi : i + 1 ≤ n) (nb : Best G (i + 1) t) (o : Obj) :
    LRel w y z g v n G (.int .i64 ((i + 1 : Nat) : Int)) (((wr.setCell ⟨z, 0, none⟩ (.int .i64 t.1)).setCell ⟨z, 1, none⟩ (.int .i64 t.2)).alloc o) (i + 1) t := by
  have ne : y ≠ z := by omega
  have R2 : RawR ((wr.setCell ⟨z, 0, none⟩ (.int .i64 t.1)).setCell ⟨z, 1, none⟩ (.int .i64 t.2)) g v n G := h.raw.keep fun k q => by
    have hk : k ≠ z := by have := hf k q; omega
    rw [Below.heap_setCell _ ⟨z, 1, none⟩ _ k hk, Below.heap_setCell _ ⟨z, 0, none⟩ _ k hk]
  have sz : ((wr.setCell ⟨z, 0, none⟩ (.int .i64 t.1)).setCell ⟨z, 1, none⟩ (.int .i64 t.2)).heap.size = wr.heap.size := by rw [size_set, size_set]
  have h2 : LRel w y z g v n G (.int .i64 (i : Int)) ((wr.setCell ⟨z, 0, none⟩ (.int .i64 t.1)).setCell ⟨z, 1, none⟩ (.int .i64 t.2)) i t → LRel w y z g v n G (.int .i64 ((i + 1 : Nat) : Int)) (((wr.setCell ⟨z, 0, none⟩ (.int .i64 t.1)).setCell ⟨z, 1, none⟩ (.int .i64 t.2)).alloc o) (i + 1) t := fun q => q.skip hy hi nb o
  have m0' : ((wr.setCell ⟨z, 0, none⟩ (.int .i64 t.1)).setCell ⟨z, 1, none⟩ (.int .i64 t.2)).cell? ⟨z, 0, none⟩ = some (.int .i64 t.1) := by
    have := h.m0; have := h.m1
    simp [go_sem, *]
  have m1' : ((wr.setCell ⟨z, 0, none⟩ (.int .i64 t.1)).setCell ⟨z, 1, none⟩ (.int .i64 t.2)).cell? ⟨z, 1, none⟩ = some (.int .i64 t.2) := by
    have := h.m0; have := h.m1
    simp [go_sem, *]
  have yl : y < ((wr.setCell ⟨z, 0, none⟩ (.int .i64 t.1)).setCell ⟨z, 1, none⟩ (.int .i64 t.2)).heap.size := by have := h.zl; omega
  have zl : z < ((wr.setCell ⟨z, 0, none⟩ (.int .i64 t.1)).setCell ⟨z, 1, none⟩ (.int .i64 t.2)).heap.size := by have := h.zl; omega
  have q0' : ∀ j, ((wr.setCell ⟨z, 0, none⟩ (.int .i64 t.1)).setCell ⟨z, 1, none⟩ (.int .i64 t.2)).frozen? ⟨z, j, none⟩ = wr.frozen? ⟨z, j, none⟩ := by
    intro j; rw [World.frozen?_setCell, World.frozen?_setCell]
  refine ⟨rfl, hi, R2.alloc o, nb, ((h.below.setCell (p := ⟨z, 0, none⟩) hz _).setCell (p := ⟨z, 1, none⟩) hz _).alloc (by have := h.below.size; omega) o, (cell_alloc' zl o 0).trans m0', (cell_alloc' zl o 1).trans m1', (frozen_alloc' zl o 0).trans ((q0' 0).trans h.q0), (frozen_alloc' zl o 1).trans ((q0' 1).trans h.q1), ?_, ?_, ?_, ?_, by simp; omega⟩
  · rw [cell_alloc' yl, cell_far' ne, cell_far' ne]; exact h.r0
  · rw [cell_alloc' yl, cell_far' ne, cell_far' ne]; exact h.r1
  · rw [frozen_alloc' yl, frozen_far' ne, frozen_far' ne]; exact h.p0
  · rw [frozen_alloc' yl, frozen_far' ne, frozen_far' ne]; exact h.p1

theorem Best.least {n : Nat} {G : Nat → It} {f : Int → Option Int} {x : It} (h : Rep n G f) (b : Best G n x) : LeastIs f n x (decide (0 < n)) := by
  rcases b with ⟨rfl, rfl⟩ | ⟨j, hj, rfl, hm⟩
  · exact .inr ⟨rfl, by simp, rfl⟩
  · refine .inl ⟨by omega, by simp; omega, h.there j hj, fun k r hk => ?_⟩
    obtain ⟨c, hc, e⟩ := h.all k r hk
    rw [← e]; exact hm c hc

set_option maxHeartbeats 1600000 in
theorem leastR_any (w : World) (g : Nat) (F : Nat → Prop) (f : Int → Option Int) (n : Nat) (h : RefIs w g F f n) :
    Calls Try.prog 24 #[.pointer (some ⟨g, 0, none⟩)] w (LeastPost w f n) := by
  obtain ⟨v, G, h1, h2, h3, rfl⟩ := h
  have hn := h2.le h3
  obtain ⟨cap, ad, rfl⟩ := row_form h1.row
  go_enter Try.func24, Try.ntmps24
  go_wp2_with fail
  obtain ⟨W0, hW0⟩ : ∃ W, W = (w.alloc (.cells #[.int .i64 0, .int .i64 0] 31)).alloc (.cells #[.int .i64 0, .int .i64 0] 31) := ⟨_, rfl⟩
  rw [← hW0]
  have L0 : LRel w w.heap.size (w.heap.size + 1) g (.slice ad n cap) n G (.int .i64 0) W0 0 (0, 0) := by
    have hz : (w.alloc (.cells #[.int .i64 0, .int .i64 0] 31)).heap.size = w.heap.size + 1 := by simp
    have hy : W0.heap[w.heap.size]? = some (.cells #[.int .i64 0, .int .i64 0] 31 (0, 0)) := by rw [hW0]; exact blk_alloc (heap_alloc_new w _)
    have hz2 : W0.heap[w.heap.size + 1]? = some (.cells #[.int .i64 0, .int .i64 0] 31 (0, 0)) := by rw [hW0, ← hz]; exact heap_alloc_new _ _
    refine ⟨rfl, Nat.zero_le _, ?_, .inl ⟨rfl, rfl⟩, ?_, (blk_cell hz2 0).trans rfl, (blk_cell hz2 1).trans rfl, blk_frozen hz2 0, blk_frozen hz2 1, (blk_cell hy 0).trans rfl, (blk_cell hy 1).trans rfl, blk_frozen hy 0, blk_frozen hy 1, blk_lt hz2⟩
    · rw [hW0]; exact (h1.alloc _).alloc _
    · rw [hW0]; exact ((Below.refl _ _).alloc (Nat.le_refl _) _).alloc (by simp) _
  have gy : ∀ k, RowFoot g (.slice ad n cap) k → k < w.heap.size := fun k q => h1.foot_lt q
  obtain ⟨y, hy⟩ : ∃ y, y = w.heap.size := ⟨_, rfl⟩
  have hyle : w.heap.size ≤ y := by omega
  rw [← hy] at L0 gy ⊢
  clear hW0 h1 hy
  go_loopw [5] (fun u wr => ∃ i x, LRel w y (y + 1) g (.slice ad n cap) n G u wr i x) (fun u _ => n - (intOf u).toNat)
  case atStart => exact ⟨0, (0, 0), L0⟩
  case round =>
    obtain ⟨i, x, hR⟩ := hrel
    obtain ⟨rfl, hi, R, hb, B, m0, m1, q0, q1, r0, r1, p0, p1, zl⟩ := id hR
    clear L0
    have c0 := R.c0
    have hgl := R.glt
    by_cases hlt : i < n
    · obtain ⟨b, cap', e, hbl⟩ := R.row.form (by omega)
      simp only [Value.slice.injEq] at e
      obtain ⟨rfl, _, rfl⟩ := e
      have k0 := R.row.key hlt
      have k1 := R.row.rank hlt
      have d1 : (i : Int) < (n : Int) := by omega
      have hbig : Best G i x → (i = 0 ∨ lessB (G i) x = true) → Best G (i + 1) (G i) := by
        intro hb hd
        refine .inr ⟨i, by omega, rfl, fun c hc => ?_⟩
        by_cases e : c = i
        · subst e; exact le_refl _
        · rcases hb with ⟨rfl, _⟩ | ⟨j, hj, rfl, hm⟩
          · omega
          · rcases hd with hd | hd
            · omega
            · exact le_trans (le_of_less hd) (hm c (by omega))
      have hsmall : Best G i x → ¬ i = 0 → lessB (G i) x = false → Best G (i + 1) x := by
        intro hb h0 hd
        rcases hb with ⟨q, _⟩ | ⟨j, hj, rfl, hm⟩
        · exact absurd q h0
        · refine .inr ⟨j, by omega, rfl, fun c hc => ?_⟩
          by_cases e : c = i
          · subst e; exact lessB_false.1 hd
          · exact hm c (by omega)
      obtain ⟨t, ht⟩ : ∃ t, t = G i := ⟨_, rfl⟩
      rw [← ht] at k0 k1 hbig hsmall
      clear ht
      have hyz : y < wr.heap.size := by omega
      have hway : (i = 0) ∨ (¬ i = 0 ∧ t.2 < x.2) ∨ (¬ i = 0 ∧ ¬ t.2 < x.2 ∧ t.2 = x.2 ∧ t.1 < x.1) ∨ (¬ i = 0 ∧ ¬ t.2 < x.2 ∧ t.2 = x.2 ∧ ¬ t.1 < x.1) ∨ (¬ i = 0 ∧ ¬ t.2 < x.2 ∧ ¬ t.2 = x.2) := by omega
      have hs1 : ∀ j : Nat, ((j : Int) + 1) = ((j + 1 : Nat) : Int) := fun j => by omega
      have HS1 := Lib.hid hs1
      clear hs1
      rcases hway with a1 | ⟨a1, a2⟩ | ⟨a1, a2, a3, a4⟩ | ⟨a1, a2, a3, a4⟩ | ⟨a1, a2, a3⟩
      · have e1 : ((i : Int) == 0) = true := by simp; omega
        have nb := hbig hb (.inl a1)
        have nxt := hR.take (by omega) (by omega) gy (by omega) nb (.cells #[.int .i64 t.1, .int .i64 t.2] 31)
        clear a1 hbig hsmall hb nb hR
        go_wp2_with fail
        go_roundw
        case rel => exact ⟨i + 1, t, by rw [HS1.out]; exact nxt⟩
        case measure => simp [intOf]; omega
      · have e1 : ((i : Int) == 0) = false := by simp; omega
        have e2 : decide (t.2 < x.2) = true := by simpa using a2
        have nb := hbig hb (.inr (lessB_true.2 (by unfold le; omega)))
        have nxt := hR.take (by omega) (by omega) gy (by omega) nb (.cells #[.int .i64 t.1, .int .i64 t.2] 31)
        clear a1 a2 hbig hsmall hb nb hR
        go_wp2_with fail
        go_roundw
        case rel => exact ⟨i + 1, t, by rw [HS1.out]; exact nxt⟩
        case measure => simp [intOf]; omega
      · have e1 : ((i : Int) == 0) = false := by simp; omega
        have e2 : decide (t.2 < x.2) = false := by simpa using a2
        have e3 : (t.2 == x.2) = true := by simp [a3]
        have e4 : decide (t.1 < x.1) = true := by simpa using a4
        have nb := hbig hb (.inr (lessB_true.2 (by unfold le; omega)))
        have nxt := hR.take (by omega) (by omega) gy (by omega) nb (.cells #[.int .i64 t.1, .int .i64 t.2] 31)
        clear a1 a2 a3 a4 hbig hsmall hb nb hR
        go_wp2_with fail
        go_roundw
        case rel => exact ⟨i + 1, t, by rw [HS1.out]; exact nxt⟩
        case measure => simp [intOf]; omega
      · have e1 : ((i : Int) == 0) = false := by simp; omega
        have e2 : decide (t.2 < x.2) = false := by simpa using a2
        have e3 : (t.2 == x.2) = true := by simp [a3]
        have e4 : decide (t.1 < x.1) = false := by simpa using a4
        have nb := hsmall hb a1 (lessB_false.2 (by unfold le; omega))
        have nxt := hR.skip (by omega) (by omega) nb (.cells #[.int .i64 t.1, .int .i64 t.2] 31)
        clear a1 a2 a3 a4 hbig hsmall hb nb hR
        go_wp2_with fail
        go_roundw
        case rel => exact ⟨i + 1, x, by rw [HS1.out]; exact nxt⟩
        case measure => simp [intOf]; omega
      · have e1 : ((i : Int) == 0) = false := by simp; omega
        have e2 : decide (t.2 < x.2) = false := by simpa using a2
        have e3 : (t.2 == x.2) = false := by simpa using a3
        have nb := hsmall hb a1 (lessB_false.2 (by unfold le; omega))
        have nxt := hR.skip (by omega) (by omega) nb (.cells #[.int .i64 t.1, .int .i64 t.2] 31)
        clear a1 a2 a3 hbig hsmall hb nb hR
        go_wp2_with fail
        go_roundw
        case rel => exact ⟨i + 1, x, by rw [HS1.out]; exact nxt⟩
        case measure => simp [intOf]; omega
    · obtain rfl : i = n := by omega
      have hL := hb.least h2
      have hyl : y < wr.heap.size := by omega
      have d1 : ¬ (i : Int) < (i : Int) := by omega
      clear hR hb hlt
      go_upto_region 8 with fail
      have gny : g ≠ y := by have := gy g (.inl rfl); omega
      have yng : y ≠ g := by have := gy g (.inl rfl); omega
      have cs : ((wr.setCell ⟨y, 0, none⟩ (.int .i64 x.1)).setCell ⟨y, 1, none⟩ (.int .i64 x.2)).cell? ⟨g, 0, none⟩ = some (.slice ad i cap) := by rw [cell_far' gny, cell_far' gny]; exact c0
      go_region
      go_wp2_with fail
      refine bodyPost_ret (v := .tuple #[.agg #[.int .i64 x.1, .int .i64 x.2], .bool (decide (0 < i))]) ?_ rfl ?_
      · simp [results, Try.results24, go_sem, r0, r1]
      exact ⟨x, _, rfl, hL, ((B.setCell (p := ⟨y, 0, none⟩) hyle _).setCell (p := ⟨y, 1, none⟩) hyle _).drew⟩
end Go.Proofs.Ytnbemaijhmgooaa.Hp
