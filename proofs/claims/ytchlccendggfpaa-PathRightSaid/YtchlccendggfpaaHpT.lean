/- Walks: the least one taken. -/
import Derived.Test.YtchlccendggfpaaHpD
namespace Go.Proofs.Ytchlccendggfpaa.Hp
open Go.RowKit Go.Maps Go.Proofs
set_option linter.unusedVariables false
set_option linter.unusedSimpArgs false

def TakePost (w : World) (g : Nat) (F : Nat → Prop) (f : Int → Option Int) (n : Nat) (e : Ending) (w' : World) : Prop :=
  ∃ x is, e = .returned (.tuple #[.agg #[.int .i64 x.1, .int .i64 x.2], .bool is]) ∧ LeastIs f n x is ∧ Next w g F (if is then upd f x.1 none else f) (n - 1) w'

theorem take_any (w : World) (g : Nat) (F : Nat → Prop) (f : Int → Option Int) (n : Nat) (h : HeapIs w g F f n) :
    Calls Try.prog 30 #[.pointer (some ⟨g, 0, none⟩)] w (TakePost w g F f n) := by
  go_enter Try.func30, Try.ntmps30
  go_wp2_with fail
  have hB0 : Below w.heap.size w (w.alloc (.cells #[.int .i64 0, .int .i64 0] 52)) := (Below.refl _ _).alloc (Nat.le_refl _) _
  have hz0 : (w.alloc (.cells #[.int .i64 0, .int .i64 0] 52)).heap.size = w.heap.size + 1 := by simp
  have HZ0 := Lib.hid hz0
  clear hz0
  have h0 := h.below hB0
  refine (least_any _ g F f n h0).mono ?_
  rintro e w1 ⟨x, is, rfl, hL, hb1⟩
  have h1 := h0.below hb1
  have r0 := hb1.cell (p := ⟨w.heap.size, 0, none⟩) (by rw [HZ0.out]; exact Nat.lt_succ_self _)
  have r1 := hb1.cell (p := ⟨w.heap.size, 1, none⟩) (by rw [HZ0.out]; exact Nat.lt_succ_self _)
  have r2 := hb1.frozen (p := ⟨w.heap.size, 0, none⟩) (by rw [HZ0.out]; exact Nat.lt_succ_self _)
  have r3 := hb1.frozen (p := ⟨w.heap.size, 1, none⟩) (by rw [HZ0.out]; exact Nat.lt_succ_self _)
  have r4 : w.heap.size < w1.heap.size := Nat.lt_of_lt_of_le (by rw [HZ0.out]; exact Nat.lt_succ_self _) hb1.size
  have T1 : Turn F w w1 := (Turn.of_below hB0 (fun k hk _ => hk)).trans (Turn.of_below (F := fun _ => False) hb1 (fun k hk _ => hk)) (fun _ _ q => q.elim)
  rcases hL with ⟨hn, rfl, hl⟩ | ⟨rfl, rfl, rfl⟩
  · have q0 : w1.cell? ⟨w.heap.size, 0, none⟩ = some (.int .i64 0) := r0.trans (new_cell rfl _ _ _ 0)
    have q1 : w1.cell? ⟨w.heap.size, 1, none⟩ = some (.int .i64 0) := r1.trans (new_cell rfl _ _ _ 1)
    have q2 : w1.frozen? ⟨w.heap.size, 0, none⟩ = false := r2.trans (blk_frozen (heap_alloc_new w _) 0)
    have q3 : w1.frozen? ⟨w.heap.size, 1, none⟩ = false := r3.trans (blk_frozen (heap_alloc_new w _) 1)
    clear r0 r1 r2 r3 hb1 hB0 HZ0 h0
    obtain ⟨y, hy⟩ : ∃ y, y = w.heap.size := ⟨_, rfl⟩
    have yF : ¬ F y := fun q => by have := h.lt q; omega
    rw [← hy] at q0 q1 q2 q3 r4 ⊢
    have hyle : w.heap.size ≤ y := by omega
    clear hy
    go_wp2_with fail
    have h2 := h1.below ((Below.refl _ w1).alloc (Nat.le_refl _) (.cells #[.int .i64 x.1, .int .i64 x.2] 52))
    have T2 := T1.alloc (.cells #[.int .i64 x.1, .int .i64 x.2] 52)
    have s0 : (w1.alloc (.cells #[.int .i64 x.1, .int .i64 x.2] 52)).cell? ⟨y, 0, none⟩ = some (.int .i64 0) := (World.cell?_of_block (w := w1) (Below.heap_alloc _ _ y r4)).trans q0
    have s1 : (w1.alloc (.cells #[.int .i64 x.1, .int .i64 x.2] 52)).cell? ⟨y, 1, none⟩ = some (.int .i64 0) := (World.cell?_of_block (w := w1) (Below.heap_alloc _ _ y r4)).trans q1
    have s2 : (w1.alloc (.cells #[.int .i64 x.1, .int .i64 x.2] 52)).frozen? ⟨y, 0, none⟩ = false := (World.frozen?_of_block (w := w1) (Below.heap_alloc _ _ y r4)).trans q2
    have s3 : (w1.alloc (.cells #[.int .i64 x.1, .int .i64 x.2] 52)).frozen? ⟨y, 1, none⟩ = false := (World.frozen?_of_block (w := w1) (Below.heap_alloc _ _ y r4)).trans q3
    have z0 : (w1.alloc (.cells #[.int .i64 x.1, .int .i64 x.2] 52)).cell? ⟨w1.heap.size, 0, none⟩ = some (.int .i64 x.1) := new_cell rfl _ _ _ 0
    have z1 : (w1.alloc (.cells #[.int .i64 x.1, .int .i64 x.2] 52)).cell? ⟨w1.heap.size, 1, none⟩ = some (.int .i64 x.2) := new_cell rfl _ _ _ 1
    have zl : w1.heap.size < (w1.alloc (.cells #[.int .i64 x.1, .int .i64 x.2] 52)).heap.size := by simp
    have zF : ¬ F w1.heap.size := fun q => by have := h1.lt q; omega
    have yz : y ≠ w1.heap.size := by omega
    have ylt : y < (w1.alloc (.cells #[.int .i64 x.1, .int .i64 x.2] 52)).heap.size := Nat.lt_trans r4 zl
    clear q0 q1 q2 q3
    generalize (w1.alloc (.cells #[.int .i64 x.1, .int .i64 x.2] 52)) = w2 at *
    generalize w1.heap.size = z at *
    refine (drop_any w2 g F f n x.1 x.2 h2 hl.1).mono ?_
    rintro e w3 ⟨rfl, F', h3, hF, T3⟩
    have s4 := (cell_turn (i := 0) T3 ylt yF).trans s0
    have s5 := (cell_turn (i := 1) T3 ylt yF).trans s1
    have s6 : w3.frozen? ⟨y, 0, none⟩ = false := (World.frozen?_of_block (w := w2) (T3.block y ylt yF)).trans s2
    have s7 : w3.frozen? ⟨y, 1, none⟩ = false := (World.frozen?_of_block (w := w2) (T3.block y ylt yF)).trans s3
    have z2 := (cell_turn (i := 0) T3 zl zF).trans z0
    have z3 := (cell_turn (i := 1) T3 zl zF).trans z1
    clear s0 s1 s2 s3 z0 z1
    have T4 := T2.trans T3 fun k _ q => q
    have yF' : ∀ k, F' k → k ≠ y := by
      rintro k q rfl
      rcases hF _ q with q | q
      · exact yF q
      · omega
    go_wp2_with fail
    refine bodyPost_ret (v := .tuple #[.agg #[.int .i64 x.1, .int .i64 x.2], .bool true]) ?_ rfl ?_
    · simp [results, Try.results30, go_sem, s4, s5]
    refine ⟨x, true, rfl, .inl ⟨hn, rfl, hl⟩, F', ?_, fun k q => ?_, ?_⟩
    · exact h3.keep fun k hk => by rw [Below.heap_setCell _ _ _ _ (yF' k hk), Below.heap_setCell _ _ _ _ (yF' k hk)]
    · rcases hF k q with q | q
      · exact .inl q
      · exact .inr (Nat.le_trans T2.size q)
    · exact (T4.setCell (p := ⟨y, 0, none⟩) (.inr hyle) _).setCell (p := ⟨y, 1, none⟩) (.inr hyle) _
  · have q0 : w1.cell? ⟨w.heap.size, 0, none⟩ = some (.int .i64 0) := r0.trans (new_cell rfl _ _ _ 0)
    have q1 : w1.cell? ⟨w.heap.size, 1, none⟩ = some (.int .i64 0) := r1.trans (new_cell rfl _ _ _ 1)
    have q2 : w1.frozen? ⟨w.heap.size, 0, none⟩ = false := r2.trans (blk_frozen (heap_alloc_new w _) 0)
    have q3 : w1.frozen? ⟨w.heap.size, 1, none⟩ = false := r3.trans (blk_frozen (heap_alloc_new w _) 1)
    clear r0 r1 r2 r3 hb1 hB0 HZ0 h0
    obtain ⟨y, hy⟩ : ∃ y, y = w.heap.size := ⟨_, rfl⟩
    have yF : ¬ F y := fun q => by have := h.lt q; omega
    rw [← hy] at q0 q1 q2 q3 r4 ⊢
    have hyle : w.heap.size ≤ y := by omega
    clear hy
    go_wp2_with fail
    refine bodyPost_ret (v := .tuple #[.agg #[.int .i64 0, .int .i64 0], .bool false]) ?_ rfl ?_
    · simp [results, Try.results30, go_sem, q0, q1, r4]
    have hFy : ∀ k, F k → k ≠ y := by rintro k q rfl; exact yF q
    refine ⟨(0, 0), false, rfl, .inr ⟨rfl, rfl, rfl⟩, F, ?_, fun k q => .inl q, ?_⟩
    · exact (h1.keep fun k hk => by rw [Below.heap_setCell _ _ _ _ (hFy k hk), Below.heap_setCell _ _ _ _ (hFy k hk)]).below ((Below.refl _ _).alloc (Nat.le_refl _) _)
    · exact ((T1.setCell (p := ⟨y, 0, none⟩) (.inr hyle) _).setCell (p := ⟨y, 1, none⟩) (.inr hyle) _).alloc _
end Go.Proofs.Ytchlccendggfpaa.Hp
