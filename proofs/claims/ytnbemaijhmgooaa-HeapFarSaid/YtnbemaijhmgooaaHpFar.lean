/- The walk of HeapFar: ranks may be any numbers. -/
import Derived.Test.YtnbemaijhmgooaaHpPlays
namespace Go.Proofs.Ytnbemaijhmgooaa.Hp
open Go.RowKit Go.Maps Go.Proofs
set_option linter.unusedVariables false
set_option linter.unusedSimpArgs false

/-- a block beside both -/
structure Side (y : Nat) (o : Obj) (wr : World) (F X : Nat → Prop) : Prop where
  blk : wr.heap[y]? = some o
  notF : ¬ F y
  notX : ¬ X y
theorem Side.heap {y : Nat} {o : Obj} {wr w' : World} {F X F' : Nat → Prop} (h : Side y o wr F X) (hF : ∀ k, F' k → F k ∨ wr.heap.size ≤ k) (ht : Turn F wr w') : Side y o w' F' X :=
  ⟨(ht.block y (blk_lt h.blk) h.notF).trans h.blk, fun q => (hF y q).elim h.notF (fun e => by have := blk_lt h.blk; omega), h.notX⟩
theorem Side.ref {y : Nat} {o : Obj} {wr w' : World} {F X F' : Nat → Prop} (h : Side y o wr F X) (hF : ∀ k, F' k → X k ∨ wr.heap.size ≤ k) (ht : Turn X wr w') : Side y o w' F F' :=
  ⟨(ht.block y (blk_lt h.blk) h.notX).trans h.blk, h.notF, fun q => (hF y q).elim h.notX (fun e => by have := blk_lt h.blk; omega)⟩
theorem Side.later {y : Nat} {o : Obj} {wr w' : World} {F X : Nat → Prop} (h : Side y o wr F X) (hb : Below wr.heap.size wr w') : Side y o w' F X :=
  ⟨(hb.block y (blk_lt h.blk)).trans h.blk, h.notF, h.notX⟩

def far (a b c : Int) (i : Nat) : Int := if i = 0 then a else if i = 1 then b else if i = 2 then c else if i = 3 then -9223372036854775808 else if i = 4 then 9223372036854775807 else 0
def farCells (a b c : Int) : Array Value := #[.int .i64 a, .int .i64 b, .int .i64 c, .int .i64 (-9223372036854775808), .int .i64 9223372036854775807, .int .i64 0]
theorem far_cell (a b c : Int) (i : Nat) (hi : i < 6) : (farCells a b c)[i]? = some (.int .i64 (far a b c i)) := by
  rcases (show i = 0 ∨ i = 1 ∨ i = 2 ∨ i = 3 ∨ i = 4 ∨ i = 5 by omega) with rfl | rfl | rfl | rfl | rfl | rfl <;> rfl

theorem bump_le (f : Int → Option Int) (k : Int) (n : Nat) : bump f k n ≤ n + 1 := by unfold bump; split <;> omega

set_option maxHeartbeats 6400000 in
theorem far_walk (a b c : Int) (w : World) (wa : Small a) (wb : Small b) (wc : Small c) :
    Calls Try.prog 6 #[.int .i64 a, .int .i64 b, .int .i64 c] w fun e w' => e = .returned (.bool true) ∧ Below w.heap.size w w' := by
  go_enter Try.func6, Try.ntmps6
  go_wp2_with fail
  refine (known_any _).mono ?_
  rintro e w1 ⟨rfl, b1⟩
  go_wp2_with fail
  refine (new_any _).mono ?_
  rintro e w2 ⟨g, F, rfl, h2, hF, b2⟩
  go_wp2_with fail
  refine (newR_any _).mono ?_
  rintro e w3 ⟨x, X, rfl, h3, hX, b3⟩
  have O3 := Two.start b1 h2 hF b2 h3 hX b3
  clear h2 hF b1 b2 h3 hX b3
  go_wp2_with fail
  obtain ⟨W4, hW4⟩ : ∃ W, W = w3.alloc (.cells #[.int .i64 a, .int .i64 b, .int .i64 c, .int .i64 (-9223372036854775808), .int .i64 9223372036854775807, .int .i64 0] 3) := ⟨_, rfl⟩
  rw [← hW4]
  have O4 : Two w g x W4 F (fun _ => none) 0 X (fun _ => none) 0 := by rw [hW4]; exact O3.later ((Below.refl _ _).alloc (Nat.le_refl _) _)
  have S4 : Side w3.heap.size (.cells (farCells a b c) 3 (0, 0)) W4 F X := ⟨by rw [hW4]; exact heap_alloc_new _ _, fun q => by have := O3.heap.lt q; omega, fun q => by have := O3.ref.lt q; omega⟩
  clear hW4 O3
  generalize w3.heap.size = y at *
  go_loopw [10] (fun u wr => ∃ (i : Nat) (F : Nat → Prop) (f : Int → Option Int) (n : Nat) (X : Nat → Prop), u = .int .i64 (i : Int) ∧ i ≤ 6 ∧ n ≤ i ∧ Two w g x wr F f n X f n ∧ Side y (.cells (farCells a b c) 3 (0, 0)) wr F X) (fun u _ => 6 - (intOf u).toNat)
  case atStart => exact ⟨0, F, _, 0, X, rfl, Nat.zero_le _, Nat.zero_le _, O4, S4⟩
  case round =>
    obtain ⟨i, F, f, n, X, rfl, hi, hn, O, S⟩ := hrel
    clear O4 S4
    by_cases hlt : i < 6
    · have d1 : (i : Int) < 6 := by omega
      have c0 : wr.cell? ⟨y, i, none⟩ = some (.int .i64 (far a b c i)) := (blk_cell S.blk i).trans (far_cell a b c i hlt)
      have hk : Key (i : Int) := ⟨by omega, by omega⟩
      generalize far a b c i = r at *
      go_wp2_with fail
      refine (put_any _ g F f n i r O.heap hk).mono ?_
      rintro e w5 ⟨rfl, F5, h5, hF5, T5⟩
      have O5 := O.heapTurned h5 hF5 T5
      have S5 := S.heap hF5 T5
      have c5 : w5.cell? ⟨y, i, none⟩ = some (.int .i64 r) := (cell_turn T5 (blk_lt S.blk) S.notF).trans c0
      clear h5 hF5 T5 c0 O S
      go_wp2_with fail
      refine (putR_any _ x X f n i r O5.ref hk).mono ?_
      rintro e w6 ⟨rfl, X6, h6, hX6, T6⟩
      have O6 := O5.refTurned h6 hX6 T6
      have S6 := S5.ref hX6 T6
      clear h6 hX6 T6 c5 O5 S5
      go_wp2_with fail
      go_roundw
      case rel => exact ⟨i + 1, _, _, _, _, by simp, by omega, Nat.le_trans (bump_le _ _ _) (by omega), O6, S6⟩
      case measure => simp [intOf]; omega
    · have d1 : ¬ (i : Int) < 6 := by omega
      go_wp2_with fail
      have hn6 : n ≤ 6 - 0 := by omega
      clear S hlt hi d1 hn
      go_loopw [11] (fun u wr => ∃ (i : Nat) (F : Nat → Prop) (f : Int → Option Int) (n : Nat) (X : Nat → Prop), u = .int .i64 (i : Int) ∧ i ≤ 6 ∧ n ≤ 6 - i ∧ Two w g x wr F f n X f n) (fun u _ => 6 - (intOf u).toNat)
      case atStart => exact ⟨0, F, f, n, X, rfl, Nat.zero_le _, hn6, O⟩
      case round =>
        obtain ⟨i, F, f, n, X, rfl, hi, hn, O2⟩ := hrel
        clear O hn6
        by_cases hlt : i < 6
        · have d1 : (i : Int) < 6 := by omega
          go_wp2_with fail
          refine (take_any _ g F f n O2.heap).mono ?_
          rintro e1 w4 ⟨a, p, rfl, ha, F4, h4, hF4, T4⟩
          have h5 := (O2.heapTurned h4 hF4 T4).later ((Below.refl _ w4).alloc (Nat.le_refl _) (.cells #[.int .i64 a.1, .int .i64 a.2] 31))
          have x0 : (w4.alloc (.cells #[.int .i64 a.1, .int .i64 a.2] 31)).cell? ⟨w4.heap.size, 0, none⟩ = some (.int .i64 a.1) := new_cell rfl _ _ _ 0
          have x1 : (w4.alloc (.cells #[.int .i64 a.1, .int .i64 a.2] 31)).cell? ⟨w4.heap.size, 1, none⟩ = some (.int .i64 a.2) := new_cell rfl _ _ _ 1
          have xl : w4.heap.size < (w4.alloc (.cells #[.int .i64 a.1, .int .i64 a.2] 31)).heap.size := by simp
          have xF : ¬ X w4.heap.size := fun q => by have := (O2.heapTurned h4 hF4 T4).ref.lt q; omega
          clear h4 hF4 T4 O2
          go_wp2_with fail
          generalize (w4.alloc (.cells #[.int .i64 a.1, .int .i64 a.2] 31)) = w5 at *
          generalize w4.heap.size = z at *
          refine (takeR_any _ x X f n h5.ref).mono ?_
          rintro e2 w6 ⟨b, q, rfl, hb, X6, h6, hX6, T6⟩
          obtain ⟨rfl, rfl⟩ := leastIs_one ha hb
          have h7 := (h5.refTurned h6 hX6 T6).later ((Below.refl _ w6).alloc (Nat.le_refl _) (.cells #[.int .i64 a.1, .int .i64 a.2] 31))
          have y0 := (cell_turn (i := 0) T6 xl xF).trans x0
          have y1 := (cell_turn (i := 1) T6 xl xF).trans x1
          have yl := Nat.lt_of_lt_of_le xl T6.size
          clear h6 hX6 T6 h5 x0 x1 xl xF ha hb
          cases p
          all_goals
            go_wp2_with fail
            go_roundw
            case rel => exact ⟨i + 1, _, _, _, _, by simp, by omega, by omega, h7⟩
            case measure => simp [intOf]; omega
        · have d1 : ¬ (i : Int) < 6 := by omega
          obtain rfl : n = 0 := by omega
          go_wp2_with fail
          refine (len_any _ g F f 0 O2.heap).mono ?_
          rintro e1 w4 ⟨rfl, rfl⟩
          go_wp2
          go_ret
          exact ⟨rfl, O2.below⟩
end Go.Proofs.Ytnbemaijhmgooaa.Hp
