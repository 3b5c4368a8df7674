/- The walk of HeapLeast: the least item is what is taken next; asked for, it stays. -/
import Derived.Test.YtnbemaijhmgooaaHpC
namespace Go.Proofs.Ytnbemaijhmgooaa.Hp
open Go.RowKit Go.Maps Go.Proofs
set_option linter.unusedVariables false
set_option linter.unusedSimpArgs false

set_option maxHeartbeats 1600000 in
theorem least_walk (A : Option Addr) (len cap : Nat) (zs : List Int) (w : World) (ha : ArgIs w A len zs) (hl : len ≤ 9223372036854775807) :
    Calls Try.prog 5 #[.slice A len cap] w fun e w' => e = .returned (.bool true) ∧ Below w.heap.size w w' := by
  go_enter Try.func5, Try.ntmps5
  go_wp2_with fail
  refine (known_any _).mono ?_
  rintro e w1 ⟨rfl, b1⟩
  go_wp2_with fail
  refine (new_any _).mono ?_
  rintro e w2 ⟨g, F, rfl, h2, hF, b2⟩
  have O2 : Own w g (fun _ => True) w2 F (fun _ => none) 0 := Own.start h2 b1 hF b2 trivial
  clear h2 hF b1 b2
  go_wp2_with fail
  go_loopw [4] (fun u wr => ∃ (i : Nat) (F : Nat → Prop) (f : Int → Option Int) (n : Nat), u = .int .i64 (i : Int) ∧ i ≤ len ∧ Own w g (fun _ => True) wr F f n) (fun u _ => len - (intOf u).toNat)
  case atStart => exact ⟨0, F, _, 0, rfl, Nat.zero_le _, O2⟩
  case round =>
    obtain ⟨i, F, f, n, rfl, hi, O⟩ := hrel
    clear O2
    by_cases hlt : i < len ∧ i < 60
    · obtain ⟨h1, h3⟩ := hlt
      obtain ⟨x, rfl, hx, hzl, hc⟩ := ha (by omega)
      have c0 := (hc i h1).1
      have sm := (hc i h1).2
      have cr : wr.cell? (x.add i) = some (.int .i64 (zs.getD i 0)) := (O.below.cell (by rw [block_add]; exact hx)).trans c0
      clear c0 hc
      have d1 : (i : Int) < (len : Int) := by omega
      have d2 : (i : Int) < 60 := by omega
      go_wp2_with fail
      refine (within_any _ (zs.getD i 0) 1073741824 sm (by omega) (by omega)).mono ?_
      rintro e w3 ⟨rfl, rfl⟩
      have m1 := Int.emod_nonneg (zs.getD i 0) (b := 1073741824) (by omega)
      have m2 := Int.emod_lt_of_pos (zs.getD i 0) (b := 1073741824) (by omega)
      generalize (zs.getD i 0 % 1073741824) = a at *
      go_wp2_with fail
      refine (put_any _ g F f n _ _ O.heap (by unfold Key; omega)).mono ?_
      rintro e w4 ⟨rfl, F4, h4, hF4, T4⟩
      have O4 := O.turned (Q' := fun _ => True) h4 hF4 T4 trivial
      clear h4 hF4 T4 O cr sm m1 m2
      go_wp2_with fail
      go_roundw
      case rel => exact ⟨i + 1, _, _, _, by simp, by omega, O4⟩
      case measure => simp [intOf]; omega
    · have hlt2 : ¬ ((i : Int) < (len : Int)) ∨ (i : Int) < (len : Int) ∧ ¬ ((i : Int) < 60) := by omega
      clear hlt ha
      have hn3 := O.heap.le
      rcases hlt2 with d1 | ⟨d1, d2⟩
      all_goals
        go_wp2_with fail
        refine (len_any _ g F f n O.heap).mono ?_
        rintro e w5 ⟨rfl, rfl⟩
        go_wp2_with fail
        refine (least_any _ g F f n O.heap).mono ?_
        rintro e w6 ⟨x, p, rfl, hx, b6⟩
        have O6 := (O.later b6).later ((Below.refl _ w6).alloc (Nat.le_refl _) (.cells #[.int .i64 x.1, .int .i64 x.2] 31))
        have x0 : (w6.alloc (.cells #[.int .i64 x.1, .int .i64 x.2] 31)).cell? ⟨w6.heap.size, 0, none⟩ = some (.int .i64 x.1) := new_cell rfl _ _ _ 0
        have x1 : (w6.alloc (.cells #[.int .i64 x.1, .int .i64 x.2] 31)).cell? ⟨w6.heap.size, 1, none⟩ = some (.int .i64 x.2) := new_cell rfl _ _ _ 1
        have xl : w6.heap.size < (w6.alloc (.cells #[.int .i64 x.1, .int .i64 x.2] 31)).heap.size := by simp
        have xF : ¬ F w6.heap.size := fun q => by have := (O.later b6).heap.lt q; omega
        clear O b6
        go_wp2_with fail
        generalize (w6.alloc (.cells #[.int .i64 x.1, .int .i64 x.2] 31)) = w7 at *
        generalize w6.heap.size = y at *
        refine (least_any _ g F f n O6.heap).mono ?_
        rintro e w8 ⟨x', p', rfl, hx', b8⟩
        have O8 := (O6.later b8).later ((Below.refl _ w8).alloc (Nat.le_refl _) (.cells #[.int .i64 x'.1, .int .i64 x'.2] 31))
        have b8' := b8.alloc b8.size (.cells #[.int .i64 x'.1, .int .i64 x'.2] 31)
        have y0 := (b8'.cell (p := ⟨y, 0, none⟩) xl).trans x0
        have y1 := (b8'.cell (p := ⟨y, 1, none⟩) xl).trans x1
        have yl := Nat.lt_of_lt_of_le xl b8'.size
        have z0 : (w8.alloc (.cells #[.int .i64 x'.1, .int .i64 x'.2] 31)).cell? ⟨w8.heap.size, 0, none⟩ = some (.int .i64 x'.1) := new_cell rfl _ _ _ 0
        have z1 : (w8.alloc (.cells #[.int .i64 x'.1, .int .i64 x'.2] 31)).cell? ⟨w8.heap.size, 1, none⟩ = some (.int .i64 x'.2) := new_cell rfl _ _ _ 1
        have zl : w8.heap.size < (w8.alloc (.cells #[.int .i64 x'.1, .int .i64 x'.2] 31)).heap.size := by simp
        have zF : ¬ F w8.heap.size := fun q => by have := (O6.later b8).heap.lt q; omega
        clear x0 x1 xl O6 b8 b8'
        go_wp2_with fail
        generalize (w8.alloc (.cells #[.int .i64 x'.1, .int .i64 x'.2] 31)) = w9 at *
        generalize w8.heap.size = z at *
        refine (take_any _ g F f n O8.heap).mono ?_
        rintro e w10 ⟨x'', p'', rfl, hx'', F10, h10, hF10, T10⟩
        have O10 := (O8.turned (Q' := fun _ => True) h10 hF10 T10 trivial).later ((Below.refl _ w10).alloc (Nat.le_refl _) (.cells #[.int .i64 x''.1, .int .i64 x''.2] 31))
        have y2 := (cell_turn (i := 0) T10 yl xF).trans y0
        have y3 := (cell_turn (i := 1) T10 yl xF).trans y1
        have z2 := (cell_turn (i := 0) T10 zl zF).trans z0
        have z3 := (cell_turn (i := 1) T10 zl zF).trans z1
        have yl2 := Nat.lt_of_lt_of_le yl T10.size
        have zl2 := Nat.lt_of_lt_of_le zl T10.size
        clear y0 y1 z0 z1 yl zl xF zF T10 hF10 h10 O8
        by_cases hn : n = 0
        · subst hn
          obtain ⟨rfl, rfl⟩ := hx.no
          obtain ⟨rfl, rfl⟩ := hx'.no
          obtain ⟨rfl, rfl⟩ := hx''.no
          clear hx hx' hx''
          go_wp2_with fail
          refine (len_any _ g F10 _ _ O10.heap).mono ?_
          rintro e w11 ⟨rfl, rfl⟩
          go_wp2
          go_ret
          exact ⟨rfl, O10.below⟩
        · obtain ⟨rfl, q1⟩ := hx.yes (by omega)
          obtain ⟨rfl, q2⟩ := hx'.yes (by omega)
          obtain ⟨rfl, q3⟩ := hx''.yes (by omega)
          obtain rfl := q1.one q2
          obtain rfl := q1.one q3
          clear hx hx' hx'' q1 q2 q3
          have hn0 : (0 : Int) < (n : Int) := by omega
          have hn1 : ((n - 1 : Nat) : Int) = (n : Int) - 1 := by omega
          have HN1 := Lib.hid hn1
          clear hn1
          have hm : max ((n : Int) - 1) 0 = (n : Int) - 1 := by omega
          go_wp2_with fail
          refine (len_any _ g F10 _ _ O10.heap).mono ?_
          rintro e w11 ⟨rfl, rfl⟩
          rw [HN1.out]
          go_wp2
          go_ret
          exact ⟨by simp, O10.below⟩
end Go.Proofs.Ytnbemaijhmgooaa.Hp
