/- The walk of HeapPlays: whatever is put, taken, dropped, asked, in any order, is answered as the reference answers. -/
import Derived.Test.YtnbemaijhmgooaaHpStep
namespace Go.Proofs.Ytnbemaijhmgooaa.Hp
open Go.RowKit Go.Maps Go.Proofs
set_option linter.unusedVariables false
set_option linter.unusedSimpArgs false

theorem Two.start {w w1 w2 wr : World} {g x : Nat} {F X : Nat → Prop} (b1 : Below w.heap.size w w1) (h : HeapIs w2 g F (fun _ => none) 0) (hF : ∀ k, F k → w1.heap.size ≤ k) (b2 : Below w1.heap.size w1 w2) (hx : RefIs wr x X (fun _ => none) 0)
    (hX : ∀ k, X k → w2.heap.size ≤ k) (b3 : Below w2.heap.size w2 wr) : Two w g x wr F (fun _ => none) 0 X (fun _ => none) 0 :=
  ⟨h.below b3, hx, fun k hf hx' => by have := h.lt hf; have := hX k hx'; omega, fun k q => Nat.le_trans b1.size (hF k q), fun k q => Nat.le_trans b1.size (Nat.le_trans b2.size (hX k q)), (b1.trans (b2.mono b1.size)).trans (b3.mono (Nat.le_trans b1.size b2.size))⟩

set_option maxRecDepth 100000 in
set_option maxHeartbeats 6400000 in
theorem plays_walk (A : Option Addr) (len cap : Nat) (zs : List Int) (raw : Int) (w : World) (ha : ArgIs w A len zs) (hl : len ≤ 9223372036854775807) (wr : Small raw) :
    Calls Try.prog 7 #[.slice A len cap, .int .i64 raw] w fun e w' => e = .returned (.bool true) ∧ Below w.heap.size w w' := by
  have hraw := wr
  clear wr
  go_enter Try.func7, Try.ntmps7
  go_wp2_with fail
  refine (known_any _).mono ?_
  rintro e w1 ⟨rfl, b1⟩
  go_wp2_with fail
  refine (new_any _).mono ?_
  rintro e w2 ⟨g, F, rfl, h2, hF, b2⟩
  go_wp2_with fail
  refine (newR_any _).mono ?_
  rintro e w3 ⟨x, X, rfl, h3, hX, b3⟩
  have O3 := Two.start b1 h2 hF b2 h3 hX b3
  clear h2 hF b1 b2 h3 hX b3
  go_wp2_with fail
  go_loopw [7] (fun u wr => ∃ (i : Nat) (F : Nat → Prop) (f : Int → Option Int) (n : Nat) (X : Nat → Prop), u = .int .i64 (i : Int) ∧ i ≤ len ∧ Two w g x wr F f n X f n) (fun u _ => len - (intOf u).toNat)
  case atStart => exact ⟨0, F, _, 0, X, rfl, Nat.zero_le _, O3⟩
  case round =>
    obtain ⟨i, F, f, n, X, rfl, hi, O⟩ := hrel
    clear O3
    by_cases hlt : i < len ∧ i < 120
    · obtain ⟨h1, h3⟩ := hlt
      obtain ⟨y, rfl, hx, hzl, hc⟩ := ha (by omega)
      have c0 := (hc i h1).1
      have sm := (hc i h1).2
      have cr : wr.cell? (y.add i) = some (.int .i64 (zs.getD i 0)) := (O.below.cell (by rw [block_add]; exact hx)).trans c0
      clear c0 hc
      have d1 : (i : Int) < (len : Int) := by omega
      have d2 : (i : Int) < 120 := by omega
      go_wp2_with fail
      refine (within_any _ (zs.getD i 0) 1099511627776 sm (by omega) (by omega)).mono ?_
      rintro e w4 ⟨rfl, rfl⟩
      have m1 := Int.emod_nonneg (zs.getD i 0) (b := 1099511627776) (by omega)
      have m2 := Int.emod_lt_of_pos (zs.getD i 0) (b := 1099511627776) (by omega)
      generalize (zs.getD i 0 % 1099511627776) = k at *
      go_wp2_with fail
      refine (step_any w g x wr F f n X k raw O ⟨m1, m2⟩ hraw).mono ?_
      rintro e w5 ⟨rfl, F5, f5, n5, X5, O5⟩
      clear O cr sm m1 m2
      go_wp2_with fail
      refine (len_any _ g F5 f5 n5 O5.heap).mono ?_
      rintro e w6 ⟨rfl, rfl⟩
      go_wp2_with fail
      refine (lenR_any _ x X5 f5 n5 O5.ref).mono ?_
      rintro e w7 ⟨rfl, rfl⟩
      have d3 : ((n5 : Int) != (n5 : Int)) = false := by simp
      go_wp2_with fail
      refine (least_any _ g F5 f5 n5 O5.heap).mono ?_
      rintro e w8 ⟨a, p, rfl, hap, b8⟩
      have O8 := (O5.later b8).later ((Below.refl _ w8).alloc (Nat.le_refl _) (.cells #[.int .i64 a.1, .int .i64 a.2] 31))
      have x0 : (w8.alloc (.cells #[.int .i64 a.1, .int .i64 a.2] 31)).cell? ⟨w8.heap.size, 0, none⟩ = some (.int .i64 a.1) := new_cell rfl _ _ _ 0
      have x1 : (w8.alloc (.cells #[.int .i64 a.1, .int .i64 a.2] 31)).cell? ⟨w8.heap.size, 1, none⟩ = some (.int .i64 a.2) := new_cell rfl _ _ _ 1
      have xl : w8.heap.size < (w8.alloc (.cells #[.int .i64 a.1, .int .i64 a.2] 31)).heap.size := by simp
      clear O5 b8
      go_wp2_with fail
      generalize (w8.alloc (.cells #[.int .i64 a.1, .int .i64 a.2] 31)) = w9 at *
      generalize w8.heap.size = z at *
      refine (leastR_any _ x X5 f5 n5 O8.ref).mono ?_
      rintro e w10 ⟨b, q, rfl, hbq, b10⟩
      obtain ⟨rfl, rfl⟩ := leastIs_one hap hbq
      have O11 := (O8.later b10).later ((Below.refl _ w10).alloc (Nat.le_refl _) (.cells #[.int .i64 a.1, .int .i64 a.2] 31))
      have y0 := (b10.cell (p := ⟨z, 0, none⟩) xl).trans x0
      have y1 := (b10.cell (p := ⟨z, 1, none⟩) xl).trans x1
      have yl := Nat.lt_of_lt_of_le xl b10.size
      clear O8 b10 x0 x1 xl hap hbq
      cases p
      all_goals
        go_wp2_with fail
        go_roundw
        case rel => exact ⟨i + 1, _, _, _, _, by simp, by omega, O11⟩
        case measure => simp [intOf]; omega
    · have hlt2 : ¬ ((i : Int) < (len : Int)) ∨ (i : Int) < (len : Int) ∧ ¬ ((i : Int) < 120) := by omega
      clear hlt ha
      rcases hlt2 with d1 | ⟨d1, d2⟩
      all_goals
        go_wp2
        go_ret
        exact ⟨rfl, O.below⟩
end Go.Proofs.Ytnbemaijhmgooaa.Hp
