/- The walk of HeapDrops: what is dropped is gone; the others stay, in their order. -/
import Derived.Test.YtnbemaijhmgooaaHpPlays
namespace Go.Proofs.Ytnbemaijhmgooaa.Hp
open Go.RowKit Go.Maps Go.Proofs
set_option linter.unusedVariables false
set_option linter.unusedSimpArgs false

theorem upd_at (f : Int → Option Int) (k : Int) (v : Option Int) : upd f k v k = v := by simp [upd]

set_option maxRecDepth 100000 in
set_option maxHeartbeats 12800000 in
theorem drops_walk (A : Option Addr) (len cap : Nat) (zs : List Int) (A' : Option Addr) (len' cap' : Nat) (zs' : List Int) (w : World) (ha : ArgIs w A len zs) (hl : len ≤ 9223372036854775807) (ha' : ArgIs w A' len' zs') (hl' : len' ≤ 9223372036854775807) :
    Calls Try.prog 9 #[.slice A len cap, .slice A' len' cap'] w fun e w' => e = .returned (.bool true) ∧ Below w.heap.size w w' := by
  go_enter Try.func9, Try.ntmps9
  go_wp2_with fail
  refine (known_any _).mono ?_
  rintro e w1 ⟨rfl, b1⟩
  go_wp2_with fail
  refine (new_any _).mono ?_
  rintro e w2 ⟨g, F, rfl, h2, hF, b2⟩
  go_wp2_with fail
  refine (newR_any _).mono ?_
  rintro e w3 ⟨x, X, rfl, h3, hX, b3⟩
  have O3 := Two.start b1 h2 hF b2 h3 hX b3
  clear h2 hF b1 b2 h3 hX b3
  go_wp2_with fail
  go_loopw [7] (fun u wr => ∃ (i : Nat) (F : Nat → Prop) (f : Int → Option Int) (n : Nat) (X : Nat → Prop), u = .int .i64 (i : Int) ∧ i ≤ len ∧ Two w g x wr F f n X f n) (fun u _ => len - (intOf u).toNat)
  case atStart => exact ⟨0, F, _, 0, X, rfl, Nat.zero_le _, O3⟩
  case round =>
    obtain ⟨i, F, f, n, X, rfl, hi, O⟩ := hrel
    clear O3
    by_cases hlt : i < len ∧ i < 80
    · obtain ⟨h1, h3⟩ := hlt
      clear ha'
      obtain ⟨y, rfl, hx, hzl, hc⟩ := ha (by omega)
      have c0 := (hc i h1).1
      have sm := (hc i h1).2
      have cr : wr.cell? (y.add i) = some (.int .i64 (zs.getD i 0)) := (O.below.cell (by rw [block_add]; exact hx)).trans c0
      clear c0 hc
      have d1 : (i : Int) < (len : Int) := by omega
      have d2 : (i : Int) < 80 := by omega
      go_wp2_with fail
      refine (within_any _ (zs.getD i 0) 1073741824 sm (by omega) (by omega)).mono ?_
      rintro e w4 ⟨rfl, rfl⟩
      have m1 := Int.emod_nonneg (zs.getD i 0) (b := 1073741824) (by omega)
      have m2 := Int.emod_lt_of_pos (zs.getD i 0) (b := 1073741824) (by omega)
      generalize (zs.getD i 0 % 1073741824) = k at *
      have hk : Key (k % 60) := ⟨by omega, by omega⟩
      go_wp2_with fail
      refine (put_any _ g F f n (k % 60) (k / 60 % 9) O.heap hk).mono ?_
      rintro e w5 ⟨rfl, F5, h5, hF5, T5⟩
      have O5 := O.heapTurned h5 hF5 T5
      clear h5 hF5 T5 O cr
      go_wp2_with fail
      refine (putR_any _ x X f n (k % 60) (k / 60 % 9) O5.ref hk).mono ?_
      rintro e w6 ⟨rfl, X6, h6, hX6, T6⟩
      have O6 := O5.refTurned h6 hX6 T6
      clear h6 hX6 T6 O5
      go_wp2_with fail
      go_roundw
      case rel => exact ⟨i + 1, _, _, _, _, by simp, by omega, O6⟩
      case measure => simp [intOf]; omega
    · have hlt2 : ¬ ((i : Int) < (len : Int)) ∨ (i : Int) < (len : Int) ∧ ¬ ((i : Int) < 80) := by omega
      clear hlt ha
      rcases hlt2 with d1 | ⟨d1, d2⟩
      all_goals
        go_wp2_with fail
        clear d1
        try clear d2
        clear hi
        go_loopw [9] (fun u wr => ∃ (i : Nat) (F : Nat → Prop) (f : Int → Option Int) (n : Nat) (X : Nat → Prop), u = .int .i64 (i : Int) ∧ i ≤ len' ∧ Two w g x wr F f n X f n) (fun u _ => len' - (intOf u).toNat)
        case atStart => exact ⟨0, F, f, n, X, rfl, Nat.zero_le _, O⟩
        case round =>
          clear O
          obtain ⟨i, F, f, n, X, rfl, hi, O⟩ := hrel
          by_cases hlt : i < len' ∧ i < 40
          · obtain ⟨h1, h3⟩ := hlt
            obtain ⟨y, rfl, hx, hzl, hc⟩ := ha' (by omega)
            have c0 := (hc i h1).1
            have sm := (hc i h1).2
            have cr : wr.cell? (y.add i) = some (.int .i64 (zs'.getD i 0)) := (O.below.cell (by rw [block_add]; exact hx)).trans c0
            clear c0 hc
            have d1 : (i : Int) < (len' : Int) := by omega
            have d2 : (i : Int) < 40 := by omega
            go_wp2_with fail
            refine (within_any _ (zs'.getD i 0) 60 sm (by omega) (by omega)).mono ?_
            rintro e w4 ⟨rfl, rfl⟩
            generalize (zs'.getD i 0 % 60) = k at *
            go_wp2_with fail
            refine (rank_any _ g F f n k O.heap).mono ?_
            rintro e1 w4 ⟨rfl, rfl⟩
            cases hf : f k with
            | none =>
              have d5 := drop_no wr g F f n k O.heap hf
              have d6 := dropR_no wr x X f n k O.ref hf
              have D5 := Lib.hid d5
              have D6 := Lib.hid d6
              clear d5 d6 hf cr
              go_wp2_with fail
              refine D5.out.mono ?_
              rintro e1 w4 ⟨rfl, rfl⟩
              go_wp2_with fail
              refine D5.out.mono ?_
              rintro e1 w4 ⟨rfl, rfl⟩
              go_wp2_with fail
              refine D6.out.mono ?_
              rintro e2 w6 ⟨rfl, rfl⟩
              go_wp2_with fail
              go_roundw
              case rel => exact ⟨i + 1, _, _, _, _, by simp, by omega, O⟩
              case measure => simp [intOf]; omega
            | some r =>
              have HF := Lib.hid hf
              clear hf
              go_wp2_with fail
              refine (drop_any _ g F f n k r O.heap HF.out).mono ?_
              rintro e1 w4 ⟨rfl, F4, h4, hF4, T4⟩
              have h5 := O.heapTurned h4 hF4 T4
              have d5 := Lib.hid (drop_no w4 g F4 _ _ k h4 (upd_at f k none))
              clear h4 hF4 T4 cr O
              go_wp2_with fail
              refine d5.out.mono ?_
              rintro e1 w5 ⟨rfl, rfl⟩
              go_wp2_with fail
              refine (dropR_any _ x X f n k r h5.ref HF.out).mono ?_
              rintro e2 w6 ⟨rfl, X6, h6, hX6, T6⟩
              have h7 := h5.refTurned h6 hX6 T6
              clear h6 hX6 T6 h5 d5 HF
              go_wp2_with fail
              go_roundw
              case rel => exact ⟨i + 1, _, _, _, _, by simp, by omega, h7⟩
              case measure => simp [intOf]; omega
          · have hlt2 : ¬ ((i : Int) < (len' : Int)) ∨ (i : Int) < (len' : Int) ∧ ¬ ((i : Int) < 40) := by omega
            clear hlt ha'
            rcases hlt2 with d1 | ⟨d1, d2⟩
            all_goals
              go_wp2
              clear d1
              try clear d2
              clear hi
              go_loopg [] n (fun n wr => ∃ (F : Nat → Prop) (f : Int → Option Int) (X : Nat → Prop), Two w g x wr F f n X f n)
              case atStart => exact ⟨F, f, X, O⟩
              case round =>
                obtain ⟨F, f, X, O2⟩ := hrel
                clear O
                go_wp2_with fail
                refine (lenR_any _ x X f gk O2.ref).mono ?_
                rintro e w5 ⟨rfl, rfl⟩
                by_cases hk : gk = 0
                · subst hk
                  go_wp2_with fail
                  refine (len_any _ g F f 0 O2.heap).mono ?_
                  rintro e1 w4 ⟨rfl, rfl⟩
                  go_wp2
                  go_ret
                  exact ⟨rfl, O2.below⟩
                · have d3 : (0 : Int) < (gk : Int) := by omega
                  go_wp2_with fail
                  refine (take_any _ g F f gk O2.heap).mono ?_
                  rintro e1 w4 ⟨a, p, rfl, ha, F4, h4, hF4, T4⟩
                  have h5 := (O2.heapTurned h4 hF4 T4).later ((Below.refl _ w4).alloc (Nat.le_refl _) (.cells #[.int .i64 a.1, .int .i64 a.2] 31))
                  have x0 : (w4.alloc (.cells #[.int .i64 a.1, .int .i64 a.2] 31)).cell? ⟨w4.heap.size, 0, none⟩ = some (.int .i64 a.1) := new_cell rfl _ _ _ 0
                  have x1 : (w4.alloc (.cells #[.int .i64 a.1, .int .i64 a.2] 31)).cell? ⟨w4.heap.size, 1, none⟩ = some (.int .i64 a.2) := new_cell rfl _ _ _ 1
                  have xl : w4.heap.size < (w4.alloc (.cells #[.int .i64 a.1, .int .i64 a.2] 31)).heap.size := by simp
                  have xF : ¬ X w4.heap.size := fun q => by have := (O2.heapTurned h4 hF4 T4).ref.lt q; omega
                  clear h4 hF4 T4 O2
                  go_wp2_with fail
                  generalize (w4.alloc (.cells #[.int .i64 a.1, .int .i64 a.2] 31)) = w5 at *
                  generalize w4.heap.size = z at *
                  refine (takeR_any _ x X f gk h5.ref).mono ?_
                  rintro e2 w6 ⟨b, q, rfl, hb, X6, h6, hX6, T6⟩
                  obtain ⟨rfl, rfl⟩ := leastIs_one ha hb
                  have h7 := (h5.refTurned h6 hX6 T6).later ((Below.refl _ w6).alloc (Nat.le_refl _) (.cells #[.int .i64 a.1, .int .i64 a.2] 31))
                  have y0 := (cell_turn (i := 0) T6 xl xF).trans x0
                  have y1 := (cell_turn (i := 1) T6 xl xF).trans x1
                  have yl := Nat.lt_of_lt_of_le xl T6.size
                  clear h6 hX6 T6 h5 x0 x1 xl xF ha hb
                  cases p
                  all_goals
                    go_wp2_with fail
                    go_roundg (gk - 1)
                    case measure => omega
                    case rel => exact ⟨_, _, _, h7⟩
end Go.Proofs.Ytnbemaijhmgooaa.Hp
