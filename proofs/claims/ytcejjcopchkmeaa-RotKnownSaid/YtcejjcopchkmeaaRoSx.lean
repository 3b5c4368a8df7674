/- Walks: the shape of any net is told. -/
import Derived.Test.YtcejjcopchkmeaaRoPx
namespace Go.Proofs.Ytcejjcopchkmeaa.Ro
open Go.RowKit Go.Proofs
set_option linter.unusedVariables false
set_option maxRecDepth 100000
set_option linter.unusedSimpArgs false

set_option maxHeartbeats 3200000 in
theorem shape_any (w : World) (N : Int) (T X C : Value) (m mx mc : Nat) (t x c : Nat → Int) (hT : Rd w T m t) (hX : Rd w X mx x) (hC : Rd w C mc c) (hm : m ≤ 999) :
    Calls Try.prog 40 #[.agg #[.int .i64 N, T, X, C]] w fun e w' => e = .returned (.int .i64 (shapeF N m mx mc t x)) ∧ Below w.heap.size w w' := by
  obtain ⟨A1, cap1, rfl, r1⟩ := hT
  obtain ⟨A2, cap2, rfl, r2⟩ := hX
  obtain ⟨A3, cap3, rfl, r3⟩ := hC
  go_enter Try.func40, Try.ntmps40
  go_upto_region 2 with fail
  have B2 : Below w.heap.size w (w.alloc (.cells #[.int .i64 N, .slice A1 m cap1, .slice A2 mx cap2, .slice A3 mc cap3] 25)) := (Below.refl _ w).alloc (Nat.le_refl _) _
  have X2 : Box (w.alloc (.cells #[.int .i64 N, .slice A1 m cap1, .slice A2 mx cap2, .slice A3 mc cap3] 25)) w.heap.size N (.slice A1 m cap1) (.slice A2 mx cap2) (.slice A3 mc cap3) := heap_alloc_new _ _
  by_cases h1 : N > 60
  · have hF := Lib.hid (shapeF_many (mx := mx) (mc := mc) (t := t) (x := x) (.inl h1 : N > 60 ∨ 240 < m))
    have q1 : decide (N > 60) = true := by simp; omega
    clear h1
    go_wp2_with fail
    go_ret
    exact ⟨by rw [hF.out]; rfl, B2⟩
  have q1 : decide (N > 60) = false := by simp; omega
  by_cases h2 : 240 < m
  · have hF := Lib.hid (shapeF_many (mx := mx) (mc := mc) (t := t) (x := x) (.inr h2 : N > 60 ∨ 240 < m))
    have q2 : decide ((m : Int) > 240) = true := by simp; omega
    clear h1 h2
    go_wp2_with fail
    go_ret
    exact ⟨by rw [hF.out]; rfl, B2⟩
  have q2 : decide ((m : Int) > 240) = false := by simp; omega
  have n1 := Lib.hid (show ¬ (N > 60 ∨ 240 < m) by omega)
  clear h1 h2
  by_cases h3 : mx = m
  rotate_left
  · have hF := Lib.hid (shapeF_len (mc := mc) (t := t) (x := x) n1.out (.inl h3))
    have q3 : ((mx : Int) != (m : Int)) = true := by simp; omega
    clear h3
    go_wp2_with fail
    go_ret
    exact ⟨by rw [hF.out]; rfl, B2⟩
  subst h3
  by_cases h3 : mc = mx
  rotate_left
  · have hF := Lib.hid (shapeF_len (mx := mx) (t := t) (x := x) n1.out (.inr (.inl h3)))
    have q3 : ((mx : Int) != (mx : Int)) = false := by simp
    have q4 : ((mc : Int) != (mx : Int)) = true := by simp; omega
    clear h3
    go_wp2_with fail
    go_ret
    exact ⟨by rw [hF.out]; rfl, B2⟩
  subst h3
  by_cases h3 : mc % 2 = 0
  rotate_left
  · have hF := Lib.hid (shapeF_len (mx := mc) (mc := mc) (t := t) (x := x) n1.out (.inr (.inr h3)))
    have q3 : ((mc : Int) != (mc : Int)) = false := by simp
    have q4 : ((mc : Int) % 2 != 0) = true := by simp; omega
    clear h3
    go_wp2_with fail
    go_ret
    exact ⟨by rw [hF.out]; rfl, B2⟩
  have n2 := Lib.hid (show ¬ (mc ≠ mc ∨ mc ≠ mc ∨ mc % 2 ≠ 0) by omega)
  have q3 : ((mc : Int) != (mc : Int)) = false := by simp
  have q4 : ((mc : Int) % 2 != 0) = false := by simp; omega
  clear h3
  go_wp2_with fail
  generalize (w.alloc (.cells #[.int .i64 N, .slice A1 mc cap1, .slice A2 mc cap2, .slice A3 mc cap3] 25)) = w2 at *
  obtain ⟨p, hp⟩ : ∃ p, p = w.heap.size := ⟨_, rfl⟩
  rw [← hp] at X2 ⊢
  clear hp
  go_loopw [40] (fun u wr => ∃ i : Nat, u = .int .i64 (i : Int) ∧ i ≤ mc ∧ Hid (∀ d, d < i → 0 ≤ x d ∧ x d < mc) ∧ Box wr p N (.slice A1 mc cap1) (.slice A2 mc cap2) (.slice A3 mc cap3) ∧ Below w.heap.size w wr) (fun u _ => mc - (intOf u).toNat)
  case atStart => exact ⟨0, rfl, Nat.zero_le _, Lib.hid fun d h => by omega, X2, B2⟩
  case round =>
    clear X2 B2
    obtain ⟨i, rfl, hi, hx, X, B⟩ := hrel
    by_cases hlt : i < mc
    · obtain ⟨y, rfl, hy, hc⟩ := r2 (by omega)
      have cr : wr.cell? (y.add i) = some (.int .i64 (x i)) := (B.cell (by rw [block_add]; exact hy)).trans (hc i hlt)
      have d1 : (i : Int) < (mc : Int) := by omega
      clear hc r1 r2 r3
      by_cases hb : x i < 0
      · have hF := Lib.hid (shapeF_next (t := t) n1.out n2.out hlt (fun q => by omega : ¬ (0 ≤ x i ∧ x i < mc)))
        have d2 : decide (x i < 0) = true := by simp; omega
        clear hb
        go_wp2_with fail
        go_ret
        exact ⟨by rw [hF.out]; rfl, B⟩
      by_cases hb2 : x i ≥ (mc : Int)
      · have hF := Lib.hid (shapeF_next (t := t) n1.out n2.out hlt (fun q => by omega : ¬ (0 ≤ x i ∧ x i < mc)))
        have d2 : decide (x i < 0) = false := by simp; omega
        have d3 : decide (x i ≥ (mc : Int)) = true := by simp; omega
        clear hb hb2
        go_wp2_with fail
        go_ret
        exact ⟨by rw [hF.out]; rfl, B⟩
      have d2 : decide (x i < 0) = false := by simp; omega
      have d3 : decide (x i ≥ (mc : Int)) = false := by simp; omega
      have HX : Hid (∀ d, d < i + 1 → 0 ≤ x d ∧ x d < mc) := Lib.hid fun d hd => by
        rcases Nat.lt_or_ge d i with q | q
        · exact hx.out d q
        · rw [show d = i by omega]; omega
      clear hb hb2
      go_wp2_with fail
      go_roundw
      case rel => exact ⟨i + 1, by simp, by omega, HX, X, B⟩
      case measure => simp [intOf]; omega
    · have d1 : ¬ ((i : Int) < (mc : Int)) := by omega
      obtain rfl : i = mc := by omega
      have c0 : wr.cell? ⟨p, 0, none⟩ = some (.int .i64 N) := blk_cell X 0
      have c1 : wr.cell? ⟨p, 1, none⟩ = some (.slice A1 i cap1) := blk_cell X 1
      by_cases h5 : N < 1
      · have hF := Lib.hid (shapeF_none (t := t) n1.out n2.out hx.out h5)
        have q5 : decide (N < 1) = true := by simp; omega
        clear h5
        go_wp2_with fail
        go_ret
        exact ⟨by rw [hF.out]; rfl, B⟩
      have q5 : decide (N < 1) = false := by simp; omega
      have n3 := Lib.hid h5
      clear h5
      go_wp2_with fail
      clear c0 c1 d1 hlt hi r2 r3
      go_loopw [58] (fun u wr => ∃ j : Nat, u = .int .i64 (j : Int) ∧ j ≤ i ∧ Hid (∀ d, d < j → 0 ≤ t d ∧ t d < N) ∧ Box wr p N (.slice A1 i cap1) (.slice A2 i cap2) (.slice A3 i cap3) ∧ Below w.heap.size w wr) (fun u _ => i - (intOf u).toNat)
      case atStart => exact ⟨0, rfl, Nat.zero_le _, Lib.hid fun d h => by omega, X, B⟩
      case round =>
        clear X B
        obtain ⟨j, rfl, hj, ht, X, B⟩ := hrel
        by_cases hlt : j < i
        · obtain ⟨y, rfl, hy, hc⟩ := r1 (by omega)
          have cr : wr.cell? (y.add j) = some (.int .i64 (t j)) := (B.cell (by rw [block_add]; exact hy)).trans (hc j hlt)
          have c0 : wr.cell? ⟨p, 0, none⟩ = some (.int .i64 N) := blk_cell X 0
          have d1 : (j : Int) < (i : Int) := by omega
          clear hc r1
          by_cases hb : t j < 0
          · have hF := Lib.hid (shapeF_tail n1.out n2.out hx.out (by have := n3.out; omega) hlt (fun q => by omega : ¬ (0 ≤ t j ∧ t j < N)))
            have d2 : decide (t j < 0) = true := by simp; omega
            clear hb
            go_wp2_with fail
            go_ret
            exact ⟨by rw [hF.out]; rfl, B⟩
          by_cases hb2 : t j ≥ N
          · have hF := Lib.hid (shapeF_tail n1.out n2.out hx.out (by have := n3.out; omega) hlt (fun q => by omega : ¬ (0 ≤ t j ∧ t j < N)))
            have d2 : decide (t j < 0) = false := by simp; omega
            have d3 : decide (t j ≥ N) = true := by simp; omega
            clear hb hb2
            go_wp2_with fail
            go_ret
            exact ⟨by rw [hF.out]; rfl, B⟩
          have d2 : decide (t j < 0) = false := by simp; omega
          have d3 : decide (t j ≥ N) = false := by simp; omega
          have HX : Hid (∀ d, d < j + 1 → 0 ≤ t d ∧ t d < N) := Lib.hid fun d hd => by
            rcases Nat.lt_or_ge d j with q | q
            · exact ht.out d q
            · rw [show d = j by omega]; omega
          clear hb hb2
          go_wp2_with fail
          go_roundw
          case rel => exact ⟨j + 1, by simp, by omega, HX, X, B⟩
          case measure => simp [intOf]; omega
        · have d1 : ¬ ((j : Int) < (i : Int)) := by omega
          obtain rfl : j = i := by omega
          have hF := Lib.hid (shapeF_ok n1.out n2.out hx.out (by have := n3.out; omega) ht.out)
          clear r1
          go_wp2
          go_ret
          exact ⟨by rw [hF.out]; rfl, B⟩
end Go.Proofs.Ytcejjcopchkmeaa.Ro
