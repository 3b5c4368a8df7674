/- Walks: Parts of a good net. -/
import Derived.Test.YtcejjcopchkmeaaRoK0
import Derived.Test.YtcejjcopchkmeaaRoHd
namespace Go.Proofs.Ytcejjcopchkmeaa.Ro
open Go.RowKit Go.Proofs Go.Maps
set_option linter.unusedVariables false
set_option maxRecDepth 100000
set_option linter.unusedSimpArgs false

set_option maxHeartbeats 6400000 in
theorem parts_ok (w : World) (N : Nat) (T X C : Value) (m : Nat) (t x c : Nat → Int) (hT : Rd w T m t) (hX : Rd w X m x) (hC : Rd w C m c) (g : Good N m t x) :
    Calls Try.prog 23 #[.agg #[.int .i64 (N : Int), T, X, C]] w
      fun e w' => ∃ v o k, e = .returned (.tuple #[v, .int .i64 ((k : Nat) : Int)]) ∧ Ow w' v N o ∧ (∀ j, v.ownBlock = some j → w.heap.size ≤ j) ∧ Pcs N m (tlOf t) o k ∧ Below w.heap.size w w' := by
  have hv : ∀ d, d < m → t d = (tlOf t d : Int) ∧ tlOf t d < N := fun d hd => by
    have := g.tail d hd
    unfold tlOf; omega
  have hN := g.most
  have hm := g.few
  have hT' := hT
  obtain ⟨A1, cap1, rfl, r1⟩ := hT
  go_enter Try.func23, Try.ntmps23
  go_wp2_with fail
  have B2 : Below w.heap.size w (w.alloc (.cells #[.int .i64 (N : Int), .slice A1 m cap1, X, C] 25)) := (Below.refl _ w).alloc (Nat.le_refl _) _
  have X2 : Box (w.alloc (.cells #[.int .i64 (N : Int), .slice A1 m cap1, X, C] 25)) w.heap.size N (.slice A1 m cap1) X C := heap_alloc_new _ _
  generalize (w.alloc (.cells #[.int .i64 (N : Int), .slice A1 m cap1, X, C] 25)) = w2 at *
  refine (fine_ok _ N _ X C m t x c (hT'.below B2 (Nat.le_refl _)) (hX.below B2 (Nat.le_refl _)) (hC.below B2 (Nat.le_refl _)) g).mono ?_
  rintro e w3 ⟨rfl, b3⟩
  have B3 := B2.trans (b3.mono B2.size)
  have X3 := X2.below b3 (Nat.le_refl _)
  clear B2 X2 b3
  have pl := blk_lt X3
  have c0 : w3.cell? ⟨w.heap.size, 0, none⟩ = some (.int .i64 (N : Int)) := blk_cell X3 0
  go_wp2_with fail
  have cn : (w3.alloc (.cells #[.int .i64 (-1)] 3)).cell? ⟨w3.heap.size, 0, none⟩ = some (.int .i64 (-1)) := by rw [blk_cell (heap_alloc_new w3 _)]; rfl
  refine (repeat_any _ w3.heap.size N (by omega) cn (by simp)).mono ?_
  rintro e w4 ⟨cap, rfl, O4, b4⟩
  have bb : Below w3.heap.size w3 w4 := ((Below.refl _ w3).alloc (Nat.le_refl _) _).trans (b4.mono (by simp))
  have B4 := B3.trans (bb.mono B3.size)
  have X4 := X3.below bb (Nat.le_refl _)
  have hsz : (w3.alloc (.cells #[.int .i64 (-1)] 3)).heap.size = w3.heap.size + 1 := by simp
  rw [hsz] at O4
  have hbB : w.heap.size < w3.heap.size + 1 := by omega
  clear b4 cn bb B3 X3 c0 pl hsz
  go_wp2_with fail
  generalize w3.heap.size + 1 = b at *
  obtain ⟨p, hp⟩ : ∃ p, p = w.heap.size := ⟨_, rfl⟩
  rw [← hp] at X4 hbB ⊢
  have hbw : w.heap.size ≤ b := by omega
  have hbp : b ≠ p := by omega
  clear hp
  go_loopw [5, 20] (fun u v wr => ∃ (i c : Nat) (o : Nat → Int), u = .int .i64 (c : Int) ∧ v = .int .i64 (i : Int) ∧ i ≤ N ∧ c ≤ i ∧ PPart N m (tlOf t) i o c ∧ Ow wr (.slice (some ⟨b, 0, none⟩) N cap) N o ∧ Box wr p N (.slice A1 m cap1) X C ∧ Below w.heap.size w wr) (fun _ v _ => N - (intOf v).toNat)
  case atStart => exact ⟨0, 0, _, rfl, rfl, Nat.zero_le _, Nat.le_refl _, PPart.start N m _, O4, X4, B4⟩
  case round =>
    clear O4 X4 B4
    obtain ⟨i, c, o, rfl, rfl, hi, hci, P, O, Xb, B⟩ := hrel
    by_cases hlt : i < N
    · have d1 : (i : Int) < (N : Int) := by omega
      have co := O.cell hlt
      rcases P.some i hlt with h0 | ⟨h0, h1⟩
      · rw [h0] at co
        have zf := O.frozen i
        have O5 := O.set hlt (c : Int)
        have B5 := B.setCell (p := ⟨b, i, none⟩) hbw (.int .i64 (c : Int))
        have X5 : Box (wr.setCell ⟨b, i, none⟩ (.int .i64 (c : Int))) p N (.slice A1 m cap1) X C := (Below.heap_setCell _ _ _ _ (Ne.symm hbp)).trans Xb
        clear O B Xb
        go_wp2_with fail
        clear co zf
        generalize wr.setCell ⟨b, i, none⟩ (.int .i64 (c : Int)) = w5 at *
        go_loopg [7] (neg (upd o i (c : Int)) N + 1) (fun n u wr => ∃ (gr : Bool) (o' : Nat → Int), u = .bool gr ∧ (if gr then neg o' N + 1 else 0) = n ∧ Grow N m (tlOf t) o i c o' ∧ (gr = false → ∀ d, d < m → o' (tlOf t d) = c → 0 ≤ o' (tlOf t (oth d))) ∧ Ow wr (.slice (some ⟨b, 0, none⟩) N cap) N o' ∧ Box wr p N (.slice A1 m cap1) X C ∧ Below w.heap.size w wr)
        case atStart => exact ⟨true, _, rfl, rfl, Grow.start h0, fun h => (by cases h), O5, X5, B5⟩
        case round =>
          clear O5 X5 B5
          obtain ⟨gr, o', rfl, hn, Gw, full, O, Xb, B⟩ := hrel
          cases gr
          · have P5 := Lib.hid (Gw.done P hlt h0 g.even (fun d hd => (hv d hd).2) (full rfl))
            have ln : (c : Int) < 9223372036854775807 := by omega
            clear full Gw
            go_wp2_with fail
            go_roundw
            case rel => exact ⟨i + 1, c + 1, o', by simp, by simp, by omega, by omega, P5.out, O, Xb, B⟩
            case measure => simp [intOf]; omega
          · have c1 : wr.cell? ⟨p, 1, none⟩ = some (.slice A1 m cap1) := blk_cell Xb 1
            clear full
            go_wp2_with fail
            clear c1
            go_loopw [7, 36] (fun u v wr => ∃ (gr : Bool) (j : Nat) (o2 : Nat → Int), u = .bool gr ∧ v = .int .i64 (j : Int) ∧ j ≤ m ∧ (if gr then neg o2 N < neg o' N else neg o2 N ≤ neg o' N) ∧ Grow N m (tlOf t) o i c o2 ∧ (gr = false → ∀ d, d < j → o2 (tlOf t d) = c → 0 ≤ o2 (tlOf t (oth d))) ∧ Ow wr (.slice (some ⟨b, 0, none⟩) N cap) N o2 ∧ Box wr p N (.slice A1 m cap1) X C ∧ Below w.heap.size w wr) (fun _ v _ => m - (intOf v).toNat)
            case atStart => exact ⟨false, 0, o', rfl, rfl, Nat.zero_le _, by simp, Gw, fun _ d hd => by omega, O, Xb, B⟩
            case round =>
              clear Gw O Xb B
              obtain ⟨gr, j, o2, rfl, rfl, hj, hng, Gw, full, O, Xb, B⟩ := hrel
              by_cases hjm : j < m
              · have e1 : (j : Int) < (m : Int) := by omega
                obtain ⟨y, rfl, hy, hc⟩ := r1 (by omega)
                have cr : wr.cell? (y.add j) = some (.int .i64 (tlOf t j : Int)) := by rw [← (hv j hjm).1]; exact (B.cell (by rw [block_add]; exact hy)).trans (hc j hjm)
                have pl := blk_lt Xb
                have c0 : wr.cell? ⟨p, 0, none⟩ = some (.int .i64 (N : Int)) := blk_cell Xb 0
                have c1 : wr.cell? ⟨p, 1, none⟩ = some (.slice (some y) m cap1) := blk_cell Xb 1
                have c2 : wr.cell? ⟨p, 2, none⟩ = some X := blk_cell Xb 2
                have c3 : wr.cell? ⟨p, 3, none⟩ = some C := blk_cell Xb 3
                clear hc
                go_wp2_with fail
                refine (head_ok wr N _ X C m t (hT'.below B (Nat.le_refl _)) j (by omega) (oth_lt hjm g.even)).mono ?_
                rintro e w6 ⟨rfl, b6⟩
                have ho := oth_lt hjm g.even
                rw [(hv (oth j) ho).1]
                have t1 := (hv j hjm).2
                have t2 := (hv (oth j) ho).2
                have O6 := O.below b6 (Nat.le_refl _)
                have X6 := Xb.below b6 (Nat.le_refl _)
                have B6 := B.trans (b6.mono B.size)
                clear c0 c1 c2 c3 pl cr O Xb B b6 hy
                have q1 := O6.cell t1
                have q2 := O6.cell t2
                have q3 := O6.frozen (tlOf t (oth j))
                have s1 : (tlOf t j : Int) < (N : Int) := by omega
                have s2 : (tlOf t (oth j) : Int) < (N : Int) := by omega
                by_cases k1 : o2 (tlOf t j) = c
                · have f1 : (o2 (tlOf t j) == (c : Int)) = true := by simp [k1]
                  by_cases k2 : o2 (tlOf t (oth j)) < 0
                  · have f2 : decide (o2 (tlOf t (oth j)) < 0) = true := by simp [k2]
                    have G7 := Lib.hid (Gw.step P hlt hjm t1 t2 k1 k2)
                    have n7 := neg_upd (o := o2) (a := tlOf t (oth j)) (u := (c : Int)) (by omega) k2 t2
                    have O7 := O6.set t2 (c : Int)
                    have B7 := B6.setCell (p := ⟨b, tlOf t (oth j), none⟩) hbw (.int .i64 (c : Int))
                    have X7 : Box (w6.setCell ⟨b, tlOf t (oth j), none⟩ (.int .i64 (c : Int))) p N (.slice (some y) m cap1) X C := (Below.heap_setCell _ _ _ _ (Ne.symm hbp)).trans X6
                    have hn7 : neg (upd o2 (tlOf t (oth j)) (c : Int)) N < neg o' N := by cases gr <;> simp at hng <;> omega
                    clear k1 k2 Gw full O6 X6 B6
                    go_wp2_with fail
                    go_roundw
                    case rel => exact ⟨true, j + 1, _, rfl, by simp, by omega, by simpa using hn7, G7.out, fun h => (by cases h), O7, X7, B7⟩
                    case measure => simp [intOf]; omega
                  · have f2 : decide (o2 (tlOf t (oth j)) < 0) = false := by simp; omega
                    have FU : Hid (gr = false → ∀ d, d < j + 1 → o2 (tlOf t d) = c → 0 ≤ o2 (tlOf t (oth d))) := Lib.hid fun h d hd hc => by
                      rcases Nat.lt_or_ge d j with q | q
                      · exact full h d q hc
                      · rw [show d = j by omega]; omega
                    clear k1 k2 full
                    go_wp2_with fail
                    go_roundw
                    case rel => exact ⟨gr, j + 1, o2, rfl, by simp, by omega, hng, Gw, FU.out, O6, X6, B6⟩
                    case measure => simp [intOf]; omega
                · have f1 : (o2 (tlOf t j) == (c : Int)) = false := by simp [k1]
                  have FU : Hid (gr = false → ∀ d, d < j + 1 → o2 (tlOf t d) = c → 0 ≤ o2 (tlOf t (oth d))) := Lib.hid fun h d hd hc => by
                    rcases Nat.lt_or_ge d j with q | q
                    · exact full h d q hc
                    · rw [show d = j by omega] at hc; exact absurd hc k1
                  clear k1 full
                  go_wp2_with fail
                  go_roundw
                  case rel => exact ⟨gr, j + 1, o2, rfl, by simp, by omega, hng, Gw, FU.out, O6, X6, B6⟩
                  case measure => simp [intOf]; omega
              · have e1 : ¬ ((j : Int) < (m : Int)) := by omega
                obtain rfl : j = m := by omega
                have HM : Hid ((if gr then neg o2 N + 1 else 0) < gk) := Lib.hid (by
                  simp at hn
                  cases gr <;> simp at hng ⊢ <;> omega)
                clear hng
                go_wp2_with fail
                go_roundg (if gr then neg o2 N + 1 else 0)
                case measure => exact HM.out
                case rel => exact ⟨gr, o2, rfl, rfl, Gw, full, O, Xb, B⟩
      · have d2 : decide (o i ≥ 0) = true := by simp [h0]
        have P' := Lib.hid (P.skip h0)
        clear P
        go_wp2_with fail
        go_roundw
        case rel => exact ⟨i + 1, c, o, rfl, by simp, by omega, by omega, P'.out, O, Xb, B⟩
        case measure => simp [intOf]; omega
    · have d1 : ¬ ((i : Int) < (N : Int)) := by omega
      obtain rfl : i = N := by omega
      go_wp2
      go_ret2
      exact ⟨_, o, c, rfl, O, fun k hk => by simp [Value.ownBlock] at hk; omega, P.pcs fun d hd => (hv d hd).2, B⟩
end Go.Proofs.Ytcejjcopchkmeaa.Ro
