/- Walks: Faces and Parts of nets that may have no vertex; printed by gen/rows.py. -/
import Derived.Test.YtcejjcopchkmeaaRoF
import Derived.Test.YtcejjcopchkmeaaRoU
import Derived.Test.YtcejjcopchkmeaaMq1
namespace Go.Proofs.Ytcejjcopchkmeaa.Ro
open Go.RowKit Go.Proofs Go.Maps
set_option linter.unusedVariables false
set_option maxRecDepth 100000
set_option linter.unusedSimpArgs false

structure Fair (N m : Nat) (t x : Nat → Int) : Prop where
  most : N ≤ 60
  few : m ≤ 240
  even : m % 2 = 0
  next : ∀ d, d < m → 0 ≤ x d ∧ x d < m
  tail : ∀ d, d < m → 0 ≤ t d ∧ t d < N
theorem Fair.good {N m : Nat} {t x : Nat → Int} (g : Fair N m t x) (h : 0 < N) : Good N m t x := ⟨h, g.most, g.few, g.even, g.next, g.tail⟩
theorem Good.fair {N m : Nat} {t x : Nat → Int} (g : Good N m t x) : Fair N m t x := ⟨g.most, g.few, g.even, g.next, g.tail⟩
theorem Fair.none {m : Nat} {t x : Nat → Int} (g : Fair 0 m t x) : m = 0 := by
  rcases Nat.eq_zero_or_pos m with q | q
  · exact q
  · have := g.tail 0 q; omega

set_option maxHeartbeats 3200000 in
theorem fair_ok (w : World) (N : Nat) (T X C : Value) (m : Nat) (t x c : Nat → Int) (hT : Rd w T m t) (hX : Rd w X m x) (hC : Rd w C m c) (g : Fair N m t x) :
    Calls Try.prog 43 #[.agg #[.int .i64 (N : Int), T, X, C]] w fun e w' => e = .returned (.bool true) ∧ Below w.heap.size w w' := by
  rcases Nat.eq_zero_or_pos N with q | q
  rotate_left
  · exact fine_ok w N T X C m t x c hT hX hC (g.good q)
  subst q
  obtain rfl := g.none
  obtain ⟨TA, tp, rfl, -⟩ := id hT
  go_enter Try.func43, Try.ntmps43
  go_wp2_with fail
  have B2 : Below w.heap.size w (w.alloc (.cells #[.int .i64 ((0 : Nat) : Int), .slice TA 0 tp, X, C] 25)) := (Below.refl _ w).alloc (Nat.le_refl _) _
  have X2 : Box (w.alloc (.cells #[.int .i64 ((0 : Nat) : Int), .slice TA 0 tp, X, C] 25)) w.heap.size ((0 : Nat) : Int) (.slice TA 0 tp) X C := heap_alloc_new _ _
  refine (shape_any _ ((0 : Nat) : Int) _ X C 0 0 0 t x c (hT.below B2 (Nat.le_refl _)) (hX.below B2 (Nat.le_refl _)) (hC.below B2 (Nat.le_refl _)) (by omega)).mono ?_
  rintro e w3 ⟨rfl, b3⟩
  have hs : shapeF ((0 : Nat) : Int) 0 0 0 t x = 3 := shapeF_none (by omega) (by omega) (fun d h => by omega) (by omega)
  rw [hs]
  have X3 := X2.below b3 (Nat.le_refl _)
  have B3 := B2.trans (b3.mono B2.size)
  have c0 : w3.cell? ⟨w.heap.size, 0, none⟩ = some (.int .i64 ((0 : Nat) : Int)) := blk_cell X3 0
  have c1 : w3.cell? ⟨w.heap.size, 1, none⟩ = some (.slice TA 0 tp) := blk_cell X3 1
  go_wp2_with fail
  go_ret
  exact ⟨rfl, B3⟩

set_option maxHeartbeats 3200000 in
theorem facesF_ok (w : World) (N : Nat) (T X C : Value) (m : Nat) (t x c : Nat → Int) (hT : Rd w T m t) (hX : Rd w X m x) (hC : Rd w C m c) (g : Fair N m t x) (pf : Perm (bh x) m) :
    Calls Try.prog 21 #[.agg #[.int .i64 (N : Int), T, X, C]] w
      fun e w' => ∃ v o k, e = .returned (.tuple #[v, .int .i64 ((max k 1 : Nat) : Int)]) ∧ Ow w' v m o ∧ (∀ k, v.ownBlock = some k → w.heap.size ≤ k) ∧ Orb (bh x) m o k ∧ Below w.heap.size w w' := by
  have hv : ∀ d, d < m → x (oth d) = (bh x d : Int) := fun d hd => by
    have := g.next (oth d) (oth_lt hd g.even)
    unfold bh; omega
  have hT' := hT
  obtain ⟨A1, cap1, rfl, r1⟩ := hT
  clear r1
  go_enter Try.func21, Try.ntmps21
  go_wp2_with fail
  have B2 : Below w.heap.size w (w.alloc (.cells #[.int .i64 (N : Int), .slice A1 m cap1, X, C] 25)) := (Below.refl _ w).alloc (Nat.le_refl _) _
  have X2 : Box (w.alloc (.cells #[.int .i64 (N : Int), .slice A1 m cap1, X, C] 25)) w.heap.size N (.slice A1 m cap1) X C := heap_alloc_new _ _
  generalize (w.alloc (.cells #[.int .i64 (N : Int), .slice A1 m cap1, X, C] 25)) = w2 at *
  refine (fair_ok _ N _ X C m t x c (hT'.below B2 (Nat.le_refl _)) (hX.below B2 (Nat.le_refl _)) (hC.below B2 (Nat.le_refl _)) g).mono ?_
  rintro e w3 ⟨rfl, b3⟩
  have B3 := B2.trans (b3.mono B2.size)
  have X3 := X2.below b3 (Nat.le_refl _)
  clear B2 X2 b3
  obtain ⟨p, hp⟩ : ∃ p, p = w.heap.size := ⟨_, rfl⟩
  rw [← hp] at X3 ⊢
  have pl := blk_lt X3
  have c0 : w3.cell? ⟨p, 0, none⟩ = some (.int .i64 (N : Int)) := blk_cell X3 0
  have c1 : w3.cell? ⟨p, 1, none⟩ = some (.slice A1 m cap1) := blk_cell X3 1
  have c2 : w3.cell? ⟨p, 2, none⟩ = some X := blk_cell X3 2
  have c3 : w3.cell? ⟨p, 3, none⟩ = some C := blk_cell X3 3
  rw [hp]
  rw [hp] at c0 c1 c2 c3 pl X3
  clear hp
  go_upto_region 3 with fail
  have Bx : Box (w3.alloc (.cells #[.int .i64 (N : Int), .slice A1 m cap1, X, C] 25)).drew w3.heap.size N (.slice A1 m cap1) X C := heap_alloc_new w3 _
  have b5 : Below w3.heap.size w3 (w3.alloc (.cells #[.int .i64 (N : Int), .slice A1 m cap1, X, C] 25)).drew := ((Below.refl _ w3).alloc (Nat.le_refl _) _).drew
  have hX5 : Rd (w3.alloc (.cells #[.int .i64 (N : Int), .slice A1 m cap1, X, C] 25)).drew X m x := (hX.below B3 (Nat.le_refl _)).below b5 (Nat.le_refl _)
  have hm : m ≤ 999 := by have := g.few; omega
  have B5 := B3.trans (b5.mono B3.size)
  go_region_with (first | (refine (behind_any _ _ _ _ _).mono ?_; rintro e w5 ⟨rfl, rfl⟩) | (refine (orbits_behind _ _ _ _ _ _ m x Bx hX5 hm g.even (bh x) hv pf).mono ?_; rintro e w6 ⟨v, o, k, rfl, O6, n6, R6, b6⟩))
  all_goals
    go_simp
    go_wp2_with fail
    all_goals
      go_ret2
      refine ⟨v, o, k, ?_, O6, fun j hj => Nat.le_trans B5.size (n6 j hj), R6, B5.trans (b6.mono B5.size)⟩
      simp
      omega

set_option maxHeartbeats 6400000 in
theorem partsF_ok (w : World) (N : Nat) (T X C : Value) (m : Nat) (t x c : Nat → Int) (hT : Rd w T m t) (hX : Rd w X m x) (hC : Rd w C m c) (g : Fair N m t x) :
    Calls Try.prog 23 #[.agg #[.int .i64 (N : Int), T, X, C]] w
      fun e w' => ∃ v o k, e = .returned (.tuple #[v, .int .i64 ((k : Nat) : Int)]) ∧ Ow w' v N o ∧ (∀ j, v.ownBlock = some j → w.heap.size ≤ j) ∧ Pcs N m (tlOf t) o k ∧ Below w.heap.size w w' := by
  have hv : ∀ d, d < m → t d = (tlOf t d : Int) ∧ tlOf t d < N := fun d hd => by
    have := g.tail d hd
    unfold tlOf; omega
  have hN := g.most
  have hm := g.few
  have hT' := hT
  obtain ⟨A1, cap1, rfl, r1⟩ := hT
  go_enter Try.func23, Try.ntmps23
  go_wp2_with fail
  have B2 : Below w.heap.size w (w.alloc (.cells #[.int .i64 (N : Int), .slice A1 m cap1, X, C] 25)) := (Below.refl _ w).alloc (Nat.le_refl _) _
  have X2 : Box (w.alloc (.cells #[.int .i64 (N : Int), .slice A1 m cap1, X, C] 25)) w.heap.size N (.slice A1 m cap1) X C := heap_alloc_new _ _
  generalize (w.alloc (.cells #[.int .i64 (N : Int), .slice A1 m cap1, X, C] 25)) = w2 at *
  refine (fair_ok _ N _ X C m t x c (hT'.below B2 (Nat.le_refl _)) (hX.below B2 (Nat.le_refl _)) (hC.below B2 (Nat.le_refl _)) g).mono ?_
  rintro e w3 ⟨rfl, b3⟩
  have B3 := B2.trans (b3.mono B2.size)
  have X3 := X2.below b3 (Nat.le_refl _)
  clear B2 X2 b3
  have pl := blk_lt X3
  have c0 : w3.cell? ⟨w.heap.size, 0, none⟩ = some (.int .i64 (N : Int)) := blk_cell X3 0
  go_wp2_with fail
  have cn : (w3.alloc (.cells #[.int .i64 (-1)] 3)).cell? ⟨w3.heap.size, 0, none⟩ = some (.int .i64 (-1)) := by rw [blk_cell (heap_alloc_new w3 _)]; rfl
  refine (repeat_any _ w3.heap.size N (by omega) cn (by simp)).mono ?_
  rintro e w4 ⟨cap, rfl, O4, b4⟩
  have bb : Below w3.heap.size w3 w4 := ((Below.refl _ w3).alloc (Nat.le_refl _) _).trans (b4.mono (by simp))
  have B4 := B3.trans (bb.mono B3.size)
  have X4 := X3.below bb (Nat.le_refl _)
  have hsz : (w3.alloc (.cells #[.int .i64 (-1)] 3)).heap.size = w3.heap.size + 1 := by simp
  rw [hsz] at O4
  have hbB : w.heap.size < w3.heap.size + 1 := by omega
  clear b4 cn bb B3 X3 c0 pl hsz
  go_wp2_with fail
  generalize w3.heap.size + 1 = b at *
  obtain ⟨p, hp⟩ : ∃ p, p = w.heap.size := ⟨_, rfl⟩
  rw [← hp] at X4 hbB ⊢
  have hbw : w.heap.size ≤ b := by omega
  have hbp : b ≠ p := by omega
  clear hp
  go_loopw [5, 20] (fun u v wr => ∃ (i c : Nat) (o : Nat → Int), u = .int .i64 (c : Int) ∧ v = .int .i64 (i : Int) ∧ i ≤ N ∧ c ≤ i ∧ PPart N m (tlOf t) i o c ∧ Ow wr (.slice (some ⟨b, 0, none⟩) N cap) N o ∧ Box wr p N (.slice A1 m cap1) X C ∧ Below w.heap.size w wr) (fun _ v _ => N - (intOf v).toNat)
  case atStart => exact ⟨0, 0, _, rfl, rfl, Nat.zero_le _, Nat.le_refl _, PPart.start N m _, O4, X4, B4⟩
  case round =>
    clear O4 X4 B4
    obtain ⟨i, c, o, rfl, rfl, hi, hci, P, O, Xb, B⟩ := hrel
    by_cases hlt : i < N
    · have d1 : (i : Int) < (N : Int) := by omega
      have co := O.cell hlt
      rcases P.some i hlt with h0 | ⟨h0, h1⟩
      · rw [h0] at co
        have zf := O.frozen i
        have O5 := O.set hlt (c : Int)
        have B5 := B.setCell (p := ⟨b, i, none⟩) hbw (.int .i64 (c : Int))
        have X5 : Box (wr.setCell ⟨b, i, none⟩ (.int .i64 (c : Int))) p N (.slice A1 m cap1) X C := (Below.heap_setCell _ _ _ _ (Ne.symm hbp)).trans Xb
        clear O B Xb
        go_wp2_with fail
        clear co zf
        generalize wr.setCell ⟨b, i, none⟩ (.int .i64 (c : Int)) = w5 at *
        go_loopg [7] (neg (upd o i (c : Int)) N + 1) (fun n u wr => ∃ (gr : Bool) (o' : Nat → Int), u = .bool gr ∧ (if gr then neg o' N + 1 else 0) = n ∧ Grow N m (tlOf t) o i c o' ∧ (gr = false → ∀ d, d < m → o' (tlOf t d) = c → 0 ≤ o' (tlOf t (oth d))) ∧ Ow wr (.slice (some ⟨b, 0, none⟩) N cap) N o' ∧ Box wr p N (.slice A1 m cap1) X C ∧ Below w.heap.size w wr)
        case atStart => exact ⟨true, _, rfl, rfl, Grow.start h0, fun h => (by cases h), O5, X5, B5⟩
        case round =>
          clear O5 X5 B5
          obtain ⟨gr, o', rfl, hn, Gw, full, O, Xb, B⟩ := hrel
          cases gr
          · have P5 := Lib.hid (Gw.done P hlt h0 g.even (fun d hd => (hv d hd).2) (full rfl))
            have ln : (c : Int) < 9223372036854775807 := by omega
            clear full Gw
            go_wp2_with fail
            go_roundw
            case rel => exact ⟨i + 1, c + 1, o', by simp, by simp, by omega, by omega, P5.out, O, Xb, B⟩
            case measure => simp [intOf]; omega
          · have c1 : wr.cell? ⟨p, 1, none⟩ = some (.slice A1 m cap1) := blk_cell Xb 1
            clear full
            go_wp2_with fail
            clear c1
            go_loopw [7, 36] (fun u v wr => ∃ (gr : Bool) (j : Nat) (o2 : Nat → Int), u = .bool gr ∧ v = .int .i64 (j : Int) ∧ j ≤ m ∧ (if gr then neg o2 N < neg o' N else neg o2 N ≤ neg o' N) ∧ Grow N m (tlOf t) o i c o2 ∧ (gr = false → ∀ d, d < j → o2 (tlOf t d) = c → 0 ≤ o2 (tlOf t (oth d))) ∧ Ow wr (.slice (some ⟨b, 0, none⟩) N cap) N o2 ∧ Box wr p N (.slice A1 m cap1) X C ∧ Below w.heap.size w wr) (fun _ v _ => m - (intOf v).toNat)
            case atStart => exact ⟨false, 0, o', rfl, rfl, Nat.zero_le _, by simp, Gw, fun _ d hd => by omega, O, Xb, B⟩
            case round =>
              clear Gw O Xb B
              obtain ⟨gr, j, o2, rfl, rfl, hj, hng, Gw, full, O, Xb, B⟩ := hrel
              by_cases hjm : j < m
              · have e1 : (j : Int) < (m : Int) := by omega
                obtain ⟨y, rfl, hy, hc⟩ := r1 (by omega)
                have cr : wr.cell? (y.add j) = some (.int .i64 (tlOf t j : Int)) := by rw [← (hv j hjm).1]; exact (B.cell (by rw [block_add]; exact hy)).trans (hc j hjm)
                have pl := blk_lt Xb
                have c0 : wr.cell? ⟨p, 0, none⟩ = some (.int .i64 (N : Int)) := blk_cell Xb 0
                have c1 : wr.cell? ⟨p, 1, none⟩ = some (.slice (some y) m cap1) := blk_cell Xb 1
                have c2 : wr.cell? ⟨p, 2, none⟩ = some X := blk_cell Xb 2
                have c3 : wr.cell? ⟨p, 3, none⟩ = some C := blk_cell Xb 3
                clear hc
                go_wp2_with fail
                refine (head_ok wr N _ X C m t (hT'.below B (Nat.le_refl _)) j (by omega) (oth_lt hjm g.even)).mono ?_
                rintro e w6 ⟨rfl, b6⟩
                have ho := oth_lt hjm g.even
                rw [(hv (oth j) ho).1]
                have t1 := (hv j hjm).2
                have t2 := (hv (oth j) ho).2
                have O6 := O.below b6 (Nat.le_refl _)
                have X6 := Xb.below b6 (Nat.le_refl _)
                have B6 := B.trans (b6.mono B.size)
                clear c0 c1 c2 c3 pl cr O Xb B b6 hy
                have q1 := O6.cell t1
                have q2 := O6.cell t2
                have q3 := O6.frozen (tlOf t (oth j))
                have s1 : (tlOf t j : Int) < (N : Int) := by omega
                have s2 : (tlOf t (oth j) : Int) < (N : Int) := by omega
                by_cases k1 : o2 (tlOf t j) = c
                · have f1 : (o2 (tlOf t j) == (c : Int)) = true := by simp [k1]
                  by_cases k2 : o2 (tlOf t (oth j)) < 0
                  · have f2 : decide (o2 (tlOf t (oth j)) < 0) = true := by simp [k2]
                    have G7 := Lib.hid (Gw.step P hlt hjm t1 t2 k1 k2)
                    have n7 := neg_upd (o := o2) (a := tlOf t (oth j)) (u := (c : Int)) (by omega) k2 t2
                    have O7 := O6.set t2 (c : Int)
                    have B7 := B6.setCell (p := ⟨b, tlOf t (oth j), none⟩) hbw (.int .i64 (c : Int))
                    have X7 : Box (w6.setCell ⟨b, tlOf t (oth j), none⟩ (.int .i64 (c : Int))) p N (.slice (some y) m cap1) X C := (Below.heap_setCell _ _ _ _ (Ne.symm hbp)).trans X6
                    have hn7 : neg (upd o2 (tlOf t (oth j)) (c : Int)) N < neg o' N := by cases gr <;> simp at hng <;> omega
                    clear k1 k2 Gw full O6 X6 B6
                    go_wp2_with fail
                    go_roundw
                    case rel => exact ⟨true, j + 1, _, rfl, by simp, by omega, by simpa using hn7, G7.out, fun h => (by cases h), O7, X7, B7⟩
                    case measure => simp [intOf]; omega
                  · have f2 : decide (o2 (tlOf t (oth j)) < 0) = false := by simp; omega
                    have FU : Hid (gr = false → ∀ d, d < j + 1 → o2 (tlOf t d) = c → 0 ≤ o2 (tlOf t (oth d))) := Lib.hid fun h d hd hc => by
                      rcases Nat.lt_or_ge d j with q | q
                      · exact full h d q hc
                      · rw [show d = j by omega]; omega
                    clear k1 k2 full
                    go_wp2_with fail
                    go_roundw
                    case rel => exact ⟨gr, j + 1, o2, rfl, by simp, by omega, hng, Gw, FU.out, O6, X6, B6⟩
                    case measure => simp [intOf]; omega
                · have f1 : (o2 (tlOf t j) == (c : Int)) = false := by simp [k1]
                  have FU : Hid (gr = false → ∀ d, d < j + 1 → o2 (tlOf t d) = c → 0 ≤ o2 (tlOf t (oth d))) := Lib.hid fun h d hd hc => by
                    rcases Nat.lt_or_ge d j with q | q
                    · exact full h d q hc
                    · rw [show d = j by omega] at hc; exact absurd hc k1
                  clear k1 full
                  go_wp2_with fail
                  go_roundw
                  case rel => exact ⟨gr, j + 1, o2, rfl, by simp, by omega, hng, Gw, FU.out, O6, X6, B6⟩
                  case measure => simp [intOf]; omega
              · have e1 : ¬ ((j : Int) < (m : Int)) := by omega
                obtain rfl : j = m := by omega
                have HM : Hid ((if gr then neg o2 N + 1 else 0) < gk) := Lib.hid (by
                  simp at hn
                  cases gr <;> simp at hng ⊢ <;> omega)
                clear hng
                go_wp2_with fail
                go_roundg (if gr then neg o2 N + 1 else 0)
                case measure => exact HM.out
                case rel => exact ⟨gr, o2, rfl, rfl, Gw, full, O, Xb, B⟩
      · have d2 : decide (o i ≥ 0) = true := by simp [h0]
        have P' := Lib.hid (P.skip h0)
        clear P
        go_wp2_with fail
        go_roundw
        case rel => exact ⟨i + 1, c, o, rfl, by simp, by omega, by omega, P'.out, O, Xb, B⟩
        case measure => simp [intOf]; omega
    · have d1 : ¬ ((i : Int) < (N : Int)) := by omega
      obtain rfl : i = N := by omega
      go_wp2
      go_ret2
      exact ⟨_, o, c, rfl, O, fun k hk => by simp [Value.ownBlock] at hk; omega, P.pcs fun d hd => (hv d hd).2, B⟩

set_option maxHeartbeats 6400000 in
theorem refPartsF_ok (w : World) (N : Nat) (T X C : Value) (m : Nat) (t x c : Nat → Int) (hT : Rd w T m t) (hX : Rd w X m x) (hC : Rd w C m c) (g : Fair N m t x) :
    Calls Try.prog 24 #[.agg #[.int .i64 (N : Int), T, X, C]] w
      fun e w' => ∃ v o k, e = .returned (.tuple #[v, .int .i64 ((k : Nat) : Int)]) ∧ Ow w' v N o ∧ (∀ j, v.ownBlock = some j → w.heap.size ≤ j) ∧ Pcs N m (tlOf t) o k ∧ Below w.heap.size w w' := by
  have hN := g.most
  have hm := g.few
  have hv : ∀ d, d < m → t d = (tlOf t d : Int) ∧ tlOf t d < N := fun d hd => by
    have := g.tail d hd
    unfold tlOf; omega
  obtain ⟨TA, tp, rfl, rt⟩ := id hT
  obtain ⟨ii, hi, hz, hs, hby⟩ := info_parts (P := Try.prog) (e := 3) (z := .int .i64 0) (size := 1) (bytes := 8) (by kernel_rfl)
  go_enter Try.func24, Try.ntmps24
  go_upto_region 1 with fail
  obtain ⟨w1, hw1, N1, B1⟩ := net_enter (N : Int) hT hX hC
  rw [hw1]
  clear hw1
  have c0 := N1.c0
  go_upto_region 2 with (at_make; refine wpList_make_full _ rfl _ _ _ rfl 0 3 ii (.int .i64 0) 1 Try.underlying22 hi hz hs .i64 .i64 (N : Int) (N : Int) N rfl rfl rfl rfl (by rw [hby]; omega) (by unfold maxLen; omega) (Nat.zero_le _) ?_; intro w3 hm3 hg3)
  rw [show (Value.int IntKind.i64 0).cells = #[.int .i64 0] from rfl, Nat.mul_one, toList_madeCells_one] at hm3
  have O3 := Ow.made hm3
  have b3 : Below w1.heap.size w1 w3 := ⟨hg3.os, hg3.tape, hg3.output, hg3.size, fun k hk => hg3.block k hk (by simp)⟩
  have N3 := N1.below b3 (Nat.le_refl _)
  have B3 := B1.trans (b3.mono B1.size)
  have lp := N1.lt
  have hbw : w.heap.size ≤ w1.heap.size := B1.size
  obtain ⟨p, hp⟩ : ∃ p, p = w.heap.size := ⟨_, rfl⟩
  rw [← hp] at N3 lp ⊢
  clear hp
  clear hm3 hg3 b3 c0 B1 N1
  generalize w1.heap.size = b at *
  clear w1
  have hbp : b ≠ p := by omega
  go_wp2_with fail
  go_loopw [5] (fun u wr => ∃ j : Nat, u = .int .i64 (j : Int) ∧ j ≤ N ∧ Ow wr (.slice (some ⟨b, 0, none⟩) N N) N (fun i => if i < j then (i : Int) else 0) ∧ NetAt wr p N (.slice TA m tp) X C m t x c ∧ Below w.heap.size w wr) (fun u _ => N - (intOf u).toNat)
  case atStart => exact ⟨0, rfl, Nat.zero_le _, O3.congr fun j _ => by simp, N3, B3⟩
  case round =>
    clear O3 N3 B3 w3
    obtain ⟨j, rfl, hj, O, Nr, B⟩ := hrel
    have c0 := Nr.c0
    by_cases hlt : j < N
    · have d1 : (j : Int) < (N : Int) := by omega
      have co := O.cell hlt
      have zf := O.frozen j
      have O5 := (O.set hlt (j : Int)).congr (x' := fun i => if i < j + 1 then (i : Int) else 0) (fun i hi => by
        by_cases e : i = j
        · subst e; rw [upd_same, if_pos (by omega)]
        · rw [upd_ne e]
          by_cases q : i < j
          · rw [if_pos q, if_pos (by omega)]
          · rw [if_neg q, if_neg (by omega)])
      have B5 := B.setCell (p := ⟨b, j, none⟩) hbw (.int .i64 (j : Int))
      have N5 : NetAt (wr.setCell ⟨b, j, none⟩ (.int .i64 (j : Int))) p N (.slice TA m tp) X C m t x c := ⟨(Below.heap_setCell _ _ _ _ (Ne.symm hbp)).trans Nr.box, hT.below B5 (Nat.le_refl _), hX.below B5 (Nat.le_refl _), hC.below B5 (Nat.le_refl _)⟩
      clear O B Nr
      go_wp2_with fail
      go_roundw
      case rel => exact ⟨j + 1, by simp, by omega, O5, N5, B5⟩
      case measure => simp [intOf]; omega
    · have d1 : ¬ ((j : Int) < (N : Int)) := by omega
      have O5 := O.congr (x' := fun i => (i : Int)) fun i hi => if_pos (by omega)
      clear O
      go_wp2_with fail
      clear d1 hlt hj c0
      go_loopg [6] (tot (fun i => (i : Int)) N + 1) (fun n u wr => ∃ (gr : Bool) (o : Nat → Int), u = .bool gr ∧ (if gr then tot o N + 1 else 0) = n ∧ Low N m (tlOf t) o ∧ (gr = false → ∀ d, d < m → o (tlOf t (oth d)) ≤ o (tlOf t d)) ∧ Ow wr (.slice (some ⟨b, 0, none⟩) N N) N o ∧ NetAt wr p N (.slice TA m tp) X C m t x c ∧ Below w.heap.size w wr)
      case atStart => exact ⟨true, _, rfl, rfl, Low.start N m _, fun h => (by cases h), O5, Nr, B⟩
      case round =>
        clear O5 Nr B
        obtain ⟨gr, o, rfl, hn, L, full, O, Nr, B⟩ := hrel
        cases gr
        · have LL := Lib.hid (Least.of L g.even (full rfl))
          have c0 := Nr.c0
          clear full L
          go_upto_region 18 with (at_make; refine wpList_make_full _ rfl _ _ _ rfl 0 3 ii (.int .i64 0) 1 Try.underlying22 hi hz hs .i64 .i64 (N : Int) (N : Int) N rfl rfl rfl rfl (by rw [hby]; omega) (by unfold maxLen; omega) (Nat.zero_le _) ?_; intro w5 hm5 hg5)
          rw [show (Value.int IntKind.i64 0).cells = #[.int .i64 0] from rfl, Nat.mul_one, toList_madeCells_one] at hm5
          have M5 := Ow.made hm5
          have b5 : Below wr.heap.size wr w5 := ⟨hg5.os, hg5.tape, hg5.output, hg5.size, fun k hk => hg5.block k hk (by simp)⟩
          have N5 := Nr.below b5 (Nat.le_refl _)
          have O5 := O.below b5 (Nat.le_refl _)
          have B5 := B.trans (b5.mono B.size)
          have lp := Nr.lt
          have hqw : w.heap.size ≤ wr.heap.size := B.size
          have hqb : 0 < N → wr.heap.size ≠ b := fun _ => by have := O.lt (k := b) rfl; omega
          clear hm5 hg5 b5 c0 B Nr O
          generalize wr.heap.size = q at *
          clear wr
          have hqp : q ≠ p := by omega
          go_wp2_with fail
          go_loopw [10, 12] (fun u v wr => ∃ (k i : Nat) (num : Nat → Int), u = .int .i64 (k : Int) ∧ v = .int .i64 (i : Int) ∧ i ≤ N ∧ NumUp N m (tlOf t) o i k num ∧ Ow wr (.slice (some ⟨q, 0, none⟩) N N) N num ∧ Ow wr (.slice (some ⟨b, 0, none⟩) N N) N o ∧ NetAt wr p N (.slice TA m tp) X C m t x c ∧ Below w.heap.size w wr) (fun _ v _ => N - (intOf v).toNat)
          case atStart => exact ⟨0, 0, _, rfl, rfl, Nat.zero_le _, NumUp.start _ _ _ _ _, M5, O5, N5, B5⟩
          case round =>
            clear M5 O5 N5 B5 w5
            obtain ⟨k, i, num, rfl, rfl, hi', U, M, O, Nr, B⟩ := hrel
            have c0 := Nr.c0
            by_cases hlt : i < N
            · have d1 : (i : Int) < (N : Int) := by omega
              have co := O.cell hlt
              have cm := M.cell hlt
              have zf := M.frozen i
              have hne := hqb (by omega)
              by_cases he : o i = (i : Int)
              · have U2 := Lib.hid (U.new LL.out hlt he)
                have M2 := M.set hlt (k : Int)
                have B2 := B.setCell (p := ⟨q, i, none⟩) hqw (.int .i64 (k : Int))
                have O2 : Ow (wr.setCell ⟨q, i, none⟩ (.int .i64 (k : Int))) (.slice (some ⟨b, 0, none⟩) N N) N o := O.apart (Ne.symm hne) _
                have N2 : NetAt (wr.setCell ⟨q, i, none⟩ (.int .i64 (k : Int))) p N (.slice TA m tp) X C m t x c := ⟨(Below.heap_setCell _ _ _ _ (Ne.symm hqp)).trans Nr.box, hT.below B2 (Nat.le_refl _), hX.below B2 (Nat.le_refl _), hC.below B2 (Nat.le_refl _)⟩
                have hk : (k : Int) < 9223372036854775807 := by have := U.le; omega
                rw [he] at co
                have q1 : ((i : Int) == (i : Int)) = true := by simp
                clear he U M B O Nr
                go_wp2_with fail
                go_roundw
                case rel => exact ⟨k + 1, i + 1, _, by simp, by simp, by omega, U2.out, M2, O2, N2, B2⟩
                case measure => simp [intOf]; omega
              · obtain ⟨l1, U2⟩ := U.old LL.out hlt he
                have l0 := LL.out.lo i hlt
                obtain ⟨a, ha⟩ : ∃ a : Nat, o i = (a : Int) := ⟨(o i).toNat, by omega⟩
                rw [ha, Int.toNat_natCast] at U2 l1
                have U2 := Lib.hid U2
                have q1 : ((a : Int) == (i : Int)) = false := by simp; omega
                rw [ha] at co
                have ca := M.cell (j := a) (by omega)
                have la : (a : Int) < (N : Int) := by omega
                have M2 := M.set hlt (num a)
                have B2 := B.setCell (p := ⟨q, i, none⟩) hqw (.int .i64 (num a))
                have O2 : Ow (wr.setCell ⟨q, i, none⟩ (.int .i64 (num a))) (.slice (some ⟨b, 0, none⟩) N N) N o := O.apart (Ne.symm hne) _
                have N2 : NetAt (wr.setCell ⟨q, i, none⟩ (.int .i64 (num a))) p N (.slice TA m tp) X C m t x c := ⟨(Below.heap_setCell _ _ _ _ (Ne.symm hqp)).trans Nr.box, hT.below B2 (Nat.le_refl _), hX.below B2 (Nat.le_refl _), hC.below B2 (Nat.le_refl _)⟩
                clear he U M B O Nr l0 ha
                go_wp2_with fail
                go_roundw
                case rel => exact ⟨k, i + 1, _, rfl, by simp, by omega, U2.out, M2, O2, N2, B2⟩
                case measure => simp [intOf]; omega
            · have d1 : ¬ ((i : Int) < (N : Int)) := by omega
              obtain rfl : i = N := by omega
              have PP := Lib.hid (U.pcs LL.out g.even fun d hd => (hv d hd).2)
              clear U
              go_wp2_with fail
              go_ret2
              exact ⟨_, num, k, rfl, M, fun z hz => by simp [Value.ownBlock] at hz; omega, PP.out, B⟩
        · clear full
          go_wp2_with fail
          go_loopw [6, 7] (fun u v wr => ∃ (gr : Bool) (j : Nat) (o2 : Nat → Int), u = .bool gr ∧ v = .int .i64 (j : Int) ∧ j ≤ m ∧ (if gr then tot o2 N < tot o N else tot o2 N ≤ tot o N) ∧ Low N m (tlOf t) o2 ∧ (gr = false → ∀ d, d < j → o2 (tlOf t (oth d)) ≤ o2 (tlOf t d)) ∧ Ow wr (.slice (some ⟨b, 0, none⟩) N N) N o2 ∧ NetAt wr p N (.slice TA m tp) X C m t x c ∧ Below w.heap.size w wr) (fun _ v _ => m - (intOf v).toNat)
          case atStart => exact ⟨false, 0, o, rfl, rfl, Nat.zero_le _, by simp, L, fun _ d hd => by omega, O, Nr, B⟩
          case round =>
            clear L O Nr B
            obtain ⟨gr, j, o2, rfl, rfl, hj, hng, L, full, O, Nr, B⟩ := hrel
            have c0 := Nr.c0
            have c1 := Nr.c1
            have c2 := Nr.c2
            have c3 := Nr.c3
            by_cases hjm : j < m
            · have e1 : (j : Int) < (m : Int) := by omega
              obtain ⟨y, rfl, hy, hc⟩ := rt (by omega)
              have cr : wr.cell? (y.add j) = some (.int .i64 (tlOf t j : Int)) := by rw [← (hv j hjm).1]; exact rd_cell B hy (Nat.le_refl _) (hc j hjm)
              have ho := oth_lt hjm g.even
              have t1 := (hv j hjm).2
              have t2 := (hv (oth j) ho).2
              have t3 := (hv (oth j) ho).1
              have D : Below wr.heap.size wr wr.drew := (Below.refl _ wr).drew
              have lp := Nr.lt
              have ly : y.block < wr.heap.size := by have := B.size; omega
              have KK : Hid (∀ W, Below wr.heap.size wr W → W.cell? ⟨p, 0, none⟩ = some (.int .i64 (N : Int)) ∧ W.cell? ⟨p, 1, none⟩ = some (.slice (some y) m tp) ∧ W.cell? ⟨p, 2, none⟩ = some X ∧ W.cell? ⟨p, 3, none⟩ = some C ∧ W.cell? (y.add j) = some (.int .i64 (tlOf t j : Int))) :=
                Lib.hid fun W b => ⟨(b.cell (p := ⟨p, 0, none⟩) lp).trans c0, (b.cell (p := ⟨p, 1, none⟩) lp).trans c1, (b.cell (p := ⟨p, 2, none⟩) lp).trans c2, (b.cell (p := ⟨p, 3, none⟩) lp).trans c3, rd_cell b ly (Nat.le_refl _) cr⟩
              have hj9 : j ≤ 999 := by omega
              clear hc
              go_upto_region 12 with fail
              go_region_held3 (fun w' => w'.cell? ⟨p, 0, none⟩ = some (.int .i64 (N : Int)) ∧ w'.cell? ⟨p, 1, none⟩ = some (.slice (some y) m tp) ∧ w'.cell? ⟨p, 2, none⟩ = some X ∧ w'.cell? ⟨p, 3, none⟩ = some C ∧ w'.cell? (y.add j) = some (.int .i64 (tlOf t j : Int)))
                (first | with_reducible exact k1 | go_keep)
                ((go_at_call 30; refine (refHead_ok wr.drew N _ X C m t (Nr.rt.below D (Nat.le_refl _)) j hj9 ho).mono ?_; rintro e w6 ⟨he, b6⟩; rw [t3] at he; subst he; have E6 : Below wr.heap.size wr w6 := D.trans (b6.mono (Nat.le_refl _)); have k1 := KK.out w6 E6; clear b6))
              have B6 := B.trans (E6.mono B.size)
              have O6 := O.below E6 (Nat.le_refl _)
              have N6 := Nr.below E6 (Nat.le_refl _)
              clear O B Nr E6 KK k1 c0 c1 c2 c3 cr t3 D
              have q1 := O6.cell t1
              have q2 := O6.cell t2
              have q3 := O6.frozen (tlOf t (oth j))
              have s1 : (tlOf t j : Int) < (N : Int) := by omega
              have s2 : (tlOf t (oth j) : Int) < (N : Int) := by omega
              have l1 := (L.lo _ t1).1
              by_cases k2 : o2 (tlOf t (oth j)) > o2 (tlOf t j)
              · have f2 : decide (o2 (tlOf t (oth j)) > o2 (tlOf t j)) = true := by simpa using k2
                have L7 := Lib.hid (L.step hjm t1 t2 k2)
                have n7 := tot_less (o := o2) (a := tlOf t (oth j)) (u := o2 (tlOf t j)) l1 (by omega) t2
                have O7 := O6.set t2 (o2 (tlOf t j))
                have B7 := B6.setCell (p := ⟨b, tlOf t (oth j), none⟩) hbw (.int .i64 (o2 (tlOf t j)))
                have N7 := N6.store (a := ⟨b, tlOf t (oth j), none⟩) hT hX hC B7 (Ne.symm hbp)
                have hn7 : tot (upd o2 (tlOf t (oth j)) (o2 (tlOf t j))) N < tot o N := by cases gr <;> simp at hng <;> omega
                clear k2 L full
                go_upto_region 13 with fail
                go_big_quiet (fail)
                go_wp2_with fail
                go_roundw
                case rel => exact ⟨true, j + 1, _, rfl, by simp, by omega, by simpa using hn7, L7.out, fun h => (by cases h), O7, ⟨N7.box, N7.rt, N7.rx, N7.rc⟩, ⟨B7.os, B7.tape, B7.output, B7.size, B7.block⟩⟩
                case measure => simp [intOf]; omega
              · have f2 : decide (o2 (tlOf t (oth j)) > o2 (tlOf t j)) = false := by simpa using k2
                have FU : Hid (gr = false → ∀ d, d < j + 1 → o2 (tlOf t (oth d)) ≤ o2 (tlOf t d)) := Lib.hid fun h d hd => by
                  rcases Nat.lt_or_ge d j with q | q
                  · exact full h d q
                  · rw [show d = j by omega]; omega
                clear k2 full
                go_upto_region 13 with fail
                go_big_quiet (fail)
                go_wp2_with fail
                go_roundw
                case rel => exact ⟨gr, j + 1, o2, rfl, by simp, by omega, hng, L, FU.out, O6, ⟨N6.box, N6.rt, N6.rx, N6.rc⟩, ⟨B6.os, B6.tape, B6.output, B6.size, B6.block⟩⟩
                case measure => simp [intOf]; omega
            · have e1 : ¬ ((j : Int) < (m : Int)) := by omega
              obtain rfl : j = m := by omega
              have HM : Hid ((if gr then tot o2 N + 1 else 0) < gk) := Lib.hid (by
                simp at hn
                cases gr <;> simp at hng ⊢ <;> omega)
              clear hng
              go_wp2_with fail
              go_roundg (if gr then tot o2 N + 1 else 0)
              case measure => exact HM.out
              case rel => exact ⟨gr, o2, rfl, rfl, L, full, O, Nr, B⟩

end Go.Proofs.Ytcejjcopchkmeaa.Ro
