/- Walks: the law DualSplits. -/
import Derived.Test.YtbnghpemlcmogaaRoPp
import Derived.Test.YtbnghpemlcmogaaRoK3
import Derived.Test.YtbnghpemlcmogaaRoDq
import Derived.Test.YtbnghpemlcmogaaRoWi
import Derived.Test.YtbnghpemlcmogaaRoY
import Derived.Deep.DeepCutAuto
import Derived.Deep.RegionHeld3
namespace Go.Proofs.Ytbnghpemlcmogaa.Ro
open Go.RowKit Go.Proofs Go.Maps
set_option linter.unusedVariables false
set_option linter.unusedSimpArgs false

set_option maxRecDepth 100000 in
set_option maxHeartbeats 12800000 in
theorem splits_walk (A : Option Addr) (len cap : Nat) (zs : List Int) (s : Int) (v : Int) (u : Int) (y : Int) (w : World) (hV : Rd w (.slice A len cap) len (fun i => zs.getD i 0)) (hz : ∀ i, i < len → Small (zs.getD i 0)) (hl : len ≤ 9223372036854775807) (hs : Small s) (hv : Small v) (hu : Small u) (hy : Small y) :
    Calls Try.prog 6 #[.slice A len cap, .int .i64 s, .int .i64 v, .int .i64 u, .int .i64 y] w fun e w' => e = .returned (.bool true) ∧ Below w.heap.size w w' := by
  go_enter Try.func6, Try.ntmps6
  go_wp2_with fail
  refine (known3_ok _).mono ?_
  rintro e w1 ⟨rfl, B1⟩
  have h01 := B1.size
  go_wp2_with fail
  refine (plane_post _ _ len _ (hV.below B1 (Nat.le_refl _)) hz hl).mono ?_
  rintro e w2 ⟨N, m, t, x, c, TA, tp, XA, xp, CA, cp, rfl, gr, hN, hM, R2, b2⟩
  replace B1 := B1.trans (b2.mono B1.size)
  have gd := gr.good
  have ev := gd.even
  have N1 := gd.one
  have pa := gr.turns.perm
  have pb := pa.bh gd.even
  clear b2 hz hl hV
  go_upto_region 4 with fail
  obtain ⟨w3, hw3, X3, R3, b3⟩ := rows_enter (N : Int) R2
  rw [hw3]
  replace B1 := B1.trans (b3.mono B1.size)
  have NN := NetAt.of X3 R3
  have RR := R3.base h01
  clear hw3 b3 R2 X3 R3 h01
  generalize w2.heap.size = p at *
  clear w1 w2
  obtain ⟨a, ha, hal⟩ := small_within (d := s) (m := N) (by omega)
  obtain ⟨b, hb, hbl⟩ := small_within (d := v) (m := N) (by omega)
  have c0 := NN.c0
  have HA := Lib.hid (And.intro ha hb)
  go_cut [12] (fun u12 wx => ∃ P Q L : Nat, u12 = .slice (some ⟨L, 0, none⟩) 2 2 ∧ wx.heap[L]? = some (.cells #[.slice (some ⟨P, 0, none⟩) 2 2, .slice (some ⟨Q, 0, none⟩) 2 2] 22 (0, 0)) ∧ wx.heap[P]? = some (.cells #[.int .i64 (a : Int), .int .i64 (b : Int)] 3 (0, 0)) ∧ wx.heap[Q]? = some (.cells #[.int .i64 u, .int .i64 y] 3 (0, 0)) ∧ Below w3.heap.size w3 wx)
  case first =>
    have T1 := fun a b c => alloc3 w3 a b c 3 3 22
    have HT := Lib.hid T1
    clear T1
    have lp := NN.lt
    have f0 : ¬ (p = w3.heap.size) := by omega
    have f1 : ¬ (p = w3.heap.size + 1) := by omega
    have f2 : ¬ (p = w3.heap.size + 1 + 1) := by omega
    go_region_held3 (fun w' => w'.cell? ⟨p, 0, none⟩ = some (.int .i64 (N : Int))) (first | exact (((HT.out _ _ _).2.2.2.drew).cell (p := ⟨p, 0, none⟩) lp).trans c0 | go_keep)
      ((go_at_call 21; refine (within3_any _ _ _ (by assumption) (by omega) (by omega)).mono ?_; rintro e w' ⟨rfl, rfl⟩))
    all_goals
      go_wp2_with fail
      go_meet
      have T1 := HT.out #[.int .i64 (a : Int), .int .i64 (b : Int)] #[.int .i64 u, .int .i64 y]
      have T2 := HT.out #[.int .i64 u, .int .i64 y] #[.int .i64 (a : Int), .int .i64 (b : Int)]
      obtain ⟨ha', hb'⟩ := HA.out
      first
        | exact ⟨_, _, _, rfl, (T1 _).2.2.1, (T1 _).1, (T1 _).2.1, (T1 _).2.2.2.drew⟩
        | exact ⟨_, _, _, rfl, (T2 _).2.2.1, (T2 _).2.1, (T2 _).1, (T2 _).2.2.2.drew⟩
  case rest =>
    obtain ⟨P, Q, L, rfl, hL0, hP0, hQ0, b5⟩ := hcut
    replace NN := NN.below b5 (Nat.le_refl _)
    replace B1 := B1.trans (b5.mono B1.size)
    clear b5 c0 HA ha hb
    obtain ⟨w5, hw5⟩ : ∃ w5, w5 = wc := ⟨_, rfl⟩
    have hL : wc.heap[L]? = w5.heap[L]? := by rw [hw5]
    have hP : wc.heap[P]? = w5.heap[P]? := by rw [hw5]
    have hQ : wc.heap[Q]? = w5.heap[Q]? := by rw [hw5]
    rw [← hw5] at hL0 hP0 hQ0
    clear hw5
    go_wp2_with fail
    go_loopw [13] (fun u13 wr => ∃ i : Nat, u13 = .int .i64 (i : Int) ∧ i ≤ 2 ∧ NetAt wr p (N : Int) (.slice TA m tp) (.slice XA m xp) (.slice CA m cp) m t x c ∧ wr.heap[L]? = w5.heap[L]? ∧ wr.heap[P]? = w5.heap[P]? ∧ wr.heap[Q]? = w5.heap[Q]? ∧ Below w.heap.size w wr) (fun u13 _ => 2 - (intOf u13).toNat)
    case atStart => exact ⟨0, rfl, by omega, NN, hL, hP, hQ, B1⟩
    case round =>
      clear NN hL hP hQ B1
      obtain ⟨i, rfl, hi, NN, hL, hP, hQ, B1⟩ := hrel
      rcases (show i = 0 ∨ i = 1 ∨ i = 2 by omega) with rfl | rfl | rfl
      · have c0 := NN.c0
        have c1 := NN.c1
        have c2 := NN.c2
        have c3 := NN.c3
        have l0 : wr.cell? ⟨L, 0, none⟩ = some (.slice (some ⟨P, 0, none⟩) 2 2) := (cell_of_heap hL).trans (by rw [blk_cell hL0]; rfl)
        have r0 : wr.cell? ⟨P, 0, none⟩ = some (.int .i64 (a : Int)) := (cell_of_heap hP).trans (by rw [blk_cell hP0]; rfl)
        have r1 : wr.cell? ⟨P, 1, none⟩ = some (.int .i64 (b : Int)) := (cell_of_heap hP).trans (by rw [blk_cell hP0]; rfl)
        have pl := NN.lt
        have lL : L < wr.heap.size := blk_lt (hL.trans hL0)
        have lB : P < wr.heap.size := blk_lt (hP.trans hP0)
        have D0 : Below wr.heap.size wr wr.drew := (Below.refl _ wr).drew
        have KK : Hid (∀ W, Below wr.heap.size wr W → W.cell? ⟨p, 0, none⟩ = some (.int .i64 (N : Int)) ∧ W.cell? ⟨p, 1, none⟩ = some (.slice TA m tp) ∧ W.cell? ⟨p, 2, none⟩ = some (.slice XA m xp) ∧ W.cell? ⟨p, 3, none⟩ = some (.slice CA m cp) ∧ W.cell? ⟨L, 0, none⟩ = some (.slice (some ⟨P, 0, none⟩) 2 2) ∧ W.cell? ⟨P, 0, none⟩ = some (.int .i64 (a : Int)) ∧ W.cell? ⟨P, 1, none⟩ = some (.int .i64 (b : Int))) :=
          Lib.hid fun W b => ⟨(b.cell (p := ⟨p, 0, none⟩) pl).trans c0, (b.cell (p := ⟨p, 1, none⟩) pl).trans c1, (b.cell (p := ⟨p, 2, none⟩) pl).trans c2, (b.cell (p := ⟨p, 3, none⟩) pl).trans c3, (b.cell (p := ⟨L, 0, none⟩) lL).trans l0, (b.cell (p := ⟨P, 0, none⟩) lB).trans r0, (b.cell (p := ⟨P, 1, none⟩) lB).trans r1⟩
        go_upto_region 8 with fail
        go_region_held3 (fun w' => w'.cell? ⟨p, 0, none⟩ = some (.int .i64 (N : Int)) ∧ w'.cell? ⟨p, 1, none⟩ = some (.slice TA m tp) ∧ w'.cell? ⟨p, 2, none⟩ = some (.slice XA m xp) ∧ w'.cell? ⟨p, 3, none⟩ = some (.slice CA m cp) ∧ w'.cell? ⟨L, 0, none⟩ = some (.slice (some ⟨P, 0, none⟩) 2 2) ∧ w'.cell? ⟨P, 0, none⟩ = some (.int .i64 (a : Int)) ∧ w'.cell? ⟨P, 1, none⟩ = some (.int .i64 (b : Int)))
          (first | with_reducible exact k1 | go_keep)
          ((go_at_call 24; refine (split_ok wr.drew N _ _ _ m t x c (NN.rt.below D0 (Nat.le_refl _)) (NN.rx.below D0 (Nat.le_refl _)) (NN.rc.below D0 (Nat.le_refl _)) gd pb (a : Int) (b : Int)).mono ?_; rintro e w7 h7; obtain ⟨A1, n1, k1_, g1, x1, x2, x3, y1, rfl, W1, -, R1, le1, bb⟩ := SplitPost.rel h7; have E7 : Below wr.heap.size wr w7 := D0.trans (bb.mono (Nat.le_refl _)); have k1 := KK.out w7 E7; clear bb h7))
        replace NN := NN.below E7 (Nat.le_refl _)
        replace B1 := B1.trans (E7.mono B1.size)
        replace hL := (E7.block L (blk_lt (hL.trans hL0))).trans hL
        replace hP := (E7.block P (blk_lt (hP.trans hP0))).trans hP
        replace hQ := (E7.block Q (blk_lt (hQ.trans hQ0))).trans hQ
        clear E7 KK k1 c0 c1 c2 c3 l0 r0 r1 pl lL lB D0
        have c0 := NN.c0
        have c1 := NN.c1
        have c2 := NN.c2
        have c3 := NN.c3
        have l0 : w7.cell? ⟨L, 0, none⟩ = some (.slice (some ⟨P, 0, none⟩) 2 2) := (cell_of_heap hL).trans (by rw [blk_cell hL0]; rfl)
        have r0 : w7.cell? ⟨P, 0, none⟩ = some (.int .i64 (a : Int)) := (cell_of_heap hP).trans (by rw [blk_cell hP0]; rfl)
        have r1 : w7.cell? ⟨P, 1, none⟩ = some (.int .i64 (b : Int)) := (cell_of_heap hP).trans (by rw [blk_cell hP0]; rfl)
        have pl := NN.lt
        have lL : L < w7.heap.size := blk_lt (hL.trans hL0)
        have lB : P < w7.heap.size := blk_lt (hP.trans hP0)
        have D0 : Below w7.heap.size w7 w7.drew := (Below.refl _ w7).drew
        have KK : Hid (∀ W, Below w7.heap.size w7 W → W.cell? ⟨p, 0, none⟩ = some (.int .i64 (N : Int)) ∧ W.cell? ⟨p, 1, none⟩ = some (.slice TA m tp) ∧ W.cell? ⟨p, 2, none⟩ = some (.slice XA m xp) ∧ W.cell? ⟨p, 3, none⟩ = some (.slice CA m cp) ∧ W.cell? ⟨L, 0, none⟩ = some (.slice (some ⟨P, 0, none⟩) 2 2) ∧ W.cell? ⟨P, 0, none⟩ = some (.int .i64 (a : Int)) ∧ W.cell? ⟨P, 1, none⟩ = some (.int .i64 (b : Int))) :=
          Lib.hid fun W b => ⟨(b.cell (p := ⟨p, 0, none⟩) pl).trans c0, (b.cell (p := ⟨p, 1, none⟩) pl).trans c1, (b.cell (p := ⟨p, 2, none⟩) pl).trans c2, (b.cell (p := ⟨p, 3, none⟩) pl).trans c3, (b.cell (p := ⟨L, 0, none⟩) lL).trans l0, (b.cell (p := ⟨P, 0, none⟩) lB).trans r0, (b.cell (p := ⟨P, 1, none⟩) lB).trans r1⟩
        go_upto_region 9 with fail
        go_region_held3 (fun w' => w'.cell? ⟨p, 0, none⟩ = some (.int .i64 (N : Int)) ∧ w'.cell? ⟨p, 1, none⟩ = some (.slice TA m tp) ∧ w'.cell? ⟨p, 2, none⟩ = some (.slice XA m xp) ∧ w'.cell? ⟨p, 3, none⟩ = some (.slice CA m cp) ∧ w'.cell? ⟨L, 0, none⟩ = some (.slice (some ⟨P, 0, none⟩) 2 2) ∧ w'.cell? ⟨P, 0, none⟩ = some (.int .i64 (a : Int)) ∧ w'.cell? ⟨P, 1, none⟩ = some (.int .i64 (b : Int)))
          (first | with_reducible exact k1 | go_keep)
          ((go_at_call 25; refine (refSplit_ok w7.drew (N : Int) _ _ _ m t x c (NN.rt.below D0 (Nat.le_refl _)) (NN.rx.below D0 (Nat.le_refl _)) (NN.rc.below D0 (Nat.le_refl _)) (by omega) ev (fun d hd => (gd.next d hd).1) pb (a : Int) (b : Int)).mono ?_; rintro e w9 h9; obtain ⟨A2, n2, k2_, g2, z1, z2, z3, y2, rfl, W2, -, R2, le2, bb⟩ := SplitPost.rel h9; have E9 : Below w7.heap.size w7 w9 := D0.trans (bb.mono (Nat.le_refl _)); have k1 := KK.out w9 E9; clear bb h9))
        replace NN := NN.below E9 (Nat.le_refl _)
        replace B1 := B1.trans (E9.mono B1.size)
        replace hL := (E9.block L (blk_lt (hL.trans hL0))).trans hL
        replace hP := (E9.block P (blk_lt (hP.trans hP0))).trans hP
        replace hQ := (E9.block Q (blk_lt (hQ.trans hQ0))).trans hQ
        replace W1 := W1.below E9 (Nat.le_refl _)
        clear KK k1 c0 c1 c2 c3 l0 r0 r1 pl lL lB D0 E9
        obtain ⟨rfl, rfl, rfl, rfl, rfl, he⟩ := R1.one pb R2
        clear R1 R2
        have q1 : (x1 != x1) = false := by simp
        have q2 : (x2 != x2) = false := by simp
        have q3 : (x3 != x3) = false := by simp
        have q4 : (y1 != y1) = false := by simp
        have HE := Lib.hid he
        clear he
        go_upto_region 10 with fail
        go_wp2_with fail
        refine (ints_same _ _ _ n1 g1 g2 (by omega) W1.rd W2.rd HE.out).mono ?_
        rintro e w10 ⟨rfl, bb⟩
        replace NN := NN.below bb (Nat.le_refl _)
        replace B1 := B1.trans (bb.mono B1.size)
        replace hL := (bb.block L (blk_lt (hL.trans hL0))).trans hL
        replace hP := (bb.block P (blk_lt (hP.trans hP0))).trans hP
        replace hQ := (bb.block Q (blk_lt (hQ.trans hQ0))).trans hQ
        clear bb W1 W2 HE
        go_wp2_with fail
        go_roundw
        case rel => exact ⟨1, by simp, by omega, NN, hL, hP, hQ, B1⟩
        case measure => simp [intOf]
      · have c0 := NN.c0
        have c1 := NN.c1
        have c2 := NN.c2
        have c3 := NN.c3
        have l0 : wr.cell? ⟨L, 1, none⟩ = some (.slice (some ⟨Q, 0, none⟩) 2 2) := (cell_of_heap hL).trans (by rw [blk_cell hL0]; rfl)
        have r0 : wr.cell? ⟨Q, 0, none⟩ = some (.int .i64 u) := (cell_of_heap hQ).trans (by rw [blk_cell hQ0]; rfl)
        have r1 : wr.cell? ⟨Q, 1, none⟩ = some (.int .i64 y) := (cell_of_heap hQ).trans (by rw [blk_cell hQ0]; rfl)
        have pl := NN.lt
        have lL : L < wr.heap.size := blk_lt (hL.trans hL0)
        have lB : Q < wr.heap.size := blk_lt (hQ.trans hQ0)
        have D0 : Below wr.heap.size wr wr.drew := (Below.refl _ wr).drew
        have KK : Hid (∀ W, Below wr.heap.size wr W → W.cell? ⟨p, 0, none⟩ = some (.int .i64 (N : Int)) ∧ W.cell? ⟨p, 1, none⟩ = some (.slice TA m tp) ∧ W.cell? ⟨p, 2, none⟩ = some (.slice XA m xp) ∧ W.cell? ⟨p, 3, none⟩ = some (.slice CA m cp) ∧ W.cell? ⟨L, 1, none⟩ = some (.slice (some ⟨Q, 0, none⟩) 2 2) ∧ W.cell? ⟨Q, 0, none⟩ = some (.int .i64 u) ∧ W.cell? ⟨Q, 1, none⟩ = some (.int .i64 y)) :=
          Lib.hid fun W b => ⟨(b.cell (p := ⟨p, 0, none⟩) pl).trans c0, (b.cell (p := ⟨p, 1, none⟩) pl).trans c1, (b.cell (p := ⟨p, 2, none⟩) pl).trans c2, (b.cell (p := ⟨p, 3, none⟩) pl).trans c3, (b.cell (p := ⟨L, 1, none⟩) lL).trans l0, (b.cell (p := ⟨Q, 0, none⟩) lB).trans r0, (b.cell (p := ⟨Q, 1, none⟩) lB).trans r1⟩
        go_upto_region 8 with fail
        go_region_held3 (fun w' => w'.cell? ⟨p, 0, none⟩ = some (.int .i64 (N : Int)) ∧ w'.cell? ⟨p, 1, none⟩ = some (.slice TA m tp) ∧ w'.cell? ⟨p, 2, none⟩ = some (.slice XA m xp) ∧ w'.cell? ⟨p, 3, none⟩ = some (.slice CA m cp) ∧ w'.cell? ⟨L, 1, none⟩ = some (.slice (some ⟨Q, 0, none⟩) 2 2) ∧ w'.cell? ⟨Q, 0, none⟩ = some (.int .i64 u) ∧ w'.cell? ⟨Q, 1, none⟩ = some (.int .i64 y))
          (first | with_reducible exact k1 | go_keep)
          ((go_at_call 24; refine (split_ok wr.drew N _ _ _ m t x c (NN.rt.below D0 (Nat.le_refl _)) (NN.rx.below D0 (Nat.le_refl _)) (NN.rc.below D0 (Nat.le_refl _)) gd pb u y).mono ?_; rintro e w7 h7; obtain ⟨A1, n1, k1_, g1, x1, x2, x3, y1, rfl, W1, -, R1, le1, bb⟩ := SplitPost.rel h7; have E7 : Below wr.heap.size wr w7 := D0.trans (bb.mono (Nat.le_refl _)); have k1 := KK.out w7 E7; clear bb h7))
        replace NN := NN.below E7 (Nat.le_refl _)
        replace B1 := B1.trans (E7.mono B1.size)
        replace hL := (E7.block L (blk_lt (hL.trans hL0))).trans hL
        replace hP := (E7.block P (blk_lt (hP.trans hP0))).trans hP
        replace hQ := (E7.block Q (blk_lt (hQ.trans hQ0))).trans hQ
        clear E7 KK k1 c0 c1 c2 c3 l0 r0 r1 pl lL lB D0
        have c0 := NN.c0
        have c1 := NN.c1
        have c2 := NN.c2
        have c3 := NN.c3
        have l0 : w7.cell? ⟨L, 1, none⟩ = some (.slice (some ⟨Q, 0, none⟩) 2 2) := (cell_of_heap hL).trans (by rw [blk_cell hL0]; rfl)
        have r0 : w7.cell? ⟨Q, 0, none⟩ = some (.int .i64 u) := (cell_of_heap hQ).trans (by rw [blk_cell hQ0]; rfl)
        have r1 : w7.cell? ⟨Q, 1, none⟩ = some (.int .i64 y) := (cell_of_heap hQ).trans (by rw [blk_cell hQ0]; rfl)
        have pl := NN.lt
        have lL : L < w7.heap.size := blk_lt (hL.trans hL0)
        have lB : Q < w7.heap.size := blk_lt (hQ.trans hQ0)
        have D0 : Below w7.heap.size w7 w7.drew := (Below.refl _ w7).drew
        have KK : Hid (∀ W, Below w7.heap.size w7 W → W.cell? ⟨p, 0, none⟩ = some (.int .i64 (N : Int)) ∧ W.cell? ⟨p, 1, none⟩ = some (.slice TA m tp) ∧ W.cell? ⟨p, 2, none⟩ = some (.slice XA m xp) ∧ W.cell? ⟨p, 3, none⟩ = some (.slice CA m cp) ∧ W.cell? ⟨L, 1, none⟩ = some (.slice (some ⟨Q, 0, none⟩) 2 2) ∧ W.cell? ⟨Q, 0, none⟩ = some (.int .i64 u) ∧ W.cell? ⟨Q, 1, none⟩ = some (.int .i64 y)) :=
          Lib.hid fun W b => ⟨(b.cell (p := ⟨p, 0, none⟩) pl).trans c0, (b.cell (p := ⟨p, 1, none⟩) pl).trans c1, (b.cell (p := ⟨p, 2, none⟩) pl).trans c2, (b.cell (p := ⟨p, 3, none⟩) pl).trans c3, (b.cell (p := ⟨L, 1, none⟩) lL).trans l0, (b.cell (p := ⟨Q, 0, none⟩) lB).trans r0, (b.cell (p := ⟨Q, 1, none⟩) lB).trans r1⟩
        go_upto_region 9 with fail
        go_region_held3 (fun w' => w'.cell? ⟨p, 0, none⟩ = some (.int .i64 (N : Int)) ∧ w'.cell? ⟨p, 1, none⟩ = some (.slice TA m tp) ∧ w'.cell? ⟨p, 2, none⟩ = some (.slice XA m xp) ∧ w'.cell? ⟨p, 3, none⟩ = some (.slice CA m cp) ∧ w'.cell? ⟨L, 1, none⟩ = some (.slice (some ⟨Q, 0, none⟩) 2 2) ∧ w'.cell? ⟨Q, 0, none⟩ = some (.int .i64 u) ∧ w'.cell? ⟨Q, 1, none⟩ = some (.int .i64 y))
          (first | with_reducible exact k1 | go_keep)
          ((go_at_call 25; refine (refSplit_ok w7.drew (N : Int) _ _ _ m t x c (NN.rt.below D0 (Nat.le_refl _)) (NN.rx.below D0 (Nat.le_refl _)) (NN.rc.below D0 (Nat.le_refl _)) (by omega) ev (fun d hd => (gd.next d hd).1) pb u y).mono ?_; rintro e w9 h9; obtain ⟨A2, n2, k2_, g2, z1, z2, z3, y2, rfl, W2, -, R2, le2, bb⟩ := SplitPost.rel h9; have E9 : Below w7.heap.size w7 w9 := D0.trans (bb.mono (Nat.le_refl _)); have k1 := KK.out w9 E9; clear bb h9))
        replace NN := NN.below E9 (Nat.le_refl _)
        replace B1 := B1.trans (E9.mono B1.size)
        replace hL := (E9.block L (blk_lt (hL.trans hL0))).trans hL
        replace hP := (E9.block P (blk_lt (hP.trans hP0))).trans hP
        replace hQ := (E9.block Q (blk_lt (hQ.trans hQ0))).trans hQ
        replace W1 := W1.below E9 (Nat.le_refl _)
        clear KK k1 c0 c1 c2 c3 l0 r0 r1 pl lL lB D0 E9
        obtain ⟨rfl, rfl, rfl, rfl, rfl, he⟩ := R1.one pb R2
        clear R1 R2
        have q1 : (x1 != x1) = false := by simp
        have q2 : (x2 != x2) = false := by simp
        have q3 : (x3 != x3) = false := by simp
        have q4 : (y1 != y1) = false := by simp
        have HE := Lib.hid he
        clear he
        go_upto_region 10 with fail
        go_wp2_with fail
        refine (ints_same _ _ _ n1 g1 g2 (by omega) W1.rd W2.rd HE.out).mono ?_
        rintro e w10 ⟨rfl, bb⟩
        replace NN := NN.below bb (Nat.le_refl _)
        replace B1 := B1.trans (bb.mono B1.size)
        replace hL := (bb.block L (blk_lt (hL.trans hL0))).trans hL
        replace hP := (bb.block P (blk_lt (hP.trans hP0))).trans hP
        replace hQ := (bb.block Q (blk_lt (hQ.trans hQ0))).trans hQ
        clear bb W1 W2 HE
        go_wp2_with fail
        go_roundw
        case rel => exact ⟨2, by simp, by omega, NN, hL, hP, hQ, B1⟩
        case measure => simp [intOf]
      · go_wp2_with fail
        go_ret
        exact ⟨rfl, B1⟩
end Go.Proofs.Ytbnghpemlcmogaa.Ro
