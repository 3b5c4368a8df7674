/- Walks: the law RimFlows. -/
import Derived.Deep.RegionHeld3
import Derived.Test.YtcdlnohnkdalbaaMg15
import Derived.Test.YtcdlnohnkdalbaaMg9
import Derived.Test.YtcdlnohnkdalbaaMxRiCw
import Derived.Test.YtcdlnohnkdalbaaMxRiPq
import Derived.Test.YtcdlnohnkdalbaaMxRxC
namespace Go.Proofs.Ytcdlnohnkdalbaa.Ro
open Go.RowKit Go.Proofs Go.Maps
set_option linter.unusedVariables false
set_option linter.unusedSimpArgs false

set_option maxRecDepth 100000 in
set_option maxHeartbeats 12800000 in
theorem flows_walk (A : Option Addr) (len cap : Nat) (zs : List Int) (s : Int) (v : Int) (w : World) (hV : Rd w (.slice A len cap) len (fun i => zs.getD i 0)) (hz : ∀ i, i < len → Small (zs.getD i 0)) (hl : len ≤ 9223372036854775807) (hs : Small s) (hv : Small v) :
    Calls Try.prog 4 #[.slice A len cap, .int .i64 s, .int .i64 v] w fun e w' => e = .returned (.bool true) ∧ Below w.heap.size w w' := by
  go_enter Try.func4, Try.ntmps4
  go_wp2_with fail
  refine (known8_ok _).mono ?_
  rintro e w1 ⟨rfl, B1⟩
  have h01 := B1.size
  go_wp2_with fail
  refine (plane_pots _ _ len _ (hV.below B1 (Nat.le_refl _)) hz hl).mono ?_
  rintro e w2 ⟨N, m, t, x, c, TA, tp, XA, xp, CA, cp, rfl, gr, pp, hN, hM, R2, b2⟩
  replace B1 := B1.trans (b2.mono B1.size)
  have gd := gr.good
  have ev := gd.even
  have N1 := gd.one
  have pa := gr.turns.perm
  have pb := pa.bh gd.even
  clear b2 hz hl hV
  go_upto_region 4 with fail
  obtain ⟨w3, hw3, X3, R3, b3⟩ := rows_enter (N : Int) R2
  rw [hw3]
  replace B1 := B1.trans (b3.mono B1.size)
  have NN := NetAt.of X3 R3
  have RR := R3.base h01
  clear hw3 b3 R2 X3 R3 h01
  generalize w2.heap.size = p at *
  clear w1 w2
  obtain ⟨a, ha, hal⟩ := small_within (d := s) (m := N) (by omega)
  obtain ⟨b, hb, hbl⟩ := small_within (d := v) (m := N) (by omega)
  have sa : Small (a : Int) := small_of (by omega) (by omega)
  have sb : Small (b : Int) := small_of (by omega) (by omega)
  have hin : InNet N (a : Int) (b : Int) := ⟨by omega, by omega, by omega, by omega⟩
  have gm := gr.plane
  have gcap := gm.caps
  have c0 := NN.c0
  have c1 := NN.c1
  have c2 := NN.c2
  have c3 := NN.c3
  go_big_quiet (exact (within8_any _ _ _ (by assumption) (by omega) (by omega)).mono fun e w' h => ⟨h.1, _, h.2.symm⟩)
  rw [ha, hb]
  have NN' : NetAt (w3.drewN nq) p (N : Int) (.slice TA m tp) (.slice XA m xp) (.slice CA m cp) m t x c := ⟨NN.box, NN.rt, NN.rx, NN.rc⟩
  replace NN := NN'
  have B1' : Below w.heap.size w (w3.drewN nq) := ⟨B1.os, B1.tape, B1.output, B1.size, B1.block⟩
  replace B1 := B1'
  clear B1' NN' c0 c1 c2 c3
  generalize w3.drewN nq = w4 at *
  have c0 := NN.c0
  have c1 := NN.c1
  have c2 := NN.c2
  have c3 := NN.c3
  go_wp2_with fail
  refine (rimFlow_ok _ N _ _ _ m t x c NN.rt NN.rx NN.rc gm hM (a : Int) (b : Int) sa sb).mono ?_
  intro e w5 hh
  obtain ⟨V6, n6, y6, u6, code6, rfl, R6, bb, IS6⟩ := hh.row
  clear hh c0 c1 c2 c3
  replace NN := NN.below bb (Nat.le_refl _)
  replace B1 := B1.trans (bb.mono B1.size)
  clear bb
  have c0 := NN.c0
  have c1 := NN.c1
  have c2 := NN.c2
  have c3 := NN.c3
  go_wp2_with fail
  refine (refShared_ok _ N _ _ _ m t x NN.rt NN.rx (by omega) ev (fun d hd => (gd.next d hd).1) pb a b).mono ?_
  rintro e w6 ⟨o1, k1, r1, h1, O1, rfl, S1, bb⟩
  replace NN := NN.below bb (Nat.le_refl _)
  replace B1 := B1.trans (bb.mono B1.size)
  obtain ⟨A6, q6, rfl⟩ := R6.slice
  have P6 := R6.1.below bb (Nat.le_refl _)
  clear bb c0 c1 c2 c3 R6
  rcases IS6 with ⟨rfl, rfl, hbad⟩ | ⟨o, K, f, D, rfl, rfl, rfl, rfl, hok⟩
  · have q1 : (code6 != 0) = true := by simp; exact hbad.ne
    have hw := hbad.want hin O1 S1 pb
    by_cases hab : a = b
    · have q2 : ((a : Int) == (b : Int)) = true := by simp; omega
      obtain rfl : code6 = 9 := by rw [hw]; unfold wantOf; rw [if_pos (by omega)]
      clear hw hbad hab S1 O1
      go_wp2_with fail
      go_ret
      exact ⟨by simp, B1⟩
    · have q2 : ((a : Int) == (b : Int)) = false := by simp; omega
      have q3 : ((a : Int) != (b : Int)) = true := by simp; omega
      cases h1 with
      | true =>
        exfalso
        rw [hw] at hbad
        have := hbad.ne
        unfold wantOf at this
        rw [if_neg (by omega)] at this
        exact this rfl
      | false =>
        obtain rfl : code6 = 10 := by rw [hw]; unfold wantOf; rw [if_neg (by omega)]; rfl
        clear hw hbad hab S1 O1
        go_wp2_with fail
        go_ret
        exact ⟨by simp, B1⟩
  · obtain ⟨-, rfl⟩ := hok.want O1 S1 pb
    have hab : a ≠ b := by have := hok.ne; omega
    obtain ⟨FF, hF⟩ := hok.flows gd gr.turns hM gcap
    obtain ⟨z1, z2, z3⟩ := hok.near gd gr.turns hM gcap
    have HMO : Hid (∀ (g : Nat → Int) (W : Int), Flows n6 t g (a : Int) (b : Int) W → (∀ d, d < n6 → g d ≤ c d) → W ≤ D K) := Lib.hid fun g W G hg => hok.most pp gd gr.turns hM gcap G hg
    have HFF := Lib.hid FF
    have HFL := Lib.hid hF
    have hni : (a : Int) ≠ (b : Int) := by omega
    have HNI := Lib.hid hni
    clear hok FF hF S1 O1 hni z1
    have c0 := NN.c0
    have c1 := NN.c1
    have c2 := NN.c2
    have c3 := NN.c3
    go_wp2_with fail
    refine (most_any _ N _ _ _ n6 a b t x c NN.rt NN.rx NN.rc hal hbl hab (by omega) (by omega) ev gd.tail gcap).mono ?_
    rintro e w7 ⟨mb, W, ff, rfl, -, -, MF, Mc, Mm, bb⟩
    have hW : W = D K := Int.le_antisymm (HMO.out ff W MF Mc) (Mm _ _ HFF.out HFL.out)
    subst hW
    replace NN := NN.below bb (Nat.le_refl _)
    replace P6 := P6.below bb (Nat.le_refl _)
    replace B1 := B1.trans (bb.mono B1.size)
    clear bb c0 c1 c2 c3 MF Mc Mm
    have c0 := NN.c0
    have c1 := NN.c1
    have c2 := NN.c2
    have c3 := NN.c3
    go_wp2_with fail
    refine (flow13_ok _ N _ _ _ _ n6 a b t x c _ NN.rt NN.rx NN.rc P6.rd hal hbl hab (by omega) (by omega) ev gcap HFF.out HFL.out).mono ?_
    rintro e w8 ⟨rfl, bb⟩
    replace NN := NN.below bb (Nat.le_refl _)
    replace P6 := P6.below bb (Nat.le_refl _)
    replace B1 := B1.trans (bb.mono B1.size)
    clear bb c0 c1 c2 c3
    have c0 := NN.c0
    have c1 := NN.c1
    have c2 := NN.c2
    have c3 := NN.c3
    go_wp2_with fail
    refine (value_any _ (N : Int) _ _ _ _ n6 t x c _ NN.rt NN.rx NN.rc P6.rd (a : Int) (fun d hd => by have := flow_bound HFF.out ev HFL.out gcap hd; omega) (by omega)).mono ?_
    rintro e w9 ⟨rfl, bb⟩
    rw [flow_value (c := c) HFF.out HNI.out]
    replace B1 := B1.trans (bb.mono B1.size)
    have q1 : (D K == D K) = true := by simp
    clear bb c0 c1 c2 c3
    go_wp2_with fail
    go_ret
    exact ⟨by simp, B1⟩
end Go.Proofs.Ytcdlnohnkdalbaa.Ro
