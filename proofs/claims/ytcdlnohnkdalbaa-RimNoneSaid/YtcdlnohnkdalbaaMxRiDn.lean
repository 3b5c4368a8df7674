/- Walks: the law RimNone. -/
import Derived.Test.YtcdlnohnkdalbaaMg12
import Derived.Test.YtcdlnohnkdalbaaMg15
import Derived.Test.YtcdlnohnkdalbaaMg9
namespace Go.Proofs.Ytcdlnohnkdalbaa.Ro
open Go.RowKit Go.Proofs Go.Maps
set_option linter.unusedVariables false
set_option linter.unusedSimpArgs false

set_option maxRecDepth 100000 in
set_option maxHeartbeats 12800000 in
theorem none_walk (A : Option Addr) (len cap : Nat) (zs : List Int) (s : Int) (v : Int) (w : World) (hV : Rd w (.slice A len cap) len (fun i => zs.getD i 0)) (hz : ∀ i, i < len → Small (zs.getD i 0)) (hl : len ≤ 9223372036854775807) (hs : Small s) (hv : Small v) :
    Calls Try.prog 10 #[.slice A len cap, .int .i64 s, .int .i64 v] w fun e w' => e = .returned (.bool true) ∧ Below w.heap.size w w' := by
  go_enter Try.func10, Try.ntmps10
  go_wp2_with fail
  refine (known8_ok _).mono ?_
  rintro e w1 ⟨rfl, B1⟩
  have h01 := B1.size
  go_wp2_with fail
  refine (plane_post _ _ len _ (hV.below B1 (Nat.le_refl _)) hz hl).mono ?_
  rintro e w2 ⟨N, m, t, x, c, TA, tp, XA, xp, CA, cp, rfl, gr, hN, hM, R2, b2⟩
  replace B1 := B1.trans (b2.mono B1.size)
  have gd := gr.good
  have ev := gd.even
  have N1 := gd.one
  have pa := gr.turns.perm
  have pb := pa.bh gd.even
  clear b2 hz hl hV
  go_upto_region 4 with fail
  obtain ⟨w3, hw3, X3, R3, b3⟩ := rows_enter (N : Int) R2
  rw [hw3]
  replace B1 := B1.trans (b3.mono B1.size)
  have NN := NetAt.of X3 R3
  have RR := R3.base h01
  clear hw3 b3 R2 X3 R3 h01
  generalize w2.heap.size = p at *
  clear w1 w2
  obtain ⟨a, ha, hal⟩ := small_within (d := s) (m := N) (by omega)
  obtain ⟨b, hb, hbl⟩ := small_within (d := v) (m := N) (by omega)
  have sa : Small (a : Int) := small_of (by omega) (by omega)
  have sb : Small (b : Int) := small_of (by omega) (by omega)
  have hin : InNet N (a : Int) (b : Int) := ⟨by omega, by omega, by omega, by omega⟩
  have gm := gr.plane
  have gcap := gm.caps
  have c0 := NN.c0
  have c1 := NN.c1
  have c2 := NN.c2
  have c3 := NN.c3
  go_big_quiet (exact (within8_any _ _ _ (by assumption) (by omega) (by omega)).mono fun e w' h => ⟨h.1, _, h.2.symm⟩)
  rw [ha, hb]
  have NN' : NetAt (w3.drewN nq) p (N : Int) (.slice TA m tp) (.slice XA m xp) (.slice CA m cp) m t x c := ⟨NN.box, NN.rt, NN.rx, NN.rc⟩
  replace NN := NN'
  have B1' : Below w.heap.size w (w3.drewN nq) := ⟨B1.os, B1.tape, B1.output, B1.size, B1.block⟩
  replace B1 := B1'
  clear B1' NN' c0 c1 c2 c3
  generalize w3.drewN nq = w4 at *
  have c0 := NN.c0
  have c1 := NN.c1
  have c2 := NN.c2
  have c3 := NN.c3
  go_wp2_with fail
  refine (refShared_ok _ N _ _ _ m t x NN.rt NN.rx (by omega) ev (fun d hd => (gd.next d hd).1) pb a b).mono ?_
  rintro e w5 ⟨o1, k1, r1, h1, O1, rfl, S1, bb⟩
  replace NN := NN.below bb (Nat.le_refl _)
  replace B1 := B1.trans (bb.mono B1.size)
  clear bb c0 c1 c2 c3
  have c0 := NN.c0
  have c1 := NN.c1
  have c2 := NN.c2
  have c3 := NN.c3
  go_wp2_with fail
  refine (rimHeightsOf_ok _ N _ _ _ m t x c NN.rt NN.rx NN.rc gm hM (a : Int) (b : Int) sa sb).mono ?_
  intro e w6 hh
  obtain ⟨V6, rfl, bb⟩ := hh.told hin O1 S1 pb
  clear hh c0 c1 c2 c3
  replace NN := NN.below bb (Nat.le_refl _)
  replace B1 := B1.trans (bb.mono B1.size)
  clear bb
  have c0 := NN.c0
  have c1 := NN.c1
  have c2 := NN.c2
  have c3 := NN.c3
  go_wp2_with fail
  refine (rimFlow_ok _ N _ _ _ m t x c NN.rt NN.rx NN.rc gm hM (a : Int) (b : Int) sa sb).mono ?_
  intro e w7 hh
  obtain ⟨V7, u7, rfl, bb⟩ := hh.told hin O1 S1 pb
  clear hh c0 c1 c2 c3
  replace NN := NN.below bb (Nat.le_refl _)
  replace B1 := B1.trans (bb.mono B1.size)
  clear bb
  have c0 := NN.c0
  by_cases hab : a = b
  · have q1 : ((a : Int) == (b : Int)) = true := by simp; omega
    have e1 : wantOf (a : Int) (b : Int) h1 = 9 := by unfold wantOf; rw [if_pos (by omega)]
    rw [e1]
    clear e1 hab S1 O1
    go_wp2_with fail
    go_ret
    exact ⟨by simp, B1⟩
  · have q1 : ((a : Int) == (b : Int)) = false := by simp; omega
    cases h1 with
    | true =>
      have e1 : wantOf (a : Int) (b : Int) true = 0 := by unfold wantOf; rw [if_neg (by omega)]; rfl
      rw [e1]
      clear e1 hab S1 O1
      go_wp2_with fail
      go_ret
      exact ⟨by simp, B1⟩
    | false =>
      have e1 : wantOf (a : Int) (b : Int) false = 10 := by unfold wantOf; rw [if_neg (by omega)]; rfl
      rw [e1]
      clear e1 hab S1 O1
      go_wp2_with fail
      go_ret
      exact ⟨by simp, B1⟩
end Go.Proofs.Ytcdlnohnkdalbaa.Ro
