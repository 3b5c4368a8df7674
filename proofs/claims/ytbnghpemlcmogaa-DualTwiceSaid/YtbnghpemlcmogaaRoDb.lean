/- Walks: the law DualTwice. -/
import Derived.Test.YtbnghpemlcmogaaRoPp
import Derived.Test.YtbnghpemlcmogaaRoK3
import Derived.Test.YtbnghpemlcmogaaRoDm
import Derived.Test.YtbnghpemlcmogaaRoY
import Derived.Test.YtbnghpemlcmogaaRoDp
namespace Go.Proofs.Ytbnghpemlcmogaa.Ro
open Go.RowKit Go.Proofs Go.Maps
set_option linter.unusedVariables false
set_option linter.unusedSimpArgs false

set_option maxRecDepth 100000 in
set_option maxHeartbeats 12800000 in
theorem twice_walk (A : Option Addr) (len cap : Nat) (zs : List Int) (uu : Int) (vv : Int) (w : World) (hV : Rd w (.slice A len cap) len (fun i => zs.getD i 0)) (hz : ∀ i, i < len → Small (zs.getD i 0)) (hl : len ≤ 9223372036854775807) (huu : Small uu) (hvv : Small vv) :
    Calls Try.prog 4 #[.slice A len cap, .int .i64 uu, .int .i64 vv] w fun e w' => e = .returned (.bool true) ∧ Below w.heap.size w w' := by
  go_enter Try.func4, Try.ntmps4
  go_wp2_with fail
  refine (known3_ok _).mono ?_
  rintro e w1 ⟨rfl, B1⟩
  have h01 := B1.size
  go_wp2_with fail
  refine (plane_post _ _ len _ (hV.below B1 (Nat.le_refl _)) hz hl).mono ?_
  rintro e w2 ⟨N, m, t, x, c, TA, tp, XA, xp, CA, cp, rfl, gr, hN, hM, R2, b2⟩
  replace B1 := B1.trans (b2.mono B1.size)
  have gd := gr.good
  have ev := gd.even
  have N1 := gd.one
  have pa := gr.turns.perm
  have pb := pa.bh gd.even
  clear b2 hz hl hV
  go_upto_region 4 with fail
  obtain ⟨w3, hw3, X3, R3, b3⟩ := rows_enter (N : Int) R2
  rw [hw3]
  replace B1 := B1.trans (b3.mono B1.size)
  have NN := NetAt.of X3 R3
  have RR := R3.base h01
  clear hw3 b3 R2 X3 R3 h01
  generalize w2.heap.size = p at *
  clear w1 w2
  have c0 := NN.c0
  have c1 := NN.c1
  have c2 := NN.c2
  have c3 := NN.c3
  go_wp2_with fail
  refine (make_ok _ N _ _ _ m t x c NN.rt NN.rx NN.rc gd pb).mono ?_
  rintro e w4 ⟨T', X', C', o, k, rfl, R4, O, bb⟩
  replace NN := NN.below bb (Nat.le_refl _)
  replace B1 := B1.trans (bb.mono B1.size)
  clear bb c0 c1 c2 c3
  have gq := gr.dual O (by omega)
  have gdq := gq.good
  have pbq := gq.turns.perm.bh ev
  have HO := Lib.hid O
  clear O
  go_wp2_with fail
  refine (make_ok _ (max k 1) _ _ _ m o (dualX x) c R4.ot.rd R4.ox.rd R4.oc.rd gdq pbq).mono ?_
  rintro e w5 ⟨T', X', C', o', k', rfl, R5, O', bb⟩
  replace NN := NN.below bb (Nat.le_refl _)
  replace B1 := B1.trans (bb.mono B1.size)
  clear bb R4
  have hkN := dual_count gr HO.out (by omega) O'
  rw [hkN]
  have HO' := Lib.hid O'
  obtain ⟨TB, tq, rfl, -⟩ := id R5.ot.rd
  obtain ⟨XB, xq, rfl, -⟩ := id R5.ox.rd
  obtain ⟨CB, cq, rfl, -⟩ := id R5.oc.rd
  clear O' hkN
  go_upto_region 5 with fail
  obtain ⟨w6, hw6, X6, R6, b6⟩ := rows_enter (N : Int) R5
  rw [hw6]
  have MM := NetAt.of X6 R6
  replace NN := NN.below b6 (Nat.le_refl _)
  replace B1 := B1.trans (b6.mono B1.size)
  clear hw6 b6 R5 X6 R6
  generalize w5.heap.size = q at *
  clear w5
  have a0 := NN.c0
  have a1 := NN.c1
  have a2 := NN.c2
  have e0 := MM.c0
  have e1 := MM.c1
  have e2 := MM.c2
  have q0 : ((N : Int) != (N : Int)) = false := by simp
  have q1 : ((m : Int) != (m : Int)) = false := by simp
  go_wp2_with fail
  refine (ints_same _ _ _ m (dualX (dualX x)) x (by omega) MM.rx NN.rx (fun j _ => by show x (oth (oth j)) = x j; rw [oth_oth])).mono ?_
  rintro e w7 ⟨rfl, b7⟩
  replace NN := NN.below b7 (Nat.le_refl _)
  replace MM := MM.below b7 (Nat.le_refl _)
  replace B1 := B1.trans (b7.mono B1.size)
  clear b7 a0 a1 a2 e0 e1 e2
  have a1 := NN.c1
  have e1 := MM.c1
  by_cases hm0 : m = 0
  · have q2 : ((m : Int) == 0) = true := by simp; omega
    go_wp2_with fail
    go_ret
    exact ⟨rfl, B1⟩
  · have q2 : ((m : Int) == 0) = false := by simp; omega
    obtain ⟨a, ha, hal⟩ := small_within (d := uu) (m := m) (by omega)
    obtain ⟨b, hb, hbl⟩ := small_within (d := vv) (m := m) (by omega)
    have m0 : (0 : Int) < (m : Int) := by omega
    have m1 : (m : Int) ≤ 1125899906842624 := by omega
    go_upto_region 9 with fail
    go_big_quiet (exact (within3_any _ _ _ (by assumption) (by omega) (by omega)).mono fun e w' h => ⟨h.1, _, h.2.symm⟩)
    rw [ha, hb]
    obtain ⟨yt, -, rfl, hct⟩ : ∃ y, True ∧ TA = some y ∧ ∀ i, i < m → w7.cell? (y.add i) = some (.int .i64 (t i)) := by
      obtain ⟨A', c', e', r⟩ := NN.rt
      injection e' with e1 e2 e3
      obtain ⟨y, h1, h2, h3⟩ := r (by omega)
      exact ⟨y, trivial, by rw [e1, h1], h3⟩
    obtain ⟨ys, -, rfl, hcs⟩ : ∃ y, True ∧ TB = some y ∧ ∀ i, i < m → w7.cell? (y.add i) = some (.int .i64 (o' i)) := by
      obtain ⟨A', c', e', r⟩ := MM.rt
      injection e' with e1 e2 e3
      obtain ⟨y, h1, h2, h3⟩ := r (by omega)
      exact ⟨y, trivial, by rw [e1, h1], h3⟩
    have t1 : (w7.drewN nq).cell? (yt.add a) = some (.int .i64 (t a)) := hct a hal
    have t2 : (w7.drewN nq).cell? (yt.add b) = some (.int .i64 (t b)) := hct b hbl
    have t3 : (w7.drewN nq).cell? (ys.add a) = some (.int .i64 (o' a)) := hcs a hal
    have t4 : (w7.drewN nq).cell? (ys.add b) = some (.int .i64 (o' b)) := hcs b hbl
    have b0 : (w7.drewN nq).cell? ⟨p, 1, none⟩ = some (.slice (some yt) m tp) := a1
    have b1 : (w7.drewN nq).cell? ⟨q, 1, none⟩ = some (.slice (some ys) m tq) := e1
    have B2 : Below w.heap.size w (w7.drewN nq) := ⟨B1.os, B1.tape, B1.output, B1.size, B1.block⟩
    have hiff := dual_tail gr HO'.out hal hbl
    have l1 : (a : Int) < (m : Int) := by omega
    have l2 : (b : Int) < (m : Int) := by omega
    have KQ : Hid (((o' a == o' b) == (t a == t b)) = true) := Lib.hid (by
      have : (o' a == o' b) = (t a == t b) := by
        rw [Bool.eq_iff_iff, beq_iff_eq, beq_iff_eq]; exact hiff
      simp [this])
    clear hiff hct hcs a1 e1 ha hb NN MM B1
    generalize w7.drewN nq = w8 at *
    clear w7
    go_wp2_with fail
    have kq := KQ.out
    go_big_quiet (fail)
    go_wp2_with fail
    go_ret
    exact ⟨rfl, ⟨B2.os, B2.tape, B2.output, B2.size, B2.block⟩⟩
end Go.Proofs.Ytbnghpemlcmogaa.Ro
