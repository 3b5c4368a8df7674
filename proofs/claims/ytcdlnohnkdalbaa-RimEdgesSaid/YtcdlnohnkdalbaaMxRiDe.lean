/- Walks: the law RimEdges. -/
import Derived.Deep.RegionHeld3
import Derived.Test.YtcdlnohnkdalbaaMg15
import Derived.Test.YtcdlnohnkdalbaaMg9
import Derived.Test.YtcdlnohnkdalbaaMxRiPq
namespace Go.Proofs.Ytcdlnohnkdalbaa.Ro
open Go.RowKit Go.Proofs Go.Maps
set_option linter.unusedVariables false
set_option linter.unusedSimpArgs false

set_option maxRecDepth 100000 in
set_option maxHeartbeats 12800000 in
theorem edges_walk (A : Option Addr) (len cap : Nat) (zs : List Int) (u : Int) (w : World) (hV : Rd w (.slice A len cap) len (fun i => zs.getD i 0)) (hz : ∀ i, i < len → Small (zs.getD i 0)) (hl : len ≤ 9223372036854775807) (hu : Small u) :
    Calls Try.prog 8 #[.slice A len cap, .int .i64 u] w fun e w' => e = .returned (.bool true) ∧ Below w.heap.size w w' := by
  go_enter Try.func8, Try.ntmps8
  go_wp2_with fail
  refine (known8_ok _).mono ?_
  rintro e w1 ⟨rfl, B1⟩
  have h01 := B1.size
  go_wp2_with fail
  refine (plane_pots _ _ len _ (hV.below B1 (Nat.le_refl _)) hz hl).mono ?_
  rintro e w2 ⟨N, m, t, x, c, TA, tp, XA, xp, CA, cp, rfl, gr, pp, hN, hM, R2, b2⟩
  replace B1 := B1.trans (b2.mono B1.size)
  have gd := gr.good
  have ev := gd.even
  have N1 := gd.one
  have pa := gr.turns.perm
  have pb := pa.bh gd.even
  clear b2 hz hl hV
  go_upto_region 4 with fail
  obtain ⟨w3, hw3, X3, R3, b3⟩ := rows_enter (N : Int) R2
  rw [hw3]
  replace B1 := B1.trans (b3.mono B1.size)
  have NN := NetAt.of X3 R3
  have RR := R3.base h01
  clear hw3 b3 R2 X3 R3 h01
  generalize w2.heap.size = p at *
  clear w1 w2
  have gm := gr.plane
  have gcap := gm.caps
  have c1 := NN.c1
  by_cases hm0 : m = 0
  · have q1 : ((m : Int) == 0) = true := by simp; omega
    go_wp2_with fail
    go_ret
    exact ⟨by simp, B1⟩
  · have q1 : ((m : Int) == 0) = false := by simp; omega
    obtain ⟨d, hd, hdl⟩ := small_within (d := u) (m := m) (by omega)
    go_wp2_with fail
    refine (within8_any _ _ _ hu (by omega) (by omega)).mono ?_
    rintro e w' ⟨rfl, rfl⟩
    rw [hd]
    clear hd
    have hoth := oth_lt hdl ev
    have xo := xor_one d (by omega)
    have i1 : (d : Int) < (m : Int) := by omega
    have i2 : (oth d : Int) < (m : Int) := by omega
    obtain ⟨A', q', e', rt'⟩ := NN.rt
    injection e' with j1 j2 j3
    obtain ⟨y, i4, i5, i6⟩ := rt' (by omega)
    obtain rfl : TA = some y := j1.trans i4
    have y1 := i6 d hdl
    have y2 := i6 _ hoth
    have t1 := gd.tail d hdl
    have t2 := gd.tail _ hoth
    have sa : Small (t d) := small_of (by omega) (by omega)
    have sb : Small (t (oth d)) := small_of (by omega) (by omega)
    clear i6 rt' i4 i5 j1 j2 j3
    go_upto_region 7 with fail
    go_big_quiet (fail)
    have NN' : NetAt (w3.drewN nq) p (N : Int) (.slice (some y) m tp) (.slice XA m xp) (.slice CA m cp) m t x c := ⟨NN.box, NN.rt, NN.rx, NN.rc⟩
    have B1' : Below w.heap.size w (w3.drewN nq) := ⟨B1.os, B1.tape, B1.output, B1.size, B1.block⟩
    clear y1 y2 c1 NN B1
    generalize w3.drewN nq = w4 at *
    have c0 := NN'.c0
    have c1 := NN'.c1
    have c2 := NN'.c2
    have c3 := NN'.c3
    go_wp2_with fail
    refine (rimFlow_ok _ N _ _ _ m t x c NN'.rt NN'.rx NN'.rc gm hM (t d) (t (oth d)) sa sb).mono ?_
    intro e w5 hh
    obtain ⟨V5, n5, y5, u5, code5, rfl, R5, bb, IS5⟩ := hh.row
    have NN := NN'.below bb (Nat.le_refl _)
    have B1 := B1'.trans (bb.mono B1'.size)
    obtain ⟨A5, k5, rfl⟩ := R5.slice
    clear hh bb NN' B1' c0 c1 c2 c3 R5 t1 t2
    rcases IS5 with ⟨rfl, rfl, hbad⟩ | ⟨o, K, f, D, rfl, rfl, rfl, rfl, hok⟩
    · obtain ⟨rfl, hE⟩ := edge_code hbad gd gr.turns hdl rfl
      have q2 : (t d == t (oth d)) = true := by simp; exact hE
      clear hE hbad
      go_wp2_with fail
      go_ret
      exact ⟨by simp, B1⟩
    · have q2 : (t d == t (oth d)) = false := by simp; exact hok.ne
      have hle := hok.edge pp gd gr.turns hM gcap hdl
      obtain ⟨z1, z2, z3⟩ := hok.near gd gr.turns hM gcap
      have hcd := gcap d hdl
      have c1 := NN.c1
      have c3 := NN.c3
      obtain ⟨A', q', e', rc'⟩ := NN.rc
      injection e' with j1 j2 j3
      obtain ⟨z, i4, i5, i6⟩ := rc' (by omega)
      obtain rfl : CA = some z := j1.trans i4
      have y1 := i6 d hdl
      clear hok i6 rc' i4 i5 j1 j2 j3
      generalize D K = U at *
      generalize c d = C1 at *
      have k1 : decide (C1 ≤ U) = true := by simpa using hle
      go_wp2_with fail
      go_ret
      exact ⟨by simp, B1⟩
end Go.Proofs.Ytcdlnohnkdalbaa.Ro
