/- Walks: the law RimOwn. -/
import Derived.Deep.RegionHeld3
import Derived.Test.YtcdlnohnkdalbaaMg12
import Derived.Test.YtcdlnohnkdalbaaMg15
import Derived.Test.YtcdlnohnkdalbaaMg9
import Derived.Test.YtcdlnohnkdalbaaMxRoRc
import Derived.Test.YtcdlnohnkdalbaaMxRoSm
namespace Go.Proofs.Ytcdlnohnkdalbaa.Ro
open Go.RowKit Go.Proofs Go.Maps
set_option linter.unusedVariables false
set_option linter.unusedSimpArgs false

set_option maxRecDepth 100000 in
set_option maxHeartbeats 12800000 in
theorem rown_walk (A : Option Addr) (len cap : Nat) (zs : List Int) (s v : Int) (w : World) (hV : Rd w (.slice A len cap) len (fun i => zs.getD i 0)) (hz : ∀ i, i < len → Small (zs.getD i 0)) (hl : len ≤ 9223372036854775807) (hs : Small s) (hv : Small v) :
    Calls Try.prog 12 #[.slice A len cap, .int .i64 s, .int .i64 v] w fun e w' => e = .returned (.bool true) ∧ Below w.heap.size w w' := by
  obtain ⟨⟨N, m, t, x, c⟩, hs0⟩ : ∃ s, planeOf (fun i => zs.getD i 0) len = s := ⟨_, rfl⟩
  have hok := plane_ok (fun i => zs.getD i 0) len
  rw [hs0] at hok
  have HS := Lib.hid hs0
  clear hs0
  obtain ⟨gr, hN, hM⟩ := hok
  have gr : Grown N m t x c := gr
  dsimp only at hN hM
  have gd := gr.good
  have pa := gr.turns.perm
  have pb := pa.bh gd.even
  go_enter Try.func12, Try.ntmps12
  go_wp2_with fail
  refine (known8_ok _).mono ?_
  rintro e w1 ⟨rfl, B1⟩
  go_wp2_with fail
  refine (plane_any _ _ len _ (hV.below B1 (Nat.le_refl _)) hz hl).mono ?_
  rintro e w2 ⟨T, X, C, rfl, R2, b2⟩
  rw [HS.out] at R2 ⊢
  dsimp only at R2 ⊢
  have B2 := B1.trans (b2.mono B1.size)
  clear b2 B1
  obtain ⟨TA, tp, rfl, -⟩ := id R2.ot.rd
  obtain ⟨XA, xp, rfl, -⟩ := id R2.ox.rd
  obtain ⟨CA, cp, rfl, -⟩ := id R2.oc.rd
  go_wp2_with fail
  refine (plane_any _ _ len _ (hV.below B2 (Nat.le_refl _)) hz hl).mono ?_
  rintro e w3 ⟨T', X', C', rfl, S3, b3⟩
  rw [HS.out] at S3 ⊢
  dsimp only at S3 ⊢
  have B3 := B2.trans (b3.mono B2.size)
  have R3 := R2.below b3 (Nat.le_refl _)
  clear b3 R2 B2 hz
  obtain ⟨TB, tq, rfl, -⟩ := id S3.ot.rd
  obtain ⟨XB, xq, rfl, -⟩ := id S3.ox.rd
  obtain ⟨CB, cq, rfl, -⟩ := id S3.oc.rd
  go_upto_region 4 with fail
  have b4 : Below w3.heap.size w3 ((w3.alloc (.cells #[.int .i64 (N : Int), .slice TA m tp, .slice XA m xp, .slice CA m cp] 25)).alloc (.cells #[.int .i64 (N : Int), .slice TB m tq, .slice XB m xq, .slice CB m cq] 25)) := ((Below.refl _ _).alloc (Nat.le_refl _) _).alloc (by simp) _
  have X4 : Box ((w3.alloc (.cells #[.int .i64 (N : Int), .slice TA m tp, .slice XA m xp, .slice CA m cp] 25)).alloc (.cells #[.int .i64 (N : Int), .slice TB m tq, .slice XB m xq, .slice CB m cq] 25)) w3.heap.size N (.slice TA m tp) (.slice XA m xp) (.slice CA m cp) :=
    Box.below (heap_alloc_new _ _) ((Below.refl _ _).alloc (Nat.le_refl _) _) (Nat.le_refl _)
  have Y4 : Box ((w3.alloc (.cells #[.int .i64 (N : Int), .slice TA m tp, .slice XA m xp, .slice CA m cp] 25)).alloc (.cells #[.int .i64 (N : Int), .slice TB m tq, .slice XB m xq, .slice CB m cq] 25)) (w3.heap.size + 1) N (.slice TB m tq) (.slice XB m xq) (.slice CB m cq) := by
    have := heap_alloc_new (w3.alloc (.cells #[.int .i64 (N : Int), .slice TA m tp, .slice XA m xp, .slice CA m cp] 25)) (.cells #[.int .i64 (N : Int), .slice TB m tq, .slice XB m xq, .slice CB m cq] 25)
    rw [show (w3.alloc (.cells #[.int .i64 (N : Int), .slice TA m tp, .slice XA m xp, .slice CA m cp] 25)).heap.size = w3.heap.size + 1 by simp] at this
    exact this
  have R4 := R3.below b4 (Nat.le_refl _)
  have S4 := S3.below b4 (Nat.le_refl _)
  have B4 := B3.trans (b4.mono B3.size)
  have lR := fun k hk => (R3.lt (k := k) hk).2
  have lS := fun k hk => (S3.lt (k := k) hk).2
  have LR := Lib.hid lR
  have LS := Lib.hid lS
  clear b4 R3 S3 B3 lR lS
  generalize (w3.alloc (.cells #[.int .i64 (N : Int), .slice TA m tp, .slice XA m xp, .slice CA m cp] 25)).alloc (.cells #[.int .i64 (N : Int), .slice TB m tq, .slice XB m xq, .slice CB m cq] 25) = w4 at *
  generalize w3.heap.size = p at *
  have pl := blk_lt X4
  have ql := blk_lt Y4
  have NN : NetAt w4 p (N : Int) (.slice TA m tp) (.slice XA m xp) (.slice CA m cp) m t x c := NetAt.of X4 R4
  have OO : NetAt w4 (p + 1) (N : Int) (.slice TB m tq) (.slice XB m xq) (.slice CB m cq) m t x c := NetAt.of Y4 S4
  have N1 := gd.one
  have ev := gd.even
  clear X4 Y4 R4 S4 LR LS pl ql
  obtain ⟨a, ha, hal⟩ := small_within (d := s) (m := N) (by omega)
  obtain ⟨b, hb, hbl⟩ := small_within (d := v) (m := N) (by omega)
  have sa : Small (a : Int) := small_of (by omega) (by omega)
  have sb : Small (b : Int) := small_of (by omega) (by omega)
  have hin : InNet N (a : Int) (b : Int) := ⟨by omega, by omega, by omega, by omega⟩
  have gm := gr.plane
  have gcap := gm.caps
  have c0 := NN.c0
  have c1 := NN.c1
  have c2 := NN.c2
  have c3 := NN.c3
  go_upto_region 4 with fail
  go_big_quiet (exact (within8_any _ _ _ (by assumption) (by omega) (by omega)).mono fun e w' h => ⟨h.1, _, h.2.symm⟩)
  rw [ha, hb]
  have NN' : NetAt (w4.drewN nq) p (N : Int) (.slice TA m tp) (.slice XA m xp) (.slice CA m cp) m t x c := ⟨NN.box, NN.rt, NN.rx, NN.rc⟩
  have OO' : NetAt (w4.drewN nq) (p + 1) (N : Int) (.slice TB m tq) (.slice XB m xq) (.slice CB m cq) m t x c := ⟨OO.box, OO.rt, OO.rx, OO.rc⟩
  have B4' : Below w.heap.size w (w4.drewN nq) := ⟨B4.os, B4.tape, B4.output, B4.size, B4.block⟩
  clear NN OO B4 c0 c1 c2 c3
  have NN := NN'
  have OO := OO'
  have B4 := B4'
  clear NN' OO' B4' ha hb
  generalize w4.drewN nq = w5 at *
  have c0 := NN.c0
  have c1 := NN.c1
  have c2 := NN.c2
  have c3 := NN.c3
  go_wp2_with fail
  refine (rimFlow_ok _ N _ _ _ m t x c NN.rt NN.rx NN.rc gm hM (a : Int) (b : Int) sa sb).mono ?_
  intro e w6 hh
  obtain ⟨V6, n6, y6, u6, code6, rfl, R6, E, IS6⟩ := hh.row
  have HI6 := Lib.hid IS6
  obtain ⟨-, -, -, -, hb6⟩ := IS6.one IS6 pb hM ev gcap
  clear hh IS6 c0 c1 c2 c3
  obtain ⟨A6, k6, rfl⟩ := R6.slice
  obtain ⟨F6, hR6, -⟩ := R6
  have hW6 := Lib.hid hR6
  clear hR6
  go_wp2_with fail
  go_loopw [14] (fun u wz => ∃ (i : Nat) (y : Nat → Int), u = .int .i64 (i : Int) ∧ i ≤ n6 ∧ Ow wz (.slice A6 n6 k6) n6 y ∧ Below w5.heap.size w5 wz) (fun u _ => n6 - (intOf u).toNat)
  case atStart => exact ⟨0, _, rfl, Nat.zero_le _, F6, E⟩
  case round =>
    clear F6 E
    obtain ⟨i, y, rfl, hi, F, E⟩ := hrel
    by_cases hix : i < n6
    · have i1 : (i : Int) < (n6 : Int) := by omega
      obtain ⟨fb, fc2, fe, hfb⟩ := F.form (by omega)
      injection fe with fe1 fe2 fe3
      subst fe1 fe3
      have hfw : w5.heap.size ≤ fb := hW6.out fb rfl
      have co := F.cell hix
      have zf := F.frozen i
      have F2 := F.set hix (-9)
      have E2 := E.setCell (p := ⟨fb, i, none⟩) hfw (.int .i64 (-9))
      clear F E
      go_wp2_with fail
      go_roundw
      case rel => exact ⟨i + 1, _, by simp, by omega, F2, E2⟩
      case measure => simp [intOf]; omega
    · have i1 : ¬ ((i : Int) < (n6 : Int)) := by omega
      replace NN := NN.below E (Nat.le_refl _)
      replace OO := OO.below E (Nat.le_refl _)
      replace B4 := B4.trans (E.mono B4.size)
      clear E F hW6
      obtain ⟨w6b, rfl⟩ : ∃ u : World, u = wr := ⟨_, rfl⟩
      have c0 := NN.c0
      have c1 := NN.c1
      have c2 := NN.c2
      have c3 := NN.c3
      go_wp2_with fail
      refine (rimHeightsOf_ok _ N _ _ _ m t x c NN.rt NN.rx NN.rc gm hM (a : Int) (b : Int) sa sb).mono ?_
      intro e w7 hh
      obtain ⟨V7, n7, y7, code7, rfl, R7, E, IS7⟩ := hh.row
      have HI7 := Lib.hid IS7
      obtain ⟨-, -, -, hb7⟩ := IS7.one IS7 pb hM ev gcap
      clear hh IS7 c0 c1 c2 c3
      obtain ⟨A7, k7, rfl⟩ := R7.slice
      obtain ⟨F7, hR7, -⟩ := R7
      have hW7 := Lib.hid hR7
      clear hR7
      go_wp2_with fail
      go_loopw [17] (fun u wz => ∃ (i : Nat) (y : Nat → Int), u = .int .i64 (i : Int) ∧ i ≤ n7 ∧ Ow wz (.slice A7 n7 k7) n7 y ∧ Below w6b.heap.size w6b wz) (fun u _ => n7 - (intOf u).toNat)
      case atStart => exact ⟨0, _, rfl, Nat.zero_le _, F7, E⟩
      case round =>
        clear F7 E
        obtain ⟨i, y, rfl, hi, F, E⟩ := hrel
        by_cases hix : i < n7
        · have i1 : (i : Int) < (n7 : Int) := by omega
          obtain ⟨fb, fc2, fe, hfb⟩ := F.form (by omega)
          injection fe with fe1 fe2 fe3
          subst fe1 fe3
          have hfw : w6b.heap.size ≤ fb := hW7.out fb rfl
          have co := F.cell hix
          have zf := F.frozen i
          have F2 := F.set hix (-9)
          have E2 := E.setCell (p := ⟨fb, i, none⟩) hfw (.int .i64 (-9))
          clear F E
          go_wp2_with fail
          go_roundw
          case rel => exact ⟨i + 1, _, by simp, by omega, F2, E2⟩
          case measure => simp [intOf]; omega
        · have i1 : ¬ ((i : Int) < (n7 : Int)) := by omega
          replace NN := NN.below E (Nat.le_refl _)
          replace OO := OO.below E (Nat.le_refl _)
          replace B4 := B4.trans (E.mono B4.size)
          clear E F hW7
          obtain ⟨w7b, rfl⟩ : ∃ u : World, u = wr := ⟨_, rfl⟩
          have c0 := NN.c0
          have c1 := NN.c1
          have c2 := NN.c2
          have c3 := NN.c3
          go_wp2_with fail
          refine (rimFlow_ok _ N _ _ _ m t x c NN.rt NN.rx NN.rc gm hM (a : Int) (b : Int) sa sb).mono ?_
          intro e w8 hh
          obtain ⟨V8, n8, y8, u8, code8, rfl, R8, bb, IS8⟩ := hh.row
          replace NN := NN.below bb (Nat.le_refl _)
          replace OO := OO.below bb (Nat.le_refl _)
          replace B4 := B4.trans (bb.mono B4.size)
          clear hh c0 c1 c2 c3 bb
          have e0 := OO.c0
          have e1 := OO.c1
          have e2 := OO.c2
          have e3 := OO.c3
          go_wp2_with fail
          refine (refFlow8_ok _ N _ _ _ m t x c OO.rt OO.rx OO.rc gd pb gcap hM (a : Int) (b : Int) sa sb).mono ?_
          intro e w9 hh
          obtain ⟨V9, n9, y9, u9, code9, rfl, R9, bb, IS9⟩ := hh.row
          replace NN := NN.below bb (Nat.le_refl _)
          replace OO := OO.below bb (Nat.le_refl _)
          replace B4 := B4.trans (bb.mono B4.size)
          have O8 := R8.1.below bb (Nat.le_refl _)
          have O9 := R9.1
          obtain ⟨rfl, rfl, rfl, hy, hn⟩ := FlowIs.one IS8 IS9 pb hM ev gcap
          clear hh bb e0 e1 e2 e3 R8 R9 IS8 IS9
          have c0 := NN.c0
          have c1 := NN.c1
          have c2 := NN.c2
          have c3 := NN.c3
          have e0 := OO.c0
          have e1 := OO.c1
          have e2 := OO.c2
          have e3 := OO.c3
          have HY := Lib.hid hy
          clear hy
          go_wp2_with fail
          refine (same_ok _ (N : Int) _ _ _ _ _ _ m t x c t x c (by omega) NN.rt NN.rx NN.rc OO.rt OO.rx OO.rc (fun _ _ => rfl) (fun _ _ => rfl) (fun _ _ => rfl)).mono ?_
          rintro e w10 ⟨rfl, bb⟩
          replace NN := NN.below bb (Nat.le_refl _)
          replace B4 := B4.trans (bb.mono B4.size)
          replace O8 := O8.below bb (Nat.le_refl _)
          replace O9 := O9.below bb (Nat.le_refl _)
          clear bb OO c0 c1 c2 c3 e0 e1 e2 e3
          have c0 := NN.c0
          have c1 := NN.c1
          have c2 := NN.c2
          have c3 := NN.c3
          go_wp2_with fail
          refine (ints_same _ _ _ n8 _ _ (by omega) O8.rd O9.rd HY.out).mono ?_
          rintro e w11 ⟨rfl, bb⟩
          replace NN := NN.below bb (Nat.le_refl _)
          replace B4 := B4.trans (bb.mono B4.size)
          clear bb O8 O9 c0 c1 c2 c3
          have c0 := NN.c0
          have c1 := NN.c1
          have c2 := NN.c2
          have c3 := NN.c3
          have q1 : (u8 == u8) = true := by simp
          have q2 : (code8 == code8) = true := by simp
          have GP := Lib.hid gm
          go_wp2_with fail
          refine (refCheck_any _ N _ _ _ m t x c NN.rt NN.rx NN.rc gd gcap).mono ?_
          rintro e w12 ⟨r8, rfl, T8, bb⟩
          have hr8 := GP.out.tells T8
          subst hr8
          replace B4 := B4.trans (bb.mono B4.size)
          clear T8 bb c0 c1 c2 c3
          go_wp2_with fail
          go_ret
          exact ⟨by simp, B4⟩
end Go.Proofs.Ytcdlnohnkdalbaa.Ro
