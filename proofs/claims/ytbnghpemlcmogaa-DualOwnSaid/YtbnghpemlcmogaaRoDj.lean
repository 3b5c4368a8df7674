/- Walks: the law DualOwn. -/
import Derived.Test.YtbnghpemlcmogaaRoPp
import Derived.Test.YtbnghpemlcmogaaRoK3
import Derived.Test.YtbnghpemlcmogaaRoDr
import Derived.Test.YtbnghpemlcmogaaRoSm
import Derived.Test.YtbnghpemlcmogaaRoDq
import Derived.Test.YtbnghpemlcmogaaRoWi
import Derived.Deep.RegionHeld3
namespace Go.Proofs.Ytbnghpemlcmogaa.Ro
open Go.RowKit Go.Proofs Go.Maps
set_option linter.unusedVariables false
set_option linter.unusedSimpArgs false

theorem Rows.set3 {w : World} {B tb q1 xb q2 cb q3 m i : Nat} {t x c : Nat → Int} (U : Rows w B (.slice (some ⟨tb, 0, none⟩) m q1) (.slice (some ⟨xb, 0, none⟩) m q2) (.slice (some ⟨cb, 0, none⟩) m q3) m t x c) (hi : i < m) (u : Int) (n4 : ¬ (tb = xb)) (n5 : ¬ (tb = cb)) (n6 : ¬ (cb = xb)) :
    Rows (((w.setCell ⟨tb, i, none⟩ (.int .i64 u)).setCell ⟨cb, i, none⟩ (.int .i64 u)).setCell ⟨xb, i, none⟩ (.int .i64 u)) B (.slice (some ⟨tb, 0, none⟩) m q1) (.slice (some ⟨xb, 0, none⟩) m q2) (.slice (some ⟨cb, 0, none⟩) m q3) m (upd t i u) (upd x i u) (upd c i u) := by
  have own : ∀ b n q k, (Value.slice (some ⟨b, 0, none⟩) n q).ownBlock = some k → k = b := fun b n q k h => by
    have e : some b = some k := h
    injection e with e; exact e.symm
  have k1 : ∀ (w : World) b v k, k ≠ b → (w.setCell ⟨b, i, none⟩ v).heap[k]? = w.heap[k]? := fun w b v k h => Below.heap_setCell _ _ _ _ h
  refine ⟨((U.ot.set hi u).keep fun k hk => k1 _ _ _ _ (by have := own _ _ _ _ hk; omega)).keep fun k hk => k1 _ _ _ _ (by have := own _ _ _ _ hk; omega), ?_, ?_, U.bt, U.bx, U.bc, U.tx, U.tc, U.xc⟩
  · exact ((U.ox.keep fun k hk => k1 _ _ _ _ (by have := own _ _ _ _ hk; omega)).keep (w' := ((w.setCell ⟨tb, i, none⟩ (.int .i64 u)).setCell ⟨cb, i, none⟩ (.int .i64 u))) fun k hk => k1 _ _ _ _ (by have := own _ _ _ _ hk; omega)).set hi u
  · exact ((U.oc.keep (w' := w.setCell ⟨tb, i, none⟩ (.int .i64 u)) fun k hk => k1 _ _ _ _ (by have := own _ _ _ _ hk; omega)).set hi u).keep fun k hk => k1 _ _ _ _ (by have := own _ _ _ _ hk; omega)

theorem Rows.set3b {w : World} {B tb q1 xb q2 cb q3 m i : Nat} {t x c : Nat → Int} (U : Rows w B (.slice (some ⟨tb, 0, none⟩) m q1) (.slice (some ⟨xb, 0, none⟩) m q2) (.slice (some ⟨cb, 0, none⟩) m q3) m t x c) (hi : i < m) (u : Int) (n4 : ¬ (tb = xb)) (n5 : ¬ (tb = cb)) (n6 : ¬ (cb = xb)) :
    Rows (((w.setCell ⟨tb, i, none⟩ (.int .i64 u)).setCell ⟨xb, i, none⟩ (.int .i64 u)).setCell ⟨cb, i, none⟩ (.int .i64 u)) B (.slice (some ⟨tb, 0, none⟩) m q1) (.slice (some ⟨xb, 0, none⟩) m q2) (.slice (some ⟨cb, 0, none⟩) m q3) m (upd t i u) (upd x i u) (upd c i u) := by
  refine ⟨((U.ot.set hi u).apart n4 _).apart n5 _, (((U.ox.apart (Ne.symm n4) _).set hi u).apart (Ne.symm n6) _), ((U.oc.apart (Ne.symm n5) _).apart n6 _).set hi u, U.bt, U.bx, U.bc, U.tx, U.tc, U.xc⟩

set_option maxRecDepth 100000 in
set_option maxHeartbeats 12800000 in
theorem down_walk (A : Option Addr) (len cap : Nat) (zs : List Int) (s v : Int) (w : World) (hV : Rd w (.slice A len cap) len (fun i => zs.getD i 0)) (hz : ∀ i, i < len → Small (zs.getD i 0)) (hl : len ≤ 9223372036854775807) (hs : Small s) (hv : Small v) :
    Calls Try.prog 12 #[.slice A len cap, .int .i64 s, .int .i64 v] w fun e w' => e = .returned (.bool true) ∧ Below w.heap.size w w' := by
  obtain ⟨⟨N, m, t, x, c⟩, hs0⟩ : ∃ s, planeOf (fun i => zs.getD i 0) len = s := ⟨_, rfl⟩
  have hok := plane_ok (fun i => zs.getD i 0) len
  rw [hs0] at hok
  have HS := Lib.hid hs0
  clear hs0
  obtain ⟨gr, hN, hM⟩ := hok
  have gr : Grown N m t x c := gr
  dsimp only at hN hM
  have gd := gr.good
  have pa := gr.turns.perm
  have pb := pa.bh gd.even
  go_enter Try.func12, Try.ntmps12
  go_wp2_with fail
  refine (known3_ok _).mono ?_
  rintro e w1 ⟨rfl, B1⟩
  go_wp2_with fail
  refine (plane_any _ _ len _ (hV.below B1 (Nat.le_refl _)) hz hl).mono ?_
  rintro e w2 ⟨T, X, C, rfl, R2, b2⟩
  rw [HS.out] at R2 ⊢
  dsimp only at R2 ⊢
  have B2 := B1.trans (b2.mono B1.size)
  clear b2 B1
  obtain ⟨TA, tp, rfl, -⟩ := id R2.ot.rd
  obtain ⟨XA, xp, rfl, -⟩ := id R2.ox.rd
  obtain ⟨CA, cp, rfl, -⟩ := id R2.oc.rd
  go_wp2_with fail
  refine (plane_any _ _ len _ (hV.below B2 (Nat.le_refl _)) hz hl).mono ?_
  rintro e w3 ⟨T', X', C', rfl, S3, b3⟩
  rw [HS.out] at S3 ⊢
  dsimp only at S3 ⊢
  have B3 := B2.trans (b3.mono B2.size)
  have R3 := R2.below b3 (Nat.le_refl _)
  clear b3 R2 B2 hz
  obtain ⟨TB, tq, rfl, -⟩ := id S3.ot.rd
  obtain ⟨XB, xq, rfl, -⟩ := id S3.ox.rd
  obtain ⟨CB, cq, rfl, -⟩ := id S3.oc.rd
  go_upto_region 4 with fail
  have b4 : Below w3.heap.size w3 ((w3.alloc (.cells #[.int .i64 (N : Int), .slice TA m tp, .slice XA m xp, .slice CA m cp] 25)).alloc (.cells #[.int .i64 (N : Int), .slice TB m tq, .slice XB m xq, .slice CB m cq] 25)) := ((Below.refl _ _).alloc (Nat.le_refl _) _).alloc (by simp) _
  have X4 : Box ((w3.alloc (.cells #[.int .i64 (N : Int), .slice TA m tp, .slice XA m xp, .slice CA m cp] 25)).alloc (.cells #[.int .i64 (N : Int), .slice TB m tq, .slice XB m xq, .slice CB m cq] 25)) w3.heap.size N (.slice TA m tp) (.slice XA m xp) (.slice CA m cp) :=
    Box.below (heap_alloc_new _ _) ((Below.refl _ _).alloc (Nat.le_refl _) _) (Nat.le_refl _)
  have Y4 : Box ((w3.alloc (.cells #[.int .i64 (N : Int), .slice TA m tp, .slice XA m xp, .slice CA m cp] 25)).alloc (.cells #[.int .i64 (N : Int), .slice TB m tq, .slice XB m xq, .slice CB m cq] 25)) (w3.heap.size + 1) N (.slice TB m tq) (.slice XB m xq) (.slice CB m cq) := by
    have := heap_alloc_new (w3.alloc (.cells #[.int .i64 (N : Int), .slice TA m tp, .slice XA m xp, .slice CA m cp] 25)) (.cells #[.int .i64 (N : Int), .slice TB m tq, .slice XB m xq, .slice CB m cq] 25)
    rw [show (w3.alloc (.cells #[.int .i64 (N : Int), .slice TA m tp, .slice XA m xp, .slice CA m cp] 25)).heap.size = w3.heap.size + 1 by simp] at this
    exact this
  have R4 := R3.below b4 (Nat.le_refl _)
  have S4 := S3.below b4 (Nat.le_refl _)
  have B4 := B3.trans (b4.mono B3.size)
  have lR := fun k hk => (R3.lt (k := k) hk).2
  have lS := fun k hk => (S3.lt (k := k) hk).2
  have LR := Lib.hid lR
  have LS := Lib.hid lS
  clear b4 R3 S3 B3 lR lS
  generalize (w3.alloc (.cells #[.int .i64 (N : Int), .slice TA m tp, .slice XA m xp, .slice CA m cp] 25)).alloc (.cells #[.int .i64 (N : Int), .slice TB m tq, .slice XB m xq, .slice CB m cq] 25) = w4 at *
  generalize w3.heap.size = p at *
  have pl := blk_lt X4
  have ql := blk_lt Y4
  have NN : NetAt w4 p (N : Int) (.slice TA m tp) (.slice XA m xp) (.slice CA m cp) m t x c := NetAt.of X4 R4
  have OO : NetAt w4 (p + 1) (N : Int) (.slice TB m tq) (.slice XB m xq) (.slice CB m cq) m t x c := NetAt.of Y4 S4
  have N1 := gd.one
  clear X4 Y4 R4 S4 LR LS pl ql
  have c0 := NN.c0
  have c1 := NN.c1
  have c2 := NN.c2
  have c3 := NN.c3
  go_wp2_with fail
  refine (make_ok _ N _ _ _ m t x c NN.rt NN.rx NN.rc gd pb).mono ?_
  rintro e w7 ⟨T9, X9, C9, o9, k9, rfl, U7, O9, b7⟩
  obtain ⟨TC, tr, rfl, -⟩ := id U7.ot.rd
  obtain ⟨XC, xr, rfl, -⟩ := id U7.ox.rd
  obtain ⟨CC, cr, rfl, -⟩ := id U7.oc.rd
  have E7 := b7
  clear b7 c0 c1 c2 c3 O9
  go_upto_region 5 with fail
  obtain ⟨w8, hw8, Z8, U8, b8⟩ := rows_enter ((max k9 1 : Nat) : Int) U7
  rw [hw8]
  have E8 := E7.trans (b8.mono E7.size)
  have UL := Lib.hid (fun k hk => (U7.lt (k := k) hk).2)
  have hz7 : w4.heap.size ≤ w7.heap.size := E7.size
  clear hw8 b8 U7 E7
  generalize w7.heap.size = z at *
  generalize ((max k9 1 : Nat) : Int) = KK9 at *
  clear w7
  go_wp2_with fail
  go_loopw [10] (fun u wr => ∃ (i : Nat) (t9 x9 c9 : Nat → Int), u = .int .i64 (i : Int) ∧ i ≤ m ∧ Box wr z KK9 (.slice TC m tr) (.slice XC m xr) (.slice CC m cr) ∧ Rows wr w4.heap.size (.slice TC m tr) (.slice XC m xr) (.slice CC m cr) m t9 x9 c9 ∧ Below w4.heap.size w4 wr) (fun u _ => m - (intOf u).toNat)
  case atStart => exact ⟨0, _, _, _, rfl, Nat.zero_le _, Z8, U8, E8⟩
  case round =>
    clear Z8 U8 E8 w8
    obtain ⟨i2, t9, x9, c9, rfl, hi, Zb, U, E⟩ := hrel
    have z1 : wr.cell? ⟨z, 1, none⟩ = some (.slice TC m tr) := blk_cell Zb 1
    have z2 : wr.cell? ⟨z, 2, none⟩ = some (.slice XC m xr) := blk_cell Zb 2
    have z3 : wr.cell? ⟨z, 3, none⟩ = some (.slice CC m cr) := blk_cell Zb 3
    by_cases him : i2 < m
    · have i1 : (i2 : Int) < (m : Int) := by omega
      obtain ⟨tb, q1, e1, -⟩ := U.ot.form (by omega)
      injection e1 with e11 e12 e13
      subst e11 e13
      obtain ⟨xb, q2, e2, -⟩ := U.ox.form (by omega)
      injection e2 with e21 e22 e23
      subst e21 e23
      obtain ⟨cb, q3, e3, -⟩ := U.oc.form (by omega)
      injection e3 with e31 e32 e33
      subst e31 e33
      have n1 : ¬ (tb = z) := by have := UL.out tb (.inl rfl); omega
      have n2 : ¬ (xb = z) := by have := UL.out xb (.inr (.inl rfl)); omega
      have n3 : ¬ (cb = z) := by have := UL.out cb (.inr (.inr rfl)); omega
      have n4 : ¬ (tb = xb) := fun e => U.tx tb rfl (by rw [e]; rfl)
      have n5 : ¬ (tb = cb) := fun e => U.tc tb rfl (by rw [e]; rfl)
      have n6 : ¬ (cb = xb) := fun e => U.xc xb rfl (by rw [← e]; rfl)
      have n5' : ¬ (cb = tb) := fun e => n5 e.symm
      have n4' : ¬ (xb = tb) := fun e => n4 e.symm
      have n6' : ¬ (xb = cb) := fun e => n6 e.symm
      have g1 : w4.heap.size ≤ tb := U.bt tb rfl
      have g2 : w4.heap.size ≤ xb := U.bx xb rfl
      have g3 : w4.heap.size ≤ cb := U.bc cb rfl
      have a1 := U.ot.cell him
      have a2 := U.ox.cell him
      have a3 := U.oc.cell him
      have f1 := U.ot.frozen i2
      have f2 := U.ox.frozen i2
      have f3 := U.oc.frozen i2
      have i0 : (0 : Int) ≤ (i2 : Int) := by omega
      have U3 := Lib.hid (U.set3b him (-9) n4 n5 n6)
      have Z3 : Box (((wr.setCell ⟨tb, i2, none⟩ (.int .i64 (-9))).setCell ⟨xb, i2, none⟩ (.int .i64 (-9))).setCell ⟨cb, i2, none⟩ (.int .i64 (-9))).drew z KK9 (.slice (some ⟨tb, 0, none⟩) m tr) (.slice (some ⟨xb, 0, none⟩) m xr) (.slice (some ⟨cb, 0, none⟩) m cr) :=
        (Below.heap_setCell _ _ _ _ (fun e => n3 e.symm)).trans ((Below.heap_setCell _ _ _ _ (fun e => n2 e.symm)).trans ((Below.heap_setCell _ _ _ _ (fun e => n1 e.symm)).trans Zb))
      have E3 := ((E.setCell (p := ⟨tb, i2, none⟩) g1 (.int .i64 (-9))).setCell (p := ⟨xb, i2, none⟩) g2 (.int .i64 (-9))).setCell (p := ⟨cb, i2, none⟩) g3 (.int .i64 (-9))
      have E4 := Lib.hid E3.drew
      clear Zb U E E3
      go_upto_region 8 with fail
      go_region_held3 (fun w' => w'.cell? ⟨z, 1, none⟩ = some (.slice (some ⟨tb, 0, none⟩) m tr) ∧ w'.cell? ⟨z, 2, none⟩ = some (.slice (some ⟨xb, 0, none⟩) m xr) ∧ w'.cell? ⟨z, 3, none⟩ = some (.slice (some ⟨cb, 0, none⟩) m cr))
        (first | go_keep) (fail)
      go_wp2_with fail
      go_roundw
      case rel => exact ⟨i2 + 1, _, _, _, by simp, by omega, Z3, U3.out.keep fun _ _ => rfl, E4.out⟩
      case measure => simp [intOf]; omega
    · have i1 : ¬ ((i2 : Int) < (m : Int)) := by omega
      clear z2 z3 UL U Zb him hi hz7
      replace NN := NN.below E (Nat.le_refl _)
      replace OO := OO.below E (Nat.le_refl _)
      replace B4 := B4.trans (E.mono B4.size)
      clear E
      obtain ⟨a, ha, hal⟩ := small_within (d := s) (m := N) (by omega)
      obtain ⟨b, hb, hbl⟩ := small_within (d := v) (m := N) (by omega)
      have HA := Lib.hid ha
      have HBB := Lib.hid hb
      have pl := NN.lt
      have c0 := NN.c0
      have c1 := NN.c1
      have c2 := NN.c2
      have c3 := NN.c3
      have KK : Hid (∀ W, Below wr.heap.size wr W → W.cell? ⟨p, 0, none⟩ = some (.int .i64 (N : Int)) ∧ W.cell? ⟨p, 1, none⟩ = some (.slice TA m tp) ∧ W.cell? ⟨p, 2, none⟩ = some (.slice XA m xp) ∧ W.cell? ⟨p, 3, none⟩ = some (.slice CA m cp)) :=
        Lib.hid fun W b => ⟨(b.cell (p := ⟨p, 0, none⟩) pl).trans c0, (b.cell (p := ⟨p, 1, none⟩) pl).trans c1, (b.cell (p := ⟨p, 2, none⟩) pl).trans c2, (b.cell (p := ⟨p, 3, none⟩) pl).trans c3⟩
      have D0 : Below wr.heap.size wr wr.drew := (Below.refl _ wr).drew
      go_upto_region 9 with fail
      clear z1
      go_region_held3 (fun w' => w'.cell? ⟨p, 0, none⟩ = some (.int .i64 (N : Int)) ∧ w'.cell? ⟨p, 1, none⟩ = some (.slice TA m tp) ∧ w'.cell? ⟨p, 2, none⟩ = some (.slice XA m xp) ∧ w'.cell? ⟨p, 3, none⟩ = some (.slice CA m cp))
        (first | with_reducible exact k1 | go_keep)
        (first
          | (go_at_call 21; refine (within3_any _ _ _ (by assumption) (by omega) (by omega)).mono ?_; rintro e w5 ⟨rfl, rfl⟩)
          | (go_at_call 24; refine (split_ok wr.drew N _ _ _ m t x c (NN.rt.below D0 (Nat.le_refl _)) (NN.rx.below D0 (Nat.le_refl _)) (NN.rc.below D0 (Nat.le_refl _)) gd pb _ _).mono ?_; rintro e w7 h7; obtain ⟨A1, n1, k1_, g1, x1, x2, x3, y1, rfl, W1, hW1, R1, le1, bb⟩ := SplitPost.rel h7; have E7 : Below wr.heap.size wr w7 := D0.trans (bb.mono (Nat.le_refl _)); have k1 := KK.out w7 E7; clear bb h7))
      all_goals
        clear KK k1 c0 c1 c2 c3 D0 pl HA HBB ha hb R1
        have hW2 := Lib.hid hW1
        clear hW1
        obtain ⟨wo, rfl⟩ : ∃ wo : World, wo = wr := ⟨_, rfl⟩
        go_wp2_with fail
        go_loopw [16] (fun u wz => ∃ (i : Nat) (y : Nat → Int), u = .int .i64 (i : Int) ∧ i ≤ n1 ∧ Ow wz (.slice A1 n1 k1_) n1 y ∧ Below wo.heap.size wo wz) (fun u _ => n1 - (intOf u).toNat)
        case atStart => exact ⟨0, _, rfl, Nat.zero_le _, W1, E7⟩
        case round =>
          clear W1 E7
          obtain ⟨i, y, rfl, hi, F, E⟩ := hrel
          by_cases hin : i < n1
          · have i1 : (i : Int) < (n1 : Int) := by omega
            obtain ⟨fb, fc2, fe, hfb⟩ := F.form (by omega)
            injection fe with fe1 fe2 fe3
            subst fe1 fe3
            have hfw : wo.heap.size ≤ fb := hW2.out fb rfl
            have co := F.cell hin
            have zf := F.frozen i
            have F2 := F.set hin (-9)
            have E2 := E.setCell (p := ⟨fb, i, none⟩) hfw (.int .i64 (-9))
            clear F E
            go_wp2_with fail
            go_roundw
            case rel => exact ⟨i + 1, _, by simp, by omega, F2, E2⟩
            case measure => simp [intOf]; omega
          · have i1 : ¬ ((i : Int) < (n1 : Int)) := by omega
            replace NN := NN.below E (Nat.le_refl _)
            replace OO := OO.below E (Nat.le_refl _)
            replace B4 := B4.trans (E.mono B4.size)
            clear E F
            have pl := NN.lt
            have ql := OO.lt
            have c0 := NN.c0
            have c1 := NN.c1
            have c2 := NN.c2
            have c3 := NN.c3
            have e0 := OO.c0
            have e1 := OO.c1
            have e2 := OO.c2
            have e3 := OO.c3
            have D0 : Below wr.heap.size wr wr.drew := (Below.refl _ wr).drew
            have KK : Hid (∀ W, Below wr.heap.size wr W → W.cell? ⟨p, 0, none⟩ = some (.int .i64 (N : Int)) ∧ W.cell? ⟨p, 1, none⟩ = some (.slice TA m tp) ∧ W.cell? ⟨p, 2, none⟩ = some (.slice XA m xp) ∧ W.cell? ⟨p, 3, none⟩ = some (.slice CA m cp) ∧ W.cell? ⟨p + 1, 0, none⟩ = some (.int .i64 (N : Int)) ∧ W.cell? ⟨p + 1, 1, none⟩ = some (.slice TB m tq) ∧ W.cell? ⟨p + 1, 2, none⟩ = some (.slice XB m xq) ∧ W.cell? ⟨p + 1, 3, none⟩ = some (.slice CB m cq)) :=
              Lib.hid fun W b => ⟨(b.cell (p := ⟨p, 0, none⟩) pl).trans c0, (b.cell (p := ⟨p, 1, none⟩) pl).trans c1, (b.cell (p := ⟨p, 2, none⟩) pl).trans c2, (b.cell (p := ⟨p, 3, none⟩) pl).trans c3, (b.cell (p := ⟨p + 1, 0, none⟩) ql).trans e0, (b.cell (p := ⟨p + 1, 1, none⟩) ql).trans e1, (b.cell (p := ⟨p + 1, 2, none⟩) ql).trans e2, (b.cell (p := ⟨p + 1, 3, none⟩) ql).trans e3⟩
            clear i1
            go_upto_region 14 with fail
            go_region_held3 (fun w' => w'.cell? ⟨p, 0, none⟩ = some (.int .i64 (N : Int)) ∧ w'.cell? ⟨p, 1, none⟩ = some (.slice TA m tp) ∧ w'.cell? ⟨p, 2, none⟩ = some (.slice XA m xp) ∧ w'.cell? ⟨p, 3, none⟩ = some (.slice CA m cp) ∧ w'.cell? ⟨p + 1, 0, none⟩ = some (.int .i64 (N : Int)) ∧ w'.cell? ⟨p + 1, 1, none⟩ = some (.slice TB m tq) ∧ w'.cell? ⟨p + 1, 2, none⟩ = some (.slice XB m xq) ∧ w'.cell? ⟨p + 1, 3, none⟩ = some (.slice CB m cq))
              (first | with_reducible exact k1 | go_keep)
              (first
                | (go_at_call 16; (with_reducible refine (same_ok wr.drew (N : Int) _ _ _ _ _ _ m t x c t x c (by omega) (NN.rt.below D0 (Nat.le_refl _)) (NN.rx.below D0 (Nat.le_refl _)) (NN.rc.below D0 (Nat.le_refl _)) (OO.rt.below D0 (Nat.le_refl _)) (OO.rx.below D0 (Nat.le_refl _)) (OO.rc.below D0 (Nat.le_refl _)) (fun _ _ => rfl) (fun _ _ => rfl) (fun _ _ => rfl)).mono ?_); rintro e w12 ⟨rfl, bb⟩; have E12 : Below wr.heap.size wr w12 := D0.trans (bb.mono (Nat.le_refl _)); have k1 := KK.out w12 E12; clear bb)
                | (go_at_call 15; (with_reducible refine (make_ok w12 N _ _ _ m t x c (NN.rt.below E12 (Nat.le_refl _)) (NN.rx.below E12 (Nat.le_refl _)) (NN.rc.below E12 (Nat.le_refl _)) gd pb).mono ?_); rintro e w13 ⟨TM, XM, CM, oM, kM, rfl, RM, OM, bb⟩; have E13 : Below wr.heap.size wr w13 := E12.trans (bb.mono E12.size); have k1 := KK.out w13 E13; clear bb; have tokM : True := trivial)
                | (go_at_call 17; (with_reducible refine (refMake_ok w13 N _ _ _ m t x c (OO.rt.below E13 (Nat.le_refl _)) (OO.rx.below E13 (Nat.le_refl _)) (OO.rc.below E13 (Nat.le_refl _)) gd pb).mono ?_); rintro e w14 ⟨TF, XF, CF, oF, kF, rfl, RF, OF, bb⟩; have hkk : kF = kM := OF.count OM pb; subst hkk; have E14 : Below wr.heap.size wr w14 := E13.trans (bb.mono E13.size); have RM2 := RM.below bb (Nat.le_refl _); clear RM; have RM := RM2; clear RM2; have k1 := KK.out w14 E14; clear bb)
                | (go_at_call 17; (with_reducible refine (refMake_ok w12 N _ _ _ m t x c (OO.rt.below E12 (Nat.le_refl _)) (OO.rx.below E12 (Nat.le_refl _)) (OO.rc.below E12 (Nat.le_refl _)) gd pb).mono ?_); rintro e w13 ⟨TF, XF, CF, oF, kF, rfl, RF, OF, bb⟩; have E13 : Below wr.heap.size wr w13 := E12.trans (bb.mono E12.size); have k1 := KK.out w13 E13; clear bb)
                | (go_at_call 15; (with_reducible refine (make_ok w13 N _ _ _ m t x c (NN.rt.below E13 (Nat.le_refl _)) (NN.rx.below E13 (Nat.le_refl _)) (NN.rc.below E13 (Nat.le_refl _)) gd pb).mono ?_); rintro e w14 ⟨TM, XM, CM, oM, kM, rfl, RM, OM, bb⟩; have hkk : kM = kF := OM.count OF pb; subst hkk; have E14 : Below wr.heap.size wr w14 := E13.trans (bb.mono E13.size); have RF2 := RF.below bb (Nat.le_refl _); clear RF; have RF := RF2; clear RF2; have k1 := KK.out w14 E14; clear bb)
                | (go_at_call 16; (with_reducible refine (same_ok w14 _ _ _ _ _ _ _ m oM (dualX x) c oF (dualX x) c (by omega) RM.ot.rd RM.ox.rd RM.oc.rd RF.ot.rd RF.ox.rd RF.oc.rd (fun d hd => OM.same OF pb m d hd hd) (fun _ _ => rfl) (fun _ _ => rfl)).mono ?_); rintro e w15 ⟨rfl, bb⟩; have E15 : Below wr.heap.size wr w15 := E14.trans (bb.mono E14.size); have k1 := KK.out w15 E15; clear bb))
            all_goals
              go_wp2_with fail
              go_ret
              exact ⟨rfl, B4.trans (E15.mono B4.size)⟩
end Go.Proofs.Ytbnghpemlcmogaa.Ro
