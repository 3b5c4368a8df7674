/- Walks: the law RotOwn. -/
import Derived.Test.YtcejjcopchkmeaaRoLc
namespace Go.Proofs.Ytcejjcopchkmeaa.Ro
open Go.RowKit Go.Proofs Go.Maps
set_option linter.unusedVariables false
set_option linter.unusedSimpArgs false

theorem Turn.trans {F : Nat → Prop} {a b c : World} (h : Turn F a b) (k : Turn F b c) (hF : ∀ k, F k → k < a.heap.size) : Turn F a c :=
  ⟨k.os.trans h.os, k.tape.trans h.tape, k.output.trans h.output, Nat.le_trans h.size k.size, fun i hi hn => (k.block i (Nat.lt_of_lt_of_le hi h.size) hn).trans (h.block i hi hn)⟩
theorem Turn.set {F : Nat → Prop} {a w : World} (h : Turn F a w) {b i : Nat} (hb : F b) (v : Value) : Turn F a (w.setCell ⟨b, i, none⟩ v) :=
  ⟨h.os, h.tape, h.output, by have := h.size; simp [World.setCell]; exact this, fun k hk hn => (Below.heap_setCell _ _ _ _ (fun e => hn (by rw [e]; exact hb))).trans (h.block k hk hn)⟩
theorem Turn.drew {F : Nat → Prop} {a w : World} (h : Turn F a w) (n : Nat) : Turn F a (w.drewN n) := ⟨h.os, h.tape, h.output, h.size, h.block⟩
theorem Rows.apart {w w' : World} {B : Nat} {T X C : Value} {m : Nat} {t x c : Nat → Int} {F : Nat → Prop} (h : Rows w B T X C m t x c) (k : Turn F w w') (hF : ∀ k, B ≤ k → k < w.heap.size → ¬ F k) : Rows w' B T X C m t x c :=
  h.keep fun j hj => k.block j (h.lt hj).2 (hF j (h.lt hj).1 (h.lt hj).2)
theorem Box.apart {w w' : World} {p : Nat} {N : Int} {T X C : Value} {F : Nat → Prop} (h : Box w p N T X C) (k : Turn F w w') (hp : ¬ F p) : Box w' p N T X C := (k.block p (blk_lt h) hp).trans h

theorem Rows.set3 {w : World} {B tb q1 xb q2 cb q3 m i : Nat} {t x c : Nat → Int} (U : Rows w B (.slice (some ⟨tb, 0, none⟩) m q1) (.slice (some ⟨xb, 0, none⟩) m q2) (.slice (some ⟨cb, 0, none⟩) m q3) m t x c) (hi : i < m) (u : Int) (n4 : ¬ (tb = xb)) (n5 : ¬ (tb = cb)) (n6 : ¬ (cb = xb)) :
    Rows (((w.setCell ⟨tb, i, none⟩ (.int .i64 u)).setCell ⟨cb, i, none⟩ (.int .i64 u)).setCell ⟨xb, i, none⟩ (.int .i64 u)) B (.slice (some ⟨tb, 0, none⟩) m q1) (.slice (some ⟨xb, 0, none⟩) m q2) (.slice (some ⟨cb, 0, none⟩) m q3) m (upd t i u) (upd x i u) (upd c i u) := by
  have own : ∀ b n q k, (Value.slice (some ⟨b, 0, none⟩) n q).ownBlock = some k → k = b := fun b n q k h => by
    have e : some b = some k := h
    injection e with e; exact e.symm
  have k1 : ∀ (w : World) b v k, k ≠ b → (w.setCell ⟨b, i, none⟩ v).heap[k]? = w.heap[k]? := fun w b v k h => Below.heap_setCell _ _ _ _ h
  refine ⟨((U.ot.set hi u).keep fun k hk => k1 _ _ _ _ (by have := own _ _ _ _ hk; omega)).keep fun k hk => k1 _ _ _ _ (by have := own _ _ _ _ hk; omega), ?_, ?_, U.bt, U.bx, U.bc, U.tx, U.tc, U.xc⟩
  · exact ((U.ox.keep fun k hk => k1 _ _ _ _ (by have := own _ _ _ _ hk; omega)).keep (w' := ((w.setCell ⟨tb, i, none⟩ (.int .i64 u)).setCell ⟨cb, i, none⟩ (.int .i64 u))) fun k hk => k1 _ _ _ _ (by have := own _ _ _ _ hk; omega)).set hi u
  · exact ((U.oc.keep (w' := w.setCell ⟨tb, i, none⟩ (.int .i64 u)) fun k hk => k1 _ _ _ _ (by have := own _ _ _ _ hk; omega)).set hi u).keep fun k hk => k1 _ _ _ _ (by have := own _ _ _ _ hk; omega)

set_option maxRecDepth 100000 in
set_option maxHeartbeats 12800000 in
theorem own_walk (A : Option Addr) (len cap : Nat) (zs : List Int) (d : Int) (w : World) (hV : Rd w (.slice A len cap) len (fun i => zs.getD i 0)) (hz : ∀ i, i < len → Small (zs.getD i 0)) (hl : len ≤ 9223372036854775807) (hd : Small d) :
    Calls Try.prog 14 #[.slice A len cap, .int .i64 d] w fun e w' => e = .returned (.bool true) ∧ Below w.heap.size w w' := by
  obtain ⟨⟨N, m, t, x, c⟩, hs⟩ : ∃ s, planeOf (fun i => zs.getD i 0) len = s := ⟨_, rfl⟩
  have hok := plane_ok (fun i => zs.getD i 0) len
  rw [hs] at hok
  have HS := Lib.hid hs
  clear hs
  obtain ⟨gr, hN, hM⟩ := hok
  have gr : Grown N m t x c := gr
  dsimp only at hN hM
  have gd := gr.good
  have pa := gr.turns.perm
  have pb := pa.bh gd.even
  go_enter Try.func14, Try.ntmps14
  go_wp2_with fail
  refine (known_ok _).mono ?_
  rintro e w1 ⟨rfl, B1⟩
  go_wp2_with fail
  refine (plane_any _ _ len _ (hV.below B1 (Nat.le_refl _)) hz hl).mono ?_
  rintro e w2 ⟨T, X, C, rfl, R2, b2⟩
  rw [HS.out] at R2 ⊢
  dsimp only at R2 ⊢
  have B2 := B1.trans (b2.mono B1.size)
  clear b2 B1
  obtain ⟨TA, tp, rfl, -⟩ := id R2.ot.rd
  obtain ⟨XA, xp, rfl, -⟩ := id R2.ox.rd
  obtain ⟨CA, cp, rfl, -⟩ := id R2.oc.rd
  go_wp2_with fail
  refine (plane_any _ _ len _ (hV.below B2 (Nat.le_refl _)) hz hl).mono ?_
  rintro e w3 ⟨T', X', C', rfl, S3, b3⟩
  rw [HS.out] at S3 ⊢
  dsimp only at S3 ⊢
  have B3 := B2.trans (b3.mono B2.size)
  have R3 := R2.below b3 (Nat.le_refl _)
  clear b3 R2 B2 hz
  obtain ⟨TB, tq, rfl, -⟩ := id S3.ot.rd
  obtain ⟨XB, xq, rfl, -⟩ := id S3.ox.rd
  obtain ⟨CB, cq, rfl, -⟩ := id S3.oc.rd
  go_upto_region 4 with fail
  have b4 : Below w3.heap.size w3 ((w3.alloc (.cells #[.int .i64 (N : Int), .slice TA m tp, .slice XA m xp, .slice CA m cp] 25)).alloc (.cells #[.int .i64 (N : Int), .slice TB m tq, .slice XB m xq, .slice CB m cq] 25)) := ((Below.refl _ _).alloc (Nat.le_refl _) _).alloc (by simp) _
  have X4 : Box ((w3.alloc (.cells #[.int .i64 (N : Int), .slice TA m tp, .slice XA m xp, .slice CA m cp] 25)).alloc (.cells #[.int .i64 (N : Int), .slice TB m tq, .slice XB m xq, .slice CB m cq] 25)) w3.heap.size N (.slice TA m tp) (.slice XA m xp) (.slice CA m cp) :=
    Box.below (heap_alloc_new _ _) ((Below.refl _ _).alloc (Nat.le_refl _) _) (Nat.le_refl _)
  have Y4 : Box ((w3.alloc (.cells #[.int .i64 (N : Int), .slice TA m tp, .slice XA m xp, .slice CA m cp] 25)).alloc (.cells #[.int .i64 (N : Int), .slice TB m tq, .slice XB m xq, .slice CB m cq] 25)) (w3.heap.size + 1) N (.slice TB m tq) (.slice XB m xq) (.slice CB m cq) := by
    have := heap_alloc_new (w3.alloc (.cells #[.int .i64 (N : Int), .slice TA m tp, .slice XA m xp, .slice CA m cp] 25)) (.cells #[.int .i64 (N : Int), .slice TB m tq, .slice XB m xq, .slice CB m cq] 25)
    rw [show (w3.alloc (.cells #[.int .i64 (N : Int), .slice TA m tp, .slice XA m xp, .slice CA m cp] 25)).heap.size = w3.heap.size + 1 by simp] at this
    exact this
  have R4 := R3.below b4 (Nat.le_refl _)
  have S4 := S3.below b4 (Nat.le_refl _)
  have B4 := B3.trans (b4.mono B3.size)
  have lR := fun k hk => (R3.lt (k := k) hk).2
  have lS := fun k hk => (S3.lt (k := k) hk).2
  have LR := Lib.hid lR
  have LS := Lib.hid lS
  clear b4 R3 S3 B3 lR lS
  generalize (w3.alloc (.cells #[.int .i64 (N : Int), .slice TA m tp, .slice XA m xp, .slice CA m cp] 25)).alloc (.cells #[.int .i64 (N : Int), .slice TB m tq, .slice XB m xq, .slice CB m cq] 25) = w4 at *
  generalize w3.heap.size = p at *
  have pl := blk_lt X4
  have ql := blk_lt Y4
  have c0 : w4.cell? ⟨p, 0, none⟩ = some (.int .i64 (N : Int)) := blk_cell X4 0
  have c1 : w4.cell? ⟨p, 1, none⟩ = some (.slice TA m tp) := blk_cell X4 1
  have c2 : w4.cell? ⟨p, 2, none⟩ = some (.slice XA m xp) := blk_cell X4 2
  have c3 : w4.cell? ⟨p, 3, none⟩ = some (.slice CA m cp) := blk_cell X4 3
  go_wp2_with fail
  refine (faces_ok _ N _ _ _ m t x c R4.ot.rd R4.ox.rd R4.oc.rd gd pb).mono ?_
  rintro e w5 ⟨fv, o, k, rfl, F5, nF, O, b5⟩
  obtain ⟨FA, fc, rfl, -⟩ := id F5.rd
  -- what must stay: all below M
  have B5 := B4.trans (b5.mono B4.size)
  have NF := Lib.hid nF
  clear nF c0 c1 c2 c3
  go_wp2_with fail
  go_loopw [9] (fun u wr => ∃ (i : Nat) (y : Nat → Int), u = .int .i64 (i : Int) ∧ i ≤ m ∧ Ow wr (.slice FA m fc) m y ∧ Below w4.heap.size w4 wr) (fun u _ => m - (intOf u).toNat)
  case atStart => exact ⟨0, o, rfl, Nat.zero_le _, F5, b5⟩
  case round =>
    clear F5 b5 B5
    obtain ⟨i, y, rfl, hi, F, E⟩ := hrel
    by_cases him : i < m
    · have i1 : (i : Int) < (m : Int) := by omega
      obtain ⟨fb, fc2, fe, hfb⟩ := F.form (by omega)
      injection fe with fe1 fe2 fe3
      subst fe1 fe3
      have hfw : w4.heap.size ≤ fb := NF.out fb rfl
      have co := F.cell him
      have zf := F.frozen i
      have F2 := F.set him (-9)
      have E2 := E.setCell (p := ⟨fb, i, none⟩) hfw (.int .i64 (-9))
      clear F E
      go_wp2_with fail
      go_roundw
      case rel => exact ⟨i + 1, _, by simp, by omega, F2, E2⟩
      case measure => simp [intOf]; omega
    · have i1 : ¬ ((i : Int) < (m : Int)) := by omega
      have R6 := R4.below E (Nat.le_refl _)
      have X6 := X4.below E (Nat.le_refl _)
      have pl6 := blk_lt X6
      have c0 : wr.cell? ⟨p, 0, none⟩ = some (.int .i64 (N : Int)) := blk_cell X6 0
      have c1 : wr.cell? ⟨p, 1, none⟩ = some (.slice TA m tp) := blk_cell X6 1
      have c2 : wr.cell? ⟨p, 2, none⟩ = some (.slice XA m xp) := blk_cell X6 2
      have c3 : wr.cell? ⟨p, 3, none⟩ = some (.slice CA m cp) := blk_cell X6 3
      clear F
      go_wp2_with fail
      refine (turn_ok _ N _ _ _ m t x c R6.ot.rd R6.ox.rd R6.oc.rd (by omega) gd.next).mono ?_
      rintro e w7 ⟨T9, X9, C9, rfl, U7, b7⟩
      obtain ⟨TC, tr, rfl, -⟩ := id U7.ot.rd
      obtain ⟨XC, xr, rfl, -⟩ := id U7.ox.rd
      obtain ⟨CC, cr, rfl, -⟩ := id U7.oc.rd
      have U7' := U7.base (B' := w4.heap.size) E.size
      have E7 := E.trans (b7.mono E.size)
      clear U7 b7 c0 c1 c2 c3 E R6 X6 pl6 i1 him hi
      go_upto_region 10 with fail
      have Z8 : Box (w7.alloc (.cells #[.int .i64 (N : Int), .slice TC m tr, .slice XC m xr, .slice CC m cr] 25)) w7.heap.size N (.slice TC m tr) (.slice XC m xr) (.slice CC m cr) := heap_alloc_new _ _
      have b8 : Below w7.heap.size w7 (w7.alloc (.cells #[.int .i64 (N : Int), .slice TC m tr, .slice XC m xr, .slice CC m cr] 25)) := (Below.refl _ _).alloc (Nat.le_refl _) _
      have U8 := U7'.below b8 (Nat.le_refl _)
      have E8 := E7.trans (b8.mono E7.size)
      have ul := fun k hk => (U7'.lt (k := k) hk).2
      have UL := Lib.hid ul
      have hz7 : w4.heap.size ≤ w7.heap.size := E7.size
      clear b8 U7' E7 ul
      generalize (w7.alloc (.cells #[.int .i64 (N : Int), .slice TC m tr, .slice XC m xr, .slice CC m cr] 25)) = w8 at *
      generalize w7.heap.size = z at *
      clear w7
      go_wp2_with fail
      go_loopw [11] (fun u wr => ∃ (i : Nat) (t9 x9 c9 : Nat → Int), u = .int .i64 (i : Int) ∧ i ≤ m ∧ Box wr z N (.slice TC m tr) (.slice XC m xr) (.slice CC m cr) ∧ Rows wr w4.heap.size (.slice TC m tr) (.slice XC m xr) (.slice CC m cr) m t9 x9 c9 ∧ Below w4.heap.size w4 wr) (fun u _ => m - (intOf u).toNat)
      case atStart => exact ⟨0, _, _, _, rfl, Nat.zero_le _, Z8, U8, E8⟩
      case round =>
        clear Z8 U8 E8 w8
        obtain ⟨i2, t9, x9, c9, rfl, hi, Zb, U, E⟩ := hrel
        have z1 : wr.cell? ⟨z, 1, none⟩ = some (.slice TC m tr) := blk_cell Zb 1
        have z2 : wr.cell? ⟨z, 2, none⟩ = some (.slice XC m xr) := blk_cell Zb 2
        have z3 : wr.cell? ⟨z, 3, none⟩ = some (.slice CC m cr) := blk_cell Zb 3
        by_cases him : i2 < m
        · have i1 : (i2 : Int) < (m : Int) := by omega
          obtain ⟨tb, q1, e1, -⟩ := U.ot.form (by omega)
          injection e1 with e11 e12 e13
          subst e11 e13
          obtain ⟨xb, q2, e2, -⟩ := U.ox.form (by omega)
          injection e2 with e21 e22 e23
          subst e21 e23
          obtain ⟨cb, q3, e3, -⟩ := U.oc.form (by omega)
          injection e3 with e31 e32 e33
          subst e31 e33
          have n1 : ¬ (tb = z) := by have := UL.out tb (.inl rfl); omega
          have n2 : ¬ (xb = z) := by have := UL.out xb (.inr (.inl rfl)); omega
          have n3 : ¬ (cb = z) := by have := UL.out cb (.inr (.inr rfl)); omega
          have n4 : ¬ (tb = xb) := fun e => U.tx tb rfl (by rw [e]; rfl)
          have n5 : ¬ (tb = cb) := fun e => U.tc tb rfl (by rw [e]; rfl)
          have n6 : ¬ (cb = xb) := fun e => U.xc xb rfl (by rw [← e]; rfl)
          have n5' : ¬ (cb = tb) := fun e => n5 e.symm
          have n4' : ¬ (xb = tb) := fun e => n4 e.symm
          have n6' : ¬ (xb = cb) := fun e => n6 e.symm
          have g1 : w4.heap.size ≤ tb := U.bt tb rfl
          have g2 : w4.heap.size ≤ xb := U.bx xb rfl
          have g3 : w4.heap.size ≤ cb := U.bc cb rfl
          have a1 := U.ot.cell him
          have a2 := U.ox.cell him
          have a3 := U.oc.cell him
          have f1 := U.ot.frozen i2
          have f2 := U.ox.frozen i2
          have f3 := U.oc.frozen i2
          have i0 : (0 : Int) ≤ (i2 : Int) := by omega
          go_upto_region 13 with fail
          have U3 := Lib.hid ((U.set3 him (-9) n4 n5 n6).keep (w' := ((((wr.setCell ⟨tb, i2, none⟩ (.int .i64 (-9))).setCell ⟨cb, i2, none⟩ (.int .i64 (-9))).setCell ⟨xb, i2, none⟩ (.int .i64 (-9)))).drew) fun _ _ => rfl)
          have Z3 : Box (((wr.setCell ⟨tb, i2, none⟩ (.int .i64 (-9))).setCell ⟨cb, i2, none⟩ (.int .i64 (-9))).setCell ⟨xb, i2, none⟩ (.int .i64 (-9))) z N (.slice (some ⟨tb, 0, none⟩) m tr) (.slice (some ⟨xb, 0, none⟩) m xr) (.slice (some ⟨cb, 0, none⟩) m cr) :=
            (Below.heap_setCell _ _ _ _ (fun e => n2 e.symm)).trans ((Below.heap_setCell _ _ _ _ (fun e => n3 e.symm)).trans ((Below.heap_setCell _ _ _ _ (fun e => n1 e.symm)).trans Zb))
          have E3 := ((E.setCell (p := ⟨tb, i2, none⟩) g1 (.int .i64 (-9))).setCell (p := ⟨cb, i2, none⟩) g3 (.int .i64 (-9))).setCell (p := ⟨xb, i2, none⟩) g2 (.int .i64 (-9))
          have E4 := Lib.hid E3.drew
          clear Zb U E E3
          go_region_held3 (fun w' => w'.cell? ⟨z, 1, none⟩ = some (.slice (some ⟨tb, 0, none⟩) m tr) ∧ w'.cell? ⟨z, 2, none⟩ = some (.slice (some ⟨xb, 0, none⟩) m xr) ∧ w'.cell? ⟨z, 3, none⟩ = some (.slice (some ⟨cb, 0, none⟩) m cr))
            (first | go_keep) (fail)
          go_wp2_with fail
          go_roundw
          case rel => exact ⟨i2 + 1, _, _, _, by simp, by omega, Z3, U3.out, E4.out⟩
          case measure => simp [intOf]; omega
        · have i1 : ¬ ((i2 : Int) < (m : Int)) := by omega
          have X9 := X4.below E (Nat.le_refl _)
          have R9 := R4.below E (Nat.le_refl _)
          have pl9 := blk_lt X9
          have c1 : wr.cell? ⟨p, 1, none⟩ = some (.slice TA m tp) := blk_cell X9 1
          clear him
          go_upto_if 76 with fail
          go_cut [] (fun wx => Below w4.heap.size w4 wx)
          case first =>
            by_cases hm : m = 0
            · subst hm
              go_wp2_with fail
              go_meet
              exact E
            · have hm1 : (0 : Int) < (m : Int) := by omega
              obtain ⟨j, hj, hjm⟩ := small_within (d := d) (m := m) (by omega)
              have HJ := Lib.hid hj
              have c0 : wr.cell? ⟨p, 0, none⟩ = some (.int .i64 (N : Int)) := blk_cell X9 0
              have c2 : wr.cell? ⟨p, 2, none⟩ = some (.slice XA m xp) := blk_cell X9 2
              have c3 : wr.cell? ⟨p, 3, none⟩ = some (.slice CA m cp) := blk_cell X9 3
              have D9 : Below wr.heap.size wr wr.drew := (Below.refl _ wr).drew
              have R10 := R9.below D9 (Nat.le_refl _)
              clear hj hm z1 z2 z3
              go_upto_region 15 with fail
              go_region_held3 (fun w' => w'.cell? ⟨p, 0, none⟩ = some (.int .i64 (N : Int)) ∧ w'.cell? ⟨p, 1, none⟩ = some (.slice TA m tp) ∧ w'.cell? ⟨p, 2, none⟩ = some (.slice XA m xp) ∧ w'.cell? ⟨p, 3, none⟩ = some (.slice CA m cp))
                (first | with_reducible exact k1 | go_keep)
                (first
                  | (go_at_call 20; refine (within2_any _ d (m : Int) hd hm1 (by omega)).mono ?_; rintro e w10 ⟨rfl, rfl⟩; rw [HJ.out])
                  | (go_at_call 31; refine (about_ok wr.drew N _ _ _ m t x c R10.ot.rd R10.ox.rd R10.oc.rd gd pa j hjm).mono ?_; rintro e w11 ⟨ab1, ka, cur, rfl, hba, hcur, hcj, Ra, b11⟩; have E11 : Below wr.heap.size wr w11 := D9.trans (b11.mono (Nat.le_refl _)); have k1 := And.intro ((E11.cell (p := ⟨p, 0, none⟩) pl9).trans c0) (And.intro ((E11.cell (p := ⟨p, 1, none⟩) pl9).trans c1) (And.intro ((E11.cell (p := ⟨p, 2, none⟩) pl9).trans c2) ((E11.cell (p := ⟨p, 3, none⟩) pl9).trans c3)))))
              have E12 := E.trans (E11.mono E.size)
              have hka : ka ≤ m := apart_le ka (fun i => it (ab x) i j) (fun i _ => pa.it_lt hjm i) Ra.apart
              have hab : w4.heap.size ≤ ab1 := Nat.le_trans E.size hba
              clear c0 c1 c2 c3 k1 E11 b11 R9 R10 X9 E D9
              have hcx : ∀ n, n < ka → ∃ v, cur[n]? = some v := fun n hn => ⟨_, hcj n hn⟩
              clear hcj
              go_wp2_with fail
              go_loopw [13] (fun u w' => ∃ (a : Nat) (cu : Array Value), u = .int .i64 (a : Int) ∧ a ≤ ka ∧ w'.heap[ab1]? = some (.cells cu 3 (0, 0)) ∧ (∀ n, n < ka → ∃ v, cu[n]? = some v) ∧ Below w4.heap.size w4 w') (fun u _ => ka - (intOf u).toNat)
              case atStart => exact ⟨0, cur, rfl, Nat.zero_le _, hcur, hcx, E12⟩
              case round =>
                clear hcur hcx E12
                obtain ⟨a, cu, rfl, ha, hcu, hcx, E⟩ := hrel
                by_cases hak : a < ka
                · have j1 : (a : Int) < (ka : Int) := by omega
                  obtain ⟨v0, hv0⟩ := hcx a hak
                  have ca := (blk_cell hcu a).trans hv0
                  have fa := blk_frozen hcu a
                  have hc2 := blk_set (i := a) hcu (.int .i64 (-9))
                  have HX2 : Hid (∀ n, n < ka → ∃ v, (cu.setIfInBounds a (.int .i64 (-9)))[n]? = some v) := Lib.hid fun n hn => by
                    obtain ⟨v, hv⟩ := hcx n hn
                    have hs : n < cu.size := by
                      rcases Nat.lt_or_ge n cu.size with q | q
                      · exact q
                      · rw [Array.getElem?_eq_none q] at hv; cases hv
                    exact ⟨_, Array.getElem?_eq_getElem (by simpa using hs)⟩
                  have E2 := E.setCell (p := ⟨ab1, a, none⟩) hab (.int .i64 (-9))
                  clear hcx hcu E hv0
                  go_wp2_with fail
                  go_roundw
                  case rel => exact ⟨a + 1, _, by simp, by omega, hc2, HX2.out, E2⟩
                  case measure => simp [intOf]; omega
                · have j1 : ¬ ((a : Int) < (ka : Int)) := by omega
                  clear hcx
                  go_wp2_with fail
                  go_meet
                  exact E
          case rest =>
            clear E c1 z1 z2 z3 pl9 X9 R9
            generalize wc = w10 at *
            have E := hcut
            clear hcut
            have X9 := X4.below E (Nat.le_refl _)
            have Y9 := Y4.below E (Nat.le_refl _)
            have R9 := R4.below E (Nat.le_refl _)
            have S9 := S4.below E (Nat.le_refl _)
            have B9 := B4.trans (E.mono B4.size)
            have pl9 := blk_lt X9
            have c0 : w10.cell? ⟨p, 0, none⟩ = some (.int .i64 (N : Int)) := blk_cell X9 0
            have c1 : w10.cell? ⟨p, 1, none⟩ = some (.slice TA m tp) := blk_cell X9 1
            have c2 : w10.cell? ⟨p, 2, none⟩ = some (.slice XA m xp) := blk_cell X9 2
            have c3 : w10.cell? ⟨p, 3, none⟩ = some (.slice CA m cp) := blk_cell X9 3
            go_wp2_with fail
            refine (faces_ok _ N _ _ _ m t x c R9.ot.rd R9.ox.rd R9.oc.rd gd pb).mono ?_
            rintro e w11 ⟨gv, o1, k1, rfl, G11, -, O1, b11⟩
            obtain ⟨GA, gc, rfl, -⟩ := id G11.rd
            have X11 := X9.below b11 (Nat.le_refl _)
            have Y11 := Y9.below b11 (Nat.le_refl _)
            have R11 := R9.below b11 (Nat.le_refl _)
            have S11 := S9.below b11 (Nat.le_refl _)
            have B11 := B9.trans (b11.mono B9.size)
            clear b11 X9 Y9 R9 S9 B9 c0 c1 c2 c3 pl9 E
            have pl9 := blk_lt Y11
            have c0 : w11.cell? ⟨p + 1, 0, none⟩ = some (.int .i64 (N : Int)) := blk_cell Y11 0
            have c1 : w11.cell? ⟨p + 1, 1, none⟩ = some (.slice TB m tq) := blk_cell Y11 1
            have c2 : w11.cell? ⟨p + 1, 2, none⟩ = some (.slice XB m xq) := blk_cell Y11 2
            have c3 : w11.cell? ⟨p + 1, 3, none⟩ = some (.slice CB m cq) := blk_cell Y11 3
            go_wp2_with fail
            refine (refFaces_ok _ N _ _ _ m t x S11.ot.rd S11.ox.rd (by omega) gd.even (fun d hd => (gd.next d hd).1) pb).mono ?_
            rintro e w12 ⟨hb, o2, k2, rfl, H12, -, O2, -, b12⟩
            obtain rfl := O1.count O2 pb
            have X12 := X11.below b12 (Nat.le_refl _)
            have Y12 := Y11.below b12 (Nat.le_refl _)
            have R12 := R11.below b12 (Nat.le_refl _)
            have S12 := S11.below b12 (Nat.le_refl _)
            have G12 := G11.below b12 (Nat.le_refl _)
            have B12 := B11.trans (b12.mono B11.size)
            have OE := Lib.hid (fun j (hj : j < m) => O1.same O2 pb m j hj hj)
            clear b12 X11 Y11 R11 S11 B11 G11 c0 c1 c2 c3 pl9 O1 O2
            generalize max k1 1 = F at *
            have pl9 := blk_lt X12
            have ql9 := blk_lt Y12
            have d0 : w12.cell? ⟨p, 0, none⟩ = some (.int .i64 (N : Int)) := blk_cell X12 0
            have d1 : w12.cell? ⟨p, 1, none⟩ = some (.slice TA m tp) := blk_cell X12 1
            have d2 : w12.cell? ⟨p, 2, none⟩ = some (.slice XA m xp) := blk_cell X12 2
            have d3 : w12.cell? ⟨p, 3, none⟩ = some (.slice CA m cp) := blk_cell X12 3
            have c0 : w12.cell? ⟨p + 1, 0, none⟩ = some (.int .i64 (N : Int)) := blk_cell Y12 0
            have c1 : w12.cell? ⟨p + 1, 1, none⟩ = some (.slice TB m tq) := blk_cell Y12 1
            have c2 : w12.cell? ⟨p + 1, 2, none⟩ = some (.slice XB m xq) := blk_cell Y12 2
            have c3 : w12.cell? ⟨p + 1, 3, none⟩ = some (.slice CB m cq) := blk_cell Y12 3
            have hF : ((F : Int) == (F : Int)) = true := by simp
            go_wp2_with fail
            refine (same_ok _ N _ _ _ _ _ _ m t x c t x c (by omega) R12.ot.rd R12.ox.rd R12.oc.rd S12.ot.rd S12.ox.rd S12.oc.rd (fun _ _ => rfl) (fun _ _ => rfl) (fun _ _ => rfl)).mono ?_
            rintro e w13 ⟨rfl, b13⟩
            have B13 := B12.trans (b13.mono B12.size)
            have G13 := G12.below b13 (Nat.le_refl _)
            have H13 := H12.below b13 (Nat.le_refl _)
            clear b13 X12 Y12 R12 S12 B12 G12 H12 c0 c1 c2 c3 d0 d1 d2 d3
            go_wp2_with fail
            refine (ints_same _ _ _ m o1 o2 (by omega) G13.rd H13.rd OE.out).mono ?_
            rintro e w14 ⟨rfl, b14⟩
            go_wp2_with fail
            go_ret
            exact ⟨rfl, B13.trans (b14.mono B13.size)⟩
end Go.Proofs.Ytcejjcopchkmeaa.Ro
