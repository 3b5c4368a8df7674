/- Walks: the law RotRows; printed by gen/rows2.py. -/
import Derived.Test.YtcejjcopchkmeaaRoPp
import Derived.Test.YtcejjcopchkmeaaMq2
import Derived.Test.YtcejjcopchkmeaaRoKn
import Derived.Test.YtcejjcopchkmeaaMxRoFy
import Derived.Test.YtcejjcopchkmeaaRoHd
import Derived.Test.YtcejjcopchkmeaaRoZ
import Derived.Test.YtcejjcopchkmeaaRoTu
import Derived.Test.YtcejjcopchkmeaaMxRiTn
import Derived.Test.YtcejjcopchkmeaaRoCa
import Derived.Test.YtcejjcopchkmeaaRoJa
import Derived.Test.YtcejjcopchkmeaaRoY
import Derived.Test.YtcejjcopchkmeaaRoSm
import Derived.Deep.RegionHeld3
namespace Go.Proofs.Ytcejjcopchkmeaa.Ro
open Go.RowKit Go.Proofs Go.Maps
set_option linter.unusedVariables false
set_option linter.unusedSimpArgs false

theorem RoundPost.rd {B : Nat} {w w' : World} {f : Nat → Nat} {d : Nat} {e : Ending} (h : RoundPost B w f d e w') : ∃ A k, e = .returned (.slice A k k) ∧ Rd w' (.slice A k k) k (fun j => (it f j d : Int)) ∧ Rnd f d k ∧ Below B w w' := by
  obtain ⟨b, k, rfl, h1, h2, h3, h4, h5⟩ := h.row
  exact ⟨some ⟨b, 0, none⟩, k, rfl, ⟨_, _, rfl, fun _ => ⟨⟨b, 0, none⟩, rfl, h2, fun j hj => by rw [add_head]; exact h3 j hj⟩⟩, h4, h5⟩
theorem RowPost.rd {B : Nat} {w w' : World} {f : Nat → Nat} {d : Nat} {e : Ending} (h : RowPost B w f d e w') : ∃ A k cap, e = .returned (.slice A k cap) ∧ Rd w' (.slice A k cap) k (fun j => (it f j d : Int)) ∧ Rnd f d k ∧ Below B w w' := by
  obtain ⟨b, k, cap, rfl, _, o, r, h5⟩ := h
  exact ⟨_, k, cap, rfl, o.rd, r, h5⟩
theorem Rnd.few {f : Nat → Nat} {m d k : Nat} (h : Rnd f d k) (p : Perm f m) (hd : d < m) : k ≤ m := apart_le k (fun j => it f j d) (fun j _ => p.it_lt hd j) h.apart

/-- what is known of a net of the list -/
structure Net8 (W0 : World) (lb i N m : Nat) (T X C : Value) (t x c : Nat → Int) : Prop where
  fair : Fair N m t x
  perm : Perm (ab x) m
  rt : Rd W0 T m t
  rx : Rd W0 X m x
  rc : Rd W0 C m c
  at0 : W0.cell? ⟨lb, i * 4, none⟩ = some (.int .i64 (N : Int))
  at1 : W0.cell? ⟨lb, i * 4 + 1, none⟩ = some T
  at2 : W0.cell? ⟨lb, i * 4 + 2, none⟩ = some X
  at3 : W0.cell? ⟨lb, i * 4 + 3, none⟩ = some C

set_option maxRecDepth 100000 in
set_option maxHeartbeats 12800000 in
theorem rows_walk (A : Option Addr) (len cap : Nat) (zs : List Int) (size : Int) (A2 : Option Addr) (len2 cap2 : Nat) (zs2 : List Int) (d : Int) (w : World) (hV : Rd w (.slice A len cap) len (fun i => zs.getD i 0)) (hz : ∀ i, i < len → Small (zs.getD i 0)) (hl : len ≤ 9223372036854775807) (hsize : Small size) (hV2 : Rd w (.slice A2 len2 cap2) len2 (fun i => zs2.getD i 0)) (hz2 : ∀ i, i < len2 → Small (zs2.getD i 0)) (hl2 : len2 ≤ 9223372036854775807) (hd : Small d) :
    Calls Try.prog 5 #[.slice A len cap, .int .i64 size, .slice A2 len2 cap2, .int .i64 d] w fun e w' => e = .returned (.bool true) ∧ Below w.heap.size w w' := by
  go_enter Try.func5, Try.ntmps5
  go_wp2_with fail
  refine (known_ok _).mono ?_
  rintro e w1 ⟨rfl, B1⟩
  have h01 := B1.size
  go_wp2_with fail
  refine (plane_post _ _ len _ (hV.below B1 (Nat.le_refl _)) hz hl).mono ?_
  rintro e w2 ⟨N, m, t, x, c, TA, tp, XA, xp, CA, cp, rfl, gr, hN, hM, R2, b2⟩
  replace B1 := B1.trans (b2.mono B1.size)
  have gd := gr.good
  have pa := gr.turns.perm
  clear b2 hz hl hV
  go_wp2_with fail
  refine (make1_ok _ size _ len2 _ (hV2.below B1 (Nat.le_refl _)) hz2 hl2 hsize).mono ?_
  rintro e w3 ⟨N', m', T', X', C', t', x', c', rfl, S3, -, MD, b3⟩
  have R3 := R2.below b3 (Nat.le_refl _)
  replace B1 := B1.trans (b3.mono B1.size)
  obtain ⟨TB, tq, rfl, -⟩ := id S3.ot.rd
  obtain ⟨XB, xq, rfl, -⟩ := id S3.ox.rd
  obtain ⟨CB, cq, rfl, -⟩ := id S3.oc.rd
  clear b3 R2 hz2 hl2 hV2
  go_wp2_with fail
  have b4 : Below w3.heap.size w3 (w3.alloc (.cells #[.int .i64 (N : Int), .slice TA m tp, .slice XA m xp, .slice CA m cp, .int .i64 (N' : Int), .slice TB m' tq, .slice XB m' xq, .slice CB m' cq] 25)) := (Below.refl _ _).alloc (Nat.le_refl _) _
  have H4 := heap_alloc_new w3 (.cells #[.int .i64 (N : Int), .slice TA m tp, .slice XA m xp, .slice CA m cp, .int .i64 (N' : Int), .slice TB m' tq, .slice XB m' xq, .slice CB m' cq] 25)
  have R4 := R3.below b4 (Nat.le_refl _)
  have S4 := S3.below b4 (Nat.le_refl _)
  have B4 := B1.trans (b4.mono B1.size)
  generalize w3.alloc (.cells #[.int .i64 (N : Int), .slice TA m tp, .slice XA m xp, .slice CA m cp, .int .i64 (N' : Int), .slice TB m' tq, .slice XB m' xq, .slice CB m' cq] 25) = w4 at *
  have ll := blk_lt H4
  generalize w3.heap.size = lb at *
  have LL : Hid (∀ i, i < 2 → ∃ (N m : Nat) (TA XA CA : Option Addr) (tp xp cp : Nat) (t x c : Nat → Int), Net8 w4 lb i N m (.slice TA m tp) (.slice XA m xp) (.slice CA m cp) t x c) := Lib.hid fun i hi => by
    rcases Nat.lt_or_ge i 1 with q | q
    · obtain rfl : i = 0 := by omega
      exact ⟨N, m, TA, XA, CA, tp, xp, cp, t, x, c, gd.fair, pa, R4.ot.rd, R4.ox.rd, R4.oc.rd, blk_cell H4 0, blk_cell H4 1, blk_cell H4 2, blk_cell H4 3⟩
    · obtain rfl : i = 1 := by omega
      have h1 := MD.few
      have h2 := MD.most
      exact ⟨N', m', TB, XB, CB, tq, xq, cq, t', x', c', ⟨by omega, by omega, MD.even, MD.next, MD.tail⟩, MD.turns.perm, S4.ot.rd, S4.ox.rd, S4.oc.rd, blk_cell H4 4, blk_cell H4 5, blk_cell H4 6, blk_cell H4 7⟩
  clear b4 H4 R4 S4 B1 R3 S3 MD gd pa gr hN hM h01
  go_loopw [10] (fun u wr => ∃ i : Nat, u = .int .i64 (i : Int) ∧ i ≤ 2 ∧ Below w4.heap.size w4 wr) (fun u _ => 2 - (intOf u).toNat)
  case atStart => exact ⟨0, rfl, Nat.zero_le _, Below.refl _ _⟩
  case round =>
    obtain ⟨i, rfl, hi, E⟩ := hrel
    by_cases hi2 : i < 2
    rotate_left
    · have i1 : ¬ ((i : Int) < 2) := by omega
      go_wp2_with fail
      go_ret
      exact ⟨rfl, B4.trans (E.mono B4.size)⟩
    have i1 : (i : Int) < 2 := by omega
    obtain ⟨N, m, TA, XA, CA, tp, xp, cp, t, x, c, H⟩ := LL.out i hi2
    have g := H.fair
    have pa := H.perm
    have pb := pa.bh g.even
    have rt := H.rt.below E (Nat.le_refl _)
    have rx := H.rx.below E (Nat.le_refl _)
    have rc := H.rc.below E (Nat.le_refl _)
    have l0 : wr.cell? ⟨lb, i * 4, none⟩ = some (.int .i64 (N : Int)) := (E.cell (p := ⟨lb, i * 4, none⟩) ll).trans H.at0
    have l1 : wr.cell? ⟨lb, i * 4 + 1, none⟩ = some (.slice TA m tp) := (E.cell (p := ⟨lb, i * 4 + 1, none⟩) ll).trans H.at1
    have l2 : wr.cell? ⟨lb, i * 4 + 2, none⟩ = some (.slice XA m xp) := (E.cell (p := ⟨lb, i * 4 + 2, none⟩) ll).trans H.at2
    have l3 : wr.cell? ⟨lb, i * 4 + 3, none⟩ = some (.slice CA m cp) := (E.cell (p := ⟨lb, i * 4 + 3, none⟩) ll).trans H.at3
    have h60 := g.most
    have h240 := g.few
    clear H
    go_upto_region 8 with fail
    obtain ⟨w5, hw5, X5, b5⟩ : ∃ w2, wr.alloc (.cells #[.int .i64 (N : Int), .slice TA m tp, .slice XA m xp, .slice CA m cp] 25) = w2 ∧ Box w2 wr.heap.size N (.slice TA m tp) (.slice XA m xp) (.slice CA m cp) ∧ Below wr.heap.size wr w2 := ⟨_, rfl, heap_alloc_new _ _, below_new wr _⟩
    rw [hw5]
    have KR : Hid (∀ W, Below w5.heap.size w5 W → Rd W (.slice TA m tp) m t ∧ Rd W (.slice XA m xp) m x ∧ Rd W (.slice CA m cp) m c) := Lib.hid fun W b =>
      ⟨(rt.below b5 (Nat.le_refl _)).below b (Nat.le_refl _), (rx.below b5 (Nat.le_refl _)).below b (Nat.le_refl _), (rc.below b5 (Nat.le_refl _)).below b (Nat.le_refl _)⟩
    have E5 := E.trans (b5.mono E.size)
    clear hw5 b5 rt rx rc l0 l1 l2 l3 E
    generalize wr.heap.size = p at *
    clear wr
    have pl := blk_lt X5
    have KC : Hid (∀ W, Below w5.heap.size w5 W → W.cell? ⟨p, 0, none⟩ = some (.int .i64 (N : Int)) ∧ W.cell? ⟨p, 1, none⟩ = some (.slice TA m tp) ∧ W.cell? ⟨p, 2, none⟩ = some (.slice XA m xp) ∧ W.cell? ⟨p, 3, none⟩ = some (.slice CA m cp)) := Lib.hid fun W b =>
      ⟨(b.cell (p := ⟨p, 0, none⟩) pl).trans (blk_cell X5 0), (b.cell (p := ⟨p, 1, none⟩) pl).trans (blk_cell X5 1), (b.cell (p := ⟨p, 2, none⟩) pl).trans (blk_cell X5 2), (b.cell (p := ⟨p, 3, none⟩) pl).trans (blk_cell X5 3)⟩
    clear X5
    have F5 : Below w5.heap.size w5 w5 := Below.refl _ _
    obtain ⟨rt, rx, rc⟩ := KR.out _ F5
    obtain ⟨c0, c1, c2, c3⟩ := KC.out _ F5
    go_wp2_with fail
    refine (facesF_ok w5 N _ _ _ m t x c rt rx rc g pb).mono ?_
    rintro e w6 ⟨fv, o, k, rfl, P1, -, O1, b6⟩
    have F6 : Below w5.heap.size w5 w6 := F5.trans (b6.mono F5.size)
    clear c0 c1 c2 c3 rt rx rc
    obtain ⟨fa, fp, rfl, -⟩ := id P1.rd
    obtain ⟨rt, rx, rc⟩ := KR.out _ F6
    obtain ⟨c0, c1, c2, c3⟩ := KC.out _ F6
    go_wp2_with fail
    refine (refFaces_ok w6 (N : Int) _ _ _ m t x rt rx (by omega) g.even (fun d hd => (g.next d hd).1) pb).mono ?_
    rintro e w7 ⟨gb, o2, k2, rfl, P2, -, O2, -, b7⟩
    have F7 : Below w5.heap.size w5 w7 := F6.trans (b7.mono F6.size)
    clear c0 c1 c2 c3 rt rx rc
    obtain rfl : k2 = k := O2.count O1 pb
    have EF := Lib.hid fun j (hj : j < m) => O1.same O2 pb m j hj hj
    obtain ⟨rt, rx, rc⟩ := KR.out _ F7
    obtain ⟨c0, c1, c2, c3⟩ := KC.out _ F7
    go_wp2_with fail
    refine (partsF_ok w7 N _ _ _ m t x c rt rx rc g).mono ?_
    rintro e w8 ⟨pv, q, a, rfl, P3, -, Q1, b8⟩
    have F8 : Below w5.heap.size w5 w8 := F7.trans (b8.mono F7.size)
    clear c0 c1 c2 c3 rt rx rc
    obtain ⟨pa', pp, rfl, -⟩ := id P3.rd
    obtain ⟨rt, rx, rc⟩ := KR.out _ F8
    obtain ⟨c0, c1, c2, c3⟩ := KC.out _ F8
    go_wp2_with fail
    refine (refPartsF_ok w8 N _ _ _ m t x c rt rx rc g).mono ?_
    rintro e w9 ⟨qv, q2, a2, rfl, P4, -, Q2, b9⟩
    have F9 : Below w5.heap.size w5 w9 := F8.trans (b9.mono F8.size)
    clear c0 c1 c2 c3 rt rx rc
    obtain ⟨qa, qp, rfl, -⟩ := id P4.rd
    obtain rfl : a2 = a := Q2.count Q1
    have EP := Lib.hid fun j (hj : j < N) => Q1.same Q2 N j hj hj
    have r1 := P1.rd.below b7 (Nat.le_refl _) |>.below b8 (Nat.le_refl _) |>.below b9 (Nat.le_refl _)
    have r2 := P2.rd.below b8 (Nat.le_refl _) |>.below b9 (Nat.le_refl _)
    have r3 := P3.rd.below b9 (Nat.le_refl _)
    have r4 := P4.rd
    clear P1 P2 P3 P4 O1 O2 Q1 Q2 b6 b7 b8 b9 F6 F7 F8
    obtain ⟨c0, c1, c2, c3⟩ := KC.out _ F9
    have D9 : Below w9.heap.size w9 w9.drew := (Below.refl _ _).drew
    have n1 : (((max k2 1 : Nat) : Int) != ((max k2 1 : Nat) : Int)) = false := by simp
    have n2 : ((a2 : Int) != (a2 : Int)) = false := by simp
    have n3 : (if 1 ≤ (k2 : Int) then (k2 : Int) else 1) = (if 1 ≤ (k2 : Int) then (k2 : Int) else 1) := rfl
    clear F5
    go_upto_region 12 with fail
    go_region_held3 (fun W => W.cell? ⟨p, 0, none⟩ = some (.int .i64 (N : Int)) ∧ W.cell? ⟨p, 1, none⟩ = some (.slice TA m tp) ∧ W.cell? ⟨p, 2, none⟩ = some (.slice XA m xp) ∧ W.cell? ⟨p, 3, none⟩ = some (.slice CA m cp))
      (first | with_reducible exact k1 | go_keep)
      (first
        | ((with_reducible refine (ints_same w9.drew _ _ m o o2 (by omega) (r1.below D9 (Nat.le_refl _)) (r2.below D9 (Nat.le_refl _)) EF.out).mono ?_); rintro e w10 ⟨rfl, bb⟩; have D10 : Below w9.heap.size w9 w10 := D9.trans (bb.mono (Nat.le_refl _)); have k1 := KC.out w10 (F9.trans (D10.mono F9.size)); clear bb)
        | ((with_reducible refine (ints_same w10 _ _ N q q2 (by omega) (r3.below D10 (Nat.le_refl _)) (r4.below D10 (Nat.le_refl _)) EP.out).mono ?_); rintro e w11 ⟨rfl, bb⟩; have D11 : Below w9.heap.size w9 w11 := D10.trans (bb.mono D10.size); have k1 := KC.out w11 (F9.trans (D11.mono F9.size)); clear bb; have G11 := KR.out w11 (F9.trans (D11.mono F9.size)))
        | ((with_reducible refine (turn_ok w11 (N : Int) _ _ _ m t x c G11.1 G11.2.1 G11.2.2 (by omega) g.next).mono ?_); rintro e w12 ⟨Tq, Xq, Cq, rfl, S12, bb⟩; have D12 : Below w9.heap.size w9 w12 := D11.trans (bb.mono D11.size); have k1 := KC.out w12 (F9.trans (D12.mono F9.size)); clear bb G11; have G12 := KR.out w12 (F9.trans (D12.mono F9.size)))
        | ((with_reducible refine (refTurn_ok w12 (N : Int) _ _ _ m t x c G12.1 G12.2.1 G12.2.2 (by omega) pa g.next).mono ?_); rintro e w13 ⟨Ty, Xy, Cy, rfl, y1, y2, y3, bb⟩; have S13 := S12.below bb (Nat.le_refl _); have D13 : Below w9.heap.size w9 w13 := D12.trans (bb.mono D12.size); have k1 := KC.out w13 (F9.trans (D13.mono F9.size)); clear bb G12 S12)
        | ((with_reducible refine (same_ok w13 (N : Int) _ _ _ _ _ _ m t (turnUp x m) c t (turnUp x m) c (by omega) S13.ot.rd S13.ox.rd S13.oc.rd y1 y2 y3 (fun _ _ => rfl) (fun _ _ => rfl) (fun _ _ => rfl)).mono ?_); rintro e w14 ⟨rfl, bb⟩; have D14 : Below w9.heap.size w9 w14 := D13.trans (bb.mono D13.size); have k1 := KC.out w14 (F9.trans (D14.mono F9.size)); clear bb)
        | fail)
    have F14 := F9.trans (D14.mono F9.size)
    clear D9 D10 D11 D12 D13 D14 S13 y1 y2 y3 r1 r2 r3 r4 EF EP F9 n1 n2 n3 c0 c1 c2 c3
    obtain ⟨c0, c1, c2, c3⟩ := KC.out _ F14
    clear k1
    by_cases h0 : m = 0
    · subst h0
      go_wp2_with fail
      go_roundw
      case rel => exact ⟨i + 1, by simp, by omega, E5.trans (F14.mono E5.size)⟩
      case measure => simp [intOf]; omega
    have hN0 : 0 < N := by have := g.tail 0 (by omega); omega
    have gd := g.good hN0
    have z0 : ((m : Int) == 0) = false := by simp; omega
    go_wp2_with fail
    refine (within2_any _ d (m : Int) hd (by omega) (by omega)).mono ?_
    rintro e w15 ⟨rfl, rfl⟩
    obtain ⟨v, hv, hvm⟩ := small_within (d := d) (m := m) (by omega)
    rw [hv]
    have VV := Lib.hid hv
    clear hv z0 hN0 h0
    have ho := oth_lt hvm g.even
    have D14 : Below w14.heap.size w14 w14.drew := (Below.refl _ _).drew
    have F15 := F14.trans (D14.mono F14.size)
    have G15 := KR.out _ F15
    have n1 : (t (oth v) != t (oth v)) = false := by simp
    go_upto_region 16 with fail
    go_region_held3 (fun W => W.cell? ⟨p, 0, none⟩ = some (.int .i64 (N : Int)) ∧ W.cell? ⟨p, 1, none⟩ = some (.slice TA m tp) ∧ W.cell? ⟨p, 2, none⟩ = some (.slice XA m xp) ∧ W.cell? ⟨p, 3, none⟩ = some (.slice CA m cp))
      (first | with_reducible exact k1 | go_keep)
      (first
        | ((with_reducible refine (head_ok w14.drew N _ _ _ m t G15.1 v (by omega) ho).mono ?_); rintro e w16 ⟨rfl, bb⟩; have F16 : Below w5.heap.size w5 w16 := F15.trans (bb.mono F15.size); have k1 := KC.out w16 F16; clear bb; have G16 := KR.out w16 F16)
        | ((with_reducible refine (refHead_ok w16 N _ _ _ m t G16.1 v (by omega) ho).mono ?_); rintro e w17 ⟨rfl, bb⟩; have F17 : Below w5.heap.size w5 w17 := F16.trans (bb.mono F16.size); have k1 := KC.out w17 F17; clear bb; have G17 := KR.out w17 F17)
        | ((with_reducible refine (about_ok w17 N _ _ _ m t x c G17.1 G17.2.1 G17.2.2 gd pa v hvm).mono ?_); rintro e w18 rr; obtain ⟨A1, k1', rfl, a1, R1, bb⟩ := rr.rd; have F18 : Below w5.heap.size w5 w18 := F17.trans (bb.mono F17.size); have k1 := KC.out w18 F18; clear bb; have G18 := KR.out w18 F18)
        | ((with_reducible refine (refAbout_ok w18 (N : Int) _ _ _ m x G18.2.1 (by omega) (fun d hd => (g.next d hd).1) pa v hvm).mono ?_); rintro e w19 rr; obtain ⟨A2, k2', cp2, rfl, a2, R2, bb⟩ := rr.rd; obtain rfl := R2.one R1; have a1 := a1.below bb (Nat.le_refl _); have hk1 := R1.few pa hvm; have F19 : Below w5.heap.size w5 w19 := F18.trans (bb.mono F18.size); have k1 := KC.out w19 F19; clear bb; have G19 := KR.out w19 F19)
        | ((with_reducible refine (ints_same w19 _ _ _ _ _ (by omega) a1 a2 (fun _ _ => rfl)).mono ?_); rintro e w20 ⟨rfl, bb⟩; have F20 : Below w5.heap.size w5 w20 := F19.trans (bb.mono F19.size); have k1 := KC.out w20 F20; clear bb; have G20 := KR.out w20 F20)
        | ((with_reducible refine (face_ok w20 N _ _ _ m t x c G20.1 G20.2.1 G20.2.2 gd pb v hvm).mono ?_); rintro e w21 rr; obtain ⟨A3, k3', rfl, a3, R3, bb⟩ := rr.rd; have F21 : Below w5.heap.size w5 w21 := F20.trans (bb.mono F20.size); have k1 := KC.out w21 F21; clear bb; have G21 := KR.out w21 F21)
        | ((with_reducible refine (refFace_ok w21 (N : Int) _ _ _ m x G21.2.1 (by omega) g.even (fun d hd => (g.next d hd).1) pb v hvm).mono ?_); rintro e w22 rr; obtain ⟨A4, k4', cp4, rfl, a4, R4, bb⟩ := rr.rd; obtain rfl := R4.one R3; have a3 := a3.below bb (Nat.le_refl _); have hk3 := R3.few pb hvm; have F22 : Below w5.heap.size w5 w22 := F21.trans (bb.mono F21.size); have k1 := KC.out w22 F22; clear bb; have G22 := KR.out w22 F22)
        | ((with_reducible refine (ints_same w22 _ _ _ _ _ (by omega) a3 a4 (fun _ _ => rfl)).mono ?_); rintro e w23 ⟨rfl, bb⟩; have F23 : Below w5.heap.size w5 w23 := F22.trans (bb.mono F22.size); have k1 := KC.out w23 F23; clear bb; have G23 := KR.out w23 F23)
        | fail)
    go_wp2_with fail
    go_roundw
    case rel => exact ⟨i + 1, by simp, by omega, E5.trans (F23.mono E5.size)⟩
    case measure => simp [intOf]; omega
end Go.Proofs.Ytcejjcopchkmeaa.Ro
