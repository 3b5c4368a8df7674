/- Walks: the law RimFalls. -/
import Derived.Deep.RegionHeld3
import Derived.Test.YtcdlnohnkdalbaaMg12
import Derived.Test.YtcdlnohnkdalbaaMg15
import Derived.Test.YtcdlnohnkdalbaaMg9
import Derived.Test.YtcdlnohnkdalbaaMxRiVa
namespace Go.Proofs.Ytcdlnohnkdalbaa.Ro
open Go.RowKit Go.Proofs Go.Maps
set_option linter.unusedVariables false
set_option linter.unusedSimpArgs false

set_option maxRecDepth 100000 in
set_option maxHeartbeats 12800000 in
theorem falls_walk (A : Option Addr) (len cap : Nat) (zs : List Int) (s : Int) (v : Int) (w : World) (hV : Rd w (.slice A len cap) len (fun i => zs.getD i 0)) (hz : ∀ i, i < len → Small (zs.getD i 0)) (hl : len ≤ 9223372036854775807) (hs : Small s) (hv : Small v) :
    Calls Try.prog 11 #[.slice A len cap, .int .i64 s, .int .i64 v] w fun e w' => e = .returned (.bool true) ∧ Below w.heap.size w w' := by
  go_enter Try.func11, Try.ntmps11
  go_wp2_with fail
  refine (known8_ok _).mono ?_
  rintro e w1 ⟨rfl, B1⟩
  have h01 := B1.size
  go_wp2_with fail
  refine (plane_post _ _ len _ (hV.below B1 (Nat.le_refl _)) hz hl).mono ?_
  rintro e w2 ⟨N, m, t, x, c, TA, tp, XA, xp, CA, cp, rfl, gr, hN, hM, R2, b2⟩
  replace B1 := B1.trans (b2.mono B1.size)
  have gd := gr.good
  have ev := gd.even
  have N1 := gd.one
  have pa := gr.turns.perm
  have pb := pa.bh gd.even
  clear b2 hz hl hV
  go_upto_region 4 with fail
  obtain ⟨w3, hw3, X3, R3, b3⟩ := rows_enter (N : Int) R2
  rw [hw3]
  replace B1 := B1.trans (b3.mono B1.size)
  have NN := NetAt.of X3 R3
  have RR := R3.base h01
  clear hw3 b3 R2 X3 R3 h01
  generalize w2.heap.size = p at *
  clear w1 w2
  obtain ⟨a, ha, hal⟩ := small_within (d := s) (m := N) (by omega)
  obtain ⟨b, hb, hbl⟩ := small_within (d := v) (m := N) (by omega)
  have sa : Small (a : Int) := small_of (by omega) (by omega)
  have sb : Small (b : Int) := small_of (by omega) (by omega)
  have gm := gr.plane
  have gcap := gm.caps
  have c0 := NN.c0
  have c1 := NN.c1
  have c2 := NN.c2
  have c3 := NN.c3
  have pl := NN.lt
  have KK : Hid (∀ W, Below w3.heap.size w3 W → W.cell? ⟨p, 0, none⟩ = some (.int .i64 (N : Int)) ∧ W.cell? ⟨p, 1, none⟩ = some (.slice TA m tp) ∧ W.cell? ⟨p, 2, none⟩ = some (.slice XA m xp) ∧ W.cell? ⟨p, 3, none⟩ = some (.slice CA m cp)) :=
    Lib.hid fun W b => ⟨(b.cell (p := ⟨p, 0, none⟩) pl).trans c0, (b.cell (p := ⟨p, 1, none⟩) pl).trans c1, (b.cell (p := ⟨p, 2, none⟩) pl).trans c2, (b.cell (p := ⟨p, 3, none⟩) pl).trans c3⟩
  have D0 : Below w3.heap.size w3 w3.drew := (Below.refl _ w3).drew
  go_upto_region 4 with fail
  go_region_held3 (fun w' => w'.cell? ⟨p, 0, none⟩ = some (.int .i64 (N : Int)) ∧ w'.cell? ⟨p, 1, none⟩ = some (.slice TA m tp) ∧ w'.cell? ⟨p, 2, none⟩ = some (.slice XA m xp) ∧ w'.cell? ⟨p, 3, none⟩ = some (.slice CA m cp))
    (first | with_reducible exact k1 | go_keep)
    (first
      | (go_at_call 15; refine (within8_any _ _ _ (by assumption) (by omega) (by omega)).mono ?_; rintro e w' ⟨rfl, rfl⟩)
      | (go_at_call 18; refine (rimFlow_ok w3.drew N _ _ _ m t x c (NN.rt.below D0 (Nat.le_refl _)) (NN.rx.below D0 (Nat.le_refl _)) (NN.rc.below D0 (Nat.le_refl _)) gm hM (a : Int) (b : Int) sa sb).mono ?_; intro e w4 hh; obtain ⟨V4, n4, y4, u4, code4, rfl, R4, bb, IS4⟩ := hh.row; have E4 : Below w3.heap.size w3 w4 := D0.trans (bb.mono (Nat.le_refl _)); have k1 := KK.out w4 E4; clear bb hh))
  replace NN := NN.below E4 (Nat.le_refl _)
  replace B1 := B1.trans (E4.mono B1.size)
  obtain ⟨A4, q4, rfl⟩ := R4.slice
  have F4 := R4.1
  have HS := Lib.hid (And.intro ha hb)
  clear E4 KK k1 D0 c0 c1 c2 c3 pl R4 ha hb
  rcases IS4 with ⟨rfl, rfl, hbad⟩ | ⟨o, K, f, D, rfl, rfl, rfl, rfl, hok⟩
  · have q1 : (code4 != 0) = true := by simp; exact hbad.ne
    clear hbad
    go_wp2_with fail
    go_ret
    exact ⟨by simp, B1⟩
  · obtain ⟨z1, z2, z3⟩ := hok.near gd gr.turns hM gcap
    obtain ⟨ok, -, hfK⟩ := hok.over.ok hM ev gcap
    have V1 := hok.over.falls gd gr.turns D (a : Int)
    have V2 := hok.over.falls gd gr.turns D (b : Int)
    rw [if_pos rfl, if_neg hok.ne, z1] at V1
    rw [if_neg (Ne.symm hok.ne), if_pos rfl, z1] at V2
    have FL : Hid (∀ d, d < n4 → fallOf o D d ≤ c d ∧ fallOf o D (oth d) = - fallOf o D d ∧ - c (oth d) ≤ fallOf o D d ∧ 0 ≤ c d ∧ c d ≤ 2147483648 ∧ 0 ≤ c (oth d) ∧ c (oth d) ≤ 2147483648) := Lib.hid fun d hd => by
      have h1 := hok.away.fall_le ok hd
      have h2 := hok.away.fall_le ok (oth_lt hd ev)
      have h3 := fallOf_oth o D d
      have h4 := gcap d hd
      have h5 := gcap _ (oth_lt hd ev)
      omega
    have e1 : val n4 t (fallOf o D) (a : Int) = D K := by omega
    have e2 : val n4 t (fallOf o D) (b : Int) = - D K := by omega
    have HVL := Lib.hid (And.intro e1 e2)
    have q1 : ((n4 : Int) != (n4 : Int)) = false := by simp
    clear V1 V2 z1 hok e1 e2 ok hfK
    generalize D K = u at *
    have c1 := NN.c1
    go_wp2_with fail
    go_loopw [11] (fun u11 wr => ∃ j : Nat, u11 = .int .i64 (j : Int) ∧ j ≤ n4 ∧ NetAt wr p (N : Int) (.slice TA n4 tp) (.slice XA n4 xp) (.slice CA n4 cp) n4 t x c ∧ Ow wr (.slice A4 n4 q4) n4 (fallOf o D) ∧ Below w.heap.size w wr) (fun u11 _ => n4 - (intOf u11).toNat)
    case atStart => exact ⟨0, rfl, Nat.zero_le _, NN, F4, B1⟩
    case round =>
      clear NN F4 B1 c1
      obtain ⟨j, rfl, hj, NN, F4, B1⟩ := hrel
      by_cases hlt : j < n4
      · have d1 : (j : Int) < (n4 : Int) := by omega
        have hoth := oth_lt hlt ev
        have d2 : (oth j : Int) < (n4 : Int) := by omega
        have xo := xor_one j (by omega)
        obtain ⟨h1, h2, h3, h4, h5, h6, h7⟩ := FL.out j hlt
        obtain ⟨fb, q5, fe, hfb⟩ := F4.form (by omega)
        injection fe with fe1 fe2 fe3
        subst fe1 fe3
        obtain ⟨A', q', e', rc'⟩ := NN.rc
        injection e' with i1 i2 i3
        obtain ⟨y, i4, i5, i6⟩ := rc' (by omega)
        obtain rfl : CA = some y := i1.trans i4
        have y1 := i6 j hlt
        have y2 := i6 _ hoth
        have x1 := F4.cell hlt
        have x2 := F4.cell hoth
        rw [h2] at x2
        have c3 := NN.c3
        have HN := Lib.hid (And.intro NN (And.intro F4 B1))
        generalize fallOf o D j = P at *
        generalize c j = C1 at *
        generalize c (oth j) = C2 at *
        have k1 : (P != 0 - -P) = false := by simp
        have k2 : ¬ (C1 < P) := by omega
        have k3 : ¬ (P < 0 - C2) := by omega
        have k4 : ¬ (P < - C2) := by omega
        have k5 : decide (C1 < P) = false := by simp; omega
        have k6 : decide (P < 0 - C2) = false := by simp; omega
        have k7 : decide (P < - C2) = false := by simp; omega
        clear NN F4 B1 h2 i6 rc' i4 i5 i1 i2 i3 fe2
        go_upto_region 12 with fail
        go_big_quiet (fail)
        go_wp2_with fail
        go_roundw
        case rel => exact ⟨j + 1, by simp, by omega, ⟨HN.out.1.box, HN.out.1.rt, HN.out.1.rx, HN.out.1.rc⟩, HN.out.2.1.keep fun _ _ => rfl, ⟨HN.out.2.2.os, HN.out.2.2.tape, HN.out.2.2.output, HN.out.2.2.size, HN.out.2.2.block⟩⟩
        case measure => simp [intOf]; omega
      · have d1 : ¬ ((j : Int) < (n4 : Int)) := by omega
        obtain ⟨ha, hb⟩ := HS.out
        have HBD : ∀ d, d < n4 → -4294967296 ≤ fallOf o D d ∧ fallOf o D d ≤ 4294967296 := fun d hd => by
          have := FL.out d hd
          omega
        have HBH := Lib.hid HBD
        obtain ⟨hv1, hv2⟩ := HVL.out
        have HV1 := Lib.hid hv1
        have HV2 := Lib.hid hv2
        clear HBD hv1 hv2
        have c0 := NN.c0
        have c1 := NN.c1
        have c2 := NN.c2
        have c3 := NN.c3
        have pl := NN.lt
        have KK : Hid (∀ W, Below wr.heap.size wr W → W.cell? ⟨p, 0, none⟩ = some (.int .i64 (N : Int)) ∧ W.cell? ⟨p, 1, none⟩ = some (.slice TA n4 tp) ∧ W.cell? ⟨p, 2, none⟩ = some (.slice XA n4 xp) ∧ W.cell? ⟨p, 3, none⟩ = some (.slice CA n4 cp)) :=
          Lib.hid fun W b => ⟨(b.cell (p := ⟨p, 0, none⟩) pl).trans c0, (b.cell (p := ⟨p, 1, none⟩) pl).trans c1, (b.cell (p := ⟨p, 2, none⟩) pl).trans c2, (b.cell (p := ⟨p, 3, none⟩) pl).trans c3⟩
        have D0 : Below wr.heap.size wr wr.drew := (Below.refl _ wr).drew
        go_upto_region 14 with fail
        go_region_held3 (fun w' => w'.cell? ⟨p, 0, none⟩ = some (.int .i64 (N : Int)) ∧ w'.cell? ⟨p, 1, none⟩ = some (.slice TA n4 tp) ∧ w'.cell? ⟨p, 2, none⟩ = some (.slice XA n4 xp) ∧ w'.cell? ⟨p, 3, none⟩ = some (.slice CA n4 cp))
          (first | with_reducible exact k1 | go_keep)
          (first
            | (go_at_call 15; refine (within8_any _ _ _ (by assumption) (by omega) (by omega)).mono ?_; rintro e w' ⟨rfl, rfl⟩)
            | (go_at_call 24; (with_reducible refine (value_any wr.drew (N : Int) _ _ _ _ n4 t x c (fallOf o D) (NN.rt.below D0 (Nat.le_refl _)) (NN.rx.below D0 (Nat.le_refl _)) (NN.rc.below D0 (Nat.le_refl _)) (F4.below D0 (Nat.le_refl _)).rd (a : Int) HBH.out (by omega)).mono ?_); rintro e w8 ⟨rfl, bb⟩; rw [HV1.out]; have E8 : Below wr.heap.size wr w8 := D0.trans (bb.mono (Nat.le_refl _)); have k1 := KK.out w8 E8; clear bb)
            | (go_at_call 24; (with_reducible refine (value_any w8 (N : Int) _ _ _ _ n4 t x c (fallOf o D) (NN.rt.below E8 (Nat.le_refl _)) (NN.rx.below E8 (Nat.le_refl _)) (NN.rc.below E8 (Nat.le_refl _)) (F4.below E8 (Nat.le_refl _)).rd (b : Int) HBH.out (by omega)).mono ?_); rintro e w9 ⟨rfl, bb⟩; rw [HV2.out]; have E9 : Below wr.heap.size wr w9 := E8.trans (bb.mono E8.size); have k1 := KK.out w9 E9; clear bb))
        all_goals
          go_wp2_with fail
          go_ret
          have wl : IntKind.i64.wrap (-u) = -u := by rw [IntKind.wrap_i64]; omega
          exact ⟨by simp [wl], B1.trans (E9.mono B1.size)⟩
end Go.Proofs.Ytcdlnohnkdalbaa.Ro
