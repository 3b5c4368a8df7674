/- Walks: the law DualHalves. -/
import Derived.Test.YtbnghpemlcmogaaRoPp
import Derived.Test.YtbnghpemlcmogaaRoK3
import Derived.Test.YtbnghpemlcmogaaRoDh
import Derived.Test.YtbnghpemlcmogaaRoWi
namespace Go.Proofs.Ytbnghpemlcmogaa.Ro
open Go.RowKit Go.Proofs Go.Maps
set_option linter.unusedVariables false
set_option linter.unusedSimpArgs false

set_option maxRecDepth 100000 in
set_option maxHeartbeats 12800000 in
theorem halves_walk (A : Option Addr) (len cap : Nat) (zs : List Int) (s : Int) (v : Int) (w : World) (hV : Rd w (.slice A len cap) len (fun i => zs.getD i 0)) (hz : ∀ i, i < len → Small (zs.getD i 0)) (hl : len ≤ 9223372036854775807) (hs : Small s) (hv : Small v) :
    Calls Try.prog 7 #[.slice A len cap, .int .i64 s, .int .i64 v] w fun e w' => e = .returned (.bool true) ∧ Below w.heap.size w w' := by
  go_enter Try.func7, Try.ntmps7
  go_wp2_with fail
  refine (known3_ok _).mono ?_
  rintro e w1 ⟨rfl, B1⟩
  have h01 := B1.size
  go_wp2_with fail
  refine (plane_post _ _ len _ (hV.below B1 (Nat.le_refl _)) hz hl).mono ?_
  rintro e w2 ⟨N, m, t, x, c, TA, tp, XA, xp, CA, cp, rfl, gr, hN, hM, R2, b2⟩
  replace B1 := B1.trans (b2.mono B1.size)
  have gd := gr.good
  have ev := gd.even
  have N1 := gd.one
  have pa := gr.turns.perm
  have pb := pa.bh gd.even
  clear b2 hz hl hV
  go_upto_region 4 with fail
  obtain ⟨w3, hw3, X3, R3, b3⟩ := rows_enter (N : Int) R2
  rw [hw3]
  replace B1 := B1.trans (b3.mono B1.size)
  have NN := NetAt.of X3 R3
  have RR := R3.base h01
  clear hw3 b3 R2 X3 R3 h01
  generalize w2.heap.size = p at *
  clear w1 w2
  obtain ⟨a, ha, hal⟩ := small_within (d := s) (m := N) (by omega)
  obtain ⟨b, hb, hbl⟩ := small_within (d := v) (m := N) (by omega)
  have c0 := NN.c0
  have c1 := NN.c1
  have c2 := NN.c2
  have c3 := NN.c3
  go_big_quiet (exact (within3_any _ _ _ (by assumption) (by omega) (by omega)).mono fun e w' h => ⟨h.1, _, h.2.symm⟩)
  rw [ha, hb]
  have NN' : NetAt (w3.drewN nq) p (N : Int) (.slice TA m tp) (.slice XA m xp) (.slice CA m cp) m t x c := ⟨NN.box, NN.rt, NN.rx, NN.rc⟩
  replace NN := NN'
  have B1' : Below w.heap.size w (w3.drewN nq) := ⟨B1.os, B1.tape, B1.output, B1.size, B1.block⟩
  replace B1 := B1'
  clear B1' NN' c0 c1 c2 c3
  generalize w3.drewN nq = w4 at *
  have c0 := NN.c0
  have c1 := NN.c1
  have c2 := NN.c2
  have c3 := NN.c3
  go_wp2_with fail
  refine (split_ok _ N _ _ _ m t x c NN.rt NN.rx NN.rc gd pb a b).mono ?_
  rintro e w5 ⟨o, k, O, bb, ⟨S, rfl⟩ | ⟨f, e0, l, q, r, bk, cap_1, S, H, rfl, W, hbk⟩⟩
  · have HO := Lib.hid O
    have HS := Lib.hid S
    replace NN := NN.below bb (Nat.le_refl _)
    replace B1 := B1.trans (bb.mono B1.size)
    clear bb O S c0 c1 c2 c3
    have c0 := NN.c0
    have c1 := NN.c1
    have c2 := NN.c2
    have c3 := NN.c3
    go_wp2_with fail
    refine (refFaces_ok _ (N : Int) _ _ _ m t x NN.rt NN.rx (by omega) ev (fun d hd => (gd.next d hd).1) pb).mono ?_
    rintro e w6 ⟨fb, o6, k6, rfl, -, -, O6, km6, bb⟩
    replace NN := NN.below bb (Nat.le_refl _)
    replace B1 := B1.trans (bb.mono B1.size)
    clear bb c0 c1 c2 c3 O6
    have c0 := NN.c0
    have c1 := NN.c1
    have c2 := NN.c2
    have c3 := NN.c3
    go_wp2_with fail
    refine (shared_ok _ N _ _ _ m t x c NN.rt NN.rx NN.rc gd pb a b).mono ?_
    rintro e w7 ⟨o7, k7, r7, b7, O7, rfl, S7, bb⟩
    obtain rfl := HO.out.count O7 pb
    obtain ⟨rfl, rfl⟩ := HS.out.one S7 (fun d hd => HO.out.same O7 pb m d hd hd)
    replace B1 := B1.trans (bb.mono B1.size)
    clear bb S7 O7 c0 c1 c2 c3
    go_wp2_with fail
    go_ret
    exact ⟨rfl, B1⟩
  · have HO := Lib.hid O
    replace NN := NN.below bb (Nat.le_refl _)
    replace B1 := B1.trans (bb.mono B1.size)
    clear bb c0 c1 c2 c3
    have c0 := NN.c0
    have c1 := NN.c1
    have c2 := NN.c2
    have c3 := NN.c3
    go_wp2_with fail
    refine (refFaces_ok _ (N : Int) _ _ _ m t x NN.rt NN.rx (by omega) ev (fun d hd => (gd.next d hd).1) pb).mono ?_
    rintro e w6 ⟨fb, o6, k6, rfl, F6, -, O6, km6, bb⟩
    obtain rfl := O.count O6 pb
    replace F6 := F6.congr (fun d hd => (O.same O6 pb m d hd hd).symm)
    replace NN := NN.below bb (Nat.le_refl _)
    replace B1 := B1.trans (bb.mono B1.size)
    replace W := W.below bb (Nat.le_refl _)
    clear bb c0 c1 c2 c3 O6 O
    obtain ⟨K, hK⟩ : ∃ K, K = max k 1 := ⟨_, rfl⟩
    rw [← hK] at W S ⊢
    have hK2 : K ≤ 241 := by omega
    have hfK' : f < K := by obtain ⟨_, g, h1, h2, _⟩ := S; omega
    have hfK : (f : Int) ≠ (K : Int) := by omega
    obtain ⟨hh, hhh⟩ : ∃ hh, hh = halfO x o (K : Int) e0 q r l := ⟨_, rfl⟩
    rw [← hhh] at W
    have HHH : Hid (halfO x o (K : Int) e0 q r l = hh) := Lib.hid hhh.symm
    have HH := Lib.hid H
    clear hK S H hhh hbk
    have u1 : (((K + 1 : Nat) : Int) != (K : Int) + 1) = false := by simp
    have u2 : ((m : Int) != (m : Int)) = false := by simp
    have u3 : ((K : Int) != (K : Int)) = false := by simp
    go_wp2_with fail
    go_loopw [19, 20] (fun u19 u20 wr => ∃ n d : Nat, u19 = .int .i64 (n : Int) ∧ u20 = .int .i64 (d : Int) ∧ d ≤ m ∧ n ≤ d ∧ Hid (n = cnt (fun d => !(hh d == hh (bh x d))) d) ∧ NetAt wr p (N : Int) (.slice TA m tp) (.slice XA m xp) (.slice CA m cp) m t x c ∧ Ow wr (.slice (some ⟨bk, 0, none⟩) m cap_1) m hh ∧ Ow wr (.slice (some ⟨fb, 0, none⟩) m m) m o ∧ Below w.heap.size w wr) (fun _ u20 _ => m - (intOf u20).toNat)
    case atStart => exact ⟨0, 0, rfl, rfl, Nat.zero_le _, Nat.le_refl _, Lib.hid rfl, NN, W, F6, B1⟩
    case round =>
      clear NN W F6 B1
      obtain ⟨n, d, rfl, rfl, hd, hnd, hcnt, NN, W, F6, B1⟩ := hrel
      by_cases hlt : d < m
      · have d1 : (d : Int) < (m : Int) := by omega
        have z1 := W.cell hlt
        have z2 := F6.cell hlt
        obtain ⟨ee, hee⟩ : ∃ ee, ee = bh x d := ⟨_, rfl⟩
        have hbl2 := pb.lt d hlt
        have hoth := oth_lt hlt ev
        have z3 := W.cell hbl2
        rw [← hee] at z3 hbl2
        obtain ⟨xa, rfl, hxc⟩ : ∃ y, XA = some y ∧ ∀ i, i < m → wr.cell? (y.add i) = some (.int .i64 (x i)) := by
          obtain ⟨A', c', e', r⟩ := NN.rx
          injection e' with e1 e2 e3
          obtain ⟨y, h1, h2, h3⟩ := r (by omega)
          exact ⟨y, by rw [e1, h1], h3⟩
        obtain ⟨ta, rfl, htc⟩ : ∃ y, TA = some y ∧ ∀ i, i < m → wr.cell? (y.add i) = some (.int .i64 (t i)) := by
          obtain ⟨A', c', e', r⟩ := NN.rt
          injection e' with e1 e2 e3
          obtain ⟨y, h1, h2, h3⟩ := r (by omega)
          exact ⟨y, by rw [e1, h1], h3⟩
        have hxd : x (oth d) = (ee : Int) := by rw [hee]; have := (gd.next _ hoth).1; unfold bh; omega
        have z4 : wr.cell? (xa.add (oth d)) = some (.int .i64 (ee : Int)) := by rw [← hxd]; exact hxc _ hoth
        have z5 := htc ee hbl2
        have xo := xor_one d (by omega)
        have l1 : (oth d : Int) < (m : Int) := by omega
        have l2 : (ee : Int) < (m : Int) := by omega
        have hcs := HH.out.cases (K := (K : Int)) HO.out pb hlt
        have hbg := fun q => HH.out.begin_ (K := (K : Int)) HO.out pb hfK hlt q
        rw [HHH.out] at hcs hbg
        rw [← hee] at hbg
        have BG := Lib.hid hbg
        have HE := Lib.hid hee
        have HCS := Lib.hid hcs
        clear hxd hxc htc hbg hee hcs
        have c1 := NN.c1
        have c2 := NN.c2
        go_upto_region 16 with fail
        go_cut [131] (fun u131 wx => u131 = .bool false ∧ ∃ nq, wx = wr.drewN nq)
        case first =>
          rcases HCS.out with ⟨e1, e2⟩ | ⟨e1, e2 | e2⟩
          · rw [e2] at z1
            have y1 : (o d != (f : Int)) = true := by simpa using e1
            have y2 : (o d != o d) = false := by simp
            have y3 : (o d == (f : Int)) = false := by simpa using e1
            clear e1 e2
            go_big_quiet (fail)
            go_wp2_with fail
            go_meet
            exact ⟨rfl, _, rfl⟩
          · rw [e2] at z1
            rw [e1] at z2
            have y1 : ((f : Int) != (f : Int)) = false := by simp
            have y3 : ((f : Int) == (f : Int)) = true := by simp
            clear e1 e2
            go_big_quiet (fail)
            go_wp2_with fail
            go_meet
            exact ⟨rfl, _, rfl⟩
          · rw [e2] at z1
            rw [e1] at z2
            have y1 : ((f : Int) != (f : Int)) = false := by simp
            have y3 : ((f : Int) == (f : Int)) = true := by simp
            have y4 : ((K : Int) != (f : Int)) = true := by simp; omega
            have y5 : ((K : Int) != (K : Int)) = false := by simp
            clear e1 e2
            go_big_quiet (fail)
            go_wp2_with fail
            go_meet
            exact ⟨rfl, _, rfl⟩
        case rest =>
          obtain ⟨rfl, nq, rfl⟩ := hcut
          have NN' : NetAt (wr.drewN nq) p (N : Int) (.slice (some ta) m tp) (.slice (some xa) m xp) (.slice CA m cp) m t x c := ⟨NN.box, NN.rt, NN.rx, NN.rc⟩
          have B1' : Below w.heap.size w (wr.drewN nq) := ⟨B1.os, B1.tape, B1.output, B1.size, B1.block⟩
          have W' : Ow (wr.drewN nq) (.slice (some ⟨bk, 0, none⟩) m cap_1) m hh := W
          have F6' : Ow (wr.drewN nq) (.slice (some ⟨fb, 0, none⟩) m m) m o := F6
          have z1' : (wr.drewN nq).cell? ⟨bk, d, none⟩ = some (.int .i64 (hh d)) := z1
          have z3' : (wr.drewN nq).cell? ⟨bk, ee, none⟩ = some (.int .i64 (hh ee)) := z3
          have z4' : (wr.drewN nq).cell? (xa.add (oth d)) = some (.int .i64 (ee : Int)) := z4
          have z5' : (wr.drewN nq).cell? (ta.add ee) = some (.int .i64 (t ee)) := z5
          clear NN B1 W F6 z1 z2 z3 z4 z5 c1 c2
          generalize wr.drewN nq = wy at *
          have c1 := NN'.c1
          have c2 := NN'.c2
          by_cases hq : hh d = hh ee
          · have y1 : (hh d == hh ee) = true := by simpa using hq
            have HC2 : Hid (n = cnt (fun d => !(hh d == hh (bh x d))) (d + 1)) := Lib.hid (by rw [cnt_no (by rw [← HE.out, y1]; rfl)]; exact hcnt.out)
            clear hq
            go_wp2_with fail
            go_big_quiet (fail)
            go_wp2_with fail
            go_roundw
            case rel => exact ⟨n, d + 1, rfl, by simp, by omega, by omega, HC2, ⟨NN'.box, NN'.rt, NN'.rx, NN'.rc⟩, W', F6', ⟨B1'.os, B1'.tape, B1'.output, B1'.size, B1'.block⟩⟩
            case measure => simp [intOf]; omega
          · have y1 : (hh d == hh ee) = false := by simpa using hq
            have HC2 : Hid (n + 1 = cnt (fun d => !(hh d == hh (bh x d))) (d + 1)) := Lib.hid (by rw [cnt_yes (by rw [← HE.out, y1]; rfl), ← hcnt.out])
            have hb2 := BG.out hq
            clear hq
            rcases hb2 with ⟨e1, e2⟩ | ⟨e1, e2⟩
            all_goals
              rw [e1] at z3' y1
              rw [e2] at z5'
              have y2 : ((f : Int) == (f : Int)) = true := by simp
              have y3 : ((a : Int) != (a : Int)) = false := by simp
              have y4 : ((f : Int) == (K : Int)) = false := by simp; omega
              have y5 : ((K : Int) == (f : Int)) = false := by simp; omega
              have y6 : ((K : Int) == (K : Int)) = true := by simp
              have y7 : ((b : Int) != (b : Int)) = false := by simp
              clear e1 e2
              go_wp2_with fail
              go_big_quiet (fail)
              go_wp2_with fail
              go_roundw
              case rel => exact ⟨n + 1, d + 1, by simp, by simp, by omega, by omega, HC2, ⟨NN'.box, NN'.rt, NN'.rx, NN'.rc⟩, W', F6', ⟨B1'.os, B1'.tape, B1'.output, B1'.size, B1'.block⟩⟩
              case measure => simp [intOf]; omega
      · have d1 : ¬ ((d : Int) < (m : Int)) := by omega
        obtain rfl : d = m := by omega
        have htwo := HH.out.two (K := (K : Int)) HO.out pb hfK
        rw [HHH.out, ← hcnt.out] at htwo
        subst htwo
        go_wp2_with fail
        go_ret
        exact ⟨rfl, B1⟩
end Go.Proofs.Ytbnghpemlcmogaa.Ro
