/- Walks: the law RimHeights. -/
import Derived.Deep.RegionHeld3
import Derived.Test.YtcdlnohnkdalbaaMg12
import Derived.Test.YtcdlnohnkdalbaaMg15
import Derived.Test.YtcdlnohnkdalbaaMg9
import Derived.Test.YtcdlnohnkdalbaaMxPaS
import Derived.Test.YtcdlnohnkdalbaaMxRiCw
import Derived.Test.YtcdlnohnkdalbaaMxRoSr
namespace Go.Proofs.Ytcdlnohnkdalbaa.Ro
open Go.RowKit Go.Proofs Go.Maps
set_option linter.unusedVariables false
set_option linter.unusedSimpArgs false

set_option maxRecDepth 100000 in
set_option maxHeartbeats 12800000 in
theorem heights_walk (A : Option Addr) (len cap : Nat) (zs : List Int) (s : Int) (v : Int) (w : World) (hV : Rd w (.slice A len cap) len (fun i => zs.getD i 0)) (hz : ∀ i, i < len → Small (zs.getD i 0)) (hl : len ≤ 9223372036854775807) (hs : Small s) (hv : Small v) :
    Calls Try.prog 5 #[.slice A len cap, .int .i64 s, .int .i64 v] w fun e w' => e = .returned (.bool true) ∧ Below w.heap.size w w' := by
  obtain ⟨ii, hi0, hz0, hsz0, hby0⟩ := info_parts (P := Try.prog) (e := 4) (z := .bool false) (size := 1) (bytes := 1) (by kernel_rfl)
  go_enter Try.func5, Try.ntmps5
  go_wp2_with fail
  refine (known8_ok _).mono ?_
  rintro e w1 ⟨rfl, B1⟩
  have h01 := B1.size
  go_wp2_with fail
  refine (plane_post _ _ len _ (hV.below B1 (Nat.le_refl _)) hz hl).mono ?_
  rintro e w2 ⟨N, m, t, x, c, TA, tp, XA, xp, CA, cp, rfl, gr, hN, hM, R2, b2⟩
  replace B1 := B1.trans (b2.mono B1.size)
  have gd := gr.good
  have ev := gd.even
  have N1 := gd.one
  have pa := gr.turns.perm
  have pb := pa.bh gd.even
  clear b2 hz hl hV
  go_upto_region 4 with fail
  obtain ⟨w3, hw3, X3, R3, b3⟩ := rows_enter (N : Int) R2
  rw [hw3]
  replace B1 := B1.trans (b3.mono B1.size)
  have NN := NetAt.of X3 R3
  have RR := R3.base h01
  clear hw3 b3 R2 X3 R3 h01
  generalize w2.heap.size = p at *
  clear w1 w2
  obtain ⟨a, ha, hal⟩ := small_within (d := s) (m := N) (by omega)
  obtain ⟨b, hb, hbl⟩ := small_within (d := v) (m := N) (by omega)
  have sa : Small (a : Int) := small_of (by omega) (by omega)
  have sb : Small (b : Int) := small_of (by omega) (by omega)
  have hin : InNet N (a : Int) (b : Int) := ⟨by omega, by omega, by omega, by omega⟩
  have gm := gr.plane
  have gcap := gm.caps
  have c0 := NN.c0
  have c1 := NN.c1
  have c2 := NN.c2
  have c3 := NN.c3
  go_big_quiet (exact (within8_any _ _ _ (by assumption) (by omega) (by omega)).mono fun e w' h => ⟨h.1, _, h.2.symm⟩)
  rw [ha, hb]
  have NN' : NetAt (w3.drewN nq) p (N : Int) (.slice TA m tp) (.slice XA m xp) (.slice CA m cp) m t x c := ⟨NN.box, NN.rt, NN.rx, NN.rc⟩
  replace NN := NN'
  have B1' : Below w.heap.size w (w3.drewN nq) := ⟨B1.os, B1.tape, B1.output, B1.size, B1.block⟩
  replace B1 := B1'
  clear B1' NN' c0 c1 c2 c3
  generalize w3.drewN nq = w4 at *
  have c0 := NN.c0
  have c1 := NN.c1
  have c2 := NN.c2
  have c3 := NN.c3
  go_wp2_with fail
  refine (rimHeightsOf_ok _ N _ _ _ m t x c NN.rt NN.rx NN.rc gm hM (a : Int) (b : Int) sa sb).mono ?_
  intro e w5 hh
  obtain ⟨V6, n6, y6, code6, rfl, R6, bb, IS6⟩ := hh.row
  clear hh c0 c1 c2 c3
  replace NN := NN.below bb (Nat.le_refl _)
  replace B1 := B1.trans (bb.mono B1.size)
  clear bb
  have c0 := NN.c0
  have c1 := NN.c1
  have c2 := NN.c2
  have c3 := NN.c3
  go_wp2_with fail
  refine (refSplit_ok _ (N : Int) _ _ _ m t x c NN.rt NN.rx NN.rc (by omega) ev (fun d hd => (gd.next d hd).1) pb (a : Int) (b : Int)).mono ?_
  intro e w6 hh
  obtain ⟨bb, hsp⟩ := hh.told
  replace NN := NN.below bb (Nat.le_refl _)
  replace B1 := B1.trans (bb.mono B1.size)
  obtain ⟨A6, q6, rfl⟩ := R6.slice
  have P6 := R6.1.below bb (Nat.le_refl _)
  clear hh bb c0 c1 c2 c3 R6
  rcases IS6 with ⟨rfl, hbad⟩ | ⟨o, K, f, hn6, rfl, hok⟩
  · have q1 : (code6 != 0) = true := by simp; exact hbad.ne
    rcases hsp with ⟨-, rfl⟩ | ⟨o1, K1, f1, J1, ob, oq, -, hov, rfl, -, -⟩
    · clear hbad
      go_wp2_with fail
      go_ret
      exact ⟨by simp, B1⟩
    · exact absurd hov.sharing.1 (hbad.apart hin hov.sharing.2 pb)
  · rcases hsp with ⟨hno, rfl⟩ | ⟨o1, K1, f1, J1, ob, oq, hJ1, hov, rfl, O6, hob⟩
    · exact (RimBad.ok (.inr (.inr ⟨hin, hok.ne, hno, rfl⟩)) hok pb).elim
    · obtain ⟨rfl, rfl, eo⟩ := hok.over.one hov pb
      obtain rfl : J1 = n6 := by omega
      have hok1 : RimOk N m x t c (a : Int) (b : Int) o1 K f y6 := ⟨hok.in_, hok.ne, hov, hok.away.other eo ev⟩
      obtain ⟨z1, z2, z3⟩ := hok1.near gd gr.turns hM gcap
      obtain ⟨ok, -, hfK⟩ := hok1.over.ok hM ev gcap
      have HALL := Lib.hid (hok1.all gr hM)
      have AW := Lib.hid hok1.away
      have OK := Lib.hid ok
      have hfJ : f < J1 := by omega
      have hKJ : K < J1 := by omega
      have hJ60 : J1 ≤ 60 := by have := ok.most; omega
      have HJ := Lib.hid hJ1
      clear hok hok1 hov eo hn6 hJ1 ok hob
      have i1 : (f : Int) < (J1 : Int) := by omega
      have q1 : ((J1 : Int) != (J1 : Int)) = false := by simp
      obtain ⟨pb', pq, pe, plt⟩ := P6.form (by omega)
      injection pe with e1 e2 e3
      subst e1 e3
      have x1 := P6.cell hfJ
      rw [z1] at x1
      have olt := O6.lt (k := ob) rfl
      have FALL : Hid (∀ d, d < m → ∃ p q : Nat, (p : Int) = o1 d ∧ (q : Int) = o1 (oth d) ∧ p < J1 ∧ q < J1 ∧ y6 q - y6 p ≤ c d ∧ -1000000000000000 ≤ y6 p ∧ y6 p ≤ 1000000000000000 ∧ -1000000000000000 ≤ y6 q ∧ y6 q ≤ 1000000000000000 ∧ 0 ≤ c d ∧ c d ≤ 2147483648) := Lib.hid fun d hd => by
        have hJ := HJ.out
        have g1 := OK.out.lt d hd
        have g2 := OK.out.lt (oth d) (oth_lt hd ev)
        have h1 := AW.out.fall_le OK.out hd
        obtain ⟨p, hp⟩ : ∃ p : Nat, (p : Int) = o1 d := ⟨(o1 d).toNat, by omega⟩
        obtain ⟨q, hq⟩ : ∃ q : Nat, (q : Int) = o1 (oth d) := ⟨(o1 (oth d)).toNat, by omega⟩
        have hpJ : p < K + 1 := by omega
        have hqJ : q < K + 1 := by omega
        have s1 := HALL.out p hpJ
        have s2 := HALL.out q hqJ
        obtain ⟨T, S, hT, F⟩ := AW.out
        have s3 := S.size OK.out.arcs (by omega) hpJ s1
        have s4 := S.size OK.out.arcs (by omega) hqJ s2
        unfold fallOf at h1
        rw [← hp, ← hq] at h1
        have h1 : y6 q - y6 p ≤ c d := h1
        have := gcap d hd
        exact ⟨p, q, hp, hq, by omega, by omega, h1, by omega, by omega, by omega, by omega, by omega, by omega⟩
      go_upto_region 12 with (at_make; refine wpList_make_full _ rfl _ _ _ rfl 0 4 ii (.bool false) 1 Try.underlying47 hi0 hz0 hsz0 .i64 .i64 (J1 : Int) (J1 : Int) J1 rfl rfl rfl rfl (by rw [hby0]; omega) (by unfold maxLen; omega) (Nat.zero_le _) ?_; intro w7 hm7 hg7)
      rw [show (Value.bool false).cells = #[.bool false] from rfl, Nat.mul_one, toList_madeCells_one] at hm7
      have E7 := OwB.made hm7
      have b7 : Below w6.heap.size w6 w7 := ⟨hg7.os, hg7.tape, hg7.output, hg7.size, fun k hk => hg7.block k hk (by simp)⟩
      clear hm7 hg7 ii hi0 hz0 hsz0 hby0 x1 q1
      obtain ⟨mb, hmb⟩ : ∃ mb, mb = w6.heap.size := ⟨_, rfl⟩
      rw [← hmb] at E7 b7 olt plt ⊢
      have hmw : w6.heap.size ≤ mb := by omega
      have hwm : mb ≤ w6.heap.size := by omega
      clear hmb
      have co := E7.cell hfJ
      have zf := E7.frozen f
      have E8 := E7.set hfJ true
      have b8 := b7.setCell (p := ⟨mb, f, none⟩) (Nat.le_refl _) (.bool true)
      have HEB := Lib.hid (And.intro E8 b8)
      have hu0 : upd (fun _ => false) f true f = true := upd_same _ _ _
      have HU0 : Hid (upd (fun _ => false) f true f = true) := Lib.hid hu0
      clear E7 b7 E8 b8 hu0
      go_wp2_with fail
      obtain ⟨E, B⟩ := HEB.out
      clear HEB co zf
      generalize upd (fun _ => false) f true = M0 at *
      generalize w7.setCell ⟨mb, f, none⟩ (.bool true) = w8 at *
      clear w7
      have FACT : Hid (∀ W, Below mb w6 W → NetAt W p (N : Int) (.slice TA m tp) (.slice XA m xp) (.slice CA m cp) m t x c ∧ Ow W (.slice (some ⟨pb', 0, none⟩) J1 q6) J1 y6 ∧ Ow W (.slice (some ⟨ob, 0, none⟩) m oq) m o1) := Lib.hid fun W b => ⟨NN.below b hmw, P6.below b hmw, O6.below b hmw⟩
      clear NN P6 O6
      go_loopw [18] (fun u18 wr => ∃ j : Nat, u18 = .int .i64 (j : Int) ∧ j ≤ m ∧ OwB wr (.slice (some ⟨mb, 0, none⟩) J1 J1) J1 M0 ∧ Below mb w6 wr) (fun u18 _ => m - (intOf u18).toNat)
      case atStart => exact ⟨0, rfl, Nat.zero_le _, E, B⟩
      case round =>
        clear E B w8
        obtain ⟨j, rfl, hj, E, B⟩ := hrel
        obtain ⟨NN, P6, O6⟩ := FACT.out _ B
        by_cases hlt : j < m
        · have d1 : (j : Int) < (m : Int) := by omega
          have hoth := oth_lt hlt ev
          have d2 : (oth j : Int) < (m : Int) := by omega
          have xo := xor_one j (by omega)
          obtain ⟨r, q, hr, hq, hrJ, hqJ, hle, a1, a2, a3, a4, a5, a6⟩ := FALL.out j hlt
          have cr := O6.cell hlt
          have cq' := O6.cell hoth
          rw [← hr] at cr
          rw [← hq] at cq'
          have dr := P6.cell hrJ
          have dq := P6.cell hqJ
          have d3 : (r : Int) < (J1 : Int) := by omega
          have d4 : (q : Int) < (J1 : Int) := by omega
          obtain ⟨A', q', e', rc'⟩ := NN.rc
          injection e' with j1 j2 j3
          obtain ⟨y, i4, i5, i6⟩ := rc' (by omega)
          obtain rfl : CA = some y := j1.trans i4
          have y1 := i6 j hlt
          have c3 := NN.c3
          have HEB := Lib.hid (And.intro E B)
          generalize y6 q = dQ at *
          generalize y6 r = dR at *
          generalize c j = cJ at *
          have k1 : decide (cJ < dQ - dR) = false := by simp; omega
          have k2 : ¬ (cJ < dQ - dR) := by omega
          clear hr hq NN P6 O6 E B i6 rc' i4 i5 j1 j2 j3
          go_upto_region 16 with fail
          go_big_quiet (fail)
          go_wp2_with fail
          go_roundw
          case rel => exact ⟨j + 1, by simp, by omega, HEB.out.1.keep fun _ _ => rfl, ⟨HEB.out.2.os, HEB.out.2.tape, HEB.out.2.output, HEB.out.2.size, HEB.out.2.block⟩⟩
          case measure => simp [intOf]; omega
        · have d1 : ¬ ((j : Int) < (m : Int)) := by omega
          clear NN P6 O6
          obtain ⟨w9, rfl⟩ : ∃ w9 : World, w9 = wr := ⟨_, rfl⟩
          go_wp2_with fail
          go_loopg [19] (opn M0 J1 + 1) (fun q u wr => ∃ (g : Bool) (o : Nat → Bool), u = .bool g ∧ opn o J1 + cond g 1 0 ≤ q ∧ Hid (o f = true) ∧ Hid (g = false → ∀ d, d < m → o (o1 d).toNat = true → y6 (o1 (oth d)).toNat = y6 (o1 d).toNat + c d → o (o1 (oth d)).toNat = true) ∧ OwB wr (.slice (some ⟨mb, 0, none⟩) J1 J1) J1 o ∧ Below mb w6 wr)
          case atStart => exact ⟨true, _, rfl, Nat.le_refl _, HU0, Lib.hid (fun h => by cases h), E, B⟩
          case round =>
            clear E B w9
            obtain ⟨g, o, rfl, hq, HS, HC, E, B⟩ := hrel
            cases g with
            | false =>
              have HM : Hid (∀ j, j < J1 → o j = true) := Lib.hid fun j hj => AW.out.met OK.out HALL.out HS.out (HC.out rfl) j (by have := HJ.out; omega)
              clear HC
              obtain ⟨w9, rfl⟩ : ∃ w9 : World, w9 = wr := ⟨_, rfl⟩
              go_wp2_with fail
              go_loopw [21] (fun u21 wr => ∃ j : Nat, u21 = .int .i64 (j : Int) ∧ j ≤ J1 ∧ OwB wr (.slice (some ⟨mb, 0, none⟩) J1 J1) J1 o ∧ Below mb w6 wr) (fun u21 _ => J1 - (intOf u21).toNat)
              case atStart => exact ⟨0, rfl, Nat.zero_le _, E, B⟩
              case round =>
                clear E B w9
                obtain ⟨j, rfl, hj, E, B⟩ := hrel
                by_cases hlt : j < J1
                · have d1 : (j : Int) < (J1 : Int) := by omega
                  have cj := E.cell hlt
                  rw [HM.out j hlt] at cj
                  go_wp2_with fail
                  go_roundw
                  case rel => exact ⟨j + 1, by simp, by omega, E, B⟩
                  case measure => simp [intOf]; omega
                · have d1 : ¬ ((j : Int) < (J1 : Int)) := by omega
                  obtain ⟨-, P6, -⟩ := FACT.out _ B
                  have ck := P6.cell hKJ
                  have i2 : (K : Int) < (J1 : Int) := by omega
                  have k1 : decide (0 ≤ y6 K) = true := by simpa using z2
                  clear P6
                  go_wp2_with fail
                  go_ret
                  exact ⟨by simp, B1.trans (B.mono (by have := B1.size; omega))⟩
            | true =>
              have hq : opn o J1 + 1 ≤ gk := hq
              clear HC
              obtain ⟨w9, rfl⟩ : ∃ w9 : World, w9 = wr := ⟨_, rfl⟩
              go_wp2_with fail
              go_loopw [19, 20] (fun u19 u20 wr => ∃ (g : Bool) (j : Nat) (o2 : Nat → Bool), u19 = .bool g ∧ u20 = .int .i64 (j : Int) ∧ j ≤ m ∧ Hid (opn o2 J1 + cond g 1 0 ≤ opn o J1) ∧ Hid (o2 f = true) ∧ Hid (g = false → ∀ d, d < j → o2 (o1 d).toNat = true → y6 (o1 (oth d)).toNat = y6 (o1 d).toNat + c d → o2 (o1 (oth d)).toNat = true) ∧ OwB wr (.slice (some ⟨mb, 0, none⟩) J1 J1) J1 o2 ∧ Below mb w6 wr) (fun _ u20 _ => m - (intOf u20).toNat)
              case atStart => exact ⟨false, 0, o, rfl, rfl, Nat.zero_le _, Lib.hid (by simp), HS, Lib.hid (fun _ i hi => absurd hi (Nat.not_lt_zero i)), E, B⟩
              case round =>
                clear HS E B w9
                obtain ⟨g, j, o2, rfl, rfl, hj, HO, HS, HC, E, B⟩ := hrel
                by_cases hlt : j < m
                · have d1 : (j : Int) < (m : Int) := by omega
                  obtain ⟨NN, P6, O6⟩ := FACT.out _ B
                  have hoth := oth_lt hlt ev
                  have d2 : (oth j : Int) < (m : Int) := by omega
                  have xo := xor_one j (by omega)
                  obtain ⟨r, q, hr, hq2, hrJ, hqJ, hle, a1, a2, a3, a4, a5, a6⟩ := FALL.out j hlt
                  have hrn : (o1 j).toNat = r := by omega
                  have hqn : (o1 (oth j)).toNat = q := by omega
                  have cr := O6.cell hlt
                  have cq' := O6.cell hoth
                  rw [← hr] at cr
                  rw [← hq2] at cq'
                  have dr := P6.cell hrJ
                  have dq := P6.cell hqJ
                  have d3 : (r : Int) < (J1 : Int) := by omega
                  have d4 : (q : Int) < (J1 : Int) := by omega
                  obtain ⟨A', q', e', rc'⟩ := NN.rc
                  injection e' with j1 j2 j3
                  obtain ⟨y, i4, i5, i6⟩ := rc' (by omega)
                  obtain rfl : CA = some y := j1.trans i4
                  have y1 := i6 j hlt
                  have c3 := NN.c3
                  have mr := E.cell hrJ
                  have mq := E.cell hqJ
                  have f9 := E.frozen q
                  have HEB := Lib.hid (And.intro E B)
                  have wl : IntKind.i64.wrap (y6 r + c j) = y6 r + c j := by rw [IntKind.wrap_i64]; omega
                  -- the law at this dart
                  have HC2 : Hid ((o2 r = true → y6 q = y6 r + c j → o2 q = true) → g = false → ∀ d, d < j + 1 → o2 (o1 d).toNat = true → y6 (o1 (oth d)).toNat = y6 (o1 d).toNat + c d → o2 (o1 (oth d)).toNat = true) := Lib.hid fun h hg d hd h1 h2 => by
                    rcases Nat.lt_or_ge d j with z | z
                    · exact HC.out hg d z h1 h2
                    · obtain rfl : d = j := by omega
                      rw [hrn] at h1 h2
                      rw [hqn] at h2 ⊢
                      exact h h1 h2
                  clear hr hq2 NN P6 O6 i6 rc' i4 i5 j1 j2 j3 hrn hqn HC
                  cases hfr : o2 r with
                  | false =>
                    rw [hfr] at mr
                    have HC3 := Lib.hid (HC2.out fun h => by rw [hfr] at h; cases h)
                    clear hfr HC2 mq f9
                    go_upto_region 24 with fail
                    go_big_quiet (fail)
                    go_wp2_with fail
                    go_roundw
                    case rel => exact ⟨g, j + 1, o2, rfl, by simp, by omega, HO, HS, HC3, HEB.out.1.keep fun _ _ => rfl, ⟨HEB.out.2.os, HEB.out.2.tape, HEB.out.2.output, HEB.out.2.size, HEB.out.2.block⟩⟩
                    case measure => simp [intOf]; omega
                  | true =>
                    rw [hfr] at mr
                    cases hfq : o2 q with
                    | true =>
                      rw [hfq] at mq
                      have HC3 := Lib.hid (HC2.out fun _ _ => hfq)
                      clear hfr hfq HC2 f9
                      go_upto_region 24 with fail
                      go_big_quiet (fail)
                      go_wp2_with fail
                      go_roundw
                      case rel => exact ⟨g, j + 1, o2, rfl, by simp, by omega, HO, HS, HC3, HEB.out.1.keep fun _ _ => rfl, ⟨HEB.out.2.os, HEB.out.2.tape, HEB.out.2.output, HEB.out.2.size, HEB.out.2.block⟩⟩
                      case measure => simp [intOf]; omega
                    | false =>
                      rw [hfq] at mq
                      by_cases htight : y6 q = y6 r + c j
                      · have HO2 : Hid (opn (upd o2 q true) J1 + cond true 1 0 ≤ opn o J1) := Lib.hid (by
                          have := opn_upd (o := o2) hfq hqJ
                          have h2 := HO.out
                          cases g <;> simp at h2 ⊢ <;> omega)
                        have HS2 : Hid (upd o2 q true f = true) := Lib.hid (by
                          by_cases e : f = q
                          · rw [e, upd_same]
                          · rw [upd_ne e]; exact HS.out)
                        have E2 := HEB.out.1.set hqJ true
                        have B2 := HEB.out.2.setCell (p := ⟨mb, q, none⟩) (Nat.le_refl _) (.bool true)
                        have HEB2 := Lib.hid (And.intro E2 B2)
                        clear hfr hfq HO HS E2 B2 HEB HC2 E B
                        generalize y6 q = dQ at *
                        subst htight
                        generalize y6 r = dR at *
                        generalize c j = cJ at *
                        have k1 : (dR + cJ == dR + cJ) = true := by simp
                        go_upto_region 24 with fail
                        go_big_quiet (fail)
                        go_wp2_with fail
                        go_roundw
                        case rel => exact ⟨true, j + 1, _, rfl, by simp, by omega, HO2, HS2, Lib.hid (fun h => by cases h), HEB2.out.1.keep fun _ _ => rfl, ⟨HEB2.out.2.os, HEB2.out.2.tape, HEB2.out.2.output, HEB2.out.2.size, HEB2.out.2.block⟩⟩
                        case measure => simp [intOf]; omega
                      · have HC3 := Lib.hid (HC2.out fun _ h => absurd h htight)
                        have k1 : (y6 q == y6 r + c j) = false := by simp; exact htight
                        clear hfr hfq HC2 f9 htight
                        generalize y6 q = dQ at *
                        generalize y6 r = dR at *
                        generalize c j = cJ at *
                        go_upto_region 24 with fail
                        go_big_quiet (fail)
                        go_wp2_with fail
                        go_roundw
                        case rel => exact ⟨g, j + 1, o2, rfl, by simp, by omega, HO, HS, HC3, HEB.out.1.keep fun _ _ => rfl, ⟨HEB.out.2.os, HEB.out.2.tape, HEB.out.2.output, HEB.out.2.size, HEB.out.2.block⟩⟩
                        case measure => simp [intOf]; omega
                · have d1 : ¬ ((j : Int) < (m : Int)) := by omega
                  obtain rfl : j = m := by omega
                  have HQ := Lib.hid HO.out
                  go_wp2_with fail
                  go_roundg (opn o2 J1 + cond g 1 0)
                  case measure => have h3 : opn o2 J1 + cond g 1 0 ≤ opn o J1 := HQ.out; omega
                  case rel => exact ⟨g, o2, rfl, Nat.le_refl _, HS, HC, E, B⟩
end Go.Proofs.Ytcdlnohnkdalbaa.Ro
