/- Walks: the law RotParts. -/
import Derived.Test.YtcejjcopchkmeaaMq2
import Derived.Test.YtcejjcopchkmeaaRoU
import Derived.Test.YtcejjcopchkmeaaRoKn
import Derived.Test.YtcejjcopchkmeaaRoOb
import Derived.Deep.RegionHeld3
namespace Go.Proofs.Ytcejjcopchkmeaa.Ro
open Go.RowKit Go.Proofs Go.Maps
set_option linter.unusedVariables false
set_option linter.unusedSimpArgs false

/-- the vertices reached so far: all are led to; none is left where no new one came -/
structure Got (m : Nat) (tl : Nat → Nat) (a : Nat) (g : Nat → Bool) : Prop where
  here : g a = true
  led : ∀ v, g v = true → Conn m tl a v
theorem Got.all {m : Nat} {tl : Nat → Nat} {a : Nat} {g : Nat → Bool} (h : Got m tl a g) (full : ∀ d, d < m → g (tl d) = true → g (tl (oth d)) = true) {v : Nat} (c : Conn m tl a v) : g v = true := by
  induction c with
  | refl => exact h.here
  | step hd _ ih => exact full _ hd ih
theorem Got.set {m : Nat} {tl : Nat → Nat} {a d : Nat} {g : Nat → Bool} (h : Got m tl a g) (hd : d < m) (hg : g (tl d) = true) : Got m tl a (upd g (tl (oth d)) true) := by
  refine ⟨?_, fun v hv => ?_⟩
  · by_cases e : a = tl (oth d)
    · rw [← e, upd_same]
    · rw [upd_ne e]; exact h.here
  · by_cases e : v = tl (oth d)
    · rw [e]; exact .step hd (h.led _ hg)
    · rw [upd_ne e] at hv; exact h.led v hv
theorem opn_le : ∀ (g : Nat → Bool) m, opn g m ≤ m
  | g, 0 => Nat.le_refl _
  | g, m + 1 => by
    have := opn_le g m
    unfold opn
    split <;> omega
theorem Rd.keepB {w : World} {A : Option Addr} {n cap : Nat} {x : Nat → Int} (h : Rd w (.slice A n cap) n x) {g i : Nat} {v : Value} (hg : ∀ y, Value.slice A n cap = .slice (some y) n cap → 0 < n → y.block ≠ g) : Rd (w.setCell ⟨g, i, none⟩ v) (.slice A n cap) n x := by
  obtain ⟨A', c', e, r⟩ := h
  injection e with e1 _ e3
  subst e1 e3
  refine ⟨_, _, rfl, fun h0 => ?_⟩
  obtain ⟨y, e, l, k⟩ := r h0
  refine ⟨y, e, by simpa [World.setCell] using l, fun j hj => ?_⟩
  have hb : ((w.setCell ⟨g, i, none⟩ v).heap[(y.add j).block]?) = w.heap[(y.add j).block]? := Below.heap_setCell _ _ _ _ (by rw [block_add]; exact hg y (by rw [e]) h0)
  have : (w.setCell ⟨g, i, none⟩ v).cell? (y.add j) = w.cell? (y.add j) := by
    unfold World.cell?
    rw [hb]
  rw [this]; exact k j hj
theorem NetAt.keepB {w : World} {p m : Nat} {N : Int} {A B C : Option Addr} {a b c' : Nat} {t x c : Nat → Int} (h : NetAt w p N (.slice A m a) (.slice B m b) (.slice C m c') m t x c) {g i : Nat} {v : Value} (hp : p ≠ g)
    (h1 : ∀ y, Value.slice A m a = .slice (some y) m a → 0 < m → y.block ≠ g) (h2 : ∀ y, Value.slice B m b = .slice (some y) m b → 0 < m → y.block ≠ g) (h3 : ∀ y, Value.slice C m c' = .slice (some y) m c' → 0 < m → y.block ≠ g) :
    NetAt (w.setCell ⟨g, i, none⟩ v) p N (.slice A m a) (.slice B m b) (.slice C m c') m t x c :=
  ⟨(Below.heap_setCell _ _ _ _ hp).trans h.box, h.rt.keepB h1, h.rx.keepB h2, h.rc.keepB h3⟩
/-- numbers by the least ones, read one by one -/
structure TopP (o : Nat → Int) (i tq : Nat) : Prop where
  lo : ∀ v, v < i → o v < tq
  each : ∀ e : Nat, e < tq → ∃ v, v < i ∧ o v = e
theorem TopP.start (o : Nat → Int) : TopP o 0 0 := ⟨fun v h => by omega, fun e h => by omega⟩
theorem TopP.le {N m k i tq : Nat} {tl : Nat → Nat} {o : Nat → Int} (h : TopP o i tq) (P : Pcs N m tl o k) (hi : i < N) : o i ≤ tq := by
  rcases Int.lt_or_le (tq : Int) (o i) with q | q
  · obtain ⟨u, h1, h2⟩ := P.first i hi tq q
    have := h.lo u h1
    omega
  · exact q
theorem TopP.yes {i tq : Nat} {o : Nat → Int} (h : TopP o i tq) (e : o i = tq) : TopP o (i + 1) (tq + 1) :=
  ⟨fun v hv => by
    rcases Nat.lt_or_ge v i with q | q
    · have := h.lo v q; omega
    · rw [show v = i by omega, e]; omega, fun a ha => by
    rcases Nat.lt_or_ge a tq with q | q
    · obtain ⟨v, h1, h2⟩ := h.each a q; exact ⟨v, by omega, h2⟩
    · exact ⟨i, by omega, by rw [e]; congr 1; omega⟩⟩
theorem TopP.no {N m k i tq : Nat} {tl : Nat → Nat} {o : Nat → Int} (h : TopP o i tq) (P : Pcs N m tl o k) (hi : i < N) (e : o i ≠ tq) : TopP o (i + 1) tq :=
  ⟨fun v hv => by
    rcases Nat.lt_or_ge v i with q | q
    · exact h.lo v q
    · rw [show v = i by omega]; have := h.le P hi; omega, fun a ha => by obtain ⟨v, h1, h2⟩ := h.each a ha; exact ⟨v, by omega, h2⟩⟩
theorem TopP.count {N m k tq : Nat} {tl : Nat → Nat} {o : Nat → Int} (h : TopP o N tq) (P : Pcs N m tl o k) : tq = k := by
  rcases Nat.lt_trichotomy tq k with q | q | q
  · obtain ⟨v, h1, h2⟩ := P.each tq q
    have := h.lo v h1; omega
  · exact q
  · obtain ⟨v, h1, h2⟩ := h.each k q
    have := (P.lo v h1).2; omega

set_option maxRecDepth 100000 in
set_option maxHeartbeats 12800000 in
theorem parts_walk (size : Int) (A : Option Addr) (len cap : Nat) (zs : List Int) (a : Int) (b : Int) (w : World) (hsize : Small size) (hV : Rd w (.slice A len cap) len (fun i => zs.getD i 0)) (hz : ∀ i, i < len → Small (zs.getD i 0)) (hl : len ≤ 9223372036854775807) (ha : Small a) (hb : Small b) :
    Calls Try.prog 8 #[.int .i64 size, .slice A len cap, .int .i64 a, .int .i64 b] w fun e w' => e = .returned (.bool true) ∧ Below w.heap.size w w' := by
  go_enter Try.func8, Try.ntmps8
  go_wp2_with fail
  refine (known_ok _).mono ?_
  rintro e w1 ⟨rfl, B1⟩
  have h01 := B1.size
  obtain ⟨s8, hs8, hs8l⟩ := small_within (d := size) (m := 8) (by omega)
  go_wp2_with fail
  refine (within2_any _ size 8 hsize (by omega) (by omega)).mono ?_
  rintro e w2 ⟨rfl, rfl⟩
  rw [show size % (8 : Int) = (s8 : Int) from hs8]
  have sm8 : Small (1 + (s8 : Int)) := small_of (by omega) (by omega)
  clear hs8
  go_wp2_with fail
  refine (make1_ok _ (1 + (s8 : Int)) _ len _ (hV.below B1 (Nat.le_refl _)) hz hl sm8).mono ?_
  rintro e w3 ⟨N, m, T, X, C, t, x, c, rfl, R3, hN, MD, b3⟩
  replace B1 := B1.trans (b3.mono B1.size)
  obtain ⟨TA, tp, rfl, -⟩ := id R3.ot.rd
  obtain ⟨XA, xp, rfl, -⟩ := id R3.ox.rd
  obtain ⟨CA, cp, rfl, -⟩ := id R3.oc.rd
  have N1 : 0 < N := by omega
  have gd := MD.good N1
  have ev := gd.even
  have hN8 := MD.few
  have hm40 := MD.most
  have hv : ∀ d, d < m → t d = (tlOf t d : Int) ∧ tlOf t d < N := fun d hd => by
    have := gd.tail d hd
    unfold tlOf; omega
  have HV := Lib.hid hv
  clear b3 hz hl hV hv hN
  go_upto_region 4 with fail
  obtain ⟨w4, hw4, X4, R4, b4⟩ := rows_enter (N : Int) R3
  rw [hw4]
  replace B1 := B1.trans (b4.mono B1.size)
  have NN := NetAt.of X4 R4
  clear hw4 b4 R3 X4 R4
  generalize w3.heap.size = p at *
  have z0 : ((N : Int) == 0) = false := by simp; omega
  have c0 := NN.c0
  have c1 := NN.c1
  have c2 := NN.c2
  have c3 := NN.c3
  go_wp2_with fail
  refine (parts_ok _ N _ _ _ m t x c NN.rt NN.rx NN.rc gd).mono ?_
  rintro e w5 ⟨pv, o, k, rfl, O5, -, P, b5⟩
  replace NN := NN.below b5 (Nat.le_refl _)
  replace B1 := B1.trans (b5.mono B1.size)
  clear b5 c0 c1 c2 c3
  obtain ⟨pb, pc, rfl, pl⟩ := O5.form N1
  have HP := Lib.hid P
  clear P
  have c0 := NN.c0
  have z1 : ((N : Int) != (N : Int)) = false := by simp
  obtain ⟨i1, hi1, hz1, hsz1, hby1⟩ := info_parts (P := Try.prog) (e := 4) (z := .bool false) (size := 1) (bytes := 1) (by kernel_rfl)
  go_upto_region 10 with (at_make; refine wpList_make_full _ rfl _ _ _ rfl 0 4 i1 (.bool false) 1 Try.underlying44 hi1 hz1 hsz1 .i64 .i64 (N : Int) (N : Int) N rfl rfl rfl rfl (by rw [hby1]; omega) (by unfold maxLen; omega) (Nat.zero_le _) ?_; intro w6 hm6 hg6)
  rw [show (Value.bool false).cells = #[.bool false] from rfl, Nat.mul_one, toList_madeCells_one] at hm6
  have G6 := OwB.made hm6
  have b6 : Below w5.heap.size w5 w6 := ⟨hg6.os, hg6.tape, hg6.output, hg6.size, fun k hk => hg6.block k hk (by simp)⟩
  have lR := NN.lt
  have gp : p ≠ w5.heap.size ∧ pb ≠ w5.heap.size ∧ (∀ y, Value.slice TA m tp = .slice (some y) m tp → 0 < m → y.block ≠ w5.heap.size) ∧ (∀ y, Value.slice XA m xp = .slice (some y) m xp → 0 < m → y.block ≠ w5.heap.size) ∧ (∀ y, Value.slice CA m cp = .slice (some y) m cp → 0 < m → y.block ≠ w5.heap.size) := by
    refine ⟨by omega, by omega, fun y e h0 => ?_, fun y e h0 => ?_, fun y e h0 => ?_⟩
    · obtain ⟨_, _, e2, r⟩ := NN.rt
      obtain ⟨z, e3, l, _⟩ := r h0
      rw [e2] at e; injection e with e; rw [e3] at e; injection e with e; subst e; omega
    · obtain ⟨_, _, e2, r⟩ := NN.rx
      obtain ⟨z, e3, l, _⟩ := r h0
      rw [e2] at e; injection e with e; rw [e3] at e; injection e with e; subst e; omega
    · obtain ⟨_, _, e2, r⟩ := NN.rc
      obtain ⟨z, e3, l, _⟩ := r h0
      rw [e2] at e; injection e with e; rw [e3] at e; injection e with e; subst e; omega
  have gB : w.heap.size ≤ w5.heap.size := B1.size
  replace NN := NN.below b6 (Nat.le_refl _)
  replace O5 := O5.below b6 (Nat.le_refl _)
  replace B1 := B1.trans (b6.mono B1.size)
  clear hm6 hg6 c0 i1 hi1 hz1 hsz1 hby1 b6
  generalize hgg : w5.heap.size = g at *
  clear hgg w5
  have c0 := NN.c0
  obtain ⟨x1, hx1, hx1l⟩ := small_within (d := a) (m := N) N1
  obtain ⟨y1, hy1, hy1l⟩ := small_within (d := b) (m := N) N1
  go_big_quiet (exact (within2_any _ _ _ (by assumption) (by omega) (by omega)).mono fun e w' h => ⟨h.1, _, h.2.symm⟩)
  rw [hx1, hy1]
  clear hx1 hy1 c0
  have NN7 : NetAt (w6.drewN nq) p (N : Int) (.slice TA m tp) (.slice XA m xp) (.slice CA m cp) m t x c := ⟨NN.box, NN.rt, NN.rx, NN.rc⟩
  have O7 : Ow (w6.drewN nq) (.slice (some ⟨pb, 0, none⟩) N pc) N o := O5.keep fun _ _ => rfl
  have G7 : OwB (w6.drewN nq) (.slice (some ⟨g, 0, none⟩) N N) N (fun _ => false) := G6.keep fun _ _ => rfl
  have B7 : Below w.heap.size w (w6.drewN nq) := ⟨B1.os, B1.tape, B1.output, B1.size, B1.block⟩
  clear NN O5 G6 B1
  generalize w6.drewN nq = w7 at *
  clear w6
  have cx := G7.cell hx1l
  have fx := G7.frozen x1
  have xl : (x1 : Int) < (N : Int) := by omega
  have NN8 : NetAt (w7.setCell ⟨g, x1, none⟩ (.bool true)) p (N : Int) (.slice TA m tp) (.slice XA m xp) (.slice CA m cp) m t x c := NN7.keepB gp.1 gp.2.2.1 gp.2.2.2.1 gp.2.2.2.2
  have O8 : Ow (w7.setCell ⟨g, x1, none⟩ (.bool true)) (.slice (some ⟨pb, 0, none⟩) N pc) N o := O7.keep fun k hk => Below.heap_setCell _ _ _ _ (by have e : some pb = some k := hk; injection e with e; have := gp.2.1; show k ≠ g; omega)
  have G8 := G7.set hx1l true
  have B8 := B7.setCell (p := ⟨g, x1, none⟩) gB (.bool true)
  have GT := Lib.hid (Got.mk (m := m) (tl := tlOf t) (a := x1) (g := upd (fun _ => false) x1 true) (upd_same _ _ _) (fun v h => by
    by_cases e : v = x1
    · rw [e]; exact .refl
    · rw [upd_ne e] at h; cases h))
  clear NN7 O7 G7 B7
  go_upto_region 12 with fail
  clear cx fx
  generalize w7.setCell ⟨g, x1, none⟩ (.bool true) = w8 at *
  generalize upd (fun _ => false) x1 true = G0 at *
  clear w7
  go_wp2_with fail
  go_loopg [15] (opn G0 N + 1) (fun n u wr => ∃ (gr : Bool) (G : Nat → Bool), u = .bool gr ∧ (if gr then opn G N + 1 else 0) = n ∧ Hid (Got m (tlOf t) x1 G) ∧ Hid (gr = false → ∀ d, d < m → G (tlOf t d) = true → G (tlOf t (oth d)) = true) ∧ OwB wr (.slice (some ⟨g, 0, none⟩) N N) N G ∧ Ow wr (.slice (some ⟨pb, 0, none⟩) N pc) N o ∧ NetAt wr p (N : Int) (.slice TA m tp) (.slice XA m xp) (.slice CA m cp) m t x c ∧ Below w.heap.size w wr)
  case atStart => exact ⟨true, G0, rfl, rfl, GT, Lib.hid fun h => (by cases h), G8, O8, NN8, B8⟩
  case round =>
    clear NN8 O8 G8 B8 GT
    obtain ⟨gr, G, rfl, hn, GT, FU, G8, O8, NN, B1⟩ := hrel
    cases gr
    · have YES : Hid ((o x1 == o y1) = G y1) := Lib.hid (by
        rcases Bool.eq_false_or_eq_true (G y1) with q | q
        · have := HP.out.conn (GT.out.led y1 q)
          rw [q]; simpa using this
        · rw [q]
          simp only [beq_eq_false_iff_ne, ne_eq]
          intro e
          have := GT.out.all (FU.out rfl) (HP.out.one x1 y1 hx1l hy1l e)
          rw [q] at this; cases this)
      clear FU GT
      go_wp2_with fail
      go_loopw [17, 18] (fun u v wr => ∃ tq i : Nat, u = .int .i64 (tq : Int) ∧ v = .int .i64 (i : Int) ∧ i ≤ N ∧ tq ≤ i ∧ Hid (TopP o i tq) ∧ OwB wr (.slice (some ⟨g, 0, none⟩) N N) N G ∧ Ow wr (.slice (some ⟨pb, 0, none⟩) N pc) N o ∧ NetAt wr p (N : Int) (.slice TA m tp) (.slice XA m xp) (.slice CA m cp) m t x c ∧ Below w.heap.size w wr) (fun _ v _ => N - (intOf v).toNat)
      case atStart => exact ⟨0, 0, rfl, rfl, Nat.zero_le _, Nat.le_refl _, Lib.hid (TopP.start o), G8, O8, NN, B1⟩
      case round =>
        clear NN O8 G8 B1
        obtain ⟨tq, i, rfl, rfl, hi, htq, TP, G8, O8, NN, B1⟩ := hrel
        have c0 := NN.c0
        by_cases hlt : i < N
        · have d1 : (i : Int) < (N : Int) := by omega
          have co := O8.cell hlt
          have le := TP.out.le HP.out hlt
          have lo := (HP.out.lo i hlt).1
          have z1 : decide (o i > (tq : Int)) = false := by simp; omega
          have z1' : decide ((tq : Int) < o i) = false := by simp; omega
          have z2 : decide (o i < 0) = false := by simp; omega
          by_cases hq : o i = tq
          · have q1 : (o i == (tq : Int)) = true := by simp [hq]
            have T2 := Lib.hid (TP.out.yes hq)
            clear hq le lo
            go_wp2_with fail
            go_roundw
            case rel => exact ⟨tq + 1, i + 1, by simp, by simp, by omega, by omega, T2, G8, O8, NN, B1⟩
            case measure => simp [intOf]; omega
          · have q1 : (o i == (tq : Int)) = false := by simp [hq]
            have T2 := Lib.hid (TP.out.no HP.out hlt hq)
            clear hq le lo
            go_wp2_with fail
            go_roundw
            case rel => exact ⟨tq, i + 1, rfl, by simp, by omega, by omega, T2, G8, O8, NN, B1⟩
            case measure => simp [intOf]; omega
        · have d1 : ¬ ((i : Int) < (N : Int)) := by omega
          obtain rfl : N = i := by omega
          obtain rfl := TP.out.count HP.out
          have o1 := O8.cell hx1l
          have o2 := O8.cell hy1l
          have g2 := G8.cell hy1l
          have yl : (y1 : Int) < (N : Int) := by omega
          have z3 : ((tq : Int) == (tq : Int)) = true := by simp
          have yes := YES.out
          rcases Bool.eq_false_or_eq_true (G y1) with q | q
          all_goals
            rw [q] at yes g2
            clear q
            go_upto_region 29 with fail
            go_big_quiet (fail)
            go_wp2_with fail
            go_ret
            exact ⟨rfl, ⟨B1.os, B1.tape, B1.output, B1.size, B1.block⟩⟩
    · have c1 := NN.c1
      clear FU
      go_wp2_with fail
      clear c1
      go_loopw [15, 16] (fun u v wr => ∃ (gr : Bool) (j : Nat) (G2 : Nat → Bool), u = .bool gr ∧ v = .int .i64 (j : Int) ∧ j ≤ m ∧ (if gr then opn G2 N < opn G N else opn G2 N ≤ opn G N) ∧ Hid (Got m (tlOf t) x1 G2) ∧ Hid (gr = false → ∀ d, d < j → G2 (tlOf t d) = true → G2 (tlOf t (oth d)) = true) ∧ OwB wr (.slice (some ⟨g, 0, none⟩) N N) N G2 ∧ Ow wr (.slice (some ⟨pb, 0, none⟩) N pc) N o ∧ NetAt wr p (N : Int) (.slice TA m tp) (.slice XA m xp) (.slice CA m cp) m t x c ∧ Below w.heap.size w wr) (fun _ v _ => m - (intOf v).toNat)
      case atStart => exact ⟨false, 0, G, rfl, rfl, Nat.zero_le _, by simp, GT, Lib.hid fun _ d hd => by omega, G8, O8, NN, B1⟩
      case round =>
        clear GT NN O8 G8 B1
        obtain ⟨gr, j, G2, rfl, rfl, hj, hng, GT, FU, G8, O8, NN, B1⟩ := hrel
        have c1 := NN.c1
        by_cases hjm : j < m
        · have e1 : (j : Int) < (m : Int) := by omega
          have ho := oth_lt hjm ev
          have e2 : (oth j : Int) < (m : Int) := by omega
          have hx := xor_one j (by omega)
          obtain ⟨TA', tp', eT, rt⟩ := id NN.rt
          injection eT with eT1 _ eT3
          subst eT1 eT3
          obtain ⟨yt, rfl, lyt, ct⟩ := rt (by omega)
          have ct1 := ct j hjm
          have ct2 := ct (oth j) ho
          rw [(HV.out j hjm).1] at ct1
          rw [(HV.out _ ho).1] at ct2
          have t1 := (HV.out j hjm).2
          have t2 := (HV.out _ ho).2
          have t1' : (tlOf t j : Int) < (N : Int) := by omega
          have t2' : (tlOf t (oth j) : Int) < (N : Int) := by omega
          have k1 := G8.cell t1
          have k2 := G8.cell t2
          have kf := G8.frozen (tlOf t (oth j))
          clear ct rt
          rcases Bool.eq_false_or_eq_true (G2 (tlOf t j)) with q1 | q1
          · rcases Bool.eq_false_or_eq_true (G2 (tlOf t (oth j))) with q2 | q2
            · have F2 : Hid (gr = false → ∀ d, d < j + 1 → G2 (tlOf t d) = true → G2 (tlOf t (oth d)) = true) := Lib.hid fun h d hd hg => by
                rcases Nat.lt_or_ge d j with q | q
                · exact FU.out h d q hg
                · rw [show d = j by omega]; exact q2
              rw [q1] at k1
              rw [q2] at k2
              clear q1 q2 FU
              go_wp2_with fail
              go_roundw
              case rel => exact ⟨gr, j + 1, G2, rfl, by simp, by omega, hng, GT, F2, G8, O8, NN, B1⟩
              case measure => simp [intOf]; omega
            · have GT2 := Lib.hid (GT.out.set hjm q1)
              have n2 := opn_upd (o := G2) (a := tlOf t (oth j)) q2 t2
              have hng2 : opn (upd G2 (tlOf t (oth j)) true) N < opn G N := by cases gr <;> simp at hng <;> omega
              have NN8 : NetAt (wr.setCell ⟨g, tlOf t (oth j), none⟩ (.bool true)) p (N : Int) (.slice (some yt) m tp) (.slice XA m xp) (.slice CA m cp) m t x c := NN.keepB gp.1 gp.2.2.1 gp.2.2.2.1 gp.2.2.2.2
              have O9 : Ow (wr.setCell ⟨g, tlOf t (oth j), none⟩ (.bool true)) (.slice (some ⟨pb, 0, none⟩) N pc) N o := O8.keep fun k hk => Below.heap_setCell _ _ _ _ (by have e : some pb = some k := hk; injection e with e; have := gp.2.1; show k ≠ g; omega)
              have G9 := G8.set t2 true
              have B9 := B1.setCell (p := ⟨g, tlOf t (oth j), none⟩) gB (.bool true)
              rw [q1] at k1
              rw [q2] at k2
              clear q1 q2 FU NN O8 G8 B1
              go_wp2_with fail
              go_roundw
              case rel => exact ⟨true, j + 1, _, rfl, by simp, by omega, by simpa using hng2, GT2, Lib.hid fun h => (by cases h), G9, O9, NN8, B9⟩
              case measure => simp [intOf]; omega
          · have F2 : Hid (gr = false → ∀ d, d < j + 1 → G2 (tlOf t d) = true → G2 (tlOf t (oth d)) = true) := Lib.hid fun h d hd hg => by
              rcases Nat.lt_or_ge d j with q | q
              · exact FU.out h d q hg
              · rw [show d = j by omega] at hg; rw [q1] at hg; cases hg
            rw [q1] at k1
            clear q1 FU
            go_wp2_with fail
            go_roundw
            case rel => exact ⟨gr, j + 1, G2, rfl, by simp, by omega, hng, GT, F2, G8, O8, NN, B1⟩
            case measure => simp [intOf]; omega
        · have e1 : ¬ ((j : Int) < (m : Int)) := by omega
          obtain rfl : j = m := by omega
          have HM : Hid ((if gr then opn G2 N + 1 else 0) < gk) := Lib.hid (by
            simp at hn
            cases gr <;> simp at hng ⊢ <;> omega)
          clear hng
          go_wp2_with fail
          go_roundg (if gr then opn G2 N + 1 else 0)
          case measure => exact HM.out
          case rel => exact ⟨gr, G2, rfl, rfl, GT, FU, G8, O8, NN, B1⟩
end Go.Proofs.Ytcejjcopchkmeaa.Ro
