/- Walks: the law DualFirst. -/
import Derived.Test.YtbnghpemlcmogaaRoPp
import Derived.Test.YtbnghpemlcmogaaRoK3
import Derived.Test.YtbnghpemlcmogaaRoDp
import Derived.Test.YtbnghpemlcmogaaRoWi
namespace Go.Proofs.Ytbnghpemlcmogaa.Ro
open Go.RowKit Go.Proofs Go.Maps
set_option linter.unusedVariables false
set_option linter.unusedSimpArgs false

/-- the ends of an edge share a face -/
theorem edge_shares {N m k : Nat} {t x c o : Nat → Int} {r : Int} {b : Bool} (g : Grown N m t x c) (O : Orb (bh x) m o k) {d : Nat} (hd : d < m) (h : Shares m o t (max k 1) (t d) (t (oth d)) r b) : b = !(t d == t (oth d)) := by
  have ev := g.good.even
  have p := g.turns.perm.bh ev
  by_cases e : t d = t (oth d)
  · cases b with
    | false => simp [e]
    | true => exact absurd e h.1
  · cases b with
    | true => simp [e]
    | false =>
      exfalso
      rcases h.2 with q | q
      · exact e q
      · have l := O.lo d hd
        have ho := oth_lt hd ev
        have hb := p.lt d hd
        have tk : t (bh x d) = t (oth d) := by
          have := g.turns.keep (oth d) ho
          have h1 := g.good.tail _ (g.turns.perm.lt _ ho)
          have h2 := g.good.tail _ ho
          unfold tlOf at this
          show t (ab x (oth d)) = t (oth d)
          omega
        refine q (o d).toNat (by omega) ⟨⟨d, hd, by omega, rfl⟩, ⟨bh x d, hb, by rw [O.fwd d hd]; omega, tk⟩⟩

set_option maxRecDepth 100000 in
set_option maxHeartbeats 12800000 in
theorem first_walk (A : Option Addr) (len cap : Nat) (zs : List Int) (uu : Int) (s : Int) (v : Int) (w : World) (hV : Rd w (.slice A len cap) len (fun i => zs.getD i 0)) (hz : ∀ i, i < len → Small (zs.getD i 0)) (hl : len ≤ 9223372036854775807) (huu : Small uu) (hs : Small s) (hv : Small v) :
    Calls Try.prog 10 #[.slice A len cap, .int .i64 uu, .int .i64 s, .int .i64 v] w fun e w' => e = .returned (.bool true) ∧ Below w.heap.size w w' := by
  go_enter Try.func10, Try.ntmps10
  go_wp2_with fail
  refine (known3_ok _).mono ?_
  rintro e w1 ⟨rfl, B1⟩
  have h01 := B1.size
  go_wp2_with fail
  refine (plane_post _ _ len _ (hV.below B1 (Nat.le_refl _)) hz hl).mono ?_
  rintro e w2 ⟨N, m, t, x, c, TA, tp, XA, xp, CA, cp, rfl, gr, hN, hM, R2, b2⟩
  replace B1 := B1.trans (b2.mono B1.size)
  have gd := gr.good
  have ev := gd.even
  have N1 := gd.one
  have pa := gr.turns.perm
  have pb := pa.bh gd.even
  clear b2 hz hl hV
  go_upto_region 4 with fail
  obtain ⟨w3, hw3, X3, R3, b3⟩ := rows_enter (N : Int) R2
  rw [hw3]
  replace B1 := B1.trans (b3.mono B1.size)
  have NN := NetAt.of X3 R3
  have RR := R3.base h01
  clear hw3 b3 R2 X3 R3 h01
  generalize w2.heap.size = p at *
  clear w1 w2
  have c0 := NN.c0
  have c1 := NN.c1
  have c2 := NN.c2
  have c3 := NN.c3
  go_wp2_with fail
  refine (refFaces_ok _ (N : Int) _ _ _ m t x NN.rt NN.rx (by omega) ev (fun d hd => (gd.next d hd).1) pb).mono ?_
  rintro e w6 ⟨fb, o, k, rfl, F6, -, O, km, bb⟩
  replace NN := NN.below bb (Nat.le_refl _)
  replace B1 := B1.trans (bb.mono B1.size)
  have HO := Lib.hid O
  obtain ⟨K, hK⟩ : ∃ K, K = max k 1 := ⟨_, rfl⟩
  rw [← hK]
  have HK := Lib.hid hK
  have hK2 : K ≤ 241 := by omega
  clear bb c0 c1 c2 c3 O hK km
  obtain ⟨wq, rfl⟩ : ∃ wq, wq = w6 := ⟨_, rfl⟩
  go_upto_if 36 with fail
  go_cut [] (fun wx => NetAt wx p (N : Int) (.slice TA m tp) (.slice XA m xp) (.slice CA m cp) m t x c ∧ Ow wx (.slice (some ⟨fb, 0, none⟩) m m) m o ∧ Below w.heap.size w wx)
  case first =>
    by_cases hm0 : m = 0
    · have g2 : ¬ (0 < m) := by omega
      have H0 := Lib.hid hm0
      clear hm0
      go_wp2_with fail
      go_meet
      exact ⟨NN, F6, B1⟩
    · have g1 : (m : Int) > 0 := by omega
      have g2 : decide (0 < m) = true := by simp; omega
      obtain ⟨d, hd, hdl⟩ := small_within (d := uu) (m := m) (by omega)
      go_wp2_with fail
      refine (within3_any _ _ _ huu (by omega) (by omega)).mono ?_
      rintro e w7 ⟨rfl, rfl⟩
      rw [hd]
      obtain ⟨ta, rfl, htc⟩ : ∃ y, TA = some y ∧ ∀ i, i < m → wq.cell? (y.add i) = some (.int .i64 (t i)) := by
        obtain ⟨A', c', e', r⟩ := NN.rt
        injection e' with e1 e2 e3
        obtain ⟨y, h1, h2, h3⟩ := r (by omega)
        exact ⟨y, by rw [e1, h1], h3⟩
      have hoth := oth_lt hdl ev
      have z1 := htc d hdl
      have z2 := htc _ hoth
      have xo := xor_one d (by omega)
      have l1 : (d : Int) < (m : Int) := by omega
      have l2 : (oth d : Int) < (m : Int) := by omega
      have c1 := NN.c1
      clear htc hd
      go_upto_region 7 with fail
      go_big_quiet (fail)
      have NN' : NetAt (wq.drewN nq) p (N : Int) (.slice (some ta) m tp) (.slice XA m xp) (.slice CA m cp) m t x c := ⟨NN.box, NN.rt, NN.rx, NN.rc⟩
      have F6' : Ow (wq.drewN nq) (.slice (some ⟨fb, 0, none⟩) m m) m o := F6
      have B1' : Below w.heap.size w (wq.drewN nq) := ⟨B1.os, B1.tape, B1.output, B1.size, B1.block⟩
      replace NN := NN'
      replace F6 := F6'
      replace B1 := B1'
      clear NN' F6' B1' c1 z1 z2
      generalize wq.drewN nq = w8 at *
      clear wq
      have c0 := NN.c0
      have c1 := NN.c1
      have c2 := NN.c2
      have c3 := NN.c3
      go_wp2_with fail
      refine (shared_ok _ N _ _ _ m t x c NN.rt NN.rx NN.rc gd pb (t d) (t (oth d))).mono ?_
      rintro e w9 ⟨o7, k7, r7, b7, O7, rfl, S7, bb⟩
      have hbv := edge_shares gr O7 hdl S7
      subst hbv
      replace NN := NN.below bb (Nat.le_refl _)
      replace F6 := F6.below bb (Nat.le_refl _)
      replace B1 := B1.trans (bb.mono B1.size)
      clear bb c0 c1 c2 c3 S7 O7
      by_cases hte : t d = t (oth d)
      · have y1 : (t d == t (oth d)) = true := by simpa using hte
        have y2 : (t d != t (oth d)) = false := by simpa using hte
        clear hte
        go_wp2_with fail
        go_meet
        exact ⟨NN, F6, B1⟩
      · have y1 : (t d == t (oth d)) = false := by simpa using hte
        have y2 : (t d != t (oth d)) = true := by simpa using hte
        clear hte
        go_wp2_with fail
        go_meet
        exact ⟨NN, F6, B1⟩
  case rest =>
    obtain ⟨NN, F6, B1⟩ := hcut
    generalize wc = wq at *
    obtain ⟨a, ha, hal⟩ := small_within (d := s) (m := N) (by omega)
    obtain ⟨b, hb, hbl⟩ := small_within (d := v) (m := N) (by omega)
    have c0 := NN.c0
    go_upto_region 11 with fail
    go_big_quiet (exact (within3_any _ _ _ (by assumption) (by omega) (by omega)).mono fun e w' h => ⟨h.1, _, h.2.symm⟩)
    rw [ha, hb]
    have NN' : NetAt (wq.drewN nq) p (N : Int) (.slice TA m tp) (.slice XA m xp) (.slice CA m cp) m t x c := ⟨NN.box, NN.rt, NN.rx, NN.rc⟩
    have F6' : Ow (wq.drewN nq) (.slice (some ⟨fb, 0, none⟩) m m) m o := F6
    have B1' : Below w.heap.size w (wq.drewN nq) := ⟨B1.os, B1.tape, B1.output, B1.size, B1.block⟩
    replace NN := NN'
    replace F6 := F6'
    replace B1 := B1'
    clear NN' F6' B1' c0
    generalize wq.drewN nq = w8 at *
    have c0 := NN.c0
    have c1 := NN.c1
    have c2 := NN.c2
    have c3 := NN.c3
    go_wp2_with fail
    refine (shared_ok _ N _ _ _ m t x c NN.rt NN.rx NN.rc gd pb a b).mono ?_
    rintro e w9 ⟨o7, k7, r7, b7, O7, rfl, S7, bb⟩
    obtain rfl := HO.out.count O7 pb
    replace NN := NN.below bb (Nat.le_refl _)
    replace F6 := F6.below bb (Nat.le_refl _)
    replace B1 := B1.trans (bb.mono B1.size)
    have S8 : Shares m o t (max k 1) (a : Int) (b : Int) r7 b7 := by
      cases b7 with
      | true =>
        obtain ⟨h1, g, h2, h3, ⟨d1, u1, u2, u3⟩, ⟨d2, v1, v2, v3⟩, h6⟩ := S7
        have so := fun d hd => HO.out.same O7 pb m d hd hd
        exact ⟨h1, g, h2, h3, ⟨d1, u1, by rw [so d1 u1]; exact u2, u3⟩, ⟨d2, v1, by rw [so d2 v1]; exact v2, v3⟩, fun g hg q => h6 g hg ⟨by obtain ⟨d, z1, z2, z3⟩ := q.1; exact ⟨d, z1, by rw [← so d z1]; exact z2, z3⟩, by obtain ⟨d, z1, z2, z3⟩ := q.2; exact ⟨d, z1, by rw [← so d z1]; exact z2, z3⟩⟩⟩
      | false =>
        obtain ⟨h1, h2⟩ := S7
        have so := fun d hd => HO.out.same O7 pb m d hd hd
        exact ⟨h1, h2.elim .inl fun h => .inr fun g hg q => h g hg ⟨by obtain ⟨d, z1, z2, z3⟩ := q.1; exact ⟨d, z1, by rw [← so d z1]; exact z2, z3⟩, by obtain ⟨d, z1, z2, z3⟩ := q.2; exact ⟨d, z1, by rw [← so d z1]; exact z2, z3⟩⟩⟩
    rw [← HK.out] at S8
    have HS := Lib.hid S8
    clear S7 S8 O7 bb c0 c1 c2 c3 HK
    go_wp2_with fail
    go_loopw [21] (fun u21 wr => ∃ c1 : Nat, u21 = .int .i64 (c1 : Int) ∧ c1 ≤ K ∧ Hid (∀ g : Nat, g < c1 → ¬ (Meets m o t g (a : Int) ∧ Meets m o t g (b : Int))) ∧ NetAt wr p (N : Int) (.slice TA m tp) (.slice XA m xp) (.slice CA m cp) m t x c ∧ Ow wr (.slice (some ⟨fb, 0, none⟩) m m) m o ∧ Below w.heap.size w wr) (fun u21 _ => K - (intOf u21).toNat)
    case atStart => exact ⟨0, rfl, Nat.zero_le _, Lib.hid fun g h => by omega, NN, F6, B1⟩
    case round =>
      clear NN F6 B1
      obtain ⟨c1, rfl, hc1, hno, NN, F6, B1⟩ := hrel
      by_cases hlt1 : c1 < K
      · have d1 : (c1 : Int) < (K : Int) := by omega
        by_cases hab : a = b
        · have y0 : ((a : Int) != (b : Int)) = false := by simp; omega
          have hh := HS.out.one (b' := false) (r' := 0) (o' := o) ⟨rfl, .inl (by omega)⟩ (fun _ _ => rfl)
          obtain ⟨rfl, rfl⟩ := hh
          clear hab
          go_wp2_with fail
          go_ret
          exact ⟨rfl, B1⟩
        · have y0 : ((a : Int) != (b : Int)) = true := by simp; omega
          have hne : Hid ((a : Int) ≠ (b : Int)) := Lib.hid (by omega)
          clear hab
          go_wp2_with fail
          go_loopw [22, 23, 24] (fun u22 u23 u24 wr => ∃ (p1 q1 : Bool) (d : Nat), u22 = .bool p1 ∧ u23 = .bool q1 ∧ u24 = .int .i64 (d : Int) ∧ d ≤ m ∧ Hid (p1 = hasUp o t (a : Int) d c1) ∧ Hid (q1 = hasUp o t (b : Int) d c1) ∧ NetAt wr p (N : Int) (.slice TA m tp) (.slice XA m xp) (.slice CA m cp) m t x c ∧ Ow wr (.slice (some ⟨fb, 0, none⟩) m m) m o ∧ Below w.heap.size w wr) (fun _ _ u24 _ => m - (intOf u24).toNat)
          case atStart => exact ⟨false, false, 0, rfl, rfl, rfl, Nat.zero_le _, Lib.hid rfl, Lib.hid rfl, NN, F6, B1⟩
          case round =>
            clear NN F6 B1
            obtain ⟨p1, q1, d, rfl, rfl, rfl, hd, hp, hq, NN, F6, B1⟩ := hrel
            by_cases hlt : d < m
            · have d2 : (d : Int) < (m : Int) := by omega
              have z2 := F6.cell hlt
              obtain ⟨ta, rfl, htc⟩ : ∃ y, TA = some y ∧ ∀ i, i < m → wr.cell? (y.add i) = some (.int .i64 (t i)) := by
                obtain ⟨A', c', e', r⟩ := NN.rt
                injection e' with e1 e2 e3
                obtain ⟨y, h1, h2, h3⟩ := r (by omega)
                exact ⟨y, by rw [e1, h1], h3⟩
              have z5 := htc d hlt
              have c1' := NN.c1
              clear htc
              by_cases hoc : o d = (c1 : Int)
              · cases p1 <;> cases q1
                · have hp2 : Hid ((t d == (a : Int)) = hasUp o t (a : Int) (d + 1) c1) := Lib.hid (by show _ = (if o d = (c1 : Int) then hasUp o t (a : Int) d c1 || t d == (a : Int) else hasUp o t (a : Int) d c1); rw [if_pos hoc, ← hp.out]; try simp)
                  have hq2 : Hid ((t d == (b : Int)) = hasUp o t (b : Int) (d + 1) c1) := Lib.hid (by show _ = (if o d = (c1 : Int) then hasUp o t (b : Int) d c1 || t d == (b : Int) else hasUp o t (b : Int) d c1); rw [if_pos hoc, ← hq.out]; try simp)
                  have y1 : (o d == (c1 : Int)) = true := by simpa using hoc
                  clear hp hq hoc
                  go_upto_region 20 with fail
                  go_big_quiet (fail)
                  go_wp2_with fail
                  go_roundw
                  case rel => exact ⟨(t d == (a : Int)), (t d == (b : Int)), d + 1, rfl, rfl, by simp, by omega, hp2, hq2, ⟨NN.box, NN.rt, NN.rx, NN.rc⟩, F6, ⟨B1.os, B1.tape, B1.output, B1.size, B1.block⟩⟩
                  case measure => simp [intOf]; omega
                · have hp2 : Hid ((t d == (a : Int)) = hasUp o t (a : Int) (d + 1) c1) := Lib.hid (by show _ = (if o d = (c1 : Int) then hasUp o t (a : Int) d c1 || t d == (a : Int) else hasUp o t (a : Int) d c1); rw [if_pos hoc, ← hp.out]; try simp)
                  have hq2 : Hid (true = hasUp o t (b : Int) (d + 1) c1) := Lib.hid (by show _ = (if o d = (c1 : Int) then hasUp o t (b : Int) d c1 || t d == (b : Int) else hasUp o t (b : Int) d c1); rw [if_pos hoc, ← hq.out]; try simp)
                  have y1 : (o d == (c1 : Int)) = true := by simpa using hoc
                  clear hp hq hoc
                  go_upto_region 20 with fail
                  go_big_quiet (fail)
                  go_wp2_with fail
                  go_roundw
                  case rel => exact ⟨(t d == (a : Int)), true, d + 1, rfl, rfl, by simp, by omega, hp2, hq2, ⟨NN.box, NN.rt, NN.rx, NN.rc⟩, F6, ⟨B1.os, B1.tape, B1.output, B1.size, B1.block⟩⟩
                  case measure => simp [intOf]; omega
                · have hp2 : Hid (true = hasUp o t (a : Int) (d + 1) c1) := Lib.hid (by show _ = (if o d = (c1 : Int) then hasUp o t (a : Int) d c1 || t d == (a : Int) else hasUp o t (a : Int) d c1); rw [if_pos hoc, ← hp.out]; try simp)
                  have hq2 : Hid ((t d == (b : Int)) = hasUp o t (b : Int) (d + 1) c1) := Lib.hid (by show _ = (if o d = (c1 : Int) then hasUp o t (b : Int) d c1 || t d == (b : Int) else hasUp o t (b : Int) d c1); rw [if_pos hoc, ← hq.out]; try simp)
                  have y1 : (o d == (c1 : Int)) = true := by simpa using hoc
                  clear hp hq hoc
                  go_upto_region 20 with fail
                  go_big_quiet (fail)
                  go_wp2_with fail
                  go_roundw
                  case rel => exact ⟨true, (t d == (b : Int)), d + 1, rfl, rfl, by simp, by omega, hp2, hq2, ⟨NN.box, NN.rt, NN.rx, NN.rc⟩, F6, ⟨B1.os, B1.tape, B1.output, B1.size, B1.block⟩⟩
                  case measure => simp [intOf]; omega
                · have hp2 : Hid (true = hasUp o t (a : Int) (d + 1) c1) := Lib.hid (by show _ = (if o d = (c1 : Int) then hasUp o t (a : Int) d c1 || t d == (a : Int) else hasUp o t (a : Int) d c1); rw [if_pos hoc, ← hp.out]; try simp)
                  have hq2 : Hid (true = hasUp o t (b : Int) (d + 1) c1) := Lib.hid (by show _ = (if o d = (c1 : Int) then hasUp o t (b : Int) d c1 || t d == (b : Int) else hasUp o t (b : Int) d c1); rw [if_pos hoc, ← hq.out]; try simp)
                  have y1 : (o d == (c1 : Int)) = true := by simpa using hoc
                  clear hp hq hoc
                  go_upto_region 20 with fail
                  go_big_quiet (fail)
                  go_wp2_with fail
                  go_roundw
                  case rel => exact ⟨true, true, d + 1, rfl, rfl, by simp, by omega, hp2, hq2, ⟨NN.box, NN.rt, NN.rx, NN.rc⟩, F6, ⟨B1.os, B1.tape, B1.output, B1.size, B1.block⟩⟩
                  case measure => simp [intOf]; omega
              · cases p1 <;> cases q1
                · have hp2 : Hid (false = hasUp o t (a : Int) (d + 1) c1) := Lib.hid (by show _ = (if o d = (c1 : Int) then hasUp o t (a : Int) d c1 || t d == (a : Int) else hasUp o t (a : Int) d c1); rw [if_neg hoc, ← hp.out]; try simp)
                  have hq2 : Hid (false = hasUp o t (b : Int) (d + 1) c1) := Lib.hid (by show _ = (if o d = (c1 : Int) then hasUp o t (b : Int) d c1 || t d == (b : Int) else hasUp o t (b : Int) d c1); rw [if_neg hoc, ← hq.out]; try simp)
                  have y1 : (o d == (c1 : Int)) = false := by simpa using hoc
                  clear hp hq hoc
                  go_upto_region 20 with fail
                  go_big_quiet (fail)
                  go_wp2_with fail
                  go_roundw
                  case rel => exact ⟨false, false, d + 1, rfl, rfl, by simp, by omega, hp2, hq2, ⟨NN.box, NN.rt, NN.rx, NN.rc⟩, F6, ⟨B1.os, B1.tape, B1.output, B1.size, B1.block⟩⟩
                  case measure => simp [intOf]; omega
                · have hp2 : Hid (false = hasUp o t (a : Int) (d + 1) c1) := Lib.hid (by show _ = (if o d = (c1 : Int) then hasUp o t (a : Int) d c1 || t d == (a : Int) else hasUp o t (a : Int) d c1); rw [if_neg hoc, ← hp.out]; try simp)
                  have hq2 : Hid (true = hasUp o t (b : Int) (d + 1) c1) := Lib.hid (by show _ = (if o d = (c1 : Int) then hasUp o t (b : Int) d c1 || t d == (b : Int) else hasUp o t (b : Int) d c1); rw [if_neg hoc, ← hq.out]; try simp)
                  have y1 : (o d == (c1 : Int)) = false := by simpa using hoc
                  clear hp hq hoc
                  go_upto_region 20 with fail
                  go_big_quiet (fail)
                  go_wp2_with fail
                  go_roundw
                  case rel => exact ⟨false, true, d + 1, rfl, rfl, by simp, by omega, hp2, hq2, ⟨NN.box, NN.rt, NN.rx, NN.rc⟩, F6, ⟨B1.os, B1.tape, B1.output, B1.size, B1.block⟩⟩
                  case measure => simp [intOf]; omega
                · have hp2 : Hid (true = hasUp o t (a : Int) (d + 1) c1) := Lib.hid (by show _ = (if o d = (c1 : Int) then hasUp o t (a : Int) d c1 || t d == (a : Int) else hasUp o t (a : Int) d c1); rw [if_neg hoc, ← hp.out]; try simp)
                  have hq2 : Hid (false = hasUp o t (b : Int) (d + 1) c1) := Lib.hid (by show _ = (if o d = (c1 : Int) then hasUp o t (b : Int) d c1 || t d == (b : Int) else hasUp o t (b : Int) d c1); rw [if_neg hoc, ← hq.out]; try simp)
                  have y1 : (o d == (c1 : Int)) = false := by simpa using hoc
                  clear hp hq hoc
                  go_upto_region 20 with fail
                  go_big_quiet (fail)
                  go_wp2_with fail
                  go_roundw
                  case rel => exact ⟨true, false, d + 1, rfl, rfl, by simp, by omega, hp2, hq2, ⟨NN.box, NN.rt, NN.rx, NN.rc⟩, F6, ⟨B1.os, B1.tape, B1.output, B1.size, B1.block⟩⟩
                  case measure => simp [intOf]; omega
                · have hp2 : Hid (true = hasUp o t (a : Int) (d + 1) c1) := Lib.hid (by show _ = (if o d = (c1 : Int) then hasUp o t (a : Int) d c1 || t d == (a : Int) else hasUp o t (a : Int) d c1); rw [if_neg hoc, ← hp.out]; try simp)
                  have hq2 : Hid (true = hasUp o t (b : Int) (d + 1) c1) := Lib.hid (by show _ = (if o d = (c1 : Int) then hasUp o t (b : Int) d c1 || t d == (b : Int) else hasUp o t (b : Int) d c1); rw [if_neg hoc, ← hq.out]; try simp)
                  have y1 : (o d == (c1 : Int)) = false := by simpa using hoc
                  clear hp hq hoc
                  go_upto_region 20 with fail
                  go_big_quiet (fail)
                  go_wp2_with fail
                  go_roundw
                  case rel => exact ⟨true, true, d + 1, rfl, rfl, by simp, by omega, hp2, hq2, ⟨NN.box, NN.rt, NN.rx, NN.rc⟩, F6, ⟨B1.os, B1.tape, B1.output, B1.size, B1.block⟩⟩
                  case measure => simp [intOf]; omega
            · have d2 : ¬ ((d : Int) < (m : Int)) := by omega
              obtain rfl : d = m := by omega
              have hm1 : Hid (p1 = true ↔ Meets d o t c1 (a : Int)) := Lib.hid (by rw [hp.out]; exact hasUp_iff _ _ _ _ _)
              have hm2 : Hid (q1 = true ↔ Meets d o t c1 (b : Int)) := Lib.hid (by rw [hq.out]; exact hasUp_iff _ _ _ _ _)
              clear hp hq
              by_cases hboth : p1 = true ∧ q1 = true
              · obtain ⟨hb1, hb2⟩ := hboth
                subst hb1 hb2
                have hsh : Shares d o t K (a : Int) (b : Int) ((c1 : Nat) : Int) true := ⟨hne.out, c1, rfl, by omega, hm1.out.1 rfl, hm2.out.1 rfl, hno.out⟩
                obtain ⟨rfl, rfl⟩ := HS.out.one hsh (fun _ _ => rfl)
                have y1 : ((c1 : Int) == (c1 : Int)) = true := by simp
                clear hsh
                go_wp2_with fail
                go_ret
                exact ⟨rfl, B1⟩
              · have hno2 : Hid (∀ g : Nat, g < c1 + 1 → ¬ (Meets d o t g (a : Int) ∧ Meets d o t g (b : Int))) := Lib.hid fun g hg => by
                  rcases Nat.lt_or_ge g c1 with z | z
                  · exact hno.out g z
                  · rw [show g = c1 by omega]; exact fun h => hboth ⟨hm1.out.2 h.1, hm2.out.2 h.2⟩
                cases p1 <;> cases q1
                · clear hboth
                  go_wp2_with fail
                  go_roundw
                  case rel => exact ⟨c1 + 1, by simp, by omega, hno2, NN, F6, B1⟩
                  case measure => simp [intOf]; omega
                · clear hboth
                  go_wp2_with fail
                  go_roundw
                  case rel => exact ⟨c1 + 1, by simp, by omega, hno2, NN, F6, B1⟩
                  case measure => simp [intOf]; omega
                · clear hboth
                  go_wp2_with fail
                  go_roundw
                  case rel => exact ⟨c1 + 1, by simp, by omega, hno2, NN, F6, B1⟩
                  case measure => simp [intOf]; omega
                · exact absurd ⟨rfl, rfl⟩ hboth
      · have d1 : ¬ ((c1 : Int) < (K : Int)) := by omega
        obtain rfl : c1 = K := by omega
        have hh := HS.out.one (b' := false) (r' := 0) (o' := o) ⟨rfl, .inr hno.out⟩ (fun _ _ => rfl)
        obtain ⟨rfl, rfl⟩ := hh
        go_wp2_with fail
        go_ret
        exact ⟨rfl, B1⟩
end Go.Proofs.Ytbnghpemlcmogaa.Ro
