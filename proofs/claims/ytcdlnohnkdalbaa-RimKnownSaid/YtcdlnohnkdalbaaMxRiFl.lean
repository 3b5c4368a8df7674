/- Walks: rim.Flow and rim.Heights. -/
import Derived.Test.YtcdlnohnkdalbaaMxRiOf
namespace Go.Proofs.Ytcdlnohnkdalbaa.Ro
open Go.RowKit Go.Proofs Go.Maps
set_option linter.unusedVariables false
set_option maxRecDepth 100000
set_option linter.unusedSimpArgs false

set_option maxHeartbeats 6400000 in
theorem rimFlow_ok (w : World) (N : Nat) (T X C : Value) (m : Nat) (t x c : Nat → Int) (hT : Rd w T m t) (hX : Rd w X m x) (hC : Rd w C m c) (pn : Plane N m t x c) (hm : m ≤ 48) (s v : Int) (hs : Small s) (hv : Small v) :
    Calls Try.prog 18 #[.agg #[.int .i64 (N : Int), T, X, C], .int .i64 s, .int .i64 v] w (FlowPost w.heap.size w N m x t c s v) := by
  obtain ⟨i2, hi2, hz2, hsz2, hby2⟩ := info_parts (P := Try.prog) (e := 3) (z := .int .i64 0) (size := 1) (bytes := 8) (by kernel_rfl)
  have hev := pn.good.even
  have hcap := Lib.hid pn.caps
  obtain ⟨TA, tp, rfl, -⟩ := id hT
  obtain ⟨XA, xp, rfl, -⟩ := id hX
  obtain ⟨CA, cp, rfl, -⟩ := id hC
  go_enter Try.func18, Try.ntmps18
  go_wp2_with fail
  obtain ⟨w0, hw0, N0, B0⟩ := net_enter (N : Int) hT hX hC
  rw [hw0]
  clear hw0
  have c0 := N0.c0
  have c1 := N0.c1
  have c2 := N0.c2
  have c3 := N0.c3
  have CT := Lib.hid (of_ok w0 N _ _ _ m t x c N0.rt N0.rx N0.rc pn s v hs hv)
  have HC0 := Lib.hid N0.rc
  clear hT hX hC pn N0
  go_wp2_with fail
  refine wp_scope_straight ?_
  go_wp2_with fail
  refine CT.out.mono ?_
  clear CT c0 c1 c2 c3
  rintro e w1 ⟨b1, ⟨code, hb, rfl⟩ | ⟨hin, hne, o, K, f, b, cap, hov, rfl, O1, hb⟩⟩
  all_goals
    have HC1 := HC0.out.below b1 (Nat.le_refl _)
    have B1 := B0.trans (b1.mono B0.size)
    have h0 := B0.size
    clear b1 HC0 B0
  · unfold noSplit
    have d1 : (code != 0) = true := by simp; exact hb.ne
    have HB := Lib.hid hb
    clear hb
    go_wp2_with fail
    exact bodyPost_ret (v := .tuple #[.slice none 0 0, .int .i64 0, .int .i64 code]) (by simp [results, Try.results18, go_sem]) rfl ⟨B1.trans ((below_new w1 _).mono B1.size), .inl ⟨code, HB.out, rfl⟩⟩
  · have HO := Lib.hid (And.intro hin (And.intro hne hov))
    obtain ⟨ov, -, hfK⟩ := hov.ok hm hev hcap.out
    have hb : w.heap.size ≤ b := by omega
    clear hin hne hov
    go_upto_region 4 with fail
    have V1 : SplitAt (w1.alloc (.cells #[.int .i64 (N : Int), .slice TA m tp, .slice XA m xp, .slice CA m cp, .slice (some ⟨b, 0, none⟩) m cap, .int .i64 ((K : Int) + 1), .int .i64 (f : Int), .int .i64 (K : Int)] 57)) w1.heap.size (.int .i64 (N : Int)) (.slice TA m tp) (.slice XA m xp) (.slice CA m cp) (.slice (some ⟨b, 0, none⟩) m cap) (.int .i64 ((K : Int) + 1)) (.int .i64 (f : Int)) (.int .i64 (K : Int)) := heap_alloc_new _ _
    have b1 := below_new w1 (.cells #[.int .i64 (N : Int), .slice TA m tp, .slice XA m xp, .slice CA m cp, .slice (some ⟨b, 0, none⟩) m cap, .int .i64 ((K : Int) + 1), .int .i64 (f : Int), .int .i64 (K : Int)] 57)
    generalize (w1.alloc (.cells #[.int .i64 (N : Int), .slice TA m tp, .slice XA m xp, .slice CA m cp, .slice (some ⟨b, 0, none⟩) m cap, .int .i64 ((K : Int) + 1), .int .i64 (f : Int), .int .i64 (K : Int)] 57)) = w2 at *
    have O2 := O1.below b1 (Nat.le_refl _)
    have HC2 := HC1.below b1 (Nat.le_refl _)
    have B2 := B1.trans (b1.mono B1.size)
    clear b1 O1 HC1
    generalize w1.heap.size = q at *
    obtain ⟨v0, v1, v2, v3, v4, v5, v6, v7, -⟩ := V1.facts
    have CH := rimHeights_any w2 (N : Int) (K : Int) (.slice TA m tp) (.slice XA m xp) (.slice CA m cp) _ m (K + 1) f c o HC2 O2.rd ov
    rw [show ((K + 1 : Nat) : Int) = (K : Int) + 1 from rfl] at CH
    have CT := Lib.hid CH
    clear CH
    go_wp2_with fail
    refine CT.out.mono ?_
    clear CT
    rintro e w3 ⟨bb, cc, D, t', rfl, OD, hbb, SD, ht, FX, b3⟩
    have B3 := B2.trans (b3.mono B2.size)
    have V3 := SplitAt.below V1 b3 (Nat.le_refl _)
    have O3 := O2.below b3 (Nat.le_refl _)
    have HF := Lib.hid (And.intro SD (And.intro ht FX))
    clear b3 V1 O2 v0 v1 v2 v3 v4 v5 v6 v7 SD ht FX
    obtain ⟨v0, v1, v2, v3, v4, v5, v6, v7, -⟩ := V3.facts
    go_upto_region 6 with (at_make; refine wpList_make_full _ rfl _ _ _ rfl 0 3 i2 (.int .i64 0) 1 Try.underlying22 hi2 hz2 hsz2 .i64 .i64 (m : Int) (m : Int) m rfl rfl rfl rfl (by rw [hby2]; omega) (by unfold maxLen; omega) (Nat.zero_le _) ?_; intro w4 hm4 hg4)
    rw [show (Value.int IntKind.i64 0).cells = #[.int .i64 0] from rfl, Nat.mul_one, toList_madeCells_one] at hm4
    have E4 := Ow.made hm4
    have b4 : Below w3.heap.size w3 w4 := ⟨hg4.os, hg4.tape, hg4.output, hg4.size, fun k hk => hg4.block k hk (by simp)⟩
    have hg3 : w.heap.size ≤ w3.heap.size := B3.size
    have lob := O3.lt (k := b) rfl
    have lbb := OD.lt (k := bb) rfl
    have lq := blk_lt V3
    clear hm4 hg4 i2 hi2 hz2 hsz2 hby2
    obtain ⟨g, hg⟩ : ∃ g, g = w3.heap.size := ⟨_, rfl⟩
    rw [← hg] at E4 b4 hg3 lob lbb lq ⊢
    have hgg := Lib.hid hg
    clear hg
    have V4 : SplitAt w4 q _ _ _ _ _ _ _ _ := (b4.block q lq).trans V3
    clear v0 v1 v2 v3 v4 v5 v6 v7
    obtain ⟨v0, v1, v2, v3, v4, v5, v6, v7, -⟩ := V4.facts
    go_wp2_with fail
    refine wp_label ?_
    go_wp2_with fail
    go_loopw [35] (fun u35 wr => ∃ j : Nat, u35 = .int .i64 (j : Int) ∧ j ≤ m ∧ Ow wr (.slice (some ⟨g, 0, none⟩) m m) m (fun d => if d < j then fallOf o D d else 0) ∧ Below g w3 wr) (fun u35 _ => m - (intOf u35).toNat)
    case atStart => exact ⟨0, rfl, Nat.zero_le _, E4.congr (fun d _ => by simp), b4⟩
    case round =>
      clear v0 v1 v2 v3 v4 v5 v6 v7 V4 E4 b4 w4
      obtain ⟨j, rfl, hj, O, B⟩ := hrel
      have V5 : SplitAt wr q _ _ _ _ _ _ _ _ := (B.block q lq).trans V3
      have O5 : Ow wr (.slice (some ⟨b, 0, none⟩) m cap) m o := O3.keep fun z hz => B.block z (by have e : some b = some z := hz; injection e with e; omega)
      have D5 : Ow wr (.slice (some ⟨bb, 0, none⟩) (K + 1) cc) (K + 1) D := OD.keep fun z hz => B.block z (by have e : some bb = some z := hz; injection e with e; omega)
      obtain ⟨v0, v1, v2, v3, v4, v5, v6, v7, -⟩ := V5.facts
      by_cases hlt : j < m
      · have d1 : (j : Int) < (m : Int) := by omega
        have hoth := oth_lt hlt hev
        have d2 : (oth j : Int) < (m : Int) := by omega
        have xo := xor_one j (by omega)
        have o1 := ov.lt j hlt
        have o2 := ov.lt (oth j) hoth
        have co := O5.cell hlt
        have cp := O5.cell hoth
        obtain ⟨p, hp⟩ : ∃ p : Nat, (p : Int) = o j := ⟨(o j).toNat, by omega⟩
        obtain ⟨r, hr⟩ : ∃ r : Nat, (r : Int) = o (oth j) := ⟨(o (oth j)).toNat, by omega⟩
        rw [← hp] at co o1
        rw [← hr] at cp o2
        have hpK : p < K + 1 := by omega
        have hrK : r < K + 1 := by omega
        have d3 : (p : Int) < (K : Int) + 1 := by omega
        have d4 : (r : Int) < (K : Int) + 1 := by omega
        have kp := D5.cell hpK
        have kr := D5.cell hrK
        have AW : Away m c o K f D := ⟨t', HF.out.1, HF.out.2.1, HF.out.2.2⟩
        have z1 := AW.size ov.arcs hpK
        have z2 := AW.size ov.arcs hrK
        have HE : Hid (fallOf o D j = D r - D p) := Lib.hid (by unfold fallOf; rw [← hp, ← hr]; simp)
        obtain ⟨z3, z4⟩ := z1
        obtain ⟨z5, z6⟩ := z2
        have co1 := O.cell hlt
        have fz := O.frozen j
        have wl : IntKind.i64.wrap (D r - D p) = D r - D p := by rw [IntKind.wrap_i64]; omega
        have g1 : -2000000000000000000 ≤ D r - D p := by omega
        have g2 : D r - D p ≤ 2000000000000000000 := by omega
        have O6 : Ow (wr.setCell ⟨g, j, none⟩ (.int .i64 (D r - D p))) (.slice (some ⟨g, 0, none⟩) m m) m (fun d => if d < j + 1 then fallOf o D d else 0) := (O.set hlt (D r - D p)).congr fun d hd => by
          by_cases e : d = j
          · subst e; rw [upd_same, if_pos (by omega), HE.out]
          · rw [upd_ne e]
            by_cases q : d < j
            · rw [if_pos q, if_pos (by omega)]
            · rw [if_neg q, if_neg (by omega)]
        have B6 := B.setCell (p := ⟨g, j, none⟩) (Nat.le_refl _) (.int .i64 (D r - D p))
        have HS := Lib.hid (And.intro O6 B6)
        have HN : Hid (D r - D p = 0 → Ow wr (.slice (some ⟨g, 0, none⟩) m m) m (fun d => if d < j + 1 then fallOf o D d else 0)) := Lib.hid fun h0 => O.congr fun d hd => by
          by_cases e : d = j
          · subst e; rw [if_neg (by omega), if_pos (by omega), HE.out, h0]
          · by_cases q : d < j
            · rw [if_pos q, if_pos (by omega)]
            · rw [if_neg q, if_neg (by omega)]
        clear AW O6 B6 hp hr hpK hrK O5 D5 V5 O O3 OD ov HE
        go_upto_region 9 with fail
        refine still_tail 14 (by kernel_rfl) (by kernel_rfl) ?_
        simp only [List.take_succ_cons, List.take_zero, List.drop_succ_cons, List.drop_zero]
        repeat still_step
        with_reducible refine wpStill_nil ?_
        by_cases hz : D r - D p = 0
        · have q0 : (D r - D p != 0) = false := by rw [hz]; rfl
          have ON := HN.out hz
          clear hz HN HS
          go_wp2_with fail
          go_roundw
          case rel => exact ⟨j + 1, by simp, by omega, ON.keep fun _ _ => rfl, ⟨B.os, B.tape, B.output, B.size, B.block⟩⟩
          case measure => simp [intOf]; omega
        · have q0 : (D r - D p != 0) = true := by simp; exact hz
          clear hz HN
          go_wp2_with fail
          go_roundw
          case rel => exact ⟨j + 1, by simp, by omega, HS.out.1.keep fun _ _ => rfl, ⟨HS.out.2.os, HS.out.2.tape, HS.out.2.output, HS.out.2.size, HS.out.2.block⟩⟩
          case measure => simp [intOf]; omega
      · have d1 : ¬ ((j : Int) < (m : Int)) := by omega
        obtain rfl : j = m := by omega
        have kK := D5.cell (Nat.lt_succ_self K)
        have d3 : (K : Int) < (K : Int) + 1 := by omega
        clear O5 D5 V5
        go_upto_region 13 with fail
        go_big_quiet (fail)
        go_wp2_with fail
        have OF : Ow (wr.drewN nq) (.slice (some ⟨g, 0, none⟩) j j) j (fallOf o D) := (O.congr (x' := fallOf o D) fun d hd => if_pos hd).keep fun _ _ => rfl
        have Bx := B3.trans (B.mono hg3)
        have BF : Below w.heap.size w (wr.drewN nq) := ⟨Bx.os, Bx.tape, Bx.output, Bx.size, Bx.block⟩
        exact bodyPost_ret (v := .tuple #[.slice (some ⟨g, 0, none⟩) j j, .int .i64 (D K), .int .i64 0]) (by simp [results, Try.results18, go_sem]) rfl ⟨BF, .inr ⟨o, K, f, D, g, j, ⟨HO.out.1, HO.out.2.1, HO.out.2.2, t', HF.out.1, HF.out.2.1, HF.out.2.2⟩, rfl, OF, hg3⟩⟩

set_option maxHeartbeats 6400000 in
theorem rimHeightsOf_ok (w : World) (N : Nat) (T X C : Value) (m : Nat) (t x c : Nat → Int) (hT : Rd w T m t) (hX : Rd w X m x) (hC : Rd w C m c) (pn : Plane N m t x c) (hm : m ≤ 48) (s v : Int) (hs : Small s) (hv : Small v) :
    Calls Try.prog 16 #[.agg #[.int .i64 (N : Int), T, X, C], .int .i64 s, .int .i64 v] w (HeightsPost w.heap.size w N m x t c s v) := by
  have hev := pn.good.even
  have hcap := Lib.hid pn.caps
  obtain ⟨TA, tp, rfl, -⟩ := id hT
  obtain ⟨XA, xp, rfl, -⟩ := id hX
  obtain ⟨CA, cp, rfl, -⟩ := id hC
  go_enter Try.func16, Try.ntmps16
  go_wp2_with fail
  obtain ⟨w0, hw0, N0, B0⟩ := net_enter (N : Int) hT hX hC
  rw [hw0]
  clear hw0
  have c0 := N0.c0
  have c1 := N0.c1
  have c2 := N0.c2
  have c3 := N0.c3
  have CT := Lib.hid (of_ok w0 N _ _ _ m t x c N0.rt N0.rx N0.rc pn s v hs hv)
  have HC0 := Lib.hid N0.rc
  clear hT hX hC pn N0
  go_wp2_with fail
  refine CT.out.mono ?_
  clear CT c0 c1 c2 c3
  rintro e w1 ⟨b1, ⟨code, hb, rfl⟩ | ⟨hin, hne, o, K, f, b, cap, hov, rfl, O1, hb⟩⟩
  all_goals
    have HC1 := HC0.out.below b1 (Nat.le_refl _)
    have B1 := B0.trans (b1.mono B0.size)
    have h0 := B0.size
    clear b1 HC0 B0
  · unfold noSplit
    have d1 : (code != 0) = true := by simp; exact hb.ne
    have HB := Lib.hid hb
    clear hb
    go_wp2_with fail
    exact bodyPost_ret (v := .tuple #[.slice none 0 0, .int .i64 code]) (by simp [results, Try.results16, go_sem]) rfl ⟨B1.trans ((below_new w1 _).mono B1.size), .inl ⟨code, HB.out, rfl⟩⟩
  · have HO := Lib.hid (And.intro hin (And.intro hne hov))
    obtain ⟨ov, -, hfK⟩ := hov.ok hm hev hcap.out
    have hb : w.heap.size ≤ b := by omega
    clear hin hne hov
    go_upto_region 4 with fail
    have V1 : SplitAt (w1.alloc (.cells #[.int .i64 (N : Int), .slice TA m tp, .slice XA m xp, .slice CA m cp, .slice (some ⟨b, 0, none⟩) m cap, .int .i64 ((K : Int) + 1), .int .i64 (f : Int), .int .i64 (K : Int)] 57)) w1.heap.size (.int .i64 (N : Int)) (.slice TA m tp) (.slice XA m xp) (.slice CA m cp) (.slice (some ⟨b, 0, none⟩) m cap) (.int .i64 ((K : Int) + 1)) (.int .i64 (f : Int)) (.int .i64 (K : Int)) := heap_alloc_new _ _
    have b1 := below_new w1 (.cells #[.int .i64 (N : Int), .slice TA m tp, .slice XA m xp, .slice CA m cp, .slice (some ⟨b, 0, none⟩) m cap, .int .i64 ((K : Int) + 1), .int .i64 (f : Int), .int .i64 (K : Int)] 57)
    generalize (w1.alloc (.cells #[.int .i64 (N : Int), .slice TA m tp, .slice XA m xp, .slice CA m cp, .slice (some ⟨b, 0, none⟩) m cap, .int .i64 ((K : Int) + 1), .int .i64 (f : Int), .int .i64 (K : Int)] 57)) = w2 at *
    have O2 := O1.below b1 (Nat.le_refl _)
    have HC2 := HC1.below b1 (Nat.le_refl _)
    have B2 := B1.trans (b1.mono B1.size)
    clear b1 O1 HC1
    generalize w1.heap.size = q at *
    obtain ⟨v0, v1, v2, v3, v4, v5, v6, v7, -⟩ := V1.facts
    have CH := rimHeights_any w2 (N : Int) (K : Int) (.slice TA m tp) (.slice XA m xp) (.slice CA m cp) _ m (K + 1) f c o HC2 O2.rd ov
    rw [show ((K + 1 : Nat) : Int) = (K : Int) + 1 from rfl] at CH
    have CT := Lib.hid CH
    clear CH
    go_wp2_with fail
    trace_state
    refine CT.out.mono ?_
    clear CT
    rintro e w3 ⟨bb, cc, D, t', rfl, OD, hbb, SD, ht, FX, b3⟩
    have B3 := B2.trans (b3.mono B2.size)
    have h2 := B2.size
    have HF := Lib.hid (And.intro SD (And.intro ht FX))
    clear SD ht FX b3 V1 O2 v0 v1 v2 v3 v4 v5 v6 v7
    go_wp2_with fail
    exact bodyPost_ret (v := .tuple #[.slice (some ⟨bb, 0, none⟩) (K + 1) cc, .int .i64 0]) (by simp [results, Try.results16, go_sem]) rfl ⟨B3, .inr ⟨o, K, f, D, bb, cc, ⟨HO.out.1, HO.out.2.1, HO.out.2.2, t', HF.out.1, HF.out.2.1, HF.out.2.2⟩, rfl, OD, by omega⟩⟩
end Go.Proofs.Ytcdlnohnkdalbaa.Ro
