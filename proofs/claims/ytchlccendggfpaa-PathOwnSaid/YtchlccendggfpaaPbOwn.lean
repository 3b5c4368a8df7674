/- Walks: the law PathOwn. -/
import Derived.Test.YtchlccendggfpaaPaKn
namespace Go.Proofs.Ytchlccendggfpaa.Ro
open Go.RowKit Go.Proofs Go.Maps
set_option linter.unusedVariables false
set_option linter.unusedSimpArgs false

set_option maxRecDepth 100000 in
set_option maxHeartbeats 12800000 in
theorem own_walk (size : Int) (A : Option Addr) (len cap : Nat) (zs : List Int) (s : Int) (t : Int) (w : World) (hsize : Small size) (hV : Rd w (.slice A len cap) len (fun i => zs.getD i 0)) (hz : ∀ i, i < len → Small (zs.getD i 0)) (hl : len ≤ 9223372036854775807) (hs : Small s) (ht : Small t) :
    Calls Try.prog 12 #[.int .i64 size, .slice A len cap, .int .i64 s, .int .i64 t] w fun e w' => e = .returned (.bool true) ∧ Below w.heap.size w w' := by
  go_enter Try.func12, Try.ntmps12
  go_wp2_with fail
  refine (known6_ok _).mono ?_
  rintro e w1 ⟨rfl, B1⟩
  go_wp2_with fail
  refine (within6_any w1 size 14 hsize (by omega) (by omega)).mono ?_
  rintro e w2 ⟨rfl, rfl⟩
  obtain ⟨n0, hn0, hn1⟩ := within_nat (d := size) (m := 14) (by omega)
  rw [hn0]
  obtain ⟨n, hnn⟩ : ∃ n : Nat, n = n0 + 1 := ⟨_, rfl⟩
  have en : 1 + (n0 : Int) = (n : Int) := by omega
  have n1 : 1 ≤ n := by omega
  have n2 : n ≤ 14 := by omega
  clear hn0 hn1 hnn hsize
  go_wp2_with fail
  clear en
  have hz' := hz
  refine (arcs_any w1 n len 0 _ _ (hV.below B1 (Nat.le_refl _)) hz hl (by omega) (by omega) (by omega) (by omega)).mono ?_
  rintro e w2 ⟨V1, rfl, OA1, hVo1, b2⟩
  have B2 := B1.trans (b2.mono B1.size)
  have hV2 := hV.below B2 (Nat.le_refl _)
  clear hVo1
  go_wp2_with fail
  refine (arcs_any w2 n len 0 _ _ hV2 hz' hl (by omega) (by omega) (by omega) (by omega)).mono ?_
  rintro e w3 ⟨V2, rfl, OA2, hVo2, b3⟩
  have B3 := B2.trans (b3.mono B2.size)
  have AI := arcsOf_in (k := min len 50) (n := n) (x := fun i => zs.getD i 0) (low := 0) (by omega) (by omega) (by omega)
  have kk : min len 50 ≤ 50 := Nat.min_le_right _ _
  have R1 := (OA1.below b3 (Nat.le_refl _)).rdA
  have R2 := OA2.rdA
  obtain ⟨V1A, v1c, rfl, -⟩ := id R1
  obtain ⟨V2A, v2c, rfl, -⟩ := id R2
  clear b2 b3 B1 B2 hVo2 OA1 OA2 hV2
  generalize hkk : min len 50 = k at *
  generalize hS : arcsOf n (fun i => zs.getD i 0) 0 = S at *
  have HL := Lib.hid (show ∀ i, i < k → 0 ≤ S.ln i by rw [← hS]; exact arcsOf_low)
  clear hS hkk hz hz' hV
  go_wp2_with fail
  refine (within6_any w3 s (n : Int) hs (by omega) (by omega)).mono ?_
  rintro e w4 ⟨rfl, rfl⟩
  obtain ⟨x, hx0, hx1⟩ := within_nat (d := s) (m := (n : Int)) (by omega)
  rw [hx0]
  have hxn : x < n := by omega
  clear hx0 hx1 hs
  go_wp2_with fail
  refine (within6_any w3 t (n : Int) ht (by omega) (by omega)).mono ?_
  rintro e w4 ⟨rfl, rfl⟩
  obtain ⟨y, hy0, hy1⟩ := within_nat (d := t) (m := (n : Int)) (by omega)
  rw [hy0]
  have hyn : y < n := by omega
  clear hy0 hy1 ht
  go_wp2_with fail
  refine (from_any w3 n k x _ S R1 AI HL.out hxn (by omega) (by omega)).mono ?_
  rintro e w5 ⟨bd, cd, d, t, rfl, Od, hbd, SD, ht, FX, b5⟩
  have O5 : ∃ d : Nat → Int, Ow w5 (.slice (some ⟨bd, 0, none⟩) n cd) n d := ⟨d, Od⟩
  clear SD ht FX Od
  go_wp2_with fail
  go_loopw [15] (fun u15 wr => ∃ (j : Nat) (d : Nat → Int), u15 = .int .i64 (j : Int) ∧ j ≤ n ∧ Ow wr (.slice (some ⟨bd, 0, none⟩) n cd) n d ∧ Below w3.heap.size w3 wr) (fun u15 _ => n - (intOf u15).toNat)
  case atStart => exact ⟨0, O5.choose, rfl, Nat.zero_le _, O5.choose_spec, b5⟩
  case round =>
    clear O5 b5 w5
    obtain ⟨j, d, rfl, hj, Od, b5⟩ := hrel
    by_cases hlt : j < n
    · have d1 : (j : Int) < (n : Int) := by omega
      have cj := Od.cell hlt
      have fj := Od.frozen j
      have HO := Lib.hid (And.intro (Od.set hlt (-9)) (b5.setCell (p := ⟨bd, j, none⟩) hbd (.int .i64 (-9))))
      clear Od b5
      go_wp2_with fail
      go_roundw
      case rel => exact ⟨j + 1, _, by simp, by omega, HO.out.1, HO.out.2⟩
      case measure => simp [intOf]; omega
    · have d1 : ¬ ((j : Int) < (n : Int)) := by omega
      have B5 := B3.trans (b5.mono B3.size)
      have R1' := R1.below b5 (Nat.le_refl _)
      have R2' := R2.below b5 (Nat.le_refl _)
      clear b5 R1 R2 B3 Od hbd
      obtain ⟨w5, rfl⟩ : ∃ w5, w5 = wr := ⟨_, rfl⟩
      go_wp2_with fail
      refine (way_any w5 n k x y _ S R1' AI HL.out hxn hyn (by omega) (by omega)).mono ?_
      rintro e w6 ⟨b6, H6⟩
      have key : ∃ (W : Value) (is : Bool) (m : Nat) (x : Nat → Int), e = .returned (.tuple #[W, .bool is]) ∧ OwV w6 w5.heap.size W m x ∧ m ≤ 100 := by
        rcases H6 with ⟨_, rfl⟩ | ⟨D, F, W, m, p, r, BS, hf, rfl, TR, hp, OW⟩
        · exact ⟨_, _, 0, fun _ => 0, rfl, .inl ⟨rfl, rfl⟩, by omega⟩
        · refine ⟨_, _, m, _, rfl, OW, ?_⟩
          have h1 := (TR.sum m (Nat.le_refl _)).2
          rw [hp] at h1
          have h2 := (BS.here hyn HL.out).2
          have h3 := BS.small AI hyn HL.out hxn hf
          omega
      obtain ⟨W, is, m, xw, rfl, OW, hm⟩ := key
      clear H6
      have hW : ∃ (AW : Option Addr) (cw : Nat), W = .slice AW m cw := by
        rcases OW with ⟨rfl, rfl⟩ | ⟨_, b, c, rfl, _⟩
        · exact ⟨_, _, rfl⟩
        · exact ⟨_, _, rfl⟩
      obtain ⟨AW, cw, rfl⟩ := hW
      go_wp2_with fail
      go_loopw [18] (fun u18 wr => ∃ (i : Nat) (xw : Nat → Int), u18 = .int .i64 (i : Int) ∧ i ≤ m ∧ OwV wr w5.heap.size (.slice AW m cw) m xw ∧ Below w5.heap.size w5 wr) (fun u18 _ => m - (intOf u18).toNat)
      case atStart => exact ⟨0, xw, rfl, Nat.zero_le _, OW, b6⟩
      case round =>
        clear OW b6 w6
        obtain ⟨i, xw, rfl, hi, OW, b6⟩ := hrel
        by_cases hlt2 : i < m
        · have d2 : (i : Int) < (m : Int) := by omega
          rcases OW with ⟨rfl, _⟩ | ⟨hm0, b, c, ev, OS, hb⟩
          · omega
          · injection ev with e1 e2 e3
            subst e1 e3
            have ci := OS.cell hlt2
            have fi := OS.frozen i
            obtain ⟨cur, hcur, hc⟩ := OS
            have O2 : OwS (wr.setCell ⟨b, i, none⟩ (.int .i64 (-9))) b m (upd xw i (-9)) := ⟨_, blk_set2 hcur _, fun j hj => by
              by_cases e : j = i
              · subst e
                rw [upd_same, Array.getElem?_setIfInBounds_self_of_lt]
                have := hc j hj
                rcases Nat.lt_or_ge j cur.size with q | q
                · exact q
                · rw [Array.getElem?_eq_none q] at this; cases this
              · rw [upd_ne e, Array.getElem?_setIfInBounds_ne (Ne.symm e)]; exact hc j hj⟩
            have HO := Lib.hid (And.intro O2 (b6.setCell (p := ⟨b, i, none⟩) hb (.int .i64 (-9))))
            clear hcur hc O2 b6
            go_wp2_with fail
            go_roundw
            case rel => exact ⟨i + 1, _, by simp, by omega, .inr ⟨hm0, b, cw, rfl, HO.out.1, hb⟩, HO.out.2⟩
            case measure => simp [intOf]; omega
        · have d2 : ¬ ((i : Int) < (m : Int)) := by omega
          have B6 := B5.trans (b6.mono B5.size)
          have R16 := R1'.below b6 (Nat.le_refl _)
          have R26 := R2'.below b6 (Nat.le_refl _)
          clear b6 R1' R2' B5 OW
          obtain ⟨w6, rfl⟩ : ∃ w6, w6 = wr := ⟨_, rfl⟩
          go_wp2_with fail
          go_loopw [19] (fun u19 wr => ∃ i : Nat, u19 = .int .i64 (i : Int) ∧ i ≤ k ∧ Below w6.heap.size w6 wr) (fun u19 _ => k - (intOf u19).toNat)
          case atStart => exact ⟨0, rfl, Nat.zero_le _, Below.refl _ _⟩
          case round =>
            obtain ⟨i, rfl, hi, b7⟩ := hrel
            have R17 := R16.below b7 (Nat.le_refl _)
            have R27 := R26.below b7 (Nat.le_refl _)
            have B7 := B6.trans (b7.mono B6.size)
            by_cases hlt3 : i < k
            · have d3 : (i : Int) < (k : Int) := by omega
              obtain ⟨vb, cap', ev, hvb, z1, z2, z3⟩ := R17.arc hlt3
              injection ev with e1 e2 e3
              subst e1 e3
              obtain ⟨vb2, cap2, ev, hvb2, y1, y2, y3⟩ := R27.arc hlt3
              injection ev with e1 e2 e3
              subst e1 e3
              clear R17 R27
              go_upto_region 19 with fail
              go_big_quiet (fail)
              go_wp2_with fail
              go_roundw
              case rel => exact ⟨i + 1, by simp, by omega, ⟨b7.os, b7.tape, b7.output, b7.size, b7.block⟩⟩
              case measure => simp [intOf]; omega
            · have d3 : ¬ ((i : Int) < (k : Int)) := by omega
              obtain ⟨w7, rfl⟩ : ∃ w7, w7 = wr := ⟨_, rfl⟩
              clear b7 R16 R26 B6
              go_wp2_with fail
              refine (from_any w7 n k x _ S R17 AI HL.out hxn (by omega) (by omega)).mono ?_
              rintro e w8 ⟨bd2, cd2, d2', t2, rfl, Od2, hbd2, SD2, ht2, FD2, b8⟩
              have B8 := B7.trans (b8.mono B7.size)
              have R28 := R27.below b8 (Nat.le_refl _)
              have HS := Lib.hid (And.intro SD2 FD2)
              clear b8 SD2 FD2 R27 R17 B7
              go_wp2_with fail
              refine (refFromD_any w8 n k x _ S R28 AI hxn (by omega) (by omega)).mono ?_
              rintro e w9 ⟨be, d3', t3, rfl, Oe, hbe, SE, ht3, hF, b9⟩
              have B9 := B8.trans (b9.mono B8.size)
              have Od9 := Od2.below b9 (Nat.le_refl _)
              have FE := hF (noNeg_of HL.out)
              have es : sameB n n d2' d3' = true := sameB_true.mpr ⟨rfl, HS.out.2.one HS.out.1 FE SE AI (by omega) (by unfold far; omega) (by unfold far; omega) hxn⟩
              have HES := Lib.hid es
              clear b9 R28 B8 Od2 hF SE FE es
              go_wp2_with fail
              refine (ints6_any w9 _ _ n n d2' d3' (by omega) (by omega) Od9.rd Oe.rd).mono ?_
              rintro e w10 ⟨rfl, b10⟩
              rw [HES.out]
              have B10 := B9.trans (b10.mono B9.size)
              clear b10 B9 Od9 Oe HES
              go_wp2_with fail
              go_ret
              exact ⟨rfl, B10⟩
end Go.Proofs.Ytchlccendggfpaa.Ro
