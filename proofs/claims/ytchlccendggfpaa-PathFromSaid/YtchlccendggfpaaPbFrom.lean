/- Walks: the law PathFrom. -/
import Derived.Test.YtchlccendggfpaaPaKn
namespace Go.Proofs.Ytchlccendggfpaa.Ro
open Go.RowKit Go.Proofs Go.Maps
set_option linter.unusedVariables false
set_option linter.unusedSimpArgs false

set_option maxRecDepth 100000 in
set_option maxHeartbeats 12800000 in
theorem from_walk (size : Int) (A : Option Addr) (len cap : Nat) (zs : List Int) (s : Int) (w : World) (hsize : Small size) (hV : Rd w (.slice A len cap) len (fun i => zs.getD i 0)) (hz : ∀ i, i < len → Small (zs.getD i 0)) (hl : len ≤ 9223372036854775807) (hs : Small s) :
    Calls Try.prog 3 #[.int .i64 size, .slice A len cap, .int .i64 s] w fun e w' => e = .returned (.bool true) ∧ Below w.heap.size w w' := by
  go_enter Try.func3, Try.ntmps3
  go_wp2_with fail
  refine (known6_ok _).mono ?_
  rintro e w1 ⟨rfl, B1⟩
  go_wp2_with fail
  refine (within6_any w1 size 14 hsize (by omega) (by omega)).mono ?_
  rintro e w2 ⟨rfl, rfl⟩
  obtain ⟨n0, hn0, hn1⟩ := within_nat (d := size) (m := 14) (by omega)
  rw [hn0]
  obtain ⟨n, hnn⟩ : ∃ n : Nat, n = n0 + 1 := ⟨_, rfl⟩
  have en : 1 + (n0 : Int) = (n : Int) := by omega
  have n1 : 1 ≤ n := by omega
  have n2 : n ≤ 14 := by omega
  clear hn0 hn1 hnn hsize
  go_wp2_with fail
  clear en
  refine (arcs_any w1 n len 0 _ _ (hV.below B1 (Nat.le_refl _)) hz hl (by omega) (by omega) (by omega) (by omega)).mono ?_
  rintro e w3 ⟨V, rfl, OA, hVo, b3⟩
  have B3 := B1.trans (b3.mono B1.size)
  have AI := arcsOf_in (k := min len 50) (n := n) (x := fun i => zs.getD i 0) (low := 0) (by omega) (by omega) (by omega)
  have kk : min len 50 ≤ 50 := Nat.min_le_right _ _
  have RV := OA.rdA
  have HVO := Lib.hid hVo
  obtain ⟨VA, vc, rfl, -⟩ := id RV
  clear b3 B1 hVo
  generalize hkk : min len 50 = k at *
  generalize hS : arcsOf n (fun i => zs.getD i 0) 0 = S at *
  have HL := Lib.hid (show ∀ i, i < k → 0 ≤ S.ln i by rw [← hS]; exact arcsOf_low)
  clear hS hkk hz hV OA
  go_wp2_with fail
  refine (within6_any w3 s (n : Int) hs (by omega) (by omega)).mono ?_
  rintro e w4 ⟨rfl, rfl⟩
  obtain ⟨x, hx0, hx1⟩ := within_nat (d := s) (m := (n : Int)) (by omega)
  rw [hx0]
  have hxn : x < n := by omega
  clear hx0 hx1 hs
  go_wp2_with fail
  refine (from_any w3 n k x _ S RV AI HL.out hxn (by omega) (by omega)).mono ?_
  rintro e w5 ⟨bd, cd, d, t, rfl, Od, hbd, SD, ht, FX, b5⟩
  have B5 := B3.trans (b5.mono B3.size)
  have R5 := RV.below b5 (Nat.le_refl _)
  have hd0 : d x = 0 := by
    have h1 := SD.here
    rcases SD.each x hxn with q | ⟨m, _, w⟩
    · unfold far at q; omega
    · have := w.nonneg HL.out; omega
  have HD0 := Lib.hid hd0
  have HS := Lib.hid SD
  have HF := Lib.hid FX
  clear b5 RV B3 hd0 SD FX
  go_wp2_with fail
  refine (refFromD_any w5 n k x _ S R5 AI hxn (by omega) (by omega)).mono ?_
  rintro e w6 ⟨be, d2, t2, rfl, Oe, hbe, SE, ht2, hF, b6⟩
  have B6 := B5.trans (b6.mono B5.size)
  have R6 := R5.below b6 (Nat.le_refl _)
  have Od6 := Od.below b6 (Nat.le_refl _)
  have FE := hF (noNeg_of HL.out)
  have ee : ∀ v, v < n → d v = d2 v := HF.out.one HS.out FE SE AI (by omega) (by unfold far; omega) (by unfold far; omega) hxn
  have es : sameB n n d d2 = true := sameB_true.mpr ⟨rfl, ee⟩
  have HES := Lib.hid es
  clear b6 R5 B5 Od hF SE FE ee es
  go_wp2_with fail
  refine (ints6_any w6 _ _ n n d d2 (by omega) (by omega) Od6.rd Oe.rd).mono ?_
  rintro e w7 ⟨rfl, b7⟩
  rw [HES.out]
  have B7 := B6.trans (b7.mono B6.size)
  have R7 := R6.below b7 (Nat.le_refl _)
  have Od7 := Od6.below b7 (Nat.le_refl _)
  clear b7 R6 B6 Od6 Oe HES
  have cx := Od7.cell hxn
  rw [HD0.out] at cx
  have ix : (x : Int) < (n : Int) := by omega
  go_wp2_with fail
  clear cx
  go_loopw [11] (fun u11 wr => ∃ j : Nat, u11 = .int .i64 (j : Int) ∧ j ≤ k ∧ Below w7.heap.size w7 wr) (fun u11 _ => k - (intOf u11).toNat)
  case atStart => exact ⟨0, rfl, Nat.zero_le _, Below.refl _ _⟩
  case round =>
    obtain ⟨j, rfl, hj, b8⟩ := hrel
    have R8 := R7.below b8 (Nat.le_refl _)
    have Od8 := Od7.below b8 (Nat.le_refl _)
    have B8 := B7.trans (b8.mono B7.size)
    by_cases hlt : j < k
    · have d1 : (j : Int) < (k : Int) := by omega
      obtain ⟨vb, cap', ev, hvb, z1, z2, z3⟩ := R8.arc hlt
      injection ev with e1 e2 e3
      subst e1 e3
      have ha := AI.fr j hlt
      have hc := AI.th j hlt
      have l1 := HL.out j hlt
      have l2 := AI.hi j hlt
      have za := Od8.cell ha
      have zc := Od8.cell hc
      have i1 : ((S.fr j : Nat) : Int) < (n : Int) := by omega
      have i2 : ((S.th j : Nat) : Int) < (n : Int) := by omega
      have fx := HF.out j hlt
      have sz := HS.out.size AI (by omega) ha
      clear R8 Od8
      go_upto_region 12 with fail
      by_cases hf : d (S.fr j) = far
      · have q1 : (d (S.fr j) != 1152921504606846976) = false := by simp; exact hf
        clear hf fx sz
        go_big_quiet (fail)
        go_wp2_with fail
        go_roundw
        case rel => exact ⟨j + 1, by simp, by omega, ⟨b8.os, b8.tape, b8.output, b8.size, b8.block⟩⟩
        case measure => simp [intOf]; omega
      · have q1 : (d (S.fr j) != 1152921504606846976) = true := by simp; exact hf
        have fx := fx hf
        have sz := sz hf
        have q2 : decide (d (S.fr j) + S.ln j < d (S.th j)) = false := by simp; omega
        have q3 : ¬ (d (S.th j) > d (S.fr j) + S.ln j) := by omega
        have g1 : -90000000000000 ≤ d (S.fr j) + S.ln j := by omega
        have g2 : d (S.fr j) + S.ln j ≤ 90000000000000 := by omega
        clear hf fx sz
        go_big_quiet (fail)
        go_wp2_with fail
        go_roundw
        case rel => exact ⟨j + 1, by simp, by omega, ⟨b8.os, b8.tape, b8.output, b8.size, b8.block⟩⟩
        case measure => simp [intOf]; omega
    · have d1 : ¬ ((j : Int) < (k : Int)) := by omega
      go_wp2_with fail
      refine (right_any wr n k x n _ _ S d R8 Od8.rd AI hxn (by omega) (by omega) (by omega)).mono ?_
      rintro e w9 ⟨b9, ⟨d7, t7, S7, ht7, F7, rfl⟩ | ⟨hn, _⟩⟩
      · have e7 : sameB n n d7 d = true := sameB_true.mpr ⟨rfl, F7.one S7 HF.out HS.out AI (by omega) (by unfold far; omega) (by unfold far; omega) hxn⟩
        rw [e7]
        have B9 := B8.trans (b9.mono B8.size)
        clear e7 S7 F7 ht7 b9
        go_wp2_with fail
        go_ret
        exact ⟨rfl, B9⟩
      · exact absurd (noNeg_of HL.out) hn
end Go.Proofs.Ytchlccendggfpaa.Ro
