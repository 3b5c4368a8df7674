/- Walks: the law PathAny. -/
import Derived.Test.YtchlccendggfpaaPaKn
namespace Go.Proofs.Ytchlccendggfpaa.Ro
open Go.RowKit Go.Proofs Go.Maps
set_option linter.unusedVariables false
set_option linter.unusedSimpArgs false

set_option maxRecDepth 100000 in
set_option maxHeartbeats 12800000 in
theorem any_walk (size : Int) (A : Option Addr) (len cap : Nat) (zs : List Int) (s : Int) (low : Int) (w : World) (hsize : Small size) (hV : Rd w (.slice A len cap) len (fun i => zs.getD i 0)) (hz : ∀ i, i < len → Small (zs.getD i 0)) (hl : len ≤ 9223372036854775807) (hs : Small s) (hlow : Small low) :
    Calls Try.prog 4 #[.int .i64 size, .slice A len cap, .int .i64 s, .int .i64 low] w fun e w' => e = .returned (.bool true) ∧ Below w.heap.size w w' := by
  go_enter Try.func4, Try.ntmps4
  go_wp2_with fail
  refine (known6_ok _).mono ?_
  rintro e w1 ⟨rfl, B1⟩
  go_wp2_with fail
  refine (within6_any w1 size 14 hsize (by omega) (by omega)).mono ?_
  rintro e w2 ⟨rfl, rfl⟩
  obtain ⟨n0, hn0, hn1⟩ := within_nat (d := size) (m := 14) (by omega)
  rw [hn0]
  obtain ⟨n, hnn⟩ : ∃ n : Nat, n = n0 + 1 := ⟨_, rfl⟩
  have en : 1 + (n0 : Int) = (n : Int) := by omega
  have n1 : 1 ≤ n := by omega
  have n2 : n ≤ 14 := by omega
  clear hn0 hn1 hnn hsize
  go_wp2_with fail
  clear en
  refine (within6_any w1 low 4 hlow (by omega) (by omega)).mono ?_
  rintro e w2 ⟨rfl, rfl⟩
  obtain ⟨lw, hlw, hlw1⟩ := within_nat (d := low) (m := 4) (by omega)
  rw [hlw]
  clear hlw hlow
  go_wp2_with fail
  refine (arcs_any w1 n len (lw : Int) _ _ (hV.below B1 (Nat.le_refl _)) hz hl (by omega) (by omega) (by omega) (by omega)).mono ?_
  rintro e w3 ⟨V, rfl, OA, hVo, b3⟩
  have B3 := B1.trans (b3.mono B1.size)
  have AI := arcsOf_in (k := min len 50) (n := n) (x := fun i => zs.getD i 0) (low := (lw : Int)) (by omega) (by omega) (by omega)
  have kk : min len 50 ≤ 50 := Nat.min_le_right _ _
  have RV := OA.rdA
  have HVO := Lib.hid hVo
  obtain ⟨VA, vc, rfl, -⟩ := id RV
  clear b3 B1 hVo
  generalize hkk : min len 50 = k at *
  generalize hS : arcsOf n (fun i => zs.getD i 0) (lw : Int) = S at *
  clear hS hkk hz hV OA
  go_wp2_with fail
  refine (within6_any w3 s (n : Int) hs (by omega) (by omega)).mono ?_
  rintro e w4 ⟨rfl, rfl⟩
  obtain ⟨x, hx0, hx1⟩ := within_nat (d := s) (m := (n : Int)) (by omega)
  rw [hx0]
  have hxn : x < n := by omega
  clear hx0 hx1 hs
  go_wp2_with fail
  refine (any_any w3 n k x _ S RV AI hxn (by omega) (by omega)).mono ?_
  rintro e w5 ⟨b5, H5⟩
  have B5 := B3.trans (b5.mono B3.size)
  have R5 := RV.below b5 (Nat.le_refl _)
  clear b5 RV B3
  rcases H5 with ⟨bd, cd, d, t, rfl, Od, hbd, SD, ht, FX⟩ | ⟨br, m, r, rfl, OR, hbr, RF⟩
  · have HS := Lib.hid SD
    have HF := Lib.hid FX
    clear SD FX
    go_wp2_with fail
    refine (refAny_any w5 n k x _ S R5 AI hxn (by omega) (by omega)).mono ?_
    rintro e w6 ⟨b6, ⟨be, d2, t2, rfl, Oe, hbe, SE, ht2, FE⟩ | ⟨_, hN⟩⟩
    · have B6 := B5.trans (b6.mono B5.size)
      have Od6 := Od.below b6 (Nat.le_refl _)
      have ee : ∀ v, v < n → d v = d2 v := HF.out.one HS.out FE SE AI (by omega) (by unfold far; omega) (by unfold far; omega) hxn
      have es : sameB n n d d2 = true := sameB_true.mpr ⟨rfl, ee⟩
      have HES := Lib.hid es
      clear b6 R5 B5 Od SE FE ee es
      go_wp2_with fail
      refine (ints6_any w6 _ _ n n d d2 (by omega) (by omega) Od6.rd Oe.rd).mono ?_
      rintro e w7 ⟨rfl, b7⟩
      rw [HES.out]
      have B7 := B6.trans (b7.mono B6.size)
      clear b7 B6 Od6 Oe HES
      go_wp2_with fail
      go_ret
      exact ⟨rfl, B7⟩
    · exact absurd (HF.out.noNeg HS.out AI (by omega) (by unfold far; omega) hxn) hN
  · have HR := Lib.hid RF
    clear RF
    go_wp2_with fail
    refine (refAny_any w5 n k x _ S R5 AI hxn (by omega) (by omega)).mono ?_
    rintro e w6 ⟨b6, ⟨be, d2, t2, rfl, Oe, hbe, SE, ht2, FE⟩ | ⟨rfl, hN⟩⟩
    · exact absurd (FE.noNeg SE AI (by omega) (by unfold far; omega) hxn) HR.out.bad
    · have B6 := B5.trans (b6.mono B5.size)
      have R6 := R5.below b6 (Nat.le_refl _)
      have OR6 := OR.below b6 (Nat.le_refl _)
      clear b6 R5 B5 OR hN
      go_wp2_with fail
      refine (refRound_yes w6 n k x br m m _ S r R6 OR6 HR.out AI hxn (by omega) (by omega)).mono ?_
      rintro e w7 ⟨rfl, b7⟩
      have B7 := B6.trans (b7.mono B6.size)
      clear b7 B6 OR6 R6
      go_wp2_with fail
      go_ret
      exact ⟨rfl, B7⟩
end Go.Proofs.Ytchlccendggfpaa.Ro
