/- Walks: slices.Equal of whole numbers; Right, of the program's chapter 6. -/
import Derived.Test.YtchlccendggfpaaPaN
import Derived.Test.YtchlccendggfpaaPaQ
namespace Go.Proofs.Ytchlccendggfpaa.Ro
open Go.RowKit Go.Proofs
set_option linter.unusedVariables false
set_option linter.unusedSimpArgs false

theorem sameB_comm (n m : Nat) (x y : Nat → Int) : sameB n m x y = sameB m n y x := by
  rw [Bool.eq_iff_iff, sameB_true, sameB_true]
  constructor
  · rintro ⟨e, h⟩; exact ⟨e.symm, fun j hj => (h j (by omega)).symm⟩
  · rintro ⟨e, h⟩; exact ⟨e.symm, fun j hj => (h j (by omega)).symm⟩

set_option maxRecDepth 100000 in
set_option maxHeartbeats 6400000 in
theorem equal_any (w : World) (U V : Value) (n m : Nat) (x y : Nat → Int) (hn : n ≤ 1000) (hm : m ≤ 1000) (hU : Rd w U n x) (hV : Rd w V m y) :
    Calls Try.prog 32 #[U, V] w fun e w' => e = .returned (.bool (sameB n m x y)) ∧ Below w.heap.size w w' := by
  obtain ⟨A1, cap1, rfl, r1⟩ := hU
  obtain ⟨A2, cap2, rfl, r2⟩ := hV
  have R1 := Lib.hid r1
  have R2 := Lib.hid r2
  clear r1 r2
  go_enter Try.func32, Try.ntmps32
  by_cases hnm : n = m
  · subst hnm
    have f0 : ((n : Int) != (n : Int)) = false := by simp
    go_wp2_with fail
    go_loopw [13] (fun u wr => ∃ j : Nat, u = .int .i64 (j : Int) ∧ j ≤ n ∧ Hid (∀ i, i < j → x i = y i) ∧ Below w.heap.size w wr) (fun u _ => n - (intOf u).toNat)
    case atStart => exact ⟨0, rfl, Nat.zero_le _, Lib.hid (fun i hi => absurd hi (Nat.not_lt_zero i)), Below.refl _ _⟩
    case round =>
      obtain ⟨j, rfl, hj, HE, B⟩ := hrel
      by_cases hlt : j < n
      · have d1 : (j : Int) < (n : Int) := by omega
        obtain ⟨y1, rfl, hy1, hc1⟩ := R1.out (by omega)
        obtain ⟨y2, rfl, hy2, hc2⟩ := R2.out (by omega)
        have c1 : wr.cell? (y1.add j) = some (.int .i64 (x j)) := (B.cell (by rw [block_add]; exact hy1)).trans (hc1 j hlt)
        have c2 : wr.cell? (y2.add j) = some (.int .i64 (y j)) := (B.cell (by rw [block_add]; exact hy2)).trans (hc2 j hlt)
        clear hc1 hc2 R1 R2
        go_upto_region 6 with fail
        by_cases he : x j = y j
        · have f1 : (x j != y j) = false := by simp [he]
          have HE2 : Hid (∀ i, i < j + 1 → x i = y i) := Lib.hid fun i hi => by
            rcases Nat.lt_or_ge i j with q | q
            · exact HE.out i q
            · rw [show i = j by omega]; exact he
          clear he
          go_big_quiet (fail)
          go_wp2_with fail
          go_roundw
          case rel => exact ⟨j + 1, by simp, by omega, HE2, ⟨B.os, B.tape, B.output, B.size, B.block⟩⟩
          case measure => simp [intOf]; omega
        · have f1 : (x j != y j) = true := by simp [he]
          have HO : Hid (sameB n n x y = false) := Lib.hid (sameB_no fun q => he (q.2 j hlt))
          clear he
          go_big_quiet (fail)
          go_wp2_with fail
          go_ret
          refine ⟨?_, ⟨B.os, B.tape, B.output, B.size, B.block⟩⟩
          rw [HO.out]; rfl
      · have d1 : ¬ ((j : Int) < (n : Int)) := by omega
        have HO : Hid (sameB n n x y = true) := Lib.hid (sameB_true.mpr ⟨rfl, fun i hi => HE.out i (by omega)⟩)
        go_wp2
        go_ret
        refine ⟨?_, B⟩
        rw [HO.out]; rfl
  · have f0 : ((n : Int) != (m : Int)) = true := by simp; omega
    have HO : Hid (sameB n m x y = false) := Lib.hid (sameB_no fun q => hnm q.1)
    clear hnm
    go_wp2_with fail
    go_ret
    refine ⟨?_, Below.refl _ _⟩
    rw [HO.out]; rfl

set_option maxRecDepth 100000 in
set_option maxHeartbeats 6400000 in
theorem right_any (w : World) (n k s m : Nat) (V U : Value) (S : ArcsF) (y : Nat → Int) (hV : RdA w V k S) (hU : Rd w U m y) (A : ArcsIn S k n 4294967296) (hs : s < n) (hn : n ≤ 100) (hk : k ≤ 200) (hm : m ≤ 1000) :
    Calls Try.prog 19 #[.int .i64 (n : Int), V, .int .i64 (s : Int), U] w fun e w' => Below w.heap.size w w' ∧
      ((∃ (d : Nat → Int) (t : Nat), Sound S k s n t d ∧ t ≤ 20200 ∧ Fix S k d ∧ e = .returned (.bool (sameB n m d y))) ∨ (¬ NoNeg S k s ∧ e = .returned (.bool false))) := by
  obtain ⟨VA, vc, e0, rv⟩ := id hV
  subst e0
  obtain ⟨UA, uc, e1, ru⟩ := id hU
  subst e1
  clear rv ru
  go_enter Try.func19, Try.ntmps19
  go_wp2_with fail
  refine (any_any _ n k s _ S hV A hs hn hk).mono ?_
  rintro e w1 ⟨B, ⟨b, c, d, t, rfl, O, hb, SD, ht, FX⟩ | ⟨b, q, r, rfl, O, hb, RF⟩⟩
  · have U1 := hU.below B (Nat.le_refl _)
    have D1 := O.rd
    have HS := Lib.hid (And.intro SD FX)
    clear SD FX O
    go_wp2_with fail
    refine (equal_any _ _ _ m n y d hm (by omega) U1 D1).mono ?_
    rintro e w2 ⟨rfl, B2⟩
    have B3 := B.trans (B2.mono B.size)
    rw [sameB_comm]
    generalize hsb : sameB n m d y = sb at *
    have HSB := Lib.hid hsb
    clear hsb
    go_wp2
    go_ret
    exact ⟨B3, .inl ⟨d, t, HS.out.1, ht, HS.out.2, by rw [HSB.out]; rfl⟩⟩
  · have HN := Lib.hid RF.bad
    clear RF
    go_wp2_with fail
    go_ret
    exact ⟨B, .inr ⟨HN.out, rfl⟩⟩
end Go.Proofs.Ytchlccendggfpaa.Ro
