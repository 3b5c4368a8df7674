/- Walks: whether a flow is one, of the document's chapter 13. -/
import Derived.Test.YtcdlnohnkdalbaaMxRxM
namespace Go.Proofs.Ytcdlnohnkdalbaa.Ro
open Go.RowKit Go.Proofs Go.Maps
set_option linter.unusedVariables false
set_option maxRecDepth 100000
set_option linter.unusedSimpArgs false

set_option maxHeartbeats 6400000 in
theorem ends13_ok (w : World) (N : Nat) (T X C : Value) (m s z : Nat) (t x c : Nat → Int) (hT : Rd w T m t) (hX : Rd w X m x) (hC : Rd w C m c) (hs : s < N) (hz : z < N) (hne : s ≠ z) :
    Calls Try.prog 38 #[.agg #[.int .i64 (N : Int), T, X, C], .int .i64 (s : Int), .int .i64 (z : Int)] w fun e w' => e = .returned (.int .i64 0) ∧ Below w.heap.size w w' := by
  go_enter Try.func38, Try.ntmps38
  go_upto_region 1 with fail
  obtain ⟨w1, hw1, N1, B1⟩ := net_enter (N : Int) hT hX hC
  rw [hw1]
  clear hw1
  have c0 := N1.c0
  have d1 : decide ((s : Int) < 0) = false := by simp
  have d2 : decide ((z : Int) < 0) = false := by simp
  have d3 : decide ((N : Int) ≤ (s : Int)) = false := by simp; omega
  have d4 : decide ((N : Int) ≤ (z : Int)) = false := by simp; omega
  have d5 : ((s : Int) == (z : Int)) = false := by simp; omega
  have d6 : ¬ (N ≤ s) := by omega
  have d7 : ¬ (N ≤ z) := by omega
  clear N1 hT hX hC
  go_upto_region 5 with fail
  go_wp2_with fail
  go_ret
  exact ⟨rfl, B1⟩

set_option maxHeartbeats 6400000 in
theorem flow13_ok (w : World) (N : Nat) (T X C V : Value) (m s z : Nat) (t x c f : Nat → Int) (hT : Rd w T m t) (hX : Rd w X m x) (hC : Rd w C m c) (hV : Rd w V m f) (hs : s < N) (hz : z < N) (hne : s ≠ z) (hN : N ≤ 60) (hm : m ≤ 240) (ev : m % 2 = 0) (hcap : ∀ d, d < m → 0 ≤ c d ∧ c d ≤ 2147483648) {W : Int} (F : Flows m t f (s : Int) (z : Int) W) (hf : ∀ d, d < m → f d ≤ c d) :
    Calls Try.prog 23 #[.agg #[.int .i64 (N : Int), T, X, C], .int .i64 (s : Int), .int .i64 (z : Int), V] w fun e w' => e = .returned (.int .i64 0) ∧ Below w.heap.size w w' := by
  obtain ⟨TA, tp, rfl, -⟩ := id hT
  obtain ⟨XA, xp, rfl, -⟩ := id hX
  obtain ⟨CA, cp, rfl, -⟩ := id hC
  obtain ⟨VA, vp, rfl, -⟩ := id hV
  have HB := Lib.hid (fun d (hd : d < m) => flow_bound F ev hf hcap hd)
  have HF := Lib.hid F
  have HL := Lib.hid hf
  have HCP := Lib.hid hcap
  clear F hf hcap
  go_enter Try.func23, Try.ntmps23
  go_wp2_with fail
  obtain ⟨w1, hw1, N1, B1⟩ := net_enter (N : Int) hT hX hC
  have RV1 := hV.below B1 (Nat.le_refl _)
  rw [hw1]
  clear hw1 hT hX hC hV
  have c0 := N1.c0
  have c1 := N1.c1
  have c2 := N1.c2
  have c3 := N1.c3
  go_wp2_with fail
  refine (ends13_ok w1 N _ _ _ m s z t x c N1.rt N1.rx N1.rc hs hz hne).mono ?_
  rintro e w2 ⟨rfl, b2⟩
  replace N1 := N1.below b2 (Nat.le_refl _)
  replace RV1 := RV1.below b2 (Nat.le_refl _)
  replace B1 := B1.trans (b2.mono B1.size)
  clear b2 c0 c1 c2 c3
  have c1 := N1.c1
  have q1 : ((m : Int) != (m : Int)) = false := by simp
  have E0 := Below.refl w2.heap.size w2
  have h12 := B1.size
  go_wp2_with fail
  go_loopw [10] (fun u10 wr => ∃ j : Nat, u10 = .int .i64 (j : Int) ∧ j ≤ m ∧ Below w2.heap.size w2 wr) (fun u10 _ => m - (intOf u10).toNat)
  case atStart => exact ⟨0, rfl, Nat.zero_le _, E0⟩
  case round =>
    clear E0 c1 q1
    obtain ⟨j, rfl, hj, E⟩ := hrel
    by_cases hlt : j < m
    · have d1 : (j : Int) < (m : Int) := by omega
      have hoth := oth_lt hlt ev
      have d2 : (oth j : Int) < (m : Int) := by omega
      have xo := xor_one j (by omega)
      have RV := RV1.below E (Nat.le_refl _)
      obtain ⟨A3, q3, e3, rv'⟩ := id RV
      injection e3 with l1 l2 l3
      obtain ⟨yv, l4, l5, l6⟩ := rv' (by omega)
      obtain rfl : VA = some yv := l1.trans l4
      have y1 := l6 j hlt
      have y2 := l6 _ hoth
      rw [HF.out.anti j hlt] at y2
      obtain ⟨b1, b2⟩ := HB.out j hlt
      have HE := Lib.hid E
      clear l1 l2 l3 l4 l5 l6 rv' RV E
      generalize f j = P at *
      have k1 : (P != 0 - -P) = false := by simp
      have k2 : (P == -9223372036854775808) = false := by simp; omega
      have k3 : (-P == -9223372036854775808) = false := by simp; omega
      go_upto_region 9 with fail
      go_big_quiet (fail)
      go_wp2_with fail
      go_roundw
      case rel => exact ⟨j + 1, by simp, by omega, ⟨HE.out.os, HE.out.tape, HE.out.output, HE.out.size, HE.out.block⟩⟩
      case measure => simp [intOf]; omega
    · have d1 : ¬ ((j : Int) < (m : Int)) := by omega
      obtain ⟨wA, rfl⟩ : ∃ u : World, u = wr := ⟨_, rfl⟩
      go_wp2_with fail
      go_loopw [11] (fun u11 wr => ∃ j : Nat, u11 = .int .i64 (j : Int) ∧ j ≤ m ∧ Below w2.heap.size w2 wr) (fun u11 _ => m - (intOf u11).toNat)
      case atStart => exact ⟨0, rfl, Nat.zero_le _, E⟩
      case round =>
        clear E
        obtain ⟨i, rfl, hi, E⟩ := hrel
        by_cases hlt2 : i < m
        · have d2 : (i : Int) < (m : Int) := by omega
          have NW := N1.below E (Nat.le_refl _)
          have RV := RV1.below E (Nat.le_refl _)
          obtain ⟨A3, q3, e3, rv'⟩ := id RV
          injection e3 with l1 l2 l3
          obtain ⟨yv, l4, l5, l6⟩ := rv' (by omega)
          obtain rfl : VA = some yv := l1.trans l4
          have y1 := l6 i hlt2
          obtain ⟨A2, q2, e2', rc'⟩ := NW.rc
          injection e2' with k1 k2 k3
          obtain ⟨yc, k4, k5, k6⟩ := rc' (by omega)
          obtain rfl : CA = some yc := k1.trans k4
          have y2 := k6 i hlt2
          have c3 := NW.c3
          have hle := HL.out i hlt2
          have HE := Lib.hid E
          clear l1 l2 l3 l4 l5 l6 rv' RV E k1 k2 k3 k4 k5 k6 rc' NW
          have k5 : decide (c i < f i) = false := by simp; omega
          generalize f i = P at *
          generalize c i = Q at *
          go_upto_region 14 with fail
          go_big_quiet (fail)
          go_wp2_with fail
          go_roundw
          case rel => exact ⟨i + 1, by simp, by omega, ⟨HE.out.os, HE.out.tape, HE.out.output, HE.out.size, HE.out.block⟩⟩
          case measure => simp [intOf]; omega
        · have d2 : ¬ ((i : Int) < (m : Int)) := by omega
          obtain ⟨wB, rfl⟩ : ∃ u : World, u = wr := ⟨_, rfl⟩
          go_wp2_with fail
          go_loopw [12] (fun u12 wr => ∃ j : Nat, u12 = .int .i64 (j : Int) ∧ j ≤ N ∧ Below w2.heap.size w2 wr) (fun u12 _ => N - (intOf u12).toNat)
          case atStart => exact ⟨0, rfl, Nat.zero_le _, E⟩
          case round =>
            clear E
            obtain ⟨v, rfl, hv, E⟩ := hrel
            have NW := N1.below E (Nat.le_refl _)
            have c0 := NW.c0
            by_cases hlt3 : v < N
            · have d3 : (v : Int) < (N : Int) := by omega
              by_cases q1 : v = s
              · have q2 : ((v : Int) != (s : Int)) = false := by simp; omega
                clear NW
                go_wp2_with fail
                go_roundw
                case rel => exact ⟨v + 1, by simp; omega, by omega, E⟩
                case measure => simp [intOf]; omega
              · have q2 : ((v : Int) != (s : Int)) = true := by simp; omega
                by_cases q3 : v = z
                · have q4 : ((v : Int) != (z : Int)) = false := by simp; omega
                  clear NW
                  go_wp2_with fail
                  go_roundw
                  case rel => exact ⟨v + 1, by simp; omega, by omega, E⟩
                  case measure => simp [intOf]; omega
                · have q4 : ((v : Int) != (z : Int)) = true := by simp; omega
                  have c1 := NW.c1
                  have c2 := NW.c2
                  have c3 := NW.c3
                  have RV := RV1.below E (Nat.le_refl _)
                  have hwr := E.size
                  go_wp2_with fail
                  refine (value_any wr (N : Int) _ _ _ _ m t x c f NW.rt NW.rx NW.rc RV (v : Int) (fun d hd => by have := HB.out d hd; omega) (by omega)).mono ?_
                  rintro e w4 ⟨rfl, b4⟩
                  have hv0 : val m t f (v : Int) = 0 := by rw [HF.out.kept (v : Int), if_neg (by omega), if_neg (by omega)]; rfl
                  rw [hv0]
                  have E4 := E.trans (b4.mono hwr)
                  clear NW RV c1 c2 c3 b4 E
                  go_wp2_with fail
                  go_roundw
                  case rel => exact ⟨v + 1, by simp, by omega, E4⟩
                  case measure => simp [intOf]; omega
            · have d3 : ¬ ((v : Int) < (N : Int)) := by omega
              clear NW
              go_wp2_with fail
              go_ret
              exact ⟨rfl, B1.trans (E.mono h12)⟩
end Go.Proofs.Ytcdlnohnkdalbaa.Ro
