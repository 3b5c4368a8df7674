/- Walks: the law PathWays. -/
import Derived.Test.YtchlccendggfpaaPaKn
namespace Go.Proofs.Ytchlccendggfpaa.Ro
open Go.RowKit Go.Proofs Go.Maps
set_option linter.unusedVariables false
set_option linter.unusedSimpArgs false

set_option maxRecDepth 100000 in
set_option maxHeartbeats 12800000 in
theorem ways_walk (size : Int) (A : Option Addr) (len cap : Nat) (zs : List Int) (s : Int) (t : Int) (w : World) (hsize : Small size) (hV : Rd w (.slice A len cap) len (fun i => zs.getD i 0)) (hz : ∀ i, i < len → Small (zs.getD i 0)) (hl : len ≤ 9223372036854775807) (hs : Small s) (ht : Small t) :
    Calls Try.prog 6 #[.int .i64 size, .slice A len cap, .int .i64 s, .int .i64 t] w fun e w' => e = .returned (.bool true) ∧ Below w.heap.size w w' := by
  go_enter Try.func6, Try.ntmps6
  go_wp2_with fail
  refine (known6_ok _).mono ?_
  rintro e w1 ⟨rfl, B1⟩
  go_wp2_with fail
  refine (within6_any w1 size 14 hsize (by omega) (by omega)).mono ?_
  rintro e w2 ⟨rfl, rfl⟩
  obtain ⟨n0, hn0, hn1⟩ := within_nat (d := size) (m := 14) (by omega)
  rw [hn0]
  obtain ⟨n, hnn⟩ : ∃ n : Nat, n = n0 + 1 := ⟨_, rfl⟩
  have en : 1 + (n0 : Int) = (n : Int) := by omega
  have n1 : 1 ≤ n := by omega
  have n2 : n ≤ 14 := by omega
  clear hn0 hn1 hnn hsize
  go_wp2_with fail
  clear en
  refine (arcs_any w1 n len 0 _ _ (hV.below B1 (Nat.le_refl _)) hz hl (by omega) (by omega) (by omega) (by omega)).mono ?_
  rintro e w3 ⟨V, rfl, OA, hVo, b3⟩
  have B3 := B1.trans (b3.mono B1.size)
  have AI := arcsOf_in (k := min len 50) (n := n) (x := fun i => zs.getD i 0) (low := 0) (by omega) (by omega) (by omega)
  have kk : min len 50 ≤ 50 := Nat.min_le_right _ _
  have RV := OA.rdA
  have HVO := Lib.hid hVo
  obtain ⟨VA, vc, rfl, -⟩ := id RV
  clear b3 B1 hVo
  generalize hkk : min len 50 = k at *
  generalize hS : arcsOf n (fun i => zs.getD i 0) 0 = S at *
  have HL := Lib.hid (show ∀ i, i < k → 0 ≤ S.ln i by rw [← hS]; exact arcsOf_low)
  clear hS hkk hz hV OA
  go_wp2_with fail
  refine (within6_any w3 s (n : Int) hs (by omega) (by omega)).mono ?_
  rintro e w4 ⟨rfl, rfl⟩
  obtain ⟨x, hx0, hx1⟩ := within_nat (d := s) (m := (n : Int)) (by omega)
  rw [hx0]
  have hxn : x < n := by omega
  clear hx0 hx1 hs
  go_wp2_with fail
  refine (within6_any w3 t (n : Int) ht (by omega) (by omega)).mono ?_
  rintro e w4 ⟨rfl, rfl⟩
  obtain ⟨y, hy0, hy1⟩ := within_nat (d := t) (m := (n : Int)) (by omega)
  rw [hy0]
  have hyn : y < n := by omega
  clear hy0 hy1 ht
  go_wp2_with fail
  refine (way_any w3 n k x y _ S RV AI HL.out hxn hyn (by omega) (by omega)).mono ?_
  rintro e w5 ⟨b5, H5⟩
  have B5 := B3.trans (b5.mono B3.size)
  have R5 := RV.below b5 (Nat.le_refl _)
  clear b5 RV B3
  rcases H5 with ⟨hno, rfl⟩ | ⟨D, F, W, m, p, r, BS, hf, rfl, TR, hp, OW⟩
  · have HN := Lib.hid hno
    clear hno
    go_wp2_with fail
    refine (refWay_any w5 n k x y _ S R5 AI HL.out hxn hyn (by omega) (by omega)).mono ?_
    rintro e w6 ⟨b6, ⟨_, rfl⟩ | ⟨D, F, W, m, p, r, BS, hf, rfl, TR, hp, OW⟩⟩
    · have B6 := B5.trans (b6.mono B5.size)
      have R6 := R5.below b6 (Nat.le_refl _)
      clear b6 R5 B5
      go_wp2_with fail
      refine (ints6_any w6 _ _ 0 0 (fun _ => 0) (fun _ => 0) (by omega) (by omega) (Ow.nil w6 _).rd (Ow.nil w6 _).rd).mono ?_
      rintro e w7 ⟨rfl, b7⟩
      rw [show sameB 0 0 (fun _ => 0) (fun _ => 0) = true from sameB_true.mpr ⟨rfl, fun _ _ => rfl⟩]
      have B7 := B6.trans (b7.mono B6.size)
      have R7 := R6.below b7 (Nat.le_refl _)
      clear b7 B6 R6
      go_wp2_with fail
      refine (from_any w7 n k x _ S R7 AI HL.out hxn (by omega) (by omega)).mono ?_
      rintro e w8 ⟨bd, cd, d, t, rfl, Od, hbd, SD, ht, FX, b8⟩
      have B8 := B7.trans (b8.mono B7.size)
      have hd : d y = far := by
        rcases SD.each y hyn with q | ⟨m, _, w⟩
        · exact q
        · exact absurd w.back (HN.out _ _)
      have cy := Od.cell hyn
      rw [hd] at cy
      unfold far at cy
      have iy : (y : Int) < (n : Int) := by omega
      have en : ((n : Int) != (n : Int)) = false := by simp
      clear b8 R7 B7 SD FX hd ht hbd Od
      go_wp2_with fail
      go_loop [18, 19, 20] (fun u18 u19 u20 => u18 = .int .i64 0 ∧ u19 = .int .i64 (x : Int) ∧ u20 = .int .i64 0) (fun _ _ _ => 0)
      case atStart => exact ⟨rfl, rfl, rfl⟩
      case round =>
        obtain ⟨rfl, rfl, rfl⟩ := hrel
        go_wp2_with fail
        go_ret
        exact ⟨rfl, B8⟩
    · obtain ⟨_, _, w⟩ := BS.way x hxn hf
      exact absurd w (HN.out _ _)
  · have HB := Lib.hid (And.intro BS (And.intro hf (And.intro TR hp)))
    have RW := OW.rd
    clear OW BS TR hp hf
    go_wp2_with fail
    refine (refWay_any w5 n k x y _ S R5 AI HL.out hxn hyn (by omega) (by omega)).mono ?_
    rintro e w6 ⟨b6, ⟨hno, rfl⟩ | ⟨D2, F2, W2, m2, p2, r2, BS2, hf2, rfl, TR2, hp2, OW2⟩⟩
    · obtain ⟨_, _, w⟩ := HB.out.1.way x hxn HB.out.2.1
      exact absurd w (hno _ _)
    · obtain ⟨rfl, er⟩ := HB.out.2.2.1.one TR2 HB.out.2.2.2 hp2 AI hxn HB.out.1 BS2
      have B6 := B5.trans (b6.mono B5.size)
      have R6 := R5.below b6 (Nat.le_refl _)
      have RW6 := RW.below b6 (Nat.le_refl _)
      have RV6 := OW2.rd
      have hm : m ≤ 100 := by
        have h1 := (HB.out.2.2.1.sum m (Nat.le_refl _)).2
        rw [HB.out.2.2.2] at h1
        have h2 := (HB.out.1.here hyn HL.out).2
        have h3 := HB.out.1.small AI hyn HL.out hxn HB.out.2.1
        omega
      have es : sameB m m (fun j => (r j : Int)) (fun j => (r2 j : Int)) = true := sameB_true.mpr ⟨rfl, fun j hj => by rw [er j hj]⟩
      have HES := Lib.hid es
      clear b6 R5 B5 RW OW2 BS2 hf2 TR2 hp2 er es
      go_wp2_with fail
      refine (ints6_any w6 _ _ m m _ _ (by omega) (by omega) RW6 RV6).mono ?_
      rintro e w7 ⟨rfl, b7⟩
      rw [HES.out]
      have B7 := B6.trans (b7.mono B6.size)
      have R7 := R6.below b7 (Nat.le_refl _)
      have RW7 := RW6.below b7 (Nat.le_refl _)
      clear b7 B6 R6 RW6 RV6 HES
      go_wp2_with fail
      refine (from_any w7 n k x _ S R7 AI HL.out hxn (by omega) (by omega)).mono ?_
      rintro e w8 ⟨bd, cd, d, t, rfl, Od, hbd, SD, ht, FX, b8⟩
      have B8 := B7.trans (b8.mono B7.size)
      have R8 := R7.below b8 (Nat.le_refl _)
      have RW8 := RW7.below b8 (Nat.le_refl _)
      have dy : D x = d y := HB.out.1.from FX SD AI (by omega) (by unfold far; omega) hxn hyn
      have HD : Hid (d y ≠ far ∧ sumN (fun j => S.ln (r j)) m = d y) := Lib.hid (by
        have h1 := (HB.out.2.2.1.sum m (Nat.le_refl _)).1
        rw [HB.out.2.2.2, (HB.out.1.here hyn HL.out).1] at h1
        exact ⟨by rw [← dy]; exact HB.out.2.1, by omega⟩)
      have cy := Od.cell hyn
      have iy : (y : Int) < (n : Int) := by omega
      have en : ((n : Int) != (n : Int)) = false := by simp
      clear b8 R7 B7 SD FX ht hbd Od dy RW7
      obtain ⟨AW, cw, rfl, rw8⟩ := id RW8
      have HW8 := Lib.hid rw8
      clear rw8 RW8
      go_wp2_with fail
      go_loop [18, 19, 20] (fun u18 u19 u20 => ∃ i a : Nat, u18 = .int .i64 (sumN (fun j => S.ln (r j)) i) ∧ u19 = .int .i64 (a : Int) ∧ u20 = .int .i64 (i : Int) ∧ i ≤ m ∧ Hid (a = p i)) (fun _ _ u20 => m - (intOf u20).toNat)
      case atStart => exact ⟨0, x, rfl, rfl, rfl, Nat.zero_le _, Lib.hid HB.out.2.2.1.here.symm⟩
      case round =>
        obtain ⟨i, a, rfl, rfl, rfl, hi, HA⟩ := hrel
        have sb : -(i * 4294967296 : Int) ≤ sumN (fun j => S.ln (r j)) i ∧ sumN (fun j => S.ln (r j)) i ≤ (i * 4294967296 : Int) := (HB.out.2.2.1.way i hi).bound AI
        by_cases hlt : i < m
        · have d1 : (i : Int) < (m : Int) := by omega
          have pk := HB.out.2.2.1.pick i hlt
          have hr := pk.lt
          obtain ⟨y0, rfl, hy0, hcy⟩ := HW8.out (by omega)
          have cr := hcy i hlt
          obtain ⟨vb, cap', ev, hvb, z1, z2, z3⟩ := R8.arc hr
          injection ev with e1 e2 e3
          subst e1 e3
          have f1 : (((S.fr (r i) : Nat) : Int) != (a : Int)) = false := by have h1 := pk.fr; have h2 := HA.out; simp; omega
          have f2 : decide (k ≤ r i) = false := by simp; omega
          have f3 : ((r i : Nat) : Int) < (k : Int) := by omega
          have l1 := AI.lo _ hr
          have l2 := AI.hi _ hr
          have HA2 : Hid (S.th (r i) = p (i + 1)) := Lib.hid (HB.out.2.2.1.next i hlt).symm
          have SM : Hid (sumN (fun j => S.ln (r j)) (i + 1) = sumN (fun j => S.ln (r j)) i + S.ln (r i)) := Lib.hid rfl
          clear pk hcy R8
          generalize sumN (fun j => S.ln (r j)) i = sm at *
          go_wp2_with fail
          go_round
          case rel => exact ⟨i + 1, S.th (r i), by rw [SM.out], rfl, by simp, by omega, HA2⟩
          case measure => simp [intOf]; omega
        · have d1 : ¬ ((i : Int) < (m : Int)) := by omega
          obtain rfl : m = i := by omega
          have q1 : (d y != 1152921504606846976) = true := by have := HD.out.1; simp; exact this
          have q2 : (((a : Nat) : Int) == (y : Int)) = true := by have h1 := HA.out; have h2 := HB.out.2.2.2; simp; omega
          have q3 : (sumN (fun j => S.ln (r j)) m == d y) = true := by simp; exact HD.out.2
          go_wp2_with fail
          go_ret
          exact ⟨rfl, B8⟩
end Go.Proofs.Ytchlccendggfpaa.Ro
