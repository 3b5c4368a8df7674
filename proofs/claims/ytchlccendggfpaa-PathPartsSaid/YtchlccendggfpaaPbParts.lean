/- Walks: the law PathParts. -/
import Derived.Test.YtchlccendggfpaaPaKn
import Derived.Test.YtchlccendggfpaaPaFr
namespace Go.Proofs.Ytchlccendggfpaa.Ro
open Go.RowKit Go.Proofs Go.Maps
set_option linter.unusedVariables false
set_option linter.unusedSimpArgs false

set_option maxRecDepth 100000 in
set_option maxHeartbeats 12800000 in
theorem parts_walk (size : Int) (A : Option Addr) (len cap : Nat) (zs : List Int) (s : Int) (t : Int) (u : Int) (w : World) (hsize : Small size) (hV : Rd w (.slice A len cap) len (fun i => zs.getD i 0)) (hz : ∀ i, i < len → Small (zs.getD i 0)) (hl : len ≤ 9223372036854775807) (hs : Small s) (ht : Small t) (hu : Small u) :
    Calls Try.prog 8 #[.int .i64 size, .slice A len cap, .int .i64 s, .int .i64 t, .int .i64 u] w fun e w' => e = .returned (.bool true) ∧ Below w.heap.size w w' := by
  go_enter Try.func8, Try.ntmps8
  go_wp2_with fail
  refine (known6_ok _).mono ?_
  rintro e w1 ⟨rfl, B1⟩
  go_wp2_with fail
  refine (within6_any w1 size 12 hsize (by omega) (by omega)).mono ?_
  rintro e w2 ⟨rfl, rfl⟩
  obtain ⟨n0, hn0, hn1⟩ := within_nat (d := size) (m := 12) (by omega)
  rw [hn0]
  obtain ⟨n, hnn⟩ : ∃ n : Nat, n = n0 + 1 := ⟨_, rfl⟩
  have en : 1 + (n0 : Int) = (n : Int) := by omega
  have n1 : 1 ≤ n := by omega
  have n2 : n ≤ 12 := by omega
  clear hn0 hn1 hnn hsize
  go_wp2_with fail
  clear en
  refine (arcs_any w1 n len 0 _ _ (hV.below B1 (Nat.le_refl _)) hz hl (by omega) (by omega) (by omega) (by omega)).mono ?_
  rintro e w3 ⟨V, rfl, OA, hVo, b3⟩
  have B3 := B1.trans (b3.mono B1.size)
  have AI := arcsOf_in (k := min len 50) (n := n) (x := fun i => zs.getD i 0) (low := 0) (by omega) (by omega) (by omega)
  have kk : min len 50 ≤ 50 := Nat.min_le_right _ _
  have RV := OA.rdA
  have HVO := Lib.hid hVo
  obtain ⟨VA, vc, rfl, -⟩ := id RV
  clear b3 B1 hVo
  generalize hkk : min len 50 = k at *
  generalize hS : arcsOf n (fun i => zs.getD i 0) 0 = S at *
  have HL := Lib.hid (show ∀ i, i < k → 0 ≤ S.ln i by rw [← hS]; exact arcsOf_low)
  clear hS hkk hz hV OA
  go_wp2_with fail
  refine (within6_any w3 s (n : Int) hs (by omega) (by omega)).mono ?_
  rintro e w4 ⟨rfl, rfl⟩
  obtain ⟨x, hx0, hx1⟩ := within_nat (d := s) (m := (n : Int)) (by omega)
  rw [hx0]
  have hxn : x < n := by omega
  clear hx0 hx1 hs
  go_wp2_with fail
  refine (within6_any w3 t (n : Int) ht (by omega) (by omega)).mono ?_
  rintro e w4 ⟨rfl, rfl⟩
  obtain ⟨y, hy0, hy1⟩ := within_nat (d := t) (m := (n : Int)) (by omega)
  rw [hy0]
  have hyn : y < n := by omega
  clear hy0 hy1 ht
  go_wp2_with fail
  refine (within6_any w3 u (n : Int) hu (by omega) (by omega)).mono ?_
  rintro e w4 ⟨rfl, rfl⟩
  obtain ⟨z, hz0, hz1⟩ := within_nat (d := u) (m := (n : Int)) (by omega)
  rw [hz0]
  have hzn : z < n := by omega
  clear hz0 hz1 hu
  go_wp2_with fail
  refine (from_any w3 n k x _ S RV AI HL.out hxn (by omega) (by omega)).mono ?_
  rintro e w5 ⟨ba, ca, a, ta, rfl, Oa, hba, SA, hta, FA, b5⟩
  have B5 := B3.trans (b5.mono B3.size)
  have R5 := RV.below b5 (Nat.le_refl _)
  have HSA := Lib.hid SA
  have HFA := Lib.hid FA
  clear b5 RV B3 SA FA
  go_wp2_with fail
  refine (from_any w5 n k y _ S R5 AI HL.out hyn (by omega) (by omega)).mono ?_
  rintro e w6 ⟨bb, cb, b, tb, rfl, Ob, hbb, SB, htb, FB, b6⟩
  have B6 := B5.trans (b6.mono B5.size)
  have R6 := R5.below b6 (Nat.le_refl _)
  have Oa6 := Oa.below b6 (Nat.le_refl _)
  have tri := fun h1 h2 => HFA.out.tri HSA.out SB AI (by omega) (by unfold far; omega) hyn hzn h1 h2
  have say := HSA.out.size AI (by omega) hyn
  have sbz := SB.size AI (by omega) hzn
  have ayz : a y ≠ far → b z ≠ far → a z ≤ a y + b z := tri
  clear b6 R5 B5 SB FB Oa tri
  have en : ((n : Int) != (n : Int)) = false := by simp
  have ix : (x : Int) < (n : Int) := by omega
  have iy : (y : Int) < (n : Int) := by omega
  have iz : (z : Int) < (n : Int) := by omega
  have c1 := Oa6.cell hyn
  have c2 := Ob.cell hzn
  have c3 := Oa6.cell hzn
  have MAIN : ∀ w7, Below w6.heap.size w6 w7 → RdA w7 (.slice VA k vc) k S ∧ Ow w7 (.slice (some ⟨ba, 0, none⟩) n ca) n a ∧ Below w.heap.size w w7 := fun w7 b7 => ⟨R6.below b7 (Nat.le_refl _), Oa6.below b7 (Nat.le_refl _), B6.trans (b7.mono B6.size)⟩
  have HM := Lib.hid MAIN
  clear MAIN R6 Oa6 Ob B6
  go_upto_region 9 with fail
  go_cut [85] (fun s85 wx => s85 = .bool false ∧ Below w6.heap.size w6 wx)
  case first =>
    have bx : ∀ q, Below w6.heap.size w6 (w6.drewN q) := fun q => ⟨rfl, rfl, rfl, Nat.le_refl _, fun _ _ => rfl⟩
    by_cases h1 : a y = far
    · have q1 : (a y != 1152921504606846976) = false := by simp; exact h1
      clear h1 ayz say sbz
      go_big_quiet (fail)
      go_wp2_with fail
      go_meet
      exact ⟨rfl, bx _⟩
    · have q1 : (a y != 1152921504606846976) = true := by simp; exact h1
      by_cases h2 : b z = far
      · have q2 : (b z != 1152921504606846976) = false := by simp; exact h2
        clear h1 h2 ayz say sbz
        go_big_quiet (fail)
        go_wp2_with fail
        go_meet
        exact ⟨rfl, bx _⟩
      · have q2 : (b z != 1152921504606846976) = true := by simp; exact h2
        have h3 := ayz h1 h2
        have s1 := say h1
        have s2 := sbz h2
        have g1 : -190000000000000 ≤ a y + b z := by omega
        have g2 : a y + b z ≤ 190000000000000 := by omega
        have q3 : decide (a y + b z < a z) = false := by simp; omega
        have q4 : ¬ (a z > a y + b z) := by omega
        clear h1 h2 ayz say sbz s1 s2 h3
        go_big_quiet (fail)
        go_wp2_with fail
        go_meet
        exact ⟨rfl, bx _⟩
  case rest =>
    clear c1 c2 c3
    obtain ⟨rfl, bx⟩ := hcut
    obtain ⟨R7, Oa7, B7⟩ := HM.out _ bx
    clear HM ayz say sbz
    go_wp2_with fail
    refine (way_any _ n k x y _ S R7 AI HL.out hxn hyn (by omega) (by omega)).mono ?_
    rintro e w8 ⟨b8, H8⟩
    have B8 := B7.trans (b8.mono B7.size)
    have R8 := R7.below b8 (Nat.le_refl _)
    have Oa8 := Oa7.below b8 (Nat.le_refl _)
    clear b8 R7 B7 Oa7 bx
    rcases H8 with ⟨hno, rfl⟩ | ⟨D, F, W, m, p, r, BS, hf, rfl, TR, hp, OW⟩
    · clear hno
      go_wp2_with fail
      go_loop [20, 21, 22] (fun u20 u21 u22 => u20 = .int .i64 (x : Int) ∧ u21 = .int .i64 0 ∧ u22 = .int .i64 0) (fun _ _ _ => 0)
      case atStart => exact ⟨rfl, rfl, rfl⟩
      case round =>
        obtain ⟨rfl, rfl, rfl⟩ := hrel
        go_wp2_with fail
        go_ret
        exact ⟨rfl, B8⟩
    · have FR := Lib.hid (TR.front BS hf HFA.out HSA.out AI (by omega) (by unfold far; omega) hxn hyn)
      have HT := Lib.hid TR
      have hm : m ≤ 100 := by
        have h1 := (TR.sum m (Nat.le_refl _)).2
        rw [hp] at h1
        have h2 := (BS.here hyn HL.out).2
        have h3 := BS.small AI hyn HL.out hxn hf
        omega
      have RW8 := OW.rd
      clear OW BS TR hp hf
      obtain ⟨AW, cw, rfl, rw8⟩ := id RW8
      have HW8 := Lib.hid rw8
      clear rw8 RW8
      go_wp2_with fail
      go_loop [20, 21, 22] (fun u20 u21 u22 => ∃ i q : Nat, u20 = .int .i64 (q : Int) ∧ u21 = .int .i64 (sumN (fun j => S.ln (r j)) i) ∧ u22 = .int .i64 (i : Int) ∧ i ≤ m ∧ Hid (q = p i) ∧ q < n) (fun _ _ u22 => m - (intOf u22).toNat)
      case atStart => exact ⟨0, x, rfl, rfl, rfl, Nat.zero_le _, Lib.hid HT.out.here.symm, hxn⟩
      case round =>
        obtain ⟨i, q, rfl, rfl, rfl, hi, HA, hq⟩ := hrel
        have sb : -(i * 4294967296 : Int) ≤ sumN (fun j => S.ln (r j)) i ∧ sumN (fun j => S.ln (r j)) i ≤ (i * 4294967296 : Int) := (HT.out.way i hi).bound AI
        by_cases hlt : i < m
        · have d1 : (i : Int) < (m : Int) := by omega
          have pk := HT.out.pick i hlt
          have hr := pk.lt
          obtain ⟨y0, rfl, hy0, hcy⟩ := HW8.out (by omega)
          have cr := hcy i hlt
          obtain ⟨vb, cap', ev, hvb, z1, z2, z3⟩ := R8.arc hr
          injection ev with e1 e2 e3
          subst e1 e3
          have ca := Oa8.cell hq
          have f0 : (a q != sumN (fun j => S.ln (r j)) i) = false := by have h1 := (FR.out i hi).1; rw [← HA.out] at h1; simp; exact h1
          have f2 : decide (k ≤ r i) = false := by simp; omega
          have f3 : ((r i : Nat) : Int) < (k : Int) := by omega
          have iq : (q : Int) < (n : Int) := by omega
          have l1 := AI.lo _ hr
          have l2 := AI.hi _ hr
          have hn2 := AI.th _ hr
          have HA2 : Hid (S.th (r i) = p (i + 1)) := Lib.hid (HT.out.next i hlt).symm
          have SM : Hid (sumN (fun j => S.ln (r j)) (i + 1) = sumN (fun j => S.ln (r j)) i + S.ln (r i)) := Lib.hid rfl
          clear pk hcy R8
          generalize sumN (fun j => S.ln (r j)) i = sm at *
          go_wp2_with fail
          go_round
          case rel => exact ⟨i + 1, S.th (r i), rfl, by rw [SM.out], by simp, by omega, HA2, hn2⟩
          case measure => simp [intOf]; omega
        · have d1 : ¬ ((i : Int) < (m : Int)) := by omega
          have d2 : decide (i < m) = false := by simp; omega
          go_wp2_with fail
          go_ret
          exact ⟨rfl, B8⟩
end Go.Proofs.Ytchlccendggfpaa.Ro
