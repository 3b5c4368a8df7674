/- Walks: the law PathRounds. -/
import Derived.Test.YtchlccendggfpaaPaKn
import Derived.Test.YtchlccendggfpaaPaRn
import Derived.Test.YtchlccendggfpaaPaAp
namespace Go.Proofs.Ytchlccendggfpaa.Ro
open Go.RowKit Go.Proofs Go.Maps
set_option linter.unusedVariables false
set_option linter.unusedSimpArgs false

set_option maxRecDepth 100000 in
set_option maxHeartbeats 12800000 in
theorem rounds_walk (size : Int) (A : Option Addr) (len cap : Nat) (zs : List Int) (ky : Int) (low : Int) (w : World) (hsize : Small size) (hV : Rd w (.slice A len cap) len (fun i => zs.getD i 0)) (hz : ∀ i, i < len → Small (zs.getD i 0)) (hl : len ≤ 9223372036854775807) (hky : Small ky) (hlow : Small low) :
    Calls Try.prog 9 #[.int .i64 size, .slice A len cap, .int .i64 ky, .int .i64 low] w fun e w' => e = .returned (.bool true) ∧ Below w.heap.size w w' := by
  go_enter Try.func9, Try.ntmps9
  go_wp2_with fail
  refine (known6_ok _).mono ?_
  rintro e w1 ⟨rfl, B1⟩
  go_wp2_with fail
  refine (within6_any w1 size 9 hsize (by omega) (by omega)).mono ?_
  rintro e w2 ⟨rfl, rfl⟩
  obtain ⟨n0, hn0, hn1⟩ := within_nat (d := size) (m := 9) (by omega)
  rw [hn0]
  obtain ⟨n, hnn⟩ : ∃ n : Nat, n = n0 + 3 := ⟨_, rfl⟩
  obtain ⟨q, hqq⟩ : ∃ q : Nat, q = n0 + 1 := ⟨_, rfl⟩
  have en : 3 + (n0 : Int) = (n : Int) := by omega
  have eq2 : (n : Int) - 2 = (q : Int) := by omega
  have eq1 : (n : Int) - 1 = (q : Int) + 1 := by omega
  have HQN : Hid (n = q + 2) := Lib.hid (by omega)
  have n1 : 3 ≤ n := by omega
  have n2 : n ≤ 11 := by omega
  have q1 : 1 ≤ q := by omega
  have q2 : q ≤ 9 := by omega
  clear hn0 hn1 hnn hqq hsize
  go_wp2_with fail
  clear en
  refine (arcs_any w1 q len 0 _ _ (hV.below B1 (Nat.le_refl _)) hz hl (by omega) (by omega) (by omega) (by omega)).mono ?_
  rintro e w3 ⟨V, rfl, OA, hVo, b3⟩
  have B3 := B1.trans (b3.mono B1.size)
  have AI := arcsOf_in (k := min len 50) (n := q) (x := fun i => zs.getD i 0) (low := 0) (by omega) (by omega) (by omega)
  have kk : min len 50 ≤ 50 := Nat.min_le_right _ _
  have RV := OA.rdA
  obtain ⟨VA, vc, rfl, -⟩ := id RV
  clear b3 B1 hVo
  generalize hkk : min len 50 = k at *
  generalize hS : arcsOf q (fun i => zs.getD i 0) 0 = S at *
  have HL := Lib.hid (show ∀ i, i < k → 0 ≤ S.ln i by rw [← hS]; exact arcsOf_low)
  clear hS hkk hz hV OA
  go_wp2_with fail
  refine (within6_any w3 low 9 hlow (by omega) (by omega)).mono ?_
  rintro e w2 ⟨rfl, rfl⟩
  obtain ⟨lw, hlw, hlw1⟩ := within_nat (d := low) (m := 9) (by omega)
  rw [hlw]
  obtain ⟨al, hal⟩ : ∃ al : Int, al = 1 + (lw : Int) := ⟨_, rfl⟩
  have ea : 1 + (lw : Int) = al := hal.symm
  have a1 : 1 ≤ al := by omega
  have a2 : al ≤ 9 := by omega
  clear hlw hlow hal
  go_upto_region 6 with fail
  clear ea
  have OE := OwA.empty w3 S
  have bE := below_new w3 (.cells #[] 30)
  have SR := (RV.below bE (Nat.le_refl _)).src
  have BE := B3.trans (bE.mono B3.size)
  have bw3 := B3.size
  have szE : (w3.alloc (.cells #[] 30)).heap.size = w3.heap.size + 1 := by simp
  have SZE := Lib.hid szE
  have HRV := Lib.hid RV
  clear szE RV
  go_upto_region 7 with (first
    | (at_builtin; refine wpList_appA2 (o := ⟨some 33, _, _, _, _, _⟩) rfl _ _ rfl (.slice (some ⟨w3.heap.size, 0, none⟩) 0 0) 0 S rfl OE VA k vc S rfl SR (by omega) ?_; intro v5 w5 O5 g5 l5; have B5 := Below.grown BE g5 (by have := SZE.out; omega) (fun c hc => by have e : some w3.heap.size = some c := hc; injection e with e; omega); have hv5 : ∀ c, v5.ownBlock = some c → w.heap.size ≤ c := (fun c hc => by rcases l5 with e | e <;> rw [hc] at e <;> (try have e : some c = some w3.heap.size := e) <;> injection e with e <;> (have := SZE.out; omega)); have HV5 := Lib.hid hv5; have HRV5 := Lib.hid (HRV.out.below (bE.trans ⟨g5.os, g5.tape, g5.output, by have := g5.size; have := SZE.out; omega, fun c hc => g5.block c (by have := SZE.out; omega) (by intro e; have e : some w3.heap.size = some c := e.symm; injection e with e; omega)⟩) (Nat.le_refl _)); clear OE SR BE g5 l5 hv5; rw [Nat.zero_add] at O5)
    | (at_builtin; refine wpList_appA2 (o := ⟨some 47, _, _, _, _, _⟩) rfl _ _ rfl v5 k (catA S 0 S) rfl (O5.below (below_new w5 _) (Nat.le_refl _)) _ 2 2 ⟨fun i => if i = 0 then q else q + 1, fun i => if i = 0 then q + 1 else q, fun i => if i = 0 then 3 else -3 - al⟩ rfl (OwA.lit w5 2 _ _ (fun i hi => by have : i = 0 ∨ i = 1 ∨ i = 2 ∨ i = 3 ∨ i = 4 ∨ i = 5 := (by omega); rcases this with rfl | rfl | rfl | rfl | rfl | rfl <;> rfl)) (by omega) ?_; intro v6 w6 O6 g6 l6))
  have w5a := below_new w5 (.cells #[.int .i64 (q : Int), .int .i64 ((q : Int) + 1), .int .i64 3, .int .i64 ((q : Int) + 1), .int .i64 (q : Int), .int .i64 (-3 - al)] 30)
  have B5a := B5.trans (w5a.mono B5.size)
  have B6 := Below.grown B5a g6 B5a.size (fun c hc => HV5.out c hc)
  have bws := B5.size
  have sz6 : w5.heap.size ≤ (w5.alloc (.cells #[.int .i64 (q : Int), .int .i64 ((q : Int) + 1), .int .i64 3, .int .i64 ((q : Int) + 1), .int .i64 (q : Int), .int .i64 (-3 - al)] 30)).heap.size := w5a.size
  have HV6 : Hid (∀ c, v6.ownBlock = some c → w.heap.size ≤ c) := Lib.hid fun c hc => by
    rcases l6 with e | e
    · rw [hc] at e; exact HV5.out c e.symm
    · rw [hc] at e; injection e with e; omega
  clear g6 l6 w5a B5a sz6 O5 HV5 HRV5 B5 bws HRV SZE bE B3 bw3
  generalize hS2 : catA (catA S 0 S) k ⟨fun i => if i = 0 then q else q + 1, fun i => if i = 0 then q + 1 else q, fun i => if i = 0 then 3 else -3 - al⟩ = S2 at *
  have e2 : ∀ i, (i < k → S2.fr i = S.fr i ∧ S2.th i = S.th i ∧ S2.ln i = S.ln i) ∧ (k ≤ i → S2.fr i = (if i - k = 0 then q else q + 1) ∧ S2.th i = (if i - k = 0 then q + 1 else q) ∧ S2.ln i = (if i - k = 0 then 3 else -3 - al)) := fun i => by
    subst hS2
    refine ⟨fun h => ⟨if_pos h, if_pos h, if_pos h⟩, fun h => ⟨if_neg (by omega), if_neg (by omega), if_neg (by omega)⟩⟩
  clear hS2
  have P2 : Pair S2 k q al := ⟨by omega, by omega, fun i hi => by
      obtain ⟨h1, h2, h3⟩ := (e2 i).1 hi
      rw [h1, h2, h3]; exact ⟨AI.fr i hi, AI.th i hi, HL.out i hi⟩,
    by rw [((e2 k).2 (Nat.le_refl _)).1, if_pos (by omega)], by rw [((e2 k).2 (Nat.le_refl _)).2.1, if_pos (by omega)], by rw [((e2 k).2 (Nat.le_refl _)).2.2, if_pos (by omega)],
    by rw [((e2 (k + 1)).2 (by omega)).1, if_neg (by omega)], by rw [((e2 (k + 1)).2 (by omega)).2.1, if_neg (by omega)], by rw [((e2 (k + 1)).2 (by omega)).2.2, if_neg (by omega)]⟩
  have A2 : ArcsIn S2 (k + 2) n 4294967296 := by
    have hq := HQN.out
    have old : ∀ i, i < k + 2 → S2.fr i < n ∧ S2.th i < n ∧ -4294967296 ≤ S2.ln i ∧ S2.ln i ≤ 4294967296 := fun i hi => by
      rcases Nat.lt_or_ge i k with z | z
      · obtain ⟨h1, h2, h3⟩ := (e2 i).1 z
        have g1 := AI.fr i z
        have g2 := AI.th i z
        have g3 := AI.lo i z
        have g4 := AI.hi i z
        omega
      · have : i = k ∨ i = k + 1 := by omega
        have t1 := P2.f0
        have t2 := P2.t0
        have t3 := P2.l0
        have t4 := P2.f1
        have t5 := P2.t1
        have t6 := P2.l1
        rcases this with rfl | rfl <;> omega
    exact ⟨fun i hi => (old i hi).1, fun i hi => (old i hi).2.1, fun i hi => (old i hi).2.2.1, fun i hi => (old i hi).2.2.2⟩
  have HP2 := Lib.hid P2
  clear P2 e2
  have R6 := O6.rdA
  obtain ⟨A6, c6, rfl, -⟩ := id R6
  go_wp2_with fail
  refine (any_any w6 n (k + 2) 0 _ S2 R6 A2 (by omega) (by omega) (by omega)).mono ?_
  rintro e w7 ⟨b7, H7⟩
  have B7 := B6.trans (b7.mono B6.size)
  have O7 := O6.below b7 (Nat.le_refl _)
  clear b7 B6 O6 R6
  rcases H7 with ⟨bd, cd, d, t, rfl, Od, hbd, SD, ht, FX⟩ | ⟨_, _, _, _, _, _, RF⟩
  rotate_left
  · exact absurd HP2.out.noNeg RF.bad
  have nof : ∀ v, v < n → q ≤ v → d v = 1152921504606846976 := fun v hv hq => by
    rcases SD.each v hv with z | ⟨m, _, w⟩
    · exact z
    · have := (HP2.out.stay HP2.out.pos w).1; omega
  have hqn := HQN.out
  have c1 := Od.cell (j := q + 1) (by omega)
  have c2 := Od.cell (j := q) (by omega)
  rw [nof _ (by omega) (by omega)] at c1
  rw [nof _ (by omega) (by omega)] at c2
  have en : ((n : Int) != (n : Int)) = false := by simp
  have i1 : (q : Int) + 1 < (n : Int) := by omega
  have i2 : (q : Int) < (n : Int) := by omega
  have i3 : (0 : Int) ≤ (q : Int) + 1 := by omega
  have i4 : ((q : Int) + 1).toNat = q + 1 := by omega
  clear SD FX ht nof hqn Od hbd
  go_wp2_with fail
  refine (within6_any w7 ky 2 hky (by omega) (by omega)).mono ?_
  rintro e w2 ⟨rfl, rfl⟩
  obtain ⟨jz, hjz, hjz1⟩ := within_nat (d := ky) (m := 2) (by omega)
  rw [hjz]
  obtain ⟨z, hz⟩ : ∃ z : Nat, z = q + 1 - jz := ⟨_, rfl⟩
  have ez : (q : Int) + 1 - (jz : Int) = (z : Int) := by omega
  have HZ : Hid (z = q ∨ z = q + 1) := Lib.hid (by omega)
  clear hjz hjz1 hky hz c1 c2 en i1 i2 i3 i4
  have b7a := below_new w7 (.cells #[.int .i64 0, .int .i64 (z : Int), .int .i64 100] 30)
  have n0 := OwA.lit w7 1 ⟨fun _ => 0, fun _ => z, fun _ => 100⟩ #[.int .i64 0, .int .i64 (z : Int), .int .i64 100] (fun i hi => by have : i = 0 ∨ i = 1 ∨ i = 2 := (by omega); rcases this with rfl | rfl | rfl <;> rfl)
  have B7a := B7.trans (b7a.mono B7.size)
  have O7a := O7.below b7a (Nat.le_refl _)
  go_upto_region 11 with (at_builtin; refine wpList_appA2 (o := ⟨some 92, _, _, _, _, _⟩) rfl _ _ rfl (.slice A6 (k + 2) c6) (k + 2) S2 rfl O7a _ 1 1 ⟨fun _ => 0, fun _ => z, fun _ => 100⟩ rfl n0 (by omega) ?_; intro v8 w8 O8 g8 l8)
  have B8 := Below.grown B7a g8 B7a.size (fun c hc => HV6.out c hc)
  clear g8 l8 b7a n0 B7a O7a B7 O7 ez
  generalize hS3 : catA S2 (k + 2) ⟨fun _ => 0, fun _ => z, fun _ => 100⟩ = S3 at *
  have e3 : (∀ i, i < k + 2 → S3.fr i = S2.fr i ∧ S3.th i = S2.th i ∧ S3.ln i = S2.ln i) ∧ S3.fr (k + 2) = 0 ∧ S3.th (k + 2) = z ∧ S3.ln (k + 2) = 100 := by
    subst hS3
    exact ⟨fun i h => ⟨if_pos h, if_pos h, if_pos h⟩, if_neg (by omega), if_neg (by omega), if_neg (by omega)⟩
  clear hS3
  obtain ⟨old, f2, t2, l2⟩ := e3
  have P3 : Pair S3 k q al := ⟨HP2.out.pos, HP2.out.a1, fun i hi => by
      obtain ⟨h1, h2, h3⟩ := old i (by omega)
      rw [h1, h2, h3]; exact HP2.out.old i hi,
    by rw [(old k (by omega)).1]; exact HP2.out.f0, by rw [(old k (by omega)).2.1]; exact HP2.out.t0, by rw [(old k (by omega)).2.2]; exact HP2.out.l0,
    by rw [(old (k + 1) (by omega)).1]; exact HP2.out.f1, by rw [(old (k + 1) (by omega)).2.1]; exact HP2.out.t1, by rw [(old (k + 1) (by omega)).2.2]; exact HP2.out.l1⟩
  have A3 : ArcsIn S3 (k + 3) n 4294967296 := by
    have hq := HQN.out
    have hz := HZ.out
    have all : ∀ i, i < k + 3 → S3.fr i < n ∧ S3.th i < n ∧ -4294967296 ≤ S3.ln i ∧ S3.ln i ≤ 4294967296 := fun i hi => by
      rcases Nat.lt_or_ge i (k + 2) with z | z
      · obtain ⟨h1, h2, h3⟩ := old i z
        have g1 := A2.fr i z
        have g2 := A2.th i z
        have g3 := A2.lo i z
        have g4 := A2.hi i z
        omega
      · obtain rfl : i = k + 2 := by omega
        omega
    exact ⟨fun i hi => (all i hi).1, fun i hi => (all i hi).2.1, fun i hi => (all i hi).2.2.1, fun i hi => (all i hi).2.2.2⟩
  have BAD := Lib.hid (P3.bad f2 (by rw [t2]; exact HZ.out))
  have TWO := Lib.hid (fun (m : Nat) (r : Nat → Nat) (R : RoundF S3 (k + 3) 0 n m r) => P3.two f2 (by omega) R)
  clear P3 old f2 t2 l2 A2 HP2 HZ
  have R8 := O8.rdA
  obtain ⟨A8, c8, rfl, -⟩ := id R8
  clear O8
  go_wp2_with fail
  refine (any_any w8 n (k + 3) 0 _ S3 R8 A3 (by omega) (by omega) (by omega)).mono ?_
  rintro e w9 ⟨b9, H9⟩
  have B9 := B8.trans (b9.mono B8.size)
  clear b9 B8 R8
  rcases H9 with ⟨bd2, cd2, d2, t2, rfl, Od2, hbd2, SD2, ht2, FX2⟩ | ⟨br, m, r, rfl, OR, hbr, RF⟩
  · exact absurd (FX2.noNeg SD2 A3 (by omega) (by unfold far; omega) (by omega)) BAD.out
  · obtain ⟨rfl, hr⟩ := TWO.out m r RF
    have c0 := OR.cell (j := 0) (by omega)
    have c1 := OR.cell (j := 1) (by omega)
    have f1 : decide (k ≤ r 0) = true := by simp; omega
    have f2 : decide (k ≤ r 1) = true := by simp; omega
    have f3 : (((r 0 : Nat) : Int) != ((r 1 : Nat) : Int)) = true := by simp; omega
    have f4 : (k : Int) ≤ ((r 0 : Nat) : Int) := by omega
    have f5 : (k : Int) ≤ ((r 1 : Nat) : Int) := by omega
    clear hr RF OR hbr TWO BAD
    generalize r 0 = r0 at *
    generalize r 1 = r1 at *
    go_upto_region 12 with fail
    go_big_quiet (fail)
    go_wp2_with fail
    go_ret
    exact ⟨rfl, ⟨B9.os, B9.tape, B9.output, B9.size, B9.block⟩⟩
end Go.Proofs.Ytchlccendggfpaa.Ro
