/- Walks: from, of the reference's chapter 6. -/
import Derived.Test.YtcdlnohnkdalbaaMg3
namespace Go.Proofs.Ytcdlnohnkdalbaa.Ro
open Go.RowKit Go.Proofs
set_option linter.unusedVariables false
set_option maxRecDepth 100000
set_option linter.unusedSimpArgs false

/-- what from tells -/
def FromPost (B : Nat) (w : World) (S : ArcsF) (k s n : Nat) (e : Ending) (w' : World) : Prop :=
  ∃ (b : Nat) (d : Nat → Int) (t : Nat) (again : Bool), e = .returned (.tuple #[.slice (some ⟨b, 0, none⟩) n n, .bool again]) ∧ Ow w' (.slice (some ⟨b, 0, none⟩) n n) n d ∧ B ≤ b ∧ Sound S k s n t d ∧ t ≤ 20200 ∧ (again = false → Fix S k d) ∧ (again = true → ¬ NoNeg S k s) ∧ Below B w w'

set_option maxRecDepth 100000 in
set_option maxHeartbeats 6400000 in
theorem refFrom_any (w : World) (n k s : Nat) (V : Value) (S : ArcsF) (hV : RdA w V k S) (A : ArcsIn S k n 4294967296) (hs : s < n) (hn : n ≤ 100) (hk : k ≤ 200) :
    Calls Try.prog 64 #[.int .i64 (n : Int), V, .int .i64 (s : Int)] w (FromPost w.heap.size w S k s n) := by
  obtain ⟨VA, vc, rfl, rv⟩ := hV
  have HV := Lib.hid rv
  clear rv
  obtain ⟨ii, hi, hz, hsz, hby⟩ := info_parts (P := Try.prog) (e := 3) (z := .int .i64 0) (size := 1) (bytes := 8) (by kernel_rfl)
  go_enter Try.func64, Try.ntmps64
  go_upto_region 2 with (at_make; refine wpList_make_full _ rfl _ _ _ rfl 0 3 ii (.int .i64 0) 1 Try.underlying22 hi hz hsz .i64 .i64 (n : Int) (n : Int) n rfl rfl rfl rfl (by rw [hby]; omega) (by unfold maxLen; omega) (Nat.zero_le _) ?_; intro w3 hm3 hg3)
  rw [show (Value.int IntKind.i64 0).cells = #[.int .i64 0] from rfl, Nat.mul_one, toList_madeCells_one] at hm3
  have O3 := Ow.made hm3
  have B3 : Below w.heap.size w w3 := ⟨hg3.os, hg3.tape, hg3.output, hg3.size, fun k hk => hg3.block k hk (by simp)⟩
  clear hm3 hg3
  obtain ⟨b, hb⟩ : ∃ b, b = w.heap.size := ⟨_, rfl⟩
  rw [← hb] at O3 ⊢
  have hbw : w.heap.size ≤ b := by omega
  have hwb : b ≤ w.heap.size := by omega
  clear hb
  go_wp2_with fail
  go_loopw [9] (fun u wr => ∃ j : Nat, u = .int .i64 (j : Int) ∧ j ≤ n ∧ Ow wr (.slice (some ⟨b, 0, none⟩) n n) n (fun i => if i < j then far else 0) ∧ Below w.heap.size w wr) (fun u _ => n - (intOf u).toNat)
  case atStart => exact ⟨0, rfl, Nat.zero_le _, O3.congr fun j _ => by simp, B3⟩
  case round =>
    clear O3 B3 w3
    obtain ⟨j, rfl, hj, O, B⟩ := hrel
    by_cases hlt : j < n
    · have d1 : (j : Int) < (n : Int) := by omega
      have co := O.cell hlt
      have zf := O.frozen j
      have O5 := (O.set hlt far).congr (x' := fun i => if i < j + 1 then far else 0) (fun i hi => by
        by_cases e : i = j
        · subst e; rw [upd_same, if_pos (by omega)]
        · rw [upd_ne e]
          by_cases q : i < j
          · rw [if_pos q, if_pos (by omega)]
          · rw [if_neg q, if_neg (by omega)])
      have B5 := B.setCell (p := ⟨b, j, none⟩) hbw (.int .i64 far)
      clear O B
      go_wp2_with fail
      go_roundw
      case rel => exact ⟨j + 1, by simp, by omega, O5, B5⟩
      case measure => simp [intOf]; omega
    · have d1 : ¬ ((j : Int) < (n : Int)) := by omega
      have O5 := (O.congr (x' := fun _ => far) fun i hi => if_pos (by omega)).set hs 0
      have co := O.cell hs
      have zf := O.frozen s
      have s1 : (s : Int) < (n : Int) := by omega
      have B5 := B.setCell (p := ⟨b, s, none⟩) hbw (.int .i64 0)
      clear O B
      go_wp2_with fail
      clear co zf s1 d1 hlt hj
      generalize wr.setCell ⟨b, s, none⟩ (.int .i64 0) = w5 at *
      clear wr
      have S0 := Sound.start S k s n
      have U0 := UpTo.start S0
      go_loopw [10, 11] (fun u10 u11 wr => ∃ (g : Bool) (r t : Nat) (d : Nat → Int), u10 = .bool g ∧ u11 = .int .i64 (r : Int) ∧ r ≤ n + 1 ∧ t ≤ r * k ∧ Hid (Sound S k s n t d) ∧ Hid (UpTo S k s d r) ∧ Hid (g = false → Fix S k d) ∧ Hid (g = true → 0 < r → n ≤ r → ¬ NoNeg S k s) ∧ Ow wr (.slice (some ⟨b, 0, none⟩) n n) n d ∧ Below w.heap.size w wr) (fun _ u11 _ => n + 1 - (intOf u11).toNat)
      case atStart => exact ⟨true, 0, 0, _, rfl, rfl, by omega, by omega, Lib.hid S0, Lib.hid U0, Lib.hid (fun h => by cases h), Lib.hid (fun _ h => by omega), O5, B5⟩
      case round =>
        clear S0 U0 O5 B5 w5
        obtain ⟨g, r, t, d, rfl, rfl, hr, ht, SD, UD, FX, NG, O, B⟩ := hrel
        have t2 : t ≤ 20200 := by have : r * k ≤ 101 * 200 := Nat.mul_le_mul (by omega) hk; omega
        cases g with
        | false =>
          have FXX := Lib.hid (FX.out rfl)
          clear FX NG UD
          by_cases hrn : r ≤ n
          · have d1 : (r : Int) ≤ (n : Int) := by omega
            go_wp2_with fail
            go_ret2
            exact ⟨b, d, t, false, rfl, O, hbw, SD.out, t2, fun _ => FXX.out, (fun h => by cases h), B⟩
          · have d1 : ¬ ((r : Int) ≤ (n : Int)) := by omega
            go_wp2_with fail
            go_ret2
            exact ⟨b, d, t, false, rfl, O, hbw, SD.out, t2, fun _ => FXX.out, (fun h => by cases h), B⟩
        | true =>
          by_cases hrn : r ≤ n
          · have d1 : (r : Int) ≤ (n : Int) := by omega
            go_wp2_with fail
            go_loopw [10, 12] (fun u10 u12 wr => ∃ (g : Bool) (j t : Nat) (d : Nat → Int), u10 = .bool g ∧ u12 = .int .i64 (j : Int) ∧ j ≤ k ∧ t ≤ r * k + j ∧ Hid (Sound S k s n t d) ∧ Hid (Rnd1 S k s d r j) ∧ Hid (g = false → ∀ i, i < j → d (S.fr i) ≠ far → d (S.th i) ≤ d (S.fr i) + S.ln i) ∧ Hid (g = true → n ≤ r + 1 → ¬ NoNeg S k s) ∧ Ow wr (.slice (some ⟨b, 0, none⟩) n n) n d ∧ Below w.heap.size w wr) (fun _ u12 _ => k - (intOf u12).toNat)
            case atStart => exact ⟨false, 0, t, d, rfl, rfl, Nat.zero_le _, ht, SD, Lib.hid (Rnd1.start UD.out), Lib.hid (fun _ i h => by omega), Lib.hid (fun h => by cases h), O, B⟩
            case round =>
              clear SD UD FX NG O B ht t2
              obtain ⟨g, j, t, d, rfl, rfl, hj, ht, SD, RD, FX, NG, O, B⟩ := hrel
              have t2 : t ≤ 20200 := by have : r * k ≤ 100 * 200 := Nat.mul_le_mul (by omega) hk; omega
              by_cases hlt : j < k
              · have d2 : (j : Int) < (k : Int) := by omega
                obtain ⟨vb, rfl, hvb, hvc⟩ := HV.out (by omega)
                obtain ⟨k1, k2, k3⟩ := hvc j hlt
                have z1 := (B.cell (p := ⟨vb, j * 3, none⟩) hvb).trans k1
                have z2 := (B.cell (p := ⟨vb, j * 3 + 1, none⟩) hvb).trans k2
                have z3 := (B.cell (p := ⟨vb, j * 3 + 2, none⟩) hvb).trans k3
                have ha := A.fr j hlt
                have hc := A.th j hlt
                have l1 := A.lo j hlt
                have l2 := A.hi j hlt
                have za := O.cell ha
                have zc := O.cell hc
                have zf := O.frozen (S.th j)
                have ba := SD.out.size A (by omega) ha
                have i1 : ((S.fr j : Nat) : Int) < (n : Int) := by omega
                have i2 : ((S.th j : Nat) : Int) < (n : Int) := by omega
                clear k1 k2 k3 hvc
                by_cases hf : d (S.fr j) = far
                · have RD2 := Lib.hid (RD.out.skip A (by omega) hlt (by unfold far; omega) (.inl hf))
                  have FX2 : Hid (g = false → ∀ i, i < j + 1 → d (S.fr i) ≠ far → d (S.th i) ≤ d (S.fr i) + S.ln i) := Lib.hid fun hg i hi h1 => by
                    rcases Nat.lt_or_ge i j with q | q
                    · exact FX.out hg i q h1
                    · rw [show i = j by omega] at h1; exact absurd hf h1
                  have q1 : (d (S.fr j) != 1152921504606846976) = false := by rw [hf]; rfl
                  clear hf ba RD FX l1 l2
                  generalize S.fr j = a at *
                  generalize S.th j = c at *
                  generalize S.ln j = l at *
                  go_upto_region 15 with fail
                  go_big_quiet (fail)
                  go_wp2_with fail
                  go_roundw
                  case rel => exact ⟨g, j + 1, t, d, rfl, by simp, by omega, by omega, SD, RD2, FX2, NG, O, ⟨B.os, B.tape, B.output, B.size, B.block⟩⟩
                  case measure => simp [intOf]; omega
                · have q1 : (d (S.fr j) != 1152921504606846976) = true := by simpa [far] using hf
                  obtain ⟨b1, b2⟩ := ba hf
                  by_cases hl : d (S.fr j) + S.ln j < d (S.th j)
                  · have q2 : decide (d (S.fr j) + S.ln j < d (S.th j)) = true := by simpa using hl
                    have SD2 := Lib.hid (SD.out.step A hlt hf hl)
                    have RD2 := Lib.hid (RD.out.take hlt hl)
                    have NG2 : Hid (true = true → n ≤ r + 1 → ¬ NoNeg S k s) := Lib.hid fun _ hn N => by
                      have := N.fix A hs SD.out RD.out.old hn j hlt hf
                      omega
                    have O2 := O.set hc (d (S.fr j) + S.ln j)
                    have B2 := B.setCell (p := ⟨b, S.th j, none⟩) hbw (.int .i64 (d (S.fr j) + S.ln j))
                    clear hf hl SD RD FX NG
                    generalize d (S.fr j) = da at *
                    generalize d (S.th j) = dc at *
                    generalize S.fr j = a at *
                    generalize S.ln j = l at *
                    go_upto_region 15 with fail
                    go_big_quiet (fail)
                    have z1' : (wr.drewN nq).cell? ⟨vb, j * 3, none⟩ = some (.int .i64 (a : Int)) := z1
                    have z2' : (wr.drewN nq).cell? ⟨vb, j * 3 + 1, none⟩ = some (.int .i64 ((S.th j : Nat) : Int)) := z2
                    have z3' : (wr.drewN nq).cell? ⟨vb, j * 3 + 2, none⟩ = some (.int .i64 l) := z3
                    have za' : (wr.drewN nq).cell? ⟨b, a, none⟩ = some (.int .i64 da) := za
                    have zc' : (wr.drewN nq).cell? ⟨b, S.th j, none⟩ = some (.int .i64 dc) := zc
                    have zf' : (wr.drewN nq).frozen? ⟨b, S.th j, none⟩ = false := zf
                    have O2' : Ow ((wr.drewN nq).setCell ⟨b, S.th j, none⟩ (.int .i64 (da + l))).drew (.slice (some ⟨b, 0, none⟩) n n) n (upd d (S.th j) (da + l)) := O2
                    have B2' : Below w.heap.size w ((wr.drewN nq).setCell ⟨b, S.th j, none⟩ (.int .i64 (da + l))).drew := ⟨B2.os, B2.tape, B2.output, B2.size, B2.block⟩
                    have FIN := Lib.hid (And.intro O2' B2')
                    clear O2 B2 O2' B2' z1 z2 z3 za zc zf O B
                    generalize wr.drewN nq = w7 at *
                    generalize S.th j = c at *
                    go_upto_region 16 with fail
                    refine still_tail 21 (by kernel_rfl) (by kernel_rfl) ?_
                    simp only [List.take_succ_cons, List.take_zero, List.drop_succ_cons, List.drop_zero]
                    repeat still_step
                    with_reducible refine wpStill_nil ?_
                    go_wp2_with fail
                    go_roundw
                    case rel => exact ⟨true, j + 1, t + 1, _, rfl, by simp, by omega, by omega, SD2, RD2, Lib.hid (fun h => by cases h), NG2, FIN.out.1, FIN.out.2⟩
                    case measure => simp [intOf]; omega
                  · have q2 : decide (d (S.fr j) + S.ln j < d (S.th j)) = false := by simpa using hl
                    have RD2 := Lib.hid (RD.out.skip A (by omega) hlt (by unfold far; omega) (.inr (by omega)))
                    have FX2 : Hid (g = false → ∀ i, i < j + 1 → d (S.fr i) ≠ far → d (S.th i) ≤ d (S.fr i) + S.ln i) := Lib.hid fun hg i hi h1 => by
                      rcases Nat.lt_or_ge i j with q | q
                      · exact FX.out hg i q h1
                      · rw [show i = j by omega]; omega
                    clear hf hl RD FX
                    generalize d (S.fr j) = da at *
                    generalize d (S.th j) = dc at *
                    generalize S.fr j = a at *
                    generalize S.th j = c at *
                    generalize S.ln j = l at *
                    go_upto_region 15 with fail
                    go_big_quiet (fail)
                    go_wp2_with fail
                    go_roundw
                    case rel => exact ⟨g, j + 1, t, d, rfl, by simp, by omega, by omega, SD, RD2, FX2, NG, O, ⟨B.os, B.tape, B.output, B.size, B.block⟩⟩
                    case measure => simp [intOf]; omega
              · have d2 : ¬ ((j : Int) < (k : Int)) := by omega
                obtain rfl : j = k := by omega
                have UD2 := Lib.hid (RD.out.done SD.out.here)
                have FX2 : Hid (g = false → Fix S j d) := Lib.hid fun hg i hi h1 => FX.out hg i hi h1
                have NG2 : Hid (g = true → 0 < r + 1 → n ≤ r + 1 → ¬ NoNeg S j s) := Lib.hid fun hg _ h => NG.out hg h
                have ht2 : t ≤ (r + 1) * j := by rw [Nat.succ_mul]; exact ht
                go_wp2_with fail
                go_roundw
                case rel => exact ⟨g, r + 1, t, d, rfl, by simp, by omega, ht2, SD, UD2, FX2, NG2, O, B⟩
                case measure => simp [intOf]; omega
          · have d1 : ¬ ((r : Int) ≤ (n : Int)) := by omega
            have NN := Lib.hid (NG.out rfl (by omega) (by omega))
            clear NG FX UD
            go_wp2_with fail
            go_ret2
            exact ⟨b, d, t, true, rfl, O, hbw, SD.out, t2, (fun h => by cases h), fun _ => NN.out, B⟩
end Go.Proofs.Ytcdlnohnkdalbaa.Ro
