/- Walks: the law PathLow. -/
import Derived.Test.YtchlccendggfpaaPaKn
import Derived.Test.YtchlccendggfpaaPaLo
import Derived.Test.YtchlccendggfpaaPaAp
import Derived.StillTailTactics
namespace Go.Proofs.Ytchlccendggfpaa.Ro
open Go.RowKit Go.Proofs Go.Maps
set_option linter.unusedVariables false
set_option linter.unusedSimpArgs false

theorem div_bounds {x : Int} (h : Small x) : -3074457345618258603 ≤ x.tdiv 3 ∧ x.tdiv 3 ≤ 3074457345618258603 := by
  have b := small_bounds h
  have e : -3074457345618258603 ≤ x.tdiv 3 ∧ x.tdiv 3 ≤ 3074457345618258603 := by
    rcases Int.le_total 0 x with q | q
    · rw [Int.tdiv_eq_ediv_of_nonneg q]; omega
    · have h : (-x).tdiv 3 = -(x.tdiv 3) := Int.neg_tdiv x 3
      rw [Int.tdiv_eq_ediv_of_nonneg (show 0 ≤ -x by omega)] at h
      omega
  exact e
theorem small_div {x : Int} (h : Small x) : Small (x.tdiv 3) := by
  have e := div_bounds h
  unfold Small
  simp [Lit.wf, IntKind.min, IntKind.max, IntKind.signed, IntKind.bits]
  omega

set_option maxRecDepth 100000 in
set_option maxHeartbeats 12800000 in
theorem low_walk (size : Int) (A : Option Addr) (len cap : Nat) (zs : List Int) (w : World) (hsize : Small size) (hV : Rd w (.slice A len cap) len (fun i => zs.getD i 0)) (hz : ∀ i, i < len → Small (zs.getD i 0)) (hl : len ≤ 9223372036854775807) :
    Calls Try.prog 10 #[.int .i64 size, .slice A len cap] w fun e w' => e = .returned (.bool true) ∧ Below w.heap.size w w' := by
  go_enter Try.func10, Try.ntmps10
  go_wp2_with fail
  refine (known6_ok _).mono ?_
  rintro e w1 ⟨rfl, B1⟩
  go_wp2_with fail
  obtain ⟨i2, hi2, hz2, hsz2, hby2⟩ := info_parts (P := Try.prog) (e := 3) (z := .int .i64 0) (size := 1) (bytes := 8) (by kernel_rfl)
  refine (within6_any w1 size 12 hsize (by omega) (by omega)).mono ?_
  rintro e w2 ⟨rfl, rfl⟩
  obtain ⟨n0, hn0, hn1⟩ := within_nat (d := size) (m := 12) (by omega)
  rw [hn0]
  obtain ⟨n, hnn⟩ : ∃ n : Nat, n = n0 + 1 := ⟨_, rfl⟩
  have en : 1 + (n0 : Int) = (n : Int) := by omega
  have n1 : 1 ≤ n := by omega
  have n2 : n ≤ 12 := by omega
  clear hn0 hn1 hnn hsize
  have HX := Lib.hid hz
  clear hz
  go_upto_region 6 with (at_make; refine wpList_make_full _ rfl _ _ _ rfl 0 3 i2 (.int .i64 0) 1 Try.underlying22 hi2 hz2 hsz2 .i64 .i64 (n : Int) (n : Int) n rfl rfl rfl rfl (by rw [hby2]; omega) (by unfold maxLen; omega) (Nat.zero_le _) ?_; intro w5 hm5 hg5)
  clear en
  rw [show (Value.int IntKind.i64 0).cells = #[.int .i64 0] from rfl, Nat.mul_one, toList_madeCells_one] at hm5
  have O5 := Ow.made hm5
  have B5 : Below w1.heap.size w1 w5 := ⟨hg5.os, hg5.tape, hg5.output, hg5.size, fun k hk => hg5.block k hk (by simp)⟩
  clear hm5 hg5 i2 hi2 hz2 hsz2 hby2
  obtain ⟨f, hfe⟩ : ∃ f, f = w1.heap.size := ⟨_, rfl⟩
  rw [← hfe] at O5 ⊢
  have hfw : w1.heap.size ≤ f := by omega
  have hf0 : w.heap.size ≤ f := by have := B1.size; omega
  clear hfe
  go_wp2_with fail
  go_loopw [8] (fun u8 wr => ∃ j : Nat, u8 = .int .i64 (j : Int) ∧ 1 ≤ j ∧ j ≤ n ∧ Ow wr (.slice (some ⟨f, 0, none⟩) n n) n (fun i => if 1 ≤ i ∧ i < j then far else 0) ∧ Below w1.heap.size w1 wr) (fun u8 _ => n - (intOf u8).toNat)
  case atStart => exact ⟨1, rfl, by omega, by omega, O5.congr fun j _ => by rw [if_neg (by omega)], B5⟩
  case round =>
    clear O5 B5 w5
    obtain ⟨j, rfl, hj1, hj, O, B⟩ := hrel
    by_cases hlt : j < n
    · have d2 : (j : Int) < (n : Int) := by omega
      have co := O.cell hlt
      have zf := O.frozen j
      have O5 := (O.set hlt far).congr (x' := fun i => if 1 ≤ i ∧ i < j + 1 then far else 0) (fun i hi => by
        by_cases e : i = j
        · subst e; rw [upd_same, if_pos (by omega)]
        · rw [upd_ne e]
          by_cases q : 1 ≤ i ∧ i < j
          · rw [if_pos q, if_pos (by omega)]
          · rw [if_neg q, if_neg (by omega)])
      have HOB := Lib.hid (And.intro O5 (B.setCell (p := ⟨f, j, none⟩) hfw (.int .i64 far)))
      clear O B O5
      go_wp2_with fail
      go_roundw
      case rel => exact ⟨j + 1, by simp, by omega, by omega, HOB.out.1, HOB.out.2⟩
      case measure => simp [intOf]; omega
    · have d2 : ¬ ((j : Int) < (n : Int)) := by omega
      have O6 : Ow wr (.slice (some ⟨f, 0, none⟩) n n) n (upd (fun _ => far) 0 0) := O.congr fun i hi => by
        by_cases e : i = 0
        · subst e; rw [upd_same, if_neg (by omega)]
        · rw [upd_ne e, if_pos (by omega)]
      have B6 := B1.trans (B.mono B1.size)
      clear O B hj hj1 hlt B1
      obtain ⟨w6, rfl⟩ : ∃ w6, w6 = wr := ⟨_, rfl⟩
      have hV6 := hV.below B6 (Nat.le_refl _)
      go_wp2_with fail
      clear d2
      go_loopw [6, 9] (fun u6 u9 wr => ∃ (i K : Nat) (S : ArcsF), u9 = .int .i64 (i : Int) ∧ i ≤ n ∧ K ≤ i * n + 12 ∧ OwA wr u6 K S ∧ Hid (Dag S K n) ∧ Hid (∀ c, u6.ownBlock = some c → w.heap.size ≤ c ∧ c ≠ f) ∧ Ow wr (.slice (some ⟨f, 0, none⟩) n n) n (upd (fun _ => far) 0 0) ∧ Below w.heap.size w wr) (fun _ u9 _ => n - (intOf u9).toNat)
      case atStart => exact ⟨0, 0, ⟨fun _ => 0, fun _ => 0, fun _ => 0⟩, rfl, Nat.zero_le _, by omega, OwA.nil _ _, Lib.hid (fun i hi => absurd hi (Nat.not_lt_zero i)), Lib.hid (fun c hc => by cases hc), O6, B6⟩
      case round =>
        clear O6 B6 hV6 w6
        obtain ⟨i, K, S, rfl, hi, hK, OA, DG, HU, O, B⟩ := hrel
        have hin : i * n ≤ 12 * 12 := Nat.mul_le_mul (by omega) (by omega)
        by_cases hlt : i < n
        · have d2 : (i : Int) < (n : Int) := by omega
          obtain ⟨wo, rfl⟩ : ∃ wo, wo = wr := ⟨_, rfl⟩
          go_wp2_with fail
          go_loopw [6, 10] (fun u6 u10 wr => ∃ (k K : Nat) (S : ArcsF), u10 = .int .i64 (k : Int) ∧ i < k ∧ k ≤ n ∧ K ≤ i * n + k + 12 - (i + 1) ∧ OwA wr u6 K S ∧ Hid (Dag S K n) ∧ Hid (∀ c, u6.ownBlock = some c → w.heap.size ≤ c ∧ c ≠ f) ∧ Ow wr (.slice (some ⟨f, 0, none⟩) n n) n (upd (fun _ => far) 0 0) ∧ Below w.heap.size w wr) (fun _ u10 _ => n - (intOf u10).toNat)
          case atStart => exact ⟨i + 1, K, S, by simp, by omega, by omega, by omega, OA, DG, HU, O, B⟩
          case round =>
            clear OA DG HU O B hK wo
            obtain ⟨k, K, S, rfl, hik, hk, hK, OA, DG, HU, O, B⟩ := hrel
            by_cases hlt2 : k < n
            · have d3 : (k : Int) < (n : Int) := by omega
              have hVr := hV.below B (Nat.le_refl _)
              obtain ⟨p, hp⟩ : ∃ p : Nat, p = i * n := ⟨_, rfl⟩
              have ep : (i : Int) * (n : Int) = (p : Int) := by rw [hp]; simp
              rw [← hp] at hK hin
              have HPP := Lib.hid hp
              clear hp
              by_cases hjl : p + k < len
              · have q1 : decide ((p : Int) + (k : Int) < (len : Int)) = true := by simp; omega
                have q1' : (p : Int) + (k : Int) < (len : Int) := by omega
                obtain ⟨A0, cp0, ev, ry⟩ := hVr
                injection ev with e1 e2 e3
                obtain ⟨y, hy0, hy1, hy2⟩ := ry (by omega)
                subst e1 e3
                subst hy0
                have cy := hy2 (p + k) hjl
                obtain ⟨xv, hxv⟩ : ∃ xv : Int, xv = (fun i => zs.getD i 0) (p + k) := ⟨_, rfl⟩
                rw [← hxv] at cy
                have SX : Small xv := by rw [hxv]; exact HX.out (p + k) hjl
                have tn : ((p : Int) + (k : Int)).toNat = p + k := by omega
                clear hxv hy2 ry
                go_wp2_with fail
                refine (within6_any wr xv 3 SX (by omega) (by omega)).mono ?_
                rintro e w2 ⟨rfl, rfl⟩
                obtain ⟨m3, hm3, hm31⟩ := within_nat (d := xv) (m := 3) (by omega)
                rw [hm3]
                clear hm3
                by_cases hm0 : 0 < m3
                · have q2 : decide (0 < m3) = true := by simp; exact hm0
                  have q2' : (m3 : Int) > 0 := by omega
                  obtain ⟨t1, t2⟩ := div_bounds SX
                  go_wp2_with fail
                  refine (within6_any wr (xv.tdiv 3) 21 (small_div SX) (by omega) (by omega)).mono ?_
                  rintro e w2 ⟨rfl, rfl⟩
                  obtain ⟨m4, hm4, hm41⟩ := within_nat (d := xv.tdiv 3) (m := 21) (by omega)
                  rw [hm4]
                  obtain ⟨l, hl4⟩ : ∃ l : Int, l = (m4 : Int) - 10 := ⟨_, rfl⟩
                  have el : (m4 : Int) - 10 = l := hl4.symm
                  have l1 : -10 ≤ l := by omega
                  have l2 : l ≤ 10 := by omega
                  clear hm4 hl4 hm41
                  have n0 := OwA.lit wr 1 ⟨fun _ => i, fun _ => k, fun _ => l⟩ #[.int .i64 (i : Int), .int .i64 (k : Int), .int .i64 l] (fun a ha => by have : a = 0 ∨ a = 1 ∨ a = 2 := (by omega); rcases this with rfl | rfl | rfl <;> rfl)
                  have bA := below_new wr (.cells #[.int .i64 (i : Int), .int .i64 (k : Int), .int .i64 l] 30)
                  have Oa := OA.below bA (Nat.le_refl _)
                  have Of := O.below bA (Nat.le_refl _)
                  have Ba := B.trans (bA.mono B.size)
                  have bws := B.size
                  have lf := O.lt (k := f) rfl
                  have sz : (wr.alloc (.cells #[.int .i64 (i : Int), .int .i64 (k : Int), .int .i64 l] 30)).heap.size = wr.heap.size + 1 := by simp
                  have SZ := Lib.hid sz
                  clear sz
                  go_upto_region 15 with (at_builtin; go_must (refine wpList_appA2 rfl _ _ rfl u6 K S rfl Oa _ 1 1 ⟨fun _ => i, fun _ => k, fun _ => l⟩ rfl n0 (by omega) ?_); intro v7 w7 O7 g7 l7)
                  have hnb : ∀ c, v7.ownBlock = some c → w.heap.size ≤ c ∧ c ≠ f := fun c hc => by
                    rcases l7 with e | e
                    · rw [hc] at e; exact HU.out c e.symm
                    · rw [hc] at e; injection e with e; have := SZ.out; omega
                  have B7 := Below.grown Ba g7 Ba.size (fun c hc => (HU.out c hc).1)
                  have Of7 : Ow w7 (.slice (some ⟨f, 0, none⟩) n n) n (upd (fun _ => far) 0 0) := Of.keep fun c hc => by
                    have e : some f = some c := hc
                    injection e with e
                    subst e
                    exact g7.block f (Of.lt (k := f) rfl) fun e => (HU.out f e.symm).2 rfl
                  have DG2 : Hid (Dag (catA S K ⟨fun _ => i, fun _ => k, fun _ => l⟩) (K + 1) n) := Lib.hid fun a ha => by
                    by_cases q : a < K
                    · have h1 : (catA S K ⟨fun _ => i, fun _ => k, fun _ => l⟩).fr a = S.fr a := if_pos q
                      have h2 : (catA S K ⟨fun _ => i, fun _ => k, fun _ => l⟩).th a = S.th a := if_pos q
                      have h3 : (catA S K ⟨fun _ => i, fun _ => k, fun _ => l⟩).ln a = S.ln a := if_pos q
                      rw [h1, h2, h3]; exact DG.out a q
                    · have h1 : (catA S K ⟨fun _ => i, fun _ => k, fun _ => l⟩).fr a = i := if_neg q
                      have h2 : (catA S K ⟨fun _ => i, fun _ => k, fun _ => l⟩).th a = k := if_neg q
                      have h3 : (catA S K ⟨fun _ => i, fun _ => k, fun _ => l⟩).ln a = l := if_neg q
                      rw [h1, h2, h3]; omega
                  have HNB := Lib.hid hnb
                  clear n0 bA Oa Of Ba SZ g7 l7 hnb O B OA el
                  go_wp2_with fail
                  go_roundw
                  case rel => exact ⟨k + 1, K + 1, _, by simp, by omega, by omega, by rw [← HPP.out]; omega, O7, DG2, HNB, Of7, B7⟩
                  case measure => simp [intOf]; omega
                · have q2 : decide (0 < m3) = false := by simp; omega
                  have q2' : ¬ ((m3 : Int) > 0) := by omega
                  go_wp2_with fail
                  go_roundw
                  case rel => exact ⟨k + 1, K, S, by simp, by omega, by omega, by rw [← HPP.out]; omega, OA, DG, HU, O, B⟩
                  case measure => simp [intOf]; omega
              · have q1 : decide ((p : Int) + (k : Int) < (len : Int)) = false := by simp; omega
                have q1' : ¬ ((p : Int) + (k : Int) < (len : Int)) := by omega
                go_wp2_with fail
                go_roundw
                case rel => exact ⟨k + 1, K, S, by simp, by omega, by omega, by rw [← HPP.out]; omega, OA, DG, HU, O, B⟩
                case measure => simp [intOf]; omega
            · have d3 : ¬ ((k : Int) < (n : Int)) := by omega
              go_wp2_with fail
              go_roundw
              case rel => exact ⟨i + 1, K, S, by simp, by omega, by rw [Nat.succ_mul]; omega, OA, DG, HU, O, B⟩
              case measure => simp [intOf]; omega
        · have d2 : ¬ ((i : Int) < (n : Int)) := by omega
          have hK2 : K ≤ 200 := by omega
          have RA := OA.rdA
          obtain ⟨AV, cv, rfl, -⟩ := id RA
          have HUf : Hid (∀ c, (Value.slice AV K cv).ownBlock = some c → c ≠ f) := Lib.hid fun c hc => (HU.out c hc).2
          have S0 := Lib.hid (Sound.start S K 0 n)
          have F0 := Lib.hid (FixI.start S K (upd (fun _ => far) 0 0))
          clear RA HU hK hi hlt hin
          obtain ⟨w7, rfl⟩ : ∃ w7, w7 = wr := ⟨_, rfl⟩
          go_wp2_with fail
          clear d2
          go_loopw [12] (fun u12 wr => ∃ (i T : Nat) (d : Nat → Int), u12 = .int .i64 (i : Int) ∧ i ≤ n ∧ T ≤ i * K ∧ Hid (Sound S K 0 n T d) ∧ Hid (FixI S K i 0 d) ∧ OwA wr (.slice AV K cv) K S ∧ Ow wr (.slice (some ⟨f, 0, none⟩) n n) n d ∧ Below w.heap.size w wr) (fun u12 _ => n - (intOf u12).toNat)
          case atStart => exact ⟨0, 0, _, rfl, Nat.zero_le _, by omega, S0, F0, OA, O, B⟩
          case round =>
            clear S0 F0 OA O B w7
            obtain ⟨i, T, d, rfl, hi, hT, SD, FI, OA, O, B⟩ := hrel
            have hik : i * K ≤ 12 * 200 := Nat.mul_le_mul (by omega) hK2
            by_cases hlt : i < n
            · have d2 : (i : Int) < (n : Int) := by omega
              obtain ⟨wo, rfl⟩ : ∃ wo, wo = wr := ⟨_, rfl⟩
              go_wp2_with fail
              go_loopw [13] (fun u13 wr => ∃ (k T : Nat) (d : Nat → Int), u13 = .int .i64 (k : Int) ∧ k ≤ K ∧ T ≤ i * K + k ∧ Hid (Sound S K 0 n T d) ∧ Hid (FixI S K i k d) ∧ OwA wr (.slice AV K cv) K S ∧ Ow wr (.slice (some ⟨f, 0, none⟩) n n) n d ∧ Below w.heap.size w wr) (fun u13 _ => K - (intOf u13).toNat)
              case atStart => exact ⟨0, T, d, rfl, Nat.zero_le _, by omega, SD, FI, OA, O, B⟩
              case round =>
                clear SD FI OA O B hT wo
                obtain ⟨k, T, d, rfl, hk, hT, SD, FI, OA, O, B⟩ := hrel
                by_cases hlt2 : k < K
                · have d3 : (k : Int) < (K : Int) := by omega
                  obtain ⟨vb, cap', ev, hvb, z1, z2, z3⟩ := OA.rdA.arc hlt2
                  injection ev with e1 e2 e3
                  subst e1 e3
                  have dg := DG.out k hlt2
                  have ci := O.cell hlt
                  by_cases hfi : S.fr k = i
                  · have q1 : (((S.fr k : Nat) : Int) == (i : Int)) = true := by simp; omega
                    have HFI := Lib.hid hfi
                    by_cases hd : d i = far
                    · have q2 : (d i != 1152921504606846976) = false := by simp; exact hd
                      have FI2 := Lib.hid (FI.out.skip (.inr hd))
                      clear hd hfi FI z2 z3
                      go_wp2_with fail
                      go_roundw
                      case rel => exact ⟨k + 1, T, d, by simp, by omega, by omega, SD, FI2, OA, O, B⟩
                      case measure => simp [intOf]; omega
                    · have q2 : (d i != 1152921504606846976) = true := by simp; exact hd
                      have hth : S.th k < n := dg.2.1
                      have iz : ((S.th k : Nat) : Int) < (n : Int) := by omega
                      have ct := O.cell hth
                      have ft := O.frozen (S.th k)
                      have szi := SD.out.size DG.out.in_ (by omega) hlt hd
                      have szt : -1000000000000000 ≤ d (S.th k) ∧ d (S.th k) ≤ 1152921504606846976 := by
                        by_cases e : d (S.th k) = far
                        · unfold far at e; omega
                        · have := SD.out.size DG.out.in_ (by omega) hth e; omega
                      obtain ⟨t1, t2⟩ := szt
                      have g1 : -1000000000000000 ≤ d i + S.ln k := by omega
                      have g2 : d i + S.ln k ≤ 1000000000000000 := by omega
                      have SD2 := Lib.hid (SD.out.min_ DG.out hlt2 hfi hd)
                      have FI2 := Lib.hid (FI.out.take DG.out hlt2 hfi)
                      obtain ⟨mn, hmn⟩ : ∃ mn, mn = min (d (S.th k)) (d i + S.ln k) := ⟨_, rfl⟩
                      have em : (if d i + S.ln k < d (S.th k) then d i + S.ln k else d (S.th k)) = mn := by rw [hmn]; split <;> omega
                      rw [← hmn] at SD2 FI2
                      have O2 := O.set hth mn
                      have B2 := B.setCell (p := ⟨f, S.th k, none⟩) hf0 (.int .i64 mn)
                      have A2 : OwA (wr.setCell ⟨f, S.th k, none⟩ (.int .i64 mn)) (.slice (some ⟨vb, 0, none⟩) K cv) K S := OA.keep fun c hc => Below.heap_setCell _ _ _ _ (HUf.out c hc)
                      have HO := Lib.hid (And.intro O2 (And.intro B2 A2))
                      clear hd hfi FI SD O2 B2 A2 szi OA O B hmn
                      go_upto_region 26 with fail
                      refine still_tail 26 (by kernel_rfl) (by kernel_rfl) ?_
                      simp only [List.take_succ_cons, List.take_zero, List.drop_succ_cons, List.drop_zero]
                      repeat still_step
                      with_reducible refine wpStill_nil ?_
                      go_wp2_with fail
                      go_roundw
                      case rel => exact ⟨k + 1, T + 1, _, by simp, by omega, by omega, SD2, FI2, HO.out.2.2.keep (fun _ _ => rfl), HO.out.1.keep (fun _ _ => rfl), ⟨HO.out.2.1.os, HO.out.2.1.tape, HO.out.2.1.output, HO.out.2.1.size, HO.out.2.1.block⟩⟩
                      case measure => simp [intOf]; omega
                  · have q1 : (((S.fr k : Nat) : Int) == (i : Int)) = false := by simp; omega
                    have FI2 := Lib.hid (FI.out.skip (.inl hfi))
                    clear hfi FI z2 z3
                    go_wp2_with fail
                    go_roundw
                    case rel => exact ⟨k + 1, T, d, by simp, by omega, by omega, SD, FI2, OA, O, B⟩
                    case measure => simp [intOf]; omega
                · have d3 : ¬ ((k : Int) < (K : Int)) := by omega
                  obtain rfl : K = k := by omega
                  have FI2 := Lib.hid FI.out.next
                  have hT2 : T ≤ (i + 1) * K := by rw [Nat.succ_mul]; exact hT
                  clear FI
                  go_wp2_with fail
                  go_roundw
                  case rel => exact ⟨i + 1, T, d, by simp, by omega, hT2, SD, FI2, OA, O, B⟩
                  case measure => simp [intOf]; omega
            · have d2 : ¬ ((i : Int) < (n : Int)) := by omega
              obtain rfl : n = i := by omega
              have FX := Lib.hid (FI.out.end_ DG.out)
              have R7 := OA.rdA
              obtain ⟨w7, rfl⟩ : ∃ w7, w7 = wr := ⟨_, rfl⟩
              clear FI OA
              go_wp2_with fail
              refine (any_any w7 n K 0 _ S R7 DG.out.in_ (by omega) (by omega) hK2).mono ?_
              rintro e w8 ⟨b8, ⟨bd, cd, d8, t8, rfl, Od, hbd, S8, ht8, F8⟩ | ⟨_, _, _, _, _, _, RF⟩⟩
              rotate_left
              · exact absurd DG.out.noNeg RF.bad
              have B8 := B.trans (b8.mono B.size)
              have R8 := R7.below b8 (Nat.le_refl _)
              have O8 := O.below b8 (Nat.le_refl _)
              have es : sameB n n d8 d = true := sameB_true.mpr ⟨rfl, F8.one S8 FX.out SD.out DG.out.in_ (by omega) (by unfold far; omega) (by unfold far; omega) (by omega)⟩
              have HES := Lib.hid es
              clear b8 B R7 O S8 F8 es
              go_wp2_with fail
              refine (ints6_any w8 _ _ n n d8 d (by omega) (by omega) Od.rd O8.rd).mono ?_
              rintro e w9 ⟨rfl, b9⟩
              rw [HES.out]
              have B9 := B8.trans (b9.mono B8.size)
              have R9 := R8.below b9 (Nat.le_refl _)
              have O9 := O8.below b9 (Nat.le_refl _)
              clear b9 B8 R8 O8 Od HES
              go_wp2_with fail
              refine (right_any w9 n K 0 n _ _ S d R9 O9.rd DG.out.in_ (by omega) (by omega) hK2 (by omega)).mono ?_
              rintro e w10 ⟨b10, ⟨d7, t7, S7, ht7, F7, rfl⟩ | ⟨hn, _⟩⟩
              · have e7 : sameB n n d7 d = true := sameB_true.mpr ⟨rfl, F7.one S7 FX.out SD.out DG.out.in_ (by omega) (by unfold far; omega) (by unfold far; omega) (by omega)⟩
                rw [e7]
                have B10 := B9.trans (b10.mono B9.size)
                clear e7 S7 F7 ht7 b10
                go_wp2_with fail
                go_ret
                exact ⟨rfl, B10⟩
              · exact absurd DG.out.noNeg hn
end Go.Proofs.Ytchlccendggfpaa.Ro
