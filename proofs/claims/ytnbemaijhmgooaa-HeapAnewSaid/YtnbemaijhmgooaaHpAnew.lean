/- The walk of HeapAnew: a key that is put anew has its new rank. -/
import Derived.Test.YtnbemaijhmgooaaHpC
namespace Go.Proofs.Ytnbemaijhmgooaa.Hp
open Go.RowKit Go.Maps Go.Proofs
set_option linter.unusedVariables false
set_option linter.unusedSimpArgs false

theorem tdiv_bounds (z : Int) (h : -9223372036854775808 ≤ z ∧ z ≤ 9223372036854775807) : -9223372036854775808 ≤ z.tdiv 100 ∧ z.tdiv 100 ≤ 9223372036854775807 := by
  rcases Int.le_total 0 z with h0 | h0
  · rw [Int.tdiv_eq_ediv_of_nonneg h0]; omega
  · have e : z.tdiv 100 = -((-z).tdiv 100) := by rw [Int.neg_tdiv, Int.neg_neg]
    rw [e, Int.tdiv_eq_ediv_of_nonneg (by omega)]; omega
theorem tdiv_small {z : Int} (h : Small z) : Small (z.tdiv 100) := WalkArith.wf_i64 (tdiv_bounds z (small_bounds h))

theorem least_low {f : Int → Option Int} {k lo : Int} (hk : f k = some lo) (hlo : ∀ q r, f q = some r → lo ≤ r) {x : It} (h : Least f x) : x.1 = k ∨ x.2 = lo ∧ x.1 < k := by
  have a := h.2 k lo hk
  have b := hlo _ _ h.1
  unfold le at a
  simp only at a
  omega

set_option maxHeartbeats 3200000 in
theorem anew_walk (A : Option Addr) (len cap : Nat) (zs : List Int) (key a b : Int) (w : World) (ha : ArgIs w A len zs) (hl : len ≤ 9223372036854775807) (wk : Small key) (wa : Small a) (wb : Small b) :
    Calls Try.prog 8 #[.slice A len cap, .int .i64 key, .int .i64 a, .int .i64 b] w fun e w' => e = .returned (.bool true) ∧ Below w.heap.size w w' := by
  go_enter Try.func8, Try.ntmps8
  go_wp2_with fail
  refine (known_any _).mono ?_
  rintro e w1 ⟨rfl, b1⟩
  go_wp2_with fail
  refine (new_any _).mono ?_
  rintro e w2 ⟨g, F, rfl, h2, hF, b2⟩
  have O2 : Own w g (fun f => ∀ q r, f q = some r → -9223372036854775808 ≤ r) w2 F (fun _ => none) 0 := Own.start h2 b1 hF b2 (fun q r h => by simp at h)
  clear h2 hF b1 b2
  go_wp2_with fail
  go_loopw [10] (fun u wr => ∃ (i : Nat) (F : Nat → Prop) (f : Int → Option Int) (n : Nat), u = .int .i64 (i : Int) ∧ i ≤ len ∧ Own w g (fun f => ∀ q r, f q = some r → -9223372036854775808 ≤ r) wr F f n) (fun u _ => len - (intOf u).toNat)
  case atStart => exact ⟨0, F, _, 0, rfl, Nat.zero_le _, O2⟩
  case round =>
    obtain ⟨i, F, f, n, rfl, hi, O⟩ := hrel
    clear O2
    by_cases hlt : i < len ∧ i < 50
    · obtain ⟨h1, h3⟩ := hlt
      obtain ⟨x, rfl, hx, hzl, hc⟩ := ha (by omega)
      have c0 := (hc i h1).1
      have sm := (hc i h1).2
      have cr : wr.cell? (x.add i) = some (.int .i64 (zs.getD i 0)) := (O.below.cell (by rw [block_add]; exact hx)).trans c0
      clear c0 hc
      have d1 : (i : Int) < (len : Int) := by omega
      have d2 : (i : Int) < 50 := by omega
      have sb := small_bounds sm
      obtain ⟨z, hz⟩ : ∃ z, z = zs.getD i 0 := ⟨_, rfl⟩
      rw [← hz] at cr sm sb
      clear hz
      have ez : IntKind.i64.wrap (z.tdiv 100) = z.tdiv 100 := IntWalk.i64_quo' z 100 ⟨sb.1, sb.2, by omega⟩
      have sq := tdiv_small sm
      have m1 := Int.emod_nonneg z (b := 100) (by omega)
      have m2 := Int.emod_lt_of_pos z (b := 100) (by omega)
      have m3 := Int.emod_nonneg (z.tdiv 100) (b := 30) (by omega)
      go_upto_region 9 with fail
      refine still_tail 12 (by kernel_rfl) (by kernel_rfl) ?_
      simp only [List.take_succ_cons, List.take_zero, List.drop_succ_cons, List.drop_zero]
      repeat (with_reducible refine still_on (by with_unfolding_all rfl) ?_; intro K hK; go_simp; with_reducible refine hK _ ?_; clear hK K)
      refine still_on (by with_unfolding_all rfl) ?_
      intro K hK
      go_simp
      refine ⟨_, (within_any _ z 100 sm (by omega) (by omega)).mono (fun e w' h => ⟨h.1, h.2.symm⟩), hK _ ?_⟩
      clear hK K
      repeat (with_reducible refine still_on (by with_unfolding_all rfl) ?_; intro K hK; go_simp; with_reducible refine hK _ ?_; clear hK K)
      refine still_on (by with_unfolding_all rfl) ?_
      intro K hK
      go_simp
      refine ⟨_, (within_any _ (z.tdiv 100) 30 sq (by omega) (by omega)).mono (fun e w' h => ⟨h.1, h.2.symm⟩), hK _ ?_⟩
      clear hK K
      with_reducible refine wpStill_nil ?_
      go_wp2_with fail
      have hO : HeapIs wr.drew g F f n := O.heap.keep fun k hk => rfl
      refine (put_any wr.drew g F f n (z % 100) (z.tdiv 100 % 30) hO (by unfold Key; omega)).mono ?_
      rintro e w4 ⟨rfl, F4, h4, hF4, T4⟩
      have O' : Own w g (fun f => ∀ q r, f q = some r → -9223372036854775808 ≤ r) wr.drew F f n := ⟨hO, O.told, O.new, O.below.drew⟩
      have O4 := O'.turned (Q' := fun f => ∀ q r, f q = some r → -9223372036854775808 ≤ r) h4 hF4 T4 (by
        intro q r hq
        by_cases e : q = z % 100
        · subst e; rw [upd_same] at hq; injection hq with hq; omega
        · rw [upd_ne e] at hq; exact O.told q r hq)
      clear h4 hF4 T4 O cr sm O' sb ez sq m1 m2 m3
      go_wp2_with fail
      go_roundw
      case rel => exact ⟨i + 1, _, _, _, by simp, by omega, O4⟩
      case measure => simp [intOf]; omega
    · have hlt2 : ¬ ((i : Int) < (len : Int)) ∨ (i : Int) < (len : Int) ∧ ¬ ((i : Int) < 50) := by omega
      clear hlt ha
      have hk := mod_key key
      rcases hlt2 with d1 | ⟨d1, d2⟩
      all_goals
        go_wp2_with fail
        refine (within_any _ key 300 wk (by omega) (by omega)).mono ?_
        rintro e w3 ⟨rfl, rfl⟩
        generalize key % 300 = k at *
        go_wp2_with fail
        refine (put_any _ g F f n k a O.heap hk).mono ?_
        rintro e w4 ⟨rfl, F4, h4, hF4, T4⟩
        have O4 := O.turned (Q' := fun f => ∀ q r, f q = some r → -9223372036854775808 ≤ r) h4 hF4 T4 (by
          intro q r hq
          by_cases e : q = k
          · subst e; rw [upd_same] at hq; injection hq with hq; have := small_bounds wa; omega
          · rw [upd_ne e] at hq; exact O.told q r hq)
        clear h4 hF4 T4 O
        generalize hn : bump f k n = n1 at *
        clear hn
        have f4 : upd f k (some a) k = some a := upd_same _ _ _
        generalize upd f k (some a) = f1 at *
        have F4 := Lib.hid f4
        clear f4
        go_wp2_with fail
        refine (len_any _ g _ _ _ O4.heap).mono ?_
        rintro e w5 ⟨rfl, rfl⟩
        go_wp2_with fail
        refine (put_any _ g _ f1 n1 k b O4.heap hk).mono ?_
        rintro e w6 ⟨rfl, F6, h6, hF6, T6⟩
        have e6 : bump f1 k n1 = n1 := by unfold bump; rw [F4.out]; rfl
        rw [e6] at h6
        have O6 := O4.turned (Q' := fun f => ∀ q r, f q = some r → -9223372036854775808 ≤ r) h6 hF6 T6 (by
          intro q r hq
          by_cases e : q = k
          · subst e; rw [upd_same] at hq; injection hq with hq; have := small_bounds wb; omega
          · rw [upd_ne e] at hq; exact O4.told q r hq)
        clear h6 hF6 T6 O4 e6
        go_wp2_with fail
        refine (rank_any _ g F6 _ n1 k O6.heap).mono ?_
        rintro e w7 ⟨rfl, rfl⟩
        rw [upd_same]
        simp only [Option.getD_some, Option.isSome_some]
        go_wp2_with fail
        refine (put_any _ g F6 _ n1 k _ O6.heap hk).mono ?_
        rintro e w8 ⟨rfl, F8, h8, hF8, T8⟩
        have e8 : bump (upd f1 k (some b)) k n1 = n1 := by unfold bump; rw [upd_same]; rfl
        rw [e8] at h8
        have O8 := O6.turned (Q' := fun f => ∀ q r, f q = some r → -9223372036854775808 ≤ r) h8 hF8 T8 (by
          intro q r hq
          by_cases e : q = k
          · subst e; rw [upd_same] at hq; injection hq with hq; omega
          · rw [upd_ne e] at hq; exact O6.told q r hq)
        clear h8 hF8 T8 O6 e8
        have hn8 : 0 < n1 := by
          obtain ⟨v, bm, G, m, h1, h2, h3, h4, h5, rfl⟩ := O8.heap
          exact h3.pos (upd_same _ _ _)
        go_wp2_with fail
        refine (least_any _ g F8 _ n1 O8.heap).mono ?_
        rintro e w9 ⟨x, is, rfl, hx, b9⟩
        obtain ⟨rfl, hL⟩ := hx.yes hn8
        have hlow := least_low (upd_same _ _ _) O8.told hL
        have O9 := (O8.later b9).later ((Below.refl _ w9).alloc (Nat.le_refl _) (.cells #[.int .i64 x.1, .int .i64 x.2] 31))
        have x0 : (w9.alloc (.cells #[.int .i64 x.1, .int .i64 x.2] 31)).cell? ⟨w9.heap.size, 0, none⟩ = some (.int .i64 x.1) := new_cell rfl _ _ _ 0
        have x1 : (w9.alloc (.cells #[.int .i64 x.1, .int .i64 x.2] 31)).cell? ⟨w9.heap.size, 1, none⟩ = some (.int .i64 x.2) := new_cell rfl _ _ _ 1
        clear hx hL O8 b9 hn8
        rcases hlow with c1 | ⟨c1, c2⟩
        · have d3 : (x.1 == k) = true := by simp [c1]
          clear c1
          go_wp2_with fail
          generalize (w9.alloc (.cells #[.int .i64 x.1, .int .i64 x.2] 31)) = w10 at *
          generalize w9.heap.size = y at *
          refine (len_any _ g _ _ _ O9.heap).mono ?_
          rintro e w11 ⟨rfl, rfl⟩
          go_wp2
          go_ret
          exact ⟨by simp, O9.below⟩
        · have d3 : (x.1 == k) = false := by simp; omega
          have d4 : (x.2 == -9223372036854775808) = true := by simp [c1]
          clear c1
          go_wp2_with fail
          generalize (w9.alloc (.cells #[.int .i64 x.1, .int .i64 x.2] 31)) = w10 at *
          generalize w9.heap.size = y at *
          refine (len_any _ g _ _ _ O9.heap).mono ?_
          rintro e w11 ⟨rfl, rfl⟩
          go_wp2
          go_ret
          exact ⟨by simp, O9.below⟩
end Go.Proofs.Ytnbemaijhmgooaa.Hp
