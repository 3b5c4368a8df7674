/- Walks: within, of chapter 3; slices.Index. -/
import Derived.Test.YtbnghpemlcmogaaRoX
namespace Go.Proofs.Ytbnghpemlcmogaa.Ro
open Go.RowKit Go.Proofs Go.Maps
set_option linter.unusedVariables false
set_option linter.unusedSimpArgs false

theorem within3_any (w : World) (a n : Int) (ha : Small a) (hn : 0 < n) (hm : n ≤ 1125899906842624) :
    Calls Try.prog 21 #[.int .i64 a, .int .i64 n] w fun e w' => e = .returned (.int .i64 (a % n)) ∧ w = w' := by
  have hb := small_bounds ha
  have h1 := Int.tmod_lt_of_pos a hn
  have h2 := Int.lt_tmod_of_pos a hn
  have h0 : (n == 0) = false := by simp; omega
  by_cases h : Int.tmod a n < 0
  · have d : decide (Int.tmod a n < 0) = true := by simpa using h
    have e : Int.tmod a n + n = a % n := by
      have := Int.emod_emod_of_dvd a (Int.dvd_refl n)
      have h3 : (Int.tmod a n + n) % n = a % n := by
        rw [Int.add_emod_right]
        have := Int.mul_tdiv_add_tmod a n
        conv => rhs; rw [← this]
        rw [Int.mul_add_emod_self_left]
      rw [← h3]
      exact (Int.emod_eq_of_lt (by omega) (by omega)).symm
    have E := Lib.hid e
    clear e h
    go_enter Try.func21, Try.ntmps21
    go_wp2
    go_ret
    exact ⟨by rw [← E.out]; rfl, rfl⟩
  · have d : decide (Int.tmod a n < 0) = false := by simpa using h
    have e : Int.tmod a n = a % n := by
      have h3 : (Int.tmod a n) % n = a % n := by
        have := Int.mul_tdiv_add_tmod a n
        conv => rhs; rw [← this]
        rw [Int.mul_add_emod_self_left]
      rw [← h3]
      exact (Int.emod_eq_of_lt (by omega) (by omega)).symm
    have E := Lib.hid e
    clear e h
    go_enter Try.func21, Try.ntmps21
    go_wp2
    go_ret
    exact ⟨by rw [← E.out]; rfl, rfl⟩

/-- where a number first stands -/
def First (x : Nat → Int) (n : Nat) (v r : Int) : Prop := (r = -1 ∧ ∀ j, j < n → x j ≠ v) ∨ ∃ i : Nat, r = (i : Int) ∧ i < n ∧ x i = v ∧ ∀ j, j < i → x j ≠ v
theorem index_any (w : World) (V : Value) (n : Nat) (x : Nat → Int) (v : Int) (hn : n ≤ 1000) (h : Rd w V n x) :
    Calls Try.prog 37 #[V, .int .i64 v] w fun e w' => ∃ r, e = .returned (.int .i64 r) ∧ First x n v r ∧ w = w' := by
  obtain ⟨A, cap, rfl, r⟩ := h
  go_enter Try.func37, Try.ntmps37
  go_wp2_with fail
  go_loop [8] (fun u => ∃ i : Nat, u = .int .i64 (i : Int) ∧ i ≤ n ∧ ∀ j, j < i → x j ≠ v) (fun u => n - (intOf u).toNat)
  case atStart => exact ⟨0, rfl, Nat.zero_le _, fun j h => by omega⟩
  case round =>
    obtain ⟨i, rfl, hi, hno⟩ := hrel
    have HN := Lib.hid hno
    clear hno
    by_cases hlt : i < n
    · have d1 : (i : Int) < (n : Int) := by omega
      obtain ⟨y, rfl, hy, hc⟩ := r (by omega)
      have cr := hc i hlt
      clear hc r
      by_cases hq : v = x i
      · have q1 : (v == x i) = true := by simpa using hq
        have HQ := Lib.hid hq.symm
        clear hq
        go_wp2_with fail
        go_ret
        exact ⟨_, rfl, .inr ⟨i, rfl, hlt, HQ.out, HN.out⟩, rfl⟩
      · have q1 : (v == x i) = false := by simpa using hq
        have H2 : Hid (∀ j, j < i + 1 → x j ≠ v) := Lib.hid fun j hj => by
          rcases Nat.lt_or_ge j i with q | q
          · exact HN.out j q
          · rw [show j = i by omega]; exact fun e => hq e.symm
        clear hq
        go_wp2_with fail
        go_round
        case rel => exact ⟨i + 1, by simp, by omega, H2.out⟩
        case measure => simp [intOf]; omega
    · have d1 : ¬ ((i : Int) < (n : Int)) := by omega
      obtain rfl : n = i := by omega
      clear r
      go_wp2_with fail
      go_ret
      exact ⟨_, rfl, .inl ⟨rfl, HN.out⟩, rfl⟩

set_option maxHeartbeats 3200000 in
/-- where, from a place on, round about, a vertex's first dart stands -/
theorem first_any (w : World) (N : Int) (T X C D : Value) (m k : Nat) (t dd : Nat → Int) (v : Int) (a : Nat) (hT : Rd w T m t) (hD : Rd w D k dd) (hk : k ≤ 1000) (hm : m ≤ 1000) (ha : a < k) (hd : ∀ j, j < k → 0 ≤ dd j ∧ dd j < m) :
    Calls Try.prog 38 #[.agg #[.int .i64 N, T, X, C, D], .int .i64 v, .int .i64 (a : Int)] w fun e w' => ∃ r : Int, e = .returned (.int .i64 r) ∧ ((r = -1 ∧ ∀ j, j < k → t (dd j).toNat ≠ v) ∨ ∃ i : Nat, i < k ∧ r = ((a + i) % k : Nat) ∧ t (dd ((a + i) % k)).toNat = v ∧ ∀ j, j < i → t (dd ((a + j) % k)).toNat ≠ v) ∧ Below w.heap.size w w' := by
  obtain ⟨TA, tp, rfl, rt⟩ := hT
  obtain ⟨DA, dp, rfl, rd⟩ := hD
  have hk0 : 0 < k := by omega
  obtain ⟨yt, rfl, hyt, hct⟩ := rt (by have := hd 0 hk0; omega)
  obtain ⟨yd, rfl, hyd, hcd⟩ := rd hk0
  clear rt rd
  have HT := Lib.hid hct
  have HD := Lib.hid hcd
  have HB := Lib.hid hd
  clear hct hcd hd
  go_enter Try.func38, Try.ntmps38
  go_wp2_with fail
  have B2 : Below w.heap.size w (w.alloc (.cells #[.int .i64 N, .slice (some yt) m tp, X, C, .slice (some yd) k dp] 56)) := (Below.refl _ w).alloc (Nat.le_refl _) _
  have X2 : (w.alloc (.cells #[.int .i64 N, .slice (some yt) m tp, X, C, .slice (some yd) k dp] 56)).heap[w.heap.size]? = some (.cells #[.int .i64 N, .slice (some yt) m tp, X, C, .slice (some yd) k dp] 56 (0, 0)) := heap_alloc_new _ _
  generalize (w.alloc (.cells #[.int .i64 N, .slice (some yt) m tp, X, C, .slice (some yd) k dp] 56)) = w2 at *
  obtain ⟨p, hp⟩ : ∃ p, p = w.heap.size := ⟨_, rfl⟩
  rw [← hp] at X2 ⊢
  clear hp
  go_loopw [12] (fun u wr => ∃ i : Nat, u = .int .i64 (i : Int) ∧ i ≤ k ∧ (∀ j, j < i → t (dd ((a + j) % k)).toNat ≠ v) ∧ wr.heap[p]? = some (.cells #[.int .i64 N, .slice (some yt) m tp, X, C, .slice (some yd) k dp] 56 (0, 0)) ∧ Below w.heap.size w wr) (fun u _ => k - (intOf u).toNat)
  case atStart => exact ⟨0, rfl, Nat.zero_le _, fun j h => by omega, X2, B2⟩
  case round =>
    clear X2 B2
    obtain ⟨i, rfl, hi, hno, Xb, B⟩ := hrel
    have HN := Lib.hid hno
    clear hno
    have c1 : wr.cell? ⟨p, 1, none⟩ = some (.slice (some yt) m tp) := blk_cell Xb 1
    have c4 : wr.cell? ⟨p, 4, none⟩ = some (.slice (some yd) k dp) := blk_cell Xb 4
    by_cases hlt : i < k
    · have d1 : (i : Int) < (k : Int) := by omega
      have hr : (a + i) % k < k := Nat.mod_lt _ hk0
      have rm : ((a : Int) + (i : Int)) % (k : Int) = (((a + i) % k : Nat) : Int) := by
        rw [show (a : Int) + (i : Int) = ((a + i : Nat) : Int) by omega]
        exact (Int.natCast_emod _ _).symm
      have hb := HB.out _ hr
      obtain ⟨u, hu⟩ : ∃ u : Nat, dd ((a + i) % k) = (u : Int) := ⟨(dd ((a + i) % k)).toNat, by omega⟩
      have cd := (B.cell (p := yd.add ((a + i) % k)) (by rw [block_add]; exact hyd)).trans (HD.out _ hr)
      rw [hu] at cd
      have hum : u < m := by omega
      have ct := (B.cell (p := yt.add u) (by rw [block_add]; exact hyt)).trans (HT.out u hum)
      have HU : Hid (dd ((a + i) % k) = (u : Int)) := Lib.hid hu
      have RR : Hid (∃ n, n = (a + i) % k) := Lib.hid ⟨_, rfl⟩
      clear hb hu
      obtain ⟨r, hrr⟩ : ∃ r, (a + i) % k = r := ⟨_, rfl⟩
      have HR := Lib.hid hrr
      rw [hrr] at rm cd hr
      clear hrr
      have l1 : (r : Int) < (k : Int) := by omega
      have l2 : (u : Int) < (m : Int) := by omega
      have l3 : (0 : Int) < (k : Int) := by omega
      have l4 : (0 : Int) ≤ (a : Int) + (i : Int) := by omega
      have HRM := Lib.hid rm
      by_cases hq : t u = v
      · have q1 : (t u == v) = true := by simpa using hq
        have HQ := Lib.hid hq
        clear hq
        go_upto_region 5 with fail
        go_big_quiet (fail)
        have E := B.trans ((below_draws wr nq).mono B.size)
        clear B
        go_wp2_with fail
        go_ret
        exact ⟨_, rfl, .inr ⟨i, hlt, by rw [HRM.out, HR.out], by have h1 := HR.out; have h2 := HU.out; have h3 := HQ.out; (first | (rw [h1] at h2 ⊢; rw [h2]; exact h3) | (rw [h2]; exact h3) | (subst h1; rw [h2]; exact h3)), HN.out⟩, E⟩
      · have q1 : (t u == v) = false := by simpa using hq
        have H2 : Hid (∀ j, j < i + 1 → t (dd ((a + j) % k)).toNat ≠ v) := Lib.hid fun j hj => by
          rcases Nat.lt_or_ge j i with q | q
          · exact HN.out j q
          · rw [show j = i by omega, HU.out]; exact hq
        clear hq
        go_upto_region 5 with fail
        go_big_quiet (fail)
        have E := B.trans ((below_draws wr nq).mono B.size)
        have X5 : (wr.drewN nq).heap[p]? = some (.cells #[.int .i64 N, .slice (some yt) m tp, X, C, .slice (some yd) k dp] 56 (0, 0)) := Xb
        clear B c1 c4 cd ct rm l1 l2 l3 l4
        generalize wr.drewN nq = w5 at *
        go_wp2_with fail
        go_roundw
        case rel => exact ⟨i + 1, by simp, by omega, H2.out, X5, E⟩
        case measure => simp [intOf]; omega
    · have d1 : ¬ ((i : Int) < (k : Int)) := by omega
      obtain rfl : k = i := by omega
      have all : Hid (∀ j, j < k → t (dd j).toNat ≠ v) := Lib.hid fun j hj => by
        have := HN.out ((j + k - a) % k) (Nat.mod_lt _ hk0)
        rwa [Nat.add_mod_mod, show a + (j + k - a) = j + k by omega, Nat.add_mod_right, Nat.mod_eq_of_lt hj] at this
      go_wp2_with fail
      go_ret
      exact ⟨_, rfl, .inl ⟨rfl, all.out⟩, B⟩
end Go.Proofs.Ytbnghpemlcmogaa.Ro
