/- Walks: within, of chapters 1 and 2. Walks: rows that are the same are told to be so. Walks: the reference's Head. Walks: within, of chapter 3; slices.Index. Walks: first and meets, of the reference's chapter 3. Walks: within of law 8. -/
import Derived.Test.YtcdlnohnkdalbaaMg1
import Derived.Test.YtcdlnohnkdalbaaMg6
namespace Go.Proofs.Ytcdlnohnkdalbaa.Ro
open Go.RowKit Go.Proofs Go.Maps
set_option linter.unusedVariables false
set_option maxRecDepth 100000
set_option linter.unusedSimpArgs false

theorem within2_any (w : World) (a n : Int) (ha : Small a) (hn : 0 < n) (hm : n ≤ 1125899906842624) :
    Calls Try.prog 29 #[.int .i64 a, .int .i64 n] w fun e w' => e = .returned (.int .i64 (a % n)) ∧ w = w' := by
  have hb := small_bounds ha
  have h1 := Int.tmod_lt_of_pos a hn
  have h2 := Int.lt_tmod_of_pos a hn
  have h0 : (n == 0) = false := by simp; omega
  by_cases h : Int.tmod a n < 0
  · have d : decide (Int.tmod a n < 0) = true := by simpa using h
    have e : Int.tmod a n + n = a % n := by
      have := Int.emod_emod_of_dvd a (Int.dvd_refl n)
      have h3 : (Int.tmod a n + n) % n = a % n := by
        rw [Int.add_emod_right]
        have := Int.mul_tdiv_add_tmod a n
        conv => rhs; rw [← this]
        rw [Int.mul_add_emod_self_left]
      rw [← h3]
      exact (Int.emod_eq_of_lt (by omega) (by omega)).symm
    have E := Lib.hid e
    clear e h
    go_enter Try.func29, Try.ntmps29
    go_wp2
    go_ret
    exact ⟨by rw [← E.out]; rfl, rfl⟩
  · have d : decide (Int.tmod a n < 0) = false := by simpa using h
    have e : Int.tmod a n = a % n := by
      have h3 : (Int.tmod a n) % n = a % n := by
        have := Int.mul_tdiv_add_tmod a n
        conv => rhs; rw [← this]
        rw [Int.mul_add_emod_self_left]
      rw [← h3]
      exact (Int.emod_eq_of_lt (by omega) (by omega)).symm
    have E := Lib.hid e
    clear e h
    go_enter Try.func29, Try.ntmps29
    go_wp2
    go_ret
    exact ⟨by rw [← E.out]; rfl, rfl⟩

theorem within1_any (w : World) (a n : Int) (ha : Small a) (hn : 0 < n) (hm : n ≤ 1125899906842624) :
    Calls Try.prog 43 #[.int .i64 a, .int .i64 n] w fun e w' => e = .returned (.int .i64 (a % n)) ∧ w = w' := by
  have hb := small_bounds ha
  have h1 := Int.tmod_lt_of_pos a hn
  have h2 := Int.lt_tmod_of_pos a hn
  have h0 : (n == 0) = false := by simp; omega
  by_cases h : Int.tmod a n < 0
  · have d : decide (Int.tmod a n < 0) = true := by simpa using h
    have e : Int.tmod a n + n = a % n := by
      have := Int.emod_emod_of_dvd a (Int.dvd_refl n)
      have h3 : (Int.tmod a n + n) % n = a % n := by
        rw [Int.add_emod_right]
        have := Int.mul_tdiv_add_tmod a n
        conv => rhs; rw [← this]
        rw [Int.mul_add_emod_self_left]
      rw [← h3]
      exact (Int.emod_eq_of_lt (by omega) (by omega)).symm
    have E := Lib.hid e
    clear e h
    go_enter Try.func43, Try.ntmps43
    go_wp2
    go_ret
    exact ⟨by rw [← E.out]; rfl, rfl⟩
  · have d : decide (Int.tmod a n < 0) = false := by simpa using h
    have e : Int.tmod a n = a % n := by
      have h3 : (Int.tmod a n) % n = a % n := by
        have := Int.mul_tdiv_add_tmod a n
        conv => rhs; rw [← this]
        rw [Int.mul_add_emod_self_left]
      rw [← h3]
      exact (Int.emod_eq_of_lt (by omega) (by omega)).symm
    have E := Lib.hid e
    clear e h
    go_enter Try.func43, Try.ntmps43
    go_wp2
    go_ret
    exact ⟨by rw [← E.out]; rfl, rfl⟩

/-- a dart behind another one, in a row of the call's own -/
theorem lay_any (w : World) (b m cap : Nat) (x : Nat → Int) (h : Ow w (.slice (some ⟨b, 0, none⟩) m cap) m x) (e d : Nat) (he : e < m) (hd : d < m) :
    Calls Try.prog 32 #[.slice (some ⟨b, 0, none⟩) m cap, .int .i64 (e : Int), .int .i64 (d : Int)] w
      fun en w' => en = .returned (.tuple #[]) ∧ Ow w' (.slice (some ⟨b, 0, none⟩) m cap) m (upd (upd x d (x e)) e (d : Int)) ∧ Turn (fun k => k = b) w w' := by
  have c1 := h.cell he
  have c2 := h.cell hd
  have f1 := h.frozen d
  have f2 := h.frozen e
  have h2 := h.set hd (x e)
  have c3 := h2.cell he
  have f3 := h2.frozen e
  have h3 := h2.set he (d : Int)
  have T3 : Turn (fun k => k = b) w ((w.setCell ⟨b, d, none⟩ (.int .i64 (x e))).setCell ⟨b, e, none⟩ (.int .i64 (d : Int))) :=
    ⟨rfl, rfl, rfl, by simp [World.setCell], fun k _ hk => (Below.heap_setCell _ _ _ _ hk).trans (Below.heap_setCell _ _ _ _ hk)⟩
  have s1 : (e : Int) < (m : Int) := by omega
  have s2 : (d : Int) < (m : Int) := by omega
  clear h h2
  go_enter Try.func32, Try.ntmps32
  go_wp2
  go_end0
  exact ⟨rfl, h3, T3⟩

/-- what Cap tells -/
def capOf (n : Int) : Int :=
  let k := n % 1099511627776
  if k % 7 = 0 then 0 else if k % 7 = 1 then 2147483648 - k / 7 % 3 else if k % 7 = 2 then k / 7 % 1000000 else k / 7 % 9
theorem capOf_in (n : Int) : 0 ≤ capOf n ∧ capOf n ≤ 2147483648 := by
  have m1 := Int.emod_nonneg n (b := 1099511627776) (by omega)
  unfold capOf
  simp only
  split
  · omega
  · split
    · omega
    · split <;> omega
theorem cap_any (w : World) (n : Int) (hn : Small n) :
    Calls Try.prog 30 #[.int .i64 n] w fun e w' => e = .returned (.int .i64 (capOf n)) ∧ Below w.heap.size w w' := by
  have hc : capOf n = if n % 1099511627776 % 7 = 0 then 0 else if n % 1099511627776 % 7 = 1 then 2147483648 - n % 1099511627776 / 7 % 3 else if n % 1099511627776 % 7 = 2 then n % 1099511627776 / 7 % 1000000 else n % 1099511627776 / 7 % 9 := rfl
  have HC := Lib.hid hc
  clear hc
  go_enter Try.func30, Try.ntmps30
  go_wp2_with fail
  refine (within1_any _ n 1099511627776 hn (by omega) (by omega)).mono ?_
  rintro e w1 ⟨rfl, rfl⟩
  have m1 := Int.emod_nonneg n (b := 1099511627776) (by omega)
  have m2 := Int.emod_lt_of_pos n (b := 1099511627776) (by omega)
  generalize n % 1099511627776 = k at *
  have hm : k % 7 = 0 ∨ k % 7 = 1 ∨ k % 7 = 2 ∨ (k % 7 = 3 ∨ k % 7 = 4 ∨ k % 7 = 5 ∨ k % 7 = 6) := by omega
  rcases hm with h | h | h | h
  · go_wp2
    go_ret
    exact ⟨by rw [HC.out, if_pos h]; rfl, Below.refl _ _⟩
  · go_wp2
    go_ret
    exact ⟨by rw [HC.out, if_neg (by omega), if_pos h]; rfl, Below.refl _ _⟩
  · go_wp2
    go_ret
    exact ⟨by rw [HC.out, if_neg (by omega), if_neg (by omega), if_pos h]; rfl, Below.refl _ _⟩
  · rcases h with h | h | h | h
    all_goals
      go_wp2
      go_ret
      exact ⟨by rw [HC.out, if_neg (by omega), if_neg (by omega), if_neg (by omega)]; rfl, Below.refl _ _⟩
end Go.Proofs.Ytcdlnohnkdalbaa.Ro
namespace Go.Proofs.Ytcdlnohnkdalbaa.Ro
open Go.RowKit Go.Proofs Go.Maps
set_option linter.unusedVariables false
set_option maxRecDepth 100000
set_option linter.unusedSimpArgs false

theorem ints_same (w : World) (U V : Value) (n : Nat) (x y : Nat → Int) (hn : n ≤ 1000) (hU : Rd w U n x) (hV : Rd w V n y) (he : ∀ j, j < n → x j = y j) :
    Calls Try.prog 20 #[U, V] w fun e w' => e = .returned (.bool true) ∧ Below w.heap.size w w' := by
  obtain ⟨A1, cap1, rfl, r1⟩ := hU
  obtain ⟨A2, cap2, rfl, r2⟩ := hV
  have f0 : ((n : Int) != (n : Int)) = false := by simp
  go_enter Try.func20, Try.ntmps20
  go_wp2_with fail
  go_loopw [5] (fun u wr => ∃ j : Nat, u = .int .i64 (j : Int) ∧ j ≤ n ∧ Below w.heap.size w wr) (fun u _ => n - (intOf u).toNat)
  case atStart => exact ⟨0, rfl, Nat.zero_le _, Below.refl _ _⟩
  case round =>
    obtain ⟨j, rfl, hj, B⟩ := hrel
    by_cases hlt : j < n
    · have d1 : (j : Int) < (n : Int) := by omega
      obtain ⟨y1, rfl, hy1, hc1⟩ := r1 (by omega)
      obtain ⟨y2, rfl, hy2, hc2⟩ := r2 (by omega)
      have c1 : wr.cell? (y1.add j) = some (.int .i64 (x j)) := (B.cell (by rw [block_add]; exact hy1)).trans (hc1 j hlt)
      have c2 : wr.cell? (y2.add j) = some (.int .i64 (x j)) := by rw [he j hlt]; exact (B.cell (by rw [block_add]; exact hy2)).trans (hc2 j hlt)
      have f1 : (x j != x j) = false := by simp
      clear hc1 hc2 r1 r2 he
      go_upto_region 6 with fail
      go_big_quiet (fail)
      go_wp2_with fail
      go_roundw
      case rel => exact ⟨j + 1, by simp, by omega, ⟨B.os, B.tape, B.output, B.size, B.block⟩⟩
      case measure => simp [intOf]; omega
    · have d1 : ¬ ((j : Int) < (n : Int)) := by omega
      clear r1 r2
      go_wp2
      go_ret
      exact ⟨rfl, B⟩
end Go.Proofs.Ytcdlnohnkdalbaa.Ro
namespace Go.Proofs.Ytcdlnohnkdalbaa.Ro
open Go.RowKit Go.Proofs Go.Maps
set_option linter.unusedVariables false
set_option maxRecDepth 100000
set_option linter.unusedSimpArgs false

theorem refHead_ok (w : World) (N : Nat) (T X C : Value) (m : Nat) (t : Nat → Int) (hT : Rd w T m t) (d : Nat) (hd : d ≤ 999) (ho : oth d < m) :
    Calls Try.prog 50 #[.agg #[.int .i64 (N : Int), T, X, C], .int .i64 (d : Int)] w fun e w' => e = .returned (.int .i64 (t (oth d))) ∧ Below w.heap.size w w' := by
  obtain ⟨A, cap, rfl, r⟩ := hT
  obtain ⟨y, rfl, hy, hc⟩ := r (by omega)
  have cx := hc (oth d) ho
  have d1 : (oth d : Int) < (m : Int) := by omega
  have hx := xor_one d (by omega)
  clear hc r
  go_enter Try.func50, Try.ntmps50
  go_upto_region 1 with fail
  have B2 : Below w.heap.size w (w.alloc (.cells #[.int .i64 (N : Int), .slice (some y) m cap, X, C] 25)) := (Below.refl _ w).alloc (Nat.le_refl _) _
  have X2 : Box (w.alloc (.cells #[.int .i64 (N : Int), .slice (some y) m cap, X, C] 25)) w.heap.size N (.slice (some y) m cap) X C := heap_alloc_new _ _
  have cy := (B2.cell (p := y.add (oth d)) (by rw [block_add]; exact hy)).trans cx
  generalize (w.alloc (.cells #[.int .i64 (N : Int), .slice (some y) m cap, X, C] 25)) = w3 at *
  have c1 : w3.cell? ⟨w.heap.size, 1, none⟩ = some (.slice (some y) m cap) := blk_cell X2 1
  go_wp2_with fail
  go_ret
  exact ⟨rfl, B2.os, B2.tape, B2.output, B2.size, B2.block⟩
end Go.Proofs.Ytcdlnohnkdalbaa.Ro
namespace Go.Proofs.Ytcdlnohnkdalbaa.Ro
open Go.RowKit Go.Proofs Go.Maps
set_option linter.unusedVariables false
set_option maxRecDepth 100000
set_option linter.unusedSimpArgs false

/-- where a number first stands -/
def First (x : Nat → Int) (n : Nat) (v r : Int) : Prop := (r = -1 ∧ ∀ j, j < n → x j ≠ v) ∨ ∃ i : Nat, r = (i : Int) ∧ i < n ∧ x i = v ∧ ∀ j, j < i → x j ≠ v
theorem index_any (w : World) (V : Value) (n : Nat) (x : Nat → Int) (v : Int) (hn : n ≤ 1000) (h : Rd w V n x) :
    Calls Try.prog 57 #[V, .int .i64 v] w fun e w' => ∃ r, e = .returned (.int .i64 r) ∧ First x n v r ∧ w = w' := by
  obtain ⟨A, cap, rfl, r⟩ := h
  go_enter Try.func57, Try.ntmps57
  go_wp2_with fail
  go_loop [8] (fun u => ∃ i : Nat, u = .int .i64 (i : Int) ∧ i ≤ n ∧ ∀ j, j < i → x j ≠ v) (fun u => n - (intOf u).toNat)
  case atStart => exact ⟨0, rfl, Nat.zero_le _, fun j h => by omega⟩
  case round =>
    obtain ⟨i, rfl, hi, hno⟩ := hrel
    have HN := Lib.hid hno
    clear hno
    by_cases hlt : i < n
    · have d1 : (i : Int) < (n : Int) := by omega
      obtain ⟨y, rfl, hy, hc⟩ := r (by omega)
      have cr := hc i hlt
      clear hc r
      by_cases hq : v = x i
      · have q1 : (v == x i) = true := by simpa using hq
        have HQ := Lib.hid hq.symm
        clear hq
        go_wp2_with fail
        go_ret
        exact ⟨_, rfl, .inr ⟨i, rfl, hlt, HQ.out, HN.out⟩, rfl⟩
      · have q1 : (v == x i) = false := by simpa using hq
        have H2 : Hid (∀ j, j < i + 1 → x j ≠ v) := Lib.hid fun j hj => by
          rcases Nat.lt_or_ge j i with q | q
          · exact HN.out j q
          · rw [show j = i by omega]; exact fun e => hq e.symm
        clear hq
        go_wp2_with fail
        go_round
        case rel => exact ⟨i + 1, by simp, by omega, H2.out⟩
        case measure => simp [intOf]; omega
    · have d1 : ¬ ((i : Int) < (n : Int)) := by omega
      obtain rfl : n = i := by omega
      clear r
      go_wp2_with fail
      go_ret
      exact ⟨_, rfl, .inl ⟨rfl, HN.out⟩, rfl⟩

set_option maxHeartbeats 3200000 in
/-- where, from a place on, round about, a vertex's first dart stands -/
theorem first_any (w : World) (N : Int) (T X C D : Value) (m k : Nat) (t dd : Nat → Int) (v : Int) (a : Nat) (hT : Rd w T m t) (hD : Rd w D k dd) (hk : k ≤ 1000) (hm : m ≤ 1000) (ha : a < k) (hd : ∀ j, j < k → 0 ≤ dd j ∧ dd j < m) :
    Calls Try.prog 58 #[.agg #[.int .i64 N, T, X, C, D], .int .i64 v, .int .i64 (a : Int)] w fun e w' => ∃ r : Int, e = .returned (.int .i64 r) ∧ ((r = -1 ∧ ∀ j, j < k → t (dd j).toNat ≠ v) ∨ ∃ i : Nat, i < k ∧ r = ((a + i) % k : Nat) ∧ t (dd ((a + i) % k)).toNat = v ∧ ∀ j, j < i → t (dd ((a + j) % k)).toNat ≠ v) ∧ Below w.heap.size w w' := by
  obtain ⟨TA, tp, rfl, rt⟩ := hT
  obtain ⟨DA, dp, rfl, rd⟩ := hD
  have hk0 : 0 < k := by omega
  obtain ⟨yt, rfl, hyt, hct⟩ := rt (by have := hd 0 hk0; omega)
  obtain ⟨yd, rfl, hyd, hcd⟩ := rd hk0
  clear rt rd
  have HT := Lib.hid hct
  have HD := Lib.hid hcd
  have HB := Lib.hid hd
  clear hct hcd hd
  go_enter Try.func58, Try.ntmps58
  go_wp2_with fail
  have B2 : Below w.heap.size w (w.alloc (.cells #[.int .i64 N, .slice (some yt) m tp, X, C, .slice (some yd) k dp] 79)) := (Below.refl _ w).alloc (Nat.le_refl _) _
  have X2 : (w.alloc (.cells #[.int .i64 N, .slice (some yt) m tp, X, C, .slice (some yd) k dp] 79)).heap[w.heap.size]? = some (.cells #[.int .i64 N, .slice (some yt) m tp, X, C, .slice (some yd) k dp] 79 (0, 0)) := heap_alloc_new _ _
  generalize (w.alloc (.cells #[.int .i64 N, .slice (some yt) m tp, X, C, .slice (some yd) k dp] 79)) = w2 at *
  obtain ⟨p, hp⟩ : ∃ p, p = w.heap.size := ⟨_, rfl⟩
  rw [← hp] at X2 ⊢
  clear hp
  go_loopw [12] (fun u wr => ∃ i : Nat, u = .int .i64 (i : Int) ∧ i ≤ k ∧ (∀ j, j < i → t (dd ((a + j) % k)).toNat ≠ v) ∧ wr.heap[p]? = some (.cells #[.int .i64 N, .slice (some yt) m tp, X, C, .slice (some yd) k dp] 79 (0, 0)) ∧ Below w.heap.size w wr) (fun u _ => k - (intOf u).toNat)
  case atStart => exact ⟨0, rfl, Nat.zero_le _, fun j h => by omega, X2, B2⟩
  case round =>
    clear X2 B2
    obtain ⟨i, rfl, hi, hno, Xb, B⟩ := hrel
    have HN := Lib.hid hno
    clear hno
    have c1 : wr.cell? ⟨p, 1, none⟩ = some (.slice (some yt) m tp) := blk_cell Xb 1
    have c4 : wr.cell? ⟨p, 4, none⟩ = some (.slice (some yd) k dp) := blk_cell Xb 4
    by_cases hlt : i < k
    · have d1 : (i : Int) < (k : Int) := by omega
      have hr : (a + i) % k < k := Nat.mod_lt _ hk0
      have rm : ((a : Int) + (i : Int)) % (k : Int) = (((a + i) % k : Nat) : Int) := by
        rw [show (a : Int) + (i : Int) = ((a + i : Nat) : Int) by omega]
        exact (Int.natCast_emod _ _).symm
      have hb := HB.out _ hr
      obtain ⟨u, hu⟩ : ∃ u : Nat, dd ((a + i) % k) = (u : Int) := ⟨(dd ((a + i) % k)).toNat, by omega⟩
      have cd := (B.cell (p := yd.add ((a + i) % k)) (by rw [block_add]; exact hyd)).trans (HD.out _ hr)
      rw [hu] at cd
      have hum : u < m := by omega
      have ct := (B.cell (p := yt.add u) (by rw [block_add]; exact hyt)).trans (HT.out u hum)
      have HU : Hid (dd ((a + i) % k) = (u : Int)) := Lib.hid hu
      have RR : Hid (∃ n, n = (a + i) % k) := Lib.hid ⟨_, rfl⟩
      clear hb hu
      obtain ⟨r, hrr⟩ : ∃ r, (a + i) % k = r := ⟨_, rfl⟩
      have HR := Lib.hid hrr
      rw [hrr] at rm cd hr
      clear hrr
      have l1 : (r : Int) < (k : Int) := by omega
      have l2 : (u : Int) < (m : Int) := by omega
      have l3 : (0 : Int) < (k : Int) := by omega
      have l4 : (0 : Int) ≤ (a : Int) + (i : Int) := by omega
      have HRM := Lib.hid rm
      by_cases hq : t u = v
      · have q1 : (t u == v) = true := by simpa using hq
        have HQ := Lib.hid hq
        clear hq
        go_upto_region 5 with fail
        go_big_quiet (fail)
        have E := B.trans ((below_draws wr nq).mono B.size)
        clear B
        go_wp2_with fail
        go_ret
        exact ⟨_, rfl, .inr ⟨i, hlt, by rw [HRM.out, HR.out], by have h1 := HR.out; have h2 := HU.out; have h3 := HQ.out; (first | (rw [h1] at h2 ⊢; rw [h2]; exact h3) | (rw [h2]; exact h3) | (subst h1; rw [h2]; exact h3)), HN.out⟩, E⟩
      · have q1 : (t u == v) = false := by simpa using hq
        have H2 : Hid (∀ j, j < i + 1 → t (dd ((a + j) % k)).toNat ≠ v) := Lib.hid fun j hj => by
          rcases Nat.lt_or_ge j i with q | q
          · exact HN.out j q
          · rw [show j = i by omega, HU.out]; exact hq
        clear hq
        go_upto_region 5 with fail
        go_big_quiet (fail)
        have E := B.trans ((below_draws wr nq).mono B.size)
        have X5 : (wr.drewN nq).heap[p]? = some (.cells #[.int .i64 N, .slice (some yt) m tp, X, C, .slice (some yd) k dp] 79 (0, 0)) := Xb
        clear B c1 c4 cd ct rm l1 l2 l3 l4
        generalize wr.drewN nq = w5 at *
        go_wp2_with fail
        go_roundw
        case rel => exact ⟨i + 1, by simp, by omega, H2.out, X5, E⟩
        case measure => simp [intOf]; omega
    · have d1 : ¬ ((i : Int) < (k : Int)) := by omega
      obtain rfl : k = i := by omega
      have all : Hid (∀ j, j < k → t (dd j).toNat ≠ v) := Lib.hid fun j hj => by
        have := HN.out ((j + k - a) % k) (Nat.mod_lt _ hk0)
        rwa [Nat.add_mod_mod, show a + (j + k - a) = j + k by omega, Nat.add_mod_right, Nat.mod_eq_of_lt hj] at this
      go_wp2_with fail
      go_ret
      exact ⟨_, rfl, .inl ⟨rfl, all.out⟩, B⟩
end Go.Proofs.Ytcdlnohnkdalbaa.Ro
namespace Go.Proofs.Ytcdlnohnkdalbaa.Ro
open Go.RowKit Go.Proofs Go.Maps
set_option linter.unusedVariables false
set_option maxRecDepth 100000
set_option linter.unusedSimpArgs false

set_option maxHeartbeats 3200000 in
theorem refFirst_any (w : World) (N : Int) (T X C L : Value) (m k : Nat) (t l : Nat → Int) (v : Int) (hT : Rd w T m t) (hL : Rd w L k l) (hk : k ≤ 1000) (hm : m ≤ 1000) (hd : ∀ j, j < k → 0 ≤ l j ∧ l j < m) :
    Calls Try.prog 40 #[.agg #[.int .i64 N, T, X, C], L, .int .i64 v] w fun e w' => ∃ r, e = .returned (.int .i64 r) ∧ First (fun i => t (l i).toNat) k v r ∧ Below w.heap.size w w' := by
  obtain ⟨TA, tp, rfl, rt⟩ := hT
  obtain ⟨LA, lp, rfl, rl⟩ := hL
  have HB := Lib.hid hd
  clear hd
  have RT := Lib.hid rt
  have RL := Lib.hid rl
  clear rt rl
  go_enter Try.func40, Try.ntmps40
  go_wp2_with fail
  have B2 : Below w.heap.size w (w.alloc (.cells #[.int .i64 N, .slice TA m tp, X, C] 25)) := (Below.refl _ w).alloc (Nat.le_refl _) _
  have X2 : (w.alloc (.cells #[.int .i64 N, .slice TA m tp, X, C] 25)).heap[w.heap.size]? = some (.cells #[.int .i64 N, .slice TA m tp, X, C] 25 (0, 0)) := heap_alloc_new _ _
  generalize (w.alloc (.cells #[.int .i64 N, .slice TA m tp, X, C] 25)) = w2 at *
  obtain ⟨p, hp⟩ : ∃ p, p = w.heap.size := ⟨_, rfl⟩
  rw [← hp] at X2 ⊢
  clear hp
  go_loopw [7] (fun u wr => ∃ i : Nat, u = .int .i64 (i : Int) ∧ i ≤ k ∧ (∀ j, j < i → t (l j).toNat ≠ v) ∧ wr.heap[p]? = some (.cells #[.int .i64 N, .slice TA m tp, X, C] 25 (0, 0)) ∧ Below w.heap.size w wr) (fun u _ => k - (intOf u).toNat)
  case atStart => exact ⟨0, rfl, Nat.zero_le _, fun j h => by omega, X2, B2⟩
  case round =>
    clear X2 B2
    obtain ⟨i, rfl, hi, hno, Xb, B⟩ := hrel
    have HN := Lib.hid hno
    clear hno
    have c1 : wr.cell? ⟨p, 1, none⟩ = some (.slice TA m tp) := blk_cell Xb 1
    by_cases hlt : i < k
    · have d1 : (i : Int) < (k : Int) := by omega
      have hb := HB.out _ hlt
      obtain ⟨u, hu⟩ : ∃ u : Nat, l i = (u : Int) := ⟨(l i).toNat, by omega⟩
      have hum : u < m := by omega
      obtain ⟨yl, rfl, hyl, hcl⟩ := RL.out (by omega)
      obtain ⟨yt, rfl, hyt, hct⟩ := RT.out (by omega)
      have cd := (B.cell (p := yl.add i) (by rw [block_add]; exact hyl)).trans (hcl _ hlt)
      rw [hu] at cd
      have ct := (B.cell (p := yt.add u) (by rw [block_add]; exact hyt)).trans (hct u hum)
      have HU : Hid (l i = (u : Int)) := Lib.hid hu
      clear hb hu hcl hct
      have l2 : (u : Int) < (m : Int) := by omega
      by_cases hq : t u = v
      · have q1 : (t u == v) = true := by simpa using hq
        have HQ := Lib.hid hq
        clear hq
        go_upto_region 5 with fail
        go_big_quiet (fail)
        have E := B.trans ((below_draws wr nq).mono B.size)
        clear B
        go_wp2_with fail
        go_ret
        exact ⟨_, rfl, .inr ⟨i, rfl, hlt, by show t (l i).toNat = v; rw [HU.out]; exact HQ.out, HN.out⟩, E⟩
      · have q1 : (t u == v) = false := by simpa using hq
        have H2 : Hid (∀ j, j < i + 1 → t (l j).toNat ≠ v) := Lib.hid fun j hj => by
          rcases Nat.lt_or_ge j i with q | q
          · exact HN.out j q
          · rw [show j = i by omega, HU.out]; exact hq
        clear hq
        go_upto_region 5 with fail
        go_big_quiet (fail)
        have E := B.trans ((below_draws wr nq).mono B.size)
        have X5 : (wr.drewN nq).heap[p]? = some (.cells #[.int .i64 N, .slice (some yt) m tp, X, C] 25 (0, 0)) := Xb
        clear B c1 cd ct l2
        generalize wr.drewN nq = w5 at *
        go_wp2_with fail
        go_roundw
        case rel => exact ⟨i + 1, by simp, by omega, H2.out, X5, E⟩
        case measure => simp [intOf]; omega
    · have d1 : ¬ ((i : Int) < (k : Int)) := by omega
      obtain rfl : k = i := by omega
      go_wp2_with fail
      go_ret
      exact ⟨_, rfl, .inl ⟨rfl, HN.out⟩, B⟩

set_option maxHeartbeats 3200000 in
theorem meets_any (w : World) (N : Int) (T X C O : Value) (m : Nat) (t o : Nat → Int) (f v : Int) (hT : Rd w T m t) (hO : Rd w O m o) (hm : m ≤ 1000) :
    Calls Try.prog 36 #[.agg #[.int .i64 N, T, X, C], O, .int .i64 f, .int .i64 v] w fun e w' => ∃ b : Bool, e = .returned (.bool b) ∧ (b = true ↔ ∃ d, d < m ∧ o d = f ∧ t d = v) ∧ Below w.heap.size w w' := by
  obtain ⟨TA, tp, rfl, rt⟩ := hT
  obtain ⟨OA, op, rfl, ro⟩ := hO
  have RT := Lib.hid rt
  have RO := Lib.hid ro
  clear rt ro
  go_enter Try.func36, Try.ntmps36
  go_wp2_with fail
  have B2 : Below w.heap.size w (w.alloc (.cells #[.int .i64 N, .slice TA m tp, X, C] 25)) := (Below.refl _ w).alloc (Nat.le_refl _) _
  have X2 : (w.alloc (.cells #[.int .i64 N, .slice TA m tp, X, C] 25)).heap[w.heap.size]? = some (.cells #[.int .i64 N, .slice TA m tp, X, C] 25 (0, 0)) := heap_alloc_new _ _
  generalize (w.alloc (.cells #[.int .i64 N, .slice TA m tp, X, C] 25)) = w2 at *
  obtain ⟨p, hp⟩ : ∃ p, p = w.heap.size := ⟨_, rfl⟩
  rw [← hp] at X2 ⊢
  clear hp
  go_loop [9] (fun u => ∃ i : Nat, u = .int .i64 (i : Int) ∧ i ≤ m ∧ ∀ j, j < i → ¬ (o j = f ∧ t j = v)) (fun u => m - (intOf u).toNat)
  case atStart => exact ⟨0, rfl, Nat.zero_le _, fun j h => by omega⟩
  case round =>
    obtain ⟨i, rfl, hi, hno⟩ := hrel
    have HN := Lib.hid hno
    clear hno
    have c1 : w2.cell? ⟨p, 1, none⟩ = some (.slice TA m tp) := blk_cell X2 1
    by_cases hlt : i < m
    · have d1 : (i : Int) < (m : Int) := by omega
      obtain ⟨yo, rfl, hyo, hco⟩ := RO.out (by omega)
      obtain ⟨yt, rfl, hyt, hct⟩ := RT.out (by omega)
      have cd := (B2.cell (p := yo.add i) (by rw [block_add]; exact hyo)).trans (hco _ hlt)
      have ct := (B2.cell (p := yt.add i) (by rw [block_add]; exact hyt)).trans (hct i hlt)
      clear hco hct
      by_cases hq : o i = f ∧ t i = v
      · have q1 : (o i == f) = true := by simpa using hq.1
        have q2 : (t i == v) = true := by simpa using hq.2
        have HQ := Lib.hid hq
        clear hq
        go_wp2_with fail
        go_ret
        exact .inr ⟨rfl, ⟨i, hlt, HQ.out⟩, B2⟩
      · have H2 : Hid (∀ j, j < i + 1 → ¬ (o j = f ∧ t j = v)) := Lib.hid fun j hj => by
          rcases Nat.lt_or_ge j i with q | q
          · exact HN.out j q
          · rw [show j = i by omega]; exact hq
        by_cases h1 : o i = f
        · have q1 : (o i == f) = true := by simpa using h1
          have q2 : (t i == v) = false := by simpa using fun h => hq ⟨h1, h⟩
          clear hq h1
          go_wp2_with fail
          go_round
          case rel => exact ⟨i + 1, by simp, by omega, H2.out⟩
          case measure => simp [intOf]; omega
        · have q1 : (o i == f) = false := by simpa using h1
          clear hq h1
          go_wp2_with fail
          go_round
          case rel => exact ⟨i + 1, by simp, by omega, H2.out⟩
          case measure => simp [intOf]; omega
    · have d1 : ¬ ((i : Int) < (m : Int)) := by omega
      obtain rfl : m = i := by omega
      go_wp2_with fail
      go_ret
      exact .inl ⟨rfl, fun d hd h1 h2 => HN.out d hd ⟨h1, h2⟩, B2⟩
end Go.Proofs.Ytcdlnohnkdalbaa.Ro
namespace Go.Proofs.Ytcdlnohnkdalbaa.Ro
open Go.RowKit Go.Proofs Go.Maps
set_option linter.unusedVariables false
set_option maxRecDepth 100000
set_option linter.unusedSimpArgs false

theorem within8_any (w : World) (a n : Int) (ha : Small a) (hn : 0 < n) (hm : n ≤ 1125899906842624) :
    Calls Try.prog 15 #[.int .i64 a, .int .i64 n] w fun e w' => e = .returned (.int .i64 (a % n)) ∧ w = w' := by
  have hb := small_bounds ha
  have h1 := Int.tmod_lt_of_pos a hn
  have h2 := Int.lt_tmod_of_pos a hn
  have h0 : (n == 0) = false := by simp; omega
  by_cases h : Int.tmod a n < 0
  · have d : decide (Int.tmod a n < 0) = true := by simpa using h
    have e : Int.tmod a n + n = a % n := by
      have := Int.emod_emod_of_dvd a (Int.dvd_refl n)
      have h3 : (Int.tmod a n + n) % n = a % n := by
        rw [Int.add_emod_right]
        have := Int.mul_tdiv_add_tmod a n
        conv => rhs; rw [← this]
        rw [Int.mul_add_emod_self_left]
      rw [← h3]
      exact (Int.emod_eq_of_lt (by omega) (by omega)).symm
    have E := Lib.hid e
    clear e h
    go_enter Try.func15, Try.ntmps15
    go_wp2
    go_ret
    exact ⟨by rw [← E.out]; rfl, rfl⟩
  · have d : decide (Int.tmod a n < 0) = false := by simpa using h
    have e : Int.tmod a n = a % n := by
      have h3 : (Int.tmod a n) % n = a % n := by
        have := Int.mul_tdiv_add_tmod a n
        conv => rhs; rw [← this]
        rw [Int.mul_add_emod_self_left]
      rw [← h3]
      exact (Int.emod_eq_of_lt (by omega) (by omega)).symm
    have E := Lib.hid e
    clear e h
    go_enter Try.func15, Try.ntmps15
    go_wp2
    go_ret
    exact ⟨by rw [← E.out]; rfl, rfl⟩

end Go.Proofs.Ytcdlnohnkdalbaa.Ro
