/- Walks: within, of chapters 1 and 2. -/
import Derived.Test.YtcejjcopchkmeaaRoK0
import Derived.Test.YtcejjcopchkmeaaRoSml
namespace Go.Proofs.Ytcejjcopchkmeaa.Ro
open Go.RowKit Go.Proofs Go.Maps
set_option linter.unusedVariables false
set_option maxRecDepth 100000
set_option linter.unusedSimpArgs false

theorem within2_any (w : World) (a n : Int) (ha : Small a) (hn : 0 < n) (hm : n ≤ 1125899906842624) :
    Calls Try.prog 20 #[.int .i64 a, .int .i64 n] w fun e w' => e = .returned (.int .i64 (a % n)) ∧ w = w' := by
  have hb := small_bounds ha
  have h1 := Int.tmod_lt_of_pos a hn
  have h2 := Int.lt_tmod_of_pos a hn
  have h0 : (n == 0) = false := by simp; omega
  by_cases h : Int.tmod a n < 0
  · have d : decide (Int.tmod a n < 0) = true := by simpa using h
    have e : Int.tmod a n + n = a % n := by
      have := Int.emod_emod_of_dvd a (Int.dvd_refl n)
      have h3 : (Int.tmod a n + n) % n = a % n := by
        rw [Int.add_emod_right]
        have := Int.mul_tdiv_add_tmod a n
        conv => rhs; rw [← this]
        rw [Int.mul_add_emod_self_left]
      rw [← h3]
      exact (Int.emod_eq_of_lt (by omega) (by omega)).symm
    have E := Lib.hid e
    clear e h
    go_enter Try.func20, Try.ntmps20
    go_wp2
    go_ret
    exact ⟨by rw [← E.out]; rfl, rfl⟩
  · have d : decide (Int.tmod a n < 0) = false := by simpa using h
    have e : Int.tmod a n = a % n := by
      have h3 : (Int.tmod a n) % n = a % n := by
        have := Int.mul_tdiv_add_tmod a n
        conv => rhs; rw [← this]
        rw [Int.mul_add_emod_self_left]
      rw [← h3]
      exact (Int.emod_eq_of_lt (by omega) (by omega)).symm
    have E := Lib.hid e
    clear e h
    go_enter Try.func20, Try.ntmps20
    go_wp2
    go_ret
    exact ⟨by rw [← E.out]; rfl, rfl⟩

theorem within1_any (w : World) (a n : Int) (ha : Small a) (hn : 0 < n) (hm : n ≤ 1125899906842624) :
    Calls Try.prog 37 #[.int .i64 a, .int .i64 n] w fun e w' => e = .returned (.int .i64 (a % n)) ∧ w = w' := by
  have hb := small_bounds ha
  have h1 := Int.tmod_lt_of_pos a hn
  have h2 := Int.lt_tmod_of_pos a hn
  have h0 : (n == 0) = false := by simp; omega
  by_cases h : Int.tmod a n < 0
  · have d : decide (Int.tmod a n < 0) = true := by simpa using h
    have e : Int.tmod a n + n = a % n := by
      have := Int.emod_emod_of_dvd a (Int.dvd_refl n)
      have h3 : (Int.tmod a n + n) % n = a % n := by
        rw [Int.add_emod_right]
        have := Int.mul_tdiv_add_tmod a n
        conv => rhs; rw [← this]
        rw [Int.mul_add_emod_self_left]
      rw [← h3]
      exact (Int.emod_eq_of_lt (by omega) (by omega)).symm
    have E := Lib.hid e
    clear e h
    go_enter Try.func37, Try.ntmps37
    go_wp2
    go_ret
    exact ⟨by rw [← E.out]; rfl, rfl⟩
  · have d : decide (Int.tmod a n < 0) = false := by simpa using h
    have e : Int.tmod a n = a % n := by
      have h3 : (Int.tmod a n) % n = a % n := by
        have := Int.mul_tdiv_add_tmod a n
        conv => rhs; rw [← this]
        rw [Int.mul_add_emod_self_left]
      rw [← h3]
      exact (Int.emod_eq_of_lt (by omega) (by omega)).symm
    have E := Lib.hid e
    clear e h
    go_enter Try.func37, Try.ntmps37
    go_wp2
    go_ret
    exact ⟨by rw [← E.out]; rfl, rfl⟩

/-- a dart behind another one, in a row of the call's own -/
theorem lay_any (w : World) (b m cap : Nat) (x : Nat → Int) (h : Ow w (.slice (some ⟨b, 0, none⟩) m cap) m x) (e d : Nat) (he : e < m) (hd : d < m) :
    Calls Try.prog 36 #[.slice (some ⟨b, 0, none⟩) m cap, .int .i64 (e : Int), .int .i64 (d : Int)] w
      fun en w' => en = .returned (.tuple #[]) ∧ Ow w' (.slice (some ⟨b, 0, none⟩) m cap) m (upd (upd x d (x e)) e (d : Int)) ∧ Turn (fun k => k = b) w w' := by
  have c1 := h.cell he
  have c2 := h.cell hd
  have f1 := h.frozen d
  have f2 := h.frozen e
  have h2 := h.set hd (x e)
  have c3 := h2.cell he
  have f3 := h2.frozen e
  have h3 := h2.set he (d : Int)
  have T3 : Turn (fun k => k = b) w ((w.setCell ⟨b, d, none⟩ (.int .i64 (x e))).setCell ⟨b, e, none⟩ (.int .i64 (d : Int))) :=
    ⟨rfl, rfl, rfl, by simp [World.setCell], fun k _ hk => (Below.heap_setCell _ _ _ _ hk).trans (Below.heap_setCell _ _ _ _ hk)⟩
  have s1 : (e : Int) < (m : Int) := by omega
  have s2 : (d : Int) < (m : Int) := by omega
  clear h h2
  go_enter Try.func36, Try.ntmps36
  go_wp2
  go_end0
  exact ⟨rfl, h3, T3⟩

/-- what Cap tells -/
def capOf (n : Int) : Int :=
  let k := n % 1099511627776
  if k % 7 = 0 then 0 else if k % 7 = 1 then 2147483648 - k / 7 % 3 else if k % 7 = 2 then k / 7 % 1000000 else k / 7 % 9
theorem capOf_in (n : Int) : 0 ≤ capOf n ∧ capOf n ≤ 2147483648 := by
  have m1 := Int.emod_nonneg n (b := 1099511627776) (by omega)
  unfold capOf
  simp only
  split
  · omega
  · split
    · omega
    · split <;> omega
theorem cap_any (w : World) (n : Int) (hn : Small n) :
    Calls Try.prog 35 #[.int .i64 n] w fun e w' => e = .returned (.int .i64 (capOf n)) ∧ Below w.heap.size w w' := by
  have hc : capOf n = if n % 1099511627776 % 7 = 0 then 0 else if n % 1099511627776 % 7 = 1 then 2147483648 - n % 1099511627776 / 7 % 3 else if n % 1099511627776 % 7 = 2 then n % 1099511627776 / 7 % 1000000 else n % 1099511627776 / 7 % 9 := rfl
  have HC := Lib.hid hc
  clear hc
  go_enter Try.func35, Try.ntmps35
  go_wp2_with fail
  refine (within1_any _ n 1099511627776 hn (by omega) (by omega)).mono ?_
  rintro e w1 ⟨rfl, rfl⟩
  have m1 := Int.emod_nonneg n (b := 1099511627776) (by omega)
  have m2 := Int.emod_lt_of_pos n (b := 1099511627776) (by omega)
  generalize n % 1099511627776 = k at *
  have hm : k % 7 = 0 ∨ k % 7 = 1 ∨ k % 7 = 2 ∨ (k % 7 = 3 ∨ k % 7 = 4 ∨ k % 7 = 5 ∨ k % 7 = 6) := by omega
  rcases hm with h | h | h | h
  · go_wp2
    go_ret
    exact ⟨by rw [HC.out, if_pos h]; rfl, Below.refl _ _⟩
  · go_wp2
    go_ret
    exact ⟨by rw [HC.out, if_neg (by omega), if_pos h]; rfl, Below.refl _ _⟩
  · go_wp2
    go_ret
    exact ⟨by rw [HC.out, if_neg (by omega), if_neg (by omega), if_pos h]; rfl, Below.refl _ _⟩
  · rcases h with h | h | h | h
    all_goals
      go_wp2
      go_ret
      exact ⟨by rw [HC.out, if_neg (by omega), if_neg (by omega), if_neg (by omega)]; rfl, Below.refl _ _⟩
end Go.Proofs.Ytcejjcopchkmeaa.Ro
