/- Plain: what is known of rounds. -/
import Derived.Test.YtcejjcopchkmeaaRoR
namespace Go.Proofs.Ytcejjcopchkmeaa.Ro
open Go.RowKit Go.Proofs Go.Maps
set_option linter.unusedVariables false
set_option maxRecDepth 100000
set_option linter.unusedSimpArgs false

theorem Orb.le {f : Nat → Nat} {m c : Nat} {o : Nat → Int} (h : Orb f m o c) : c ≤ m := by
  apply apart_le c (fun j => if hj : j < c then (h.each j hj).choose else 0)
  · intro j hj
    simp only [hj, dif_pos]
    exact (h.each j hj).choose_spec.1
  · intro i j hij hj e
    have hi : i < c := by omega
    simp only [hj, hi, dif_pos] at e
    have a := (h.each i hi).choose_spec.2
    have b := (h.each j hj).choose_spec.2
    rw [e, b] at a
    omega
theorem Rnd.mod {f : Nat → Nat} {d k : Nat} (h : Rnd f d k) (j : Nat) : it f (j % k) d = it f j d := by
  have hk := h.pos
  have : ∀ q i, it f (i + q * k) d = it f i d := by
    intro q
    induction q with
    | zero => intro i; rw [Nat.zero_mul, Nat.add_zero]
    | succ q ih => intro i; rw [Nat.add_mul, Nat.one_mul, ← Nat.add_assoc, it_add, h.back, ih]
  have e := this (j / k) (j % k)
  rw [Nat.mul_comm, Nat.mod_add_div] at e
  exact e.symm
theorem Rnd.inj {f : Nat → Nat} {d k i j : Nat} (h : Rnd f d k) (hi : i < k) (hj : j < k) (e : it f i d = it f j d) : i = j := by
  rcases Nat.lt_trichotomy i j with q | q | q
  · exact absurd e (h.apart i j q hj)
  · exact q
  · exact absurd e.symm (h.apart j i q hi)
theorem Rnd.shift {f : Nat → Nat} {d k a : Nat} (h : Rnd f d k) {i j : Nat} (hi : i < k) (hj : j < k) (e : it f (a + i) d = it f (a + j) d) : i = j := by
  have hk := h.pos
  rw [← h.mod, ← h.mod (a + j)] at e
  have e2 := h.inj (Nat.mod_lt _ hk) (Nat.mod_lt _ hk) e
  have e3 : (a % k + i) % k = (a % k + j) % k := by rw [Nat.mod_add_mod, Nat.mod_add_mod]; exact e2
  have ha := Nat.mod_lt a hk
  generalize a % k = b at *
  have low : ∀ u, u < k → (b + u) % k = if b + u < k then b + u else b + u - k := fun u hu => by
    split
    · exact Nat.mod_eq_of_lt ‹_›
    · rw [Nat.mod_eq_sub_mod (by omega), Nat.mod_eq_of_lt (by omega)]
  rw [low i hi, low j hj] at e3
  split at e3 <;> split at e3 <;> omega
/-- what is about one is a round's -/
theorem Orb.on {f : Nat → Nat} {m c d k y : Nat} {o : Nat → Int} (h : Orb f m o c) (R : Rnd f d k) (hd : d < m) (hy : y < m) (e : o d = o y) : ∃ j, j < k ∧ Ro.it f j d = y := by
  obtain ⟨j, hj⟩ := h.one d y hd hy e
  exact ⟨j % k, Nat.mod_lt _ R.pos, by rw [R.mod]; exact hj⟩

end Go.Proofs.Ytcejjcopchkmeaa.Ro
