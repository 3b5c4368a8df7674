/- Plain laws: how many darts are of a round. -/
import Derived.Test.YtcejjcopchkmeaaRoL
namespace Go.Proofs.Ytcejjcopchkmeaa.Ro
set_option linter.unusedVariables false
set_option maxRecDepth 100000
set_option linter.unusedSimpArgs false

/-- how many below m are so -/
def cnt (P : Nat → Bool) : Nat → Nat
  | 0 => 0
  | m + 1 => cnt P m + if P m = true then 1 else 0
theorem cnt_le (P : Nat → Bool) : ∀ m, cnt P m ≤ m
  | 0 => Nat.le_refl _
  | m + 1 => by
    have := cnt_le P m
    unfold cnt
    split <;> omega
theorem cnt_yes {P : Nat → Bool} {m : Nat} (h : P m = true) : cnt P (m + 1) = cnt P m + 1 := by
  show cnt P m + (if P m = true then 1 else 0) = _
  rw [if_pos h]
theorem cnt_no {P : Nat → Bool} {m : Nat} (h : P m = false) : cnt P (m + 1) = cnt P m := by
  show cnt P m + (if P m = true then 1 else 0) = _
  rw [h]; rfl
theorem cnt_all {P : Nat → Bool} : ∀ m, (∀ j, j < m → P j = true) → cnt P m = m
  | 0, _ => rfl
  | m + 1, h => by
    unfold cnt
    rw [cnt_all m (fun j hj => h j (by omega)), if_pos (h m (by omega))]
theorem cnt_congr {P Q : Nat → Bool} : ∀ m, (∀ j, j < m → P j = Q j) → cnt P m = cnt Q m
  | 0, _ => rfl
  | m + 1, h => by
    unfold cnt
    rw [cnt_congr m (fun j hj => h j (by omega)), h m (by omega)]
/-- a row of k that are unlike, all of them so, none else -/
theorem cnt_row {P : Nat → Bool} : ∀ (m k : Nat) (s : Nat → Nat), (∀ j, j < k → s j < m ∧ P (s j) = true) → (∀ i j, i < j → j < k → s i ≠ s j) → (∀ x, x < m → P x = true → ∃ j, j < k ∧ s j = x) → cnt P m = k
  | 0, k, s, h, _, _ => by
    rcases Nat.eq_zero_or_pos k with q | q
    · exact q.symm
    · have := (h 0 q).1; omega
  | m + 1, k, s, h, ha, ho => by
    by_cases hm : P m = true
    · obtain ⟨i, hi, e⟩ := ho m (by omega) hm
      have := cnt_row (P := P) m (k - 1) (fun j => if j < i then s j else s (j + 1)) (fun j hj => by
        by_cases q : j < i
        · simp only [if_pos q]
          have h1 := h j (by omega); have h2 := ha j i q hi; exact ⟨by omega, h1.2⟩
        · simp only [if_neg q]
          have h1 := h (j + 1) (by omega); have h2 := ha i (j + 1) (by omega) (by omega); exact ⟨by omega, h1.2⟩) (fun a b hab hb => by
        by_cases q : b < i
        · simp only [if_pos q, if_pos (show a < i by omega)]
          exact ha a b hab (by omega)
        · by_cases q2 : a < i
          · simp only [if_neg q, if_pos q2]
            exact ha a (b + 1) (by omega) (by omega)
          · simp only [if_neg q, if_neg q2]
            exact ha (a + 1) (b + 1) (by omega) (by omega)) (fun x hx hp => by
        obtain ⟨j, hj, ej⟩ := ho x (by omega) hp
        have hji : j ≠ i := fun q => by rw [q, e] at ej; omega
        by_cases q : j < i
        · exact ⟨j, by omega, by simp only [if_pos q]; exact ej⟩
        · refine ⟨j - 1, by omega, ?_⟩
          simp only [if_neg (show ¬ j - 1 < i by omega)]
          rw [show j - 1 + 1 = j by omega]; exact ej)
      unfold cnt
      rw [this, if_pos hm]; omega
    · have := cnt_row (P := P) m k s (fun j hj => by
        have h1 := h j hj
        have h2 : s j ≠ m := fun e => hm (by rw [← e]; exact h1.2)
        exact ⟨by omega, h1.2⟩) ha (fun x hx hp => ho x (by omega) hp)
      unfold cnt
      rw [this, if_neg hm, Nat.add_zero]
theorem Rnd.it_mod {f : Nat → Nat} {d k : Nat} (h : Rnd f d k) : ∀ n, ∃ j, j < k ∧ it f n d = it f j d
  | 0 => ⟨0, h.pos, rfl⟩
  | n + 1 => by
    obtain ⟨j, hj, e⟩ := Rnd.it_mod h n
    rcases Nat.lt_or_ge (j + 1) k with q | q
    · exact ⟨j + 1, q, by show f _ = f _; rw [e]⟩
    · refine ⟨0, h.pos, ?_⟩
      show f _ = d
      rw [e]
      show it f (j + 1) d = d
      rw [show j + 1 = k by omega]; exact h.back
theorem Rnd.next {f : Nat → Nat} {d k i : Nat} (h : Rnd f d k) (hi : i < k) : f (it f i d) = it f ((i + 1) % k) d := by
  rcases Nat.lt_or_ge (i + 1) k with q | q
  · rw [Nat.mod_eq_of_lt q]; rfl
  · rw [show i + 1 = k by omega, Nat.mod_self]
    show it f (i + 1) d = d
    rw [show i + 1 = k by omega]; exact h.back
/-- a round holds all of its name -/
theorem Rnd.count {f : Nat → Nat} {m d k : Nat} {o : Nat → Int} (h : Rnd f d k) (p : Perm f m) (hd : d < m) (fwd : ∀ x, x < m → o (f x) = o x) (one : ∀ x y, x < m → y < m → o x = o y → ∃ k, it f k x = y) :
    cnt (fun x => decide (o x = o d)) m = k := by
  have hit : ∀ j, o (it f j d) = o d := fun j => by
    induction j with
    | zero => rfl
    | succ j ih => show o (f _) = _; rw [fwd _ (p.it_lt hd j), ih]
  refine cnt_row m k (fun j => it f j d) (fun j hj => ⟨p.it_lt hd j, by simp only [decide_eq_true_eq]; exact hit j⟩) h.apart (fun x hx hp => ?_)
  obtain ⟨n, hn⟩ := one d x hd hx (by have q : o x = o d := by simpa using hp
                                      exact q.symm)
  obtain ⟨j, hj, e⟩ := h.it_mod n
  exact ⟨j, hj, by rw [← e]; exact hn⟩
end Go.Proofs.Ytcejjcopchkmeaa.Ro
