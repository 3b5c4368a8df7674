/- Plain laws: two places apart, with a round below 0 between them. -/
import Derived.Test.YtchlccendggfpaaPaE
namespace Go.Proofs.Ytchlccendggfpaa.Ro
set_option linter.unusedVariables false
set_option linter.unusedSimpArgs false

theorem sumN_neg {f : Nat → Int} : ∀ m, sumN f m < 0 → ∃ j, j < m ∧ f j < 0
  | 0, h => by simp [sumN] at h
  | m + 1, h => by
    have h : sumN f m + f m < 0 := h
    by_cases q : f m < 0
    · exact ⟨m, by omega, q⟩
    · obtain ⟨j, h1, h2⟩ := sumN_neg (f := f) m (by omega)
      exact ⟨j, by omega, h2⟩
/-- K arcs among places below q, none below 0; two arcs between q and q + 1, a round below 0 -/
structure Pair (S : ArcsF) (K q : Nat) (a : Int) : Prop where
  pos : 0 < q
  a1 : 0 < a
  old : ∀ i, i < K → S.fr i < q ∧ S.th i < q ∧ 0 ≤ S.ln i
  f0 : S.fr K = q
  t0 : S.th K = q + 1
  l0 : S.ln K = 3
  f1 : S.fr (K + 1) = q + 1
  t1 : S.th (K + 1) = q
  l1 : S.ln (K + 1) = -3 - a
section
variable {S : ArcsF} {K q n m s v : Nat} {a c : Int} {r : Nat → Nat}
theorem Pair.stay (P : Pair S K q a) (hs : s < q) (w : Way S (K + 2) s v c m) : v < q ∧ 0 ≤ c := by
  induction w with
  | nil => exact ⟨hs, Int.le_refl _⟩
  | @snoc c m i w hi ih =>
    rcases Nat.lt_or_ge i K with z | z
    · have := P.old i z
      omega
    · have : i = K ∨ i = K + 1 := by omega
      have h0 := P.f0
      have h1 := P.f1
      rcases this with rfl | rfl <;> omega
theorem Pair.noNeg (P : Pair S K q a) : NoNeg S (K + 2) 0 := fun v c m c' m' w w' => by
  have h1 := P.stay P.pos w
  exact (P.stay h1.1 w').2
theorem Pair.bad (P : Pair S K q a) (h2 : S.fr (K + 2) = 0) (h3 : S.th (K + 2) = q ∨ S.th (K + 2) = q + 1) : ¬ NoNeg S (K + 3) 0 := fun N => by
  have a1 := P.a1
  have w0 : Way S (K + 3) 0 (S.th (K + 2)) (0 + S.ln (K + 2)) (0 + 1) := by
    have := Way.snoc (S := S) (k := K + 3) (s := 0) (i := K + 2) (c := 0) (m := 0) (by rw [h2]; exact .nil) (by omega)
    exact this
  have two : ∀ v, v = q ∨ v = q + 1 → Way S (K + 3) v v (-a) 2 := fun v hv => by
    rcases hv with rfl | rfl
    · have w1 : Way S (K + 3) v (S.th K) (0 + S.ln K) (0 + 1) := Way.snoc (by rw [P.f0]; exact .nil) (by omega)
      have w2 : Way S (K + 3) v (S.th (K + 1)) (0 + S.ln K + S.ln (K + 1)) (0 + 1 + 1) := Way.snoc (by have w1 := w1; rw [P.t0] at w1; rw [P.f1]; exact w1) (by omega)
      rw [P.t1, P.l0, P.l1, show (0 : Int) + 3 + (-3 - a) = -a by omega] at w2
      exact w2
    · have w1 : Way S (K + 3) (q + 1) (S.th (K + 1)) (0 + S.ln (K + 1)) (0 + 1) := Way.snoc (by rw [P.f1]; exact .nil) (by omega)
      have w2 : Way S (K + 3) (q + 1) (S.th K) (0 + S.ln (K + 1) + S.ln K) (0 + 1 + 1) := Way.snoc (by have w1 := w1; rw [P.t1] at w1; rw [P.f0]; exact w1) (by omega)
      rw [P.t0, P.l0, P.l1, show (0 : Int) + (-3 - a) + 3 = -a by omega] at w2
      exact w2
  have := N _ _ _ _ _ w0 (two _ h3)
  omega
/-- the round that is told is those two arcs -/
theorem Pair.two (P : Pair S K q a) (h2 : S.fr (K + 2) = 0) (h3 : 0 ≤ S.ln (K + 2)) (R : RoundF S (K + 3) 0 n m r) : m = 2 ∧ ((r 0 = K ∧ r 1 = K + 1) ∨ (r 0 = K + 1 ∧ r 1 = K)) := by
  have pq := P.pos
  have ap := P.a1
  -- which arcs begin where
  have at0 : ∀ i, i < K + 3 → S.fr i = q → i = K := fun i hi e => by
    rcases Nat.lt_or_ge i K with z | z
    · have := P.old i z; omega
    · have : i = K ∨ i = K + 1 ∨ i = K + 2 := by omega
      have h1 := P.f1
      rcases this with rfl | rfl | rfl
      · rfl
      · omega
      · omega
  have at1 : ∀ i, i < K + 3 → S.fr i = q + 1 → i = K + 1 := fun i hi e => by
    rcases Nat.lt_or_ge i K with z | z
    · have := P.old i z; omega
    · have : i = K ∨ i = K + 1 ∨ i = K + 2 := by omega
      have h1 := P.f0
      rcases this with rfl | rfl | rfl
      · omega
      · rfl
      · omega
  obtain ⟨j, hj, hn⟩ := sumN_neg m R.neg
  have hr : r j = K + 1 := by
    have lt := R.lt j hj
    rcases Nat.lt_or_ge (r j) K with z | z
    · have := (P.old _ z).2.2; omega
    · have : r j = K ∨ r j = K + 1 ∨ r j = K + 2 := by omega
      rcases this with e | e | e
      · rw [e, P.l0] at hn; omega
      · exact e
      · rw [e] at hn; omega
  have fj : S.fr (r j) = q + 1 := by rw [hr]; exact P.f1
  have tj : S.th (r j) = q := by rw [hr]; exact P.t1
  by_cases h : j + 1 < m
  · have e1 := R.link j h
    rw [tj] at e1
    have r1 := at0 _ (R.lt (j + 1) h) e1.symm
    have t1 : S.th (r (j + 1)) = q + 1 := by rw [r1]; exact P.t0
    by_cases h' : j + 1 + 1 < m
    · have e2 := R.link (j + 1) h'
      rw [t1] at e2
      exact absurd (by rw [fj, e2]) (R.apart j (j + 1 + 1) (by omega) h')
    · have el := R.last
      rw [show m - 1 = j + 1 by omega, t1] at el
      have hj0 : j = 0 := by
        rcases Nat.eq_zero_or_pos j with z | z
        · exact z
        · exact absurd (by rw [← el, fj]) (R.apart 0 j z hj)
      subst hj0
      exact ⟨by omega, .inr ⟨hr, r1⟩⟩
  · have el := R.last
    rw [show m - 1 = j by omega, tj] at el
    have r0 := at0 _ (R.lt 0 R.pos) el.symm
    have hjp : 0 < j := by
      rcases Nat.eq_zero_or_pos j with z | z
      · subst z; rw [hr] at r0; omega
      · exact z
    have t0 : S.th (r 0) = q + 1 := by rw [r0]; exact P.t0
    have e1 := R.link 0 (by omega)
    rw [t0] at e1
    have hj1 : j = 1 := by
      rcases Nat.lt_or_ge 1 j with z | z
      · exact absurd (by rw [fj, ← e1]) (R.apart 1 j z hj)
      · omega
    subst hj1
    exact ⟨by omega, .inl ⟨r0, hr⟩⟩
end
end Go.Proofs.Ytchlccendggfpaa.Ro
