/- Walks: what is about a face, from a dart on. -/
import Derived.Test.YtcejjcopchkmeaaRoF
import Derived.Test.YtcejjcopchkmeaaRoGr
namespace Go.Proofs.Ytcejjcopchkmeaa.Ro
open Go.RowKit Go.Proofs Go.Maps
set_option linter.unusedVariables false
set_option maxRecDepth 100000
set_option linter.unusedSimpArgs false

/-- a round of k darts from d on -/
structure Rnd (f : Nat → Nat) (d k : Nat) : Prop where
  pos : 0 < k
  back : it f k d = d
  apart : ∀ i j, i < j → j < k → it f i d ≠ it f j d
theorem Rnd.one {f : Nat → Nat} {d k k' : Nat} (h : Rnd f d k) (h' : Rnd f d k') : k = k' := by
  rcases Nat.lt_trichotomy k k' with q | q | q
  · have := h'.apart 0 k h.pos q
    exact absurd h.back.symm this
  · exact q
  · have := h.apart 0 k' h'.pos q
    exact absurd h'.back.symm this

/-- the row of what has been gone along -/
structure Gone (f : Nat → Nat) (m d k a : Nat) (o : Nat → Int) : Prop where
  here : a = it f k d
  row : ∀ j, j < k → o j = (it f j d : Int)
  apart : ∀ i j, i < j → j < k → it f i d ≠ it f j d
  fresh : 0 < k → ∀ j, 0 < j → j < k → it f j d ≠ d
theorem Gone.step {f : Nat → Nat} {m d k a : Nat} {o : Nat → Int} (h : Gone f m d k a o) (p : Perm f m) (hd : d < m) (hn : 0 < k → a ≠ d) : Gone f m d (k + 1) (f a) (upd o k (a : Int)) := by
  refine ⟨by rw [h.here]; rfl, fun j hj => ?_, fun i j hij hj => ?_, fun _ j h0 hj => ?_⟩
  · by_cases e : j = k
    · subst e; rw [upd_same, h.here]
    · rw [upd_ne e]; exact h.row j (by omega)
  · rcases Nat.lt_or_ge j k with q | q
    · exact h.apart i j hij q
    · obtain rfl : j = k := by omega
      intro e
      rcases Nat.eq_zero_or_pos i with rfl | hi
      · exact hn (by omega) (by rw [h.here, ← e]; rfl)
      · obtain ⟨i', rfl⟩ : ∃ i', i = i' + 1 := ⟨i - 1, by omega⟩
        obtain ⟨j', rfl⟩ : ∃ j', j = j' + 1 := ⟨j - 1, by omega⟩
        exact h.apart i' j' (by omega) (by omega) (p.inj _ _ (p.it_lt hd _) (p.it_lt hd _) e)
  · rcases Nat.lt_or_ge j k with q | q
    · exact h.fresh (by omega) j h0 q
    · obtain rfl : j = k := by omega
      rw [← h.here]; exact hn (by omega)
theorem apart_le {m : Nat} : ∀ (k : Nat) (s : Nat → Nat), (∀ j, j < k → s j < m) → (∀ i j, i < j → j < k → s i ≠ s j) → k ≤ m := by
  induction m with
  | zero => intro k s h _; rcases Nat.eq_zero_or_pos k with q | q
            · omega
            · have := h 0 q; omega
  | succ m ih =>
    intro k s h ha
    -- take out the place that holds m
    by_cases hm : ∃ i, i < k ∧ s i = m
    · obtain ⟨i, hi, e⟩ := hm
      have := ih (k - 1) (fun j => if j < i then s j else s (j + 1)) (fun j hj => by
        by_cases q : j < i
        · simp only [if_pos q]
          have h1 := h j (by omega); have h2 := ha j i q hi; omega
        · simp only [if_neg q]
          have h1 := h (j + 1) (by omega); have h2 := ha i (j + 1) (by omega) (by omega); omega) (fun a b hab hb => by
        by_cases q : b < i
        · simp only [if_pos q, if_pos (show a < i by omega)]
          exact ha a b hab (by omega)
        · by_cases q2 : a < i
          · simp only [if_neg q, if_pos q2]
            exact ha a (b + 1) (by omega) (by omega)
          · simp only [if_neg q, if_neg q2]
            exact ha (a + 1) (b + 1) (by omega) (by omega))
      omega
    · have := ih k s (fun j hj => by
        have h1 := h j hj
        have h2 : s j ≠ m := fun e => hm ⟨j, hj, e⟩
        omega) ha
      omega
theorem Gone.le {f : Nat → Nat} {m d k a : Nat} {o : Nat → Int} (h : Gone f m d k a o) (p : Perm f m) (hd : d < m) : k ≤ m := apart_le k (fun j => it f j d) (fun j _ => p.it_lt hd j) h.apart
theorem Gone.full {f : Nat → Nat} {m d k a : Nat} {o : Nat → Int} (h : Gone f m d k a o) (p : Perm f m) (hd : d < m) (hk : k = m) : a = d := by
  -- one more would be too many
  apply Decidable.byContradiction
  intro hn
  have := (h.step p hd (fun _ => hn)).le p hd
  omega
end Go.Proofs.Ytcejjcopchkmeaa.Ro
