/- Plain laws: the round below 0 that was found, as a row of arcs. -/
import Derived.Test.YtchlccendggfpaaPaD
namespace Go.Proofs.Ytchlccendggfpaa.Ro
set_option linter.unusedVariables false
set_option linter.unusedSimpArgs false

def sumN (f : Nat → Int) : Nat → Int
  | 0 => 0
  | m + 1 => sumN f m + f m
theorem sumN_congr {f g : Nat → Int} : ∀ m, (∀ j, j < m → f j = g j) → sumN f m = sumN g m
  | 0, _ => rfl
  | m + 1, h => by unfold sumN; rw [sumN_congr m fun j hj => h j (by omega), h m (by omega)]
theorem sumN_front (f : Nat → Int) : ∀ m, sumN f (m + 1) = f 0 + sumN (fun j => f (j + 1)) m
  | 0 => by show sumN f 0 + f 0 = f 0 + 0; simp [sumN]
  | m + 1 => by
    have := sumN_front f m
    show sumN f (m + 1) + f (m + 1) = f 0 + (sumN (fun j => f (j + 1)) m + f (m + 1))
    rw [this]; omega
theorem sumN_rev (f : Nat → Int) : ∀ m, sumN (fun j => f (m - 1 - j)) m = sumN f m
  | 0 => rfl
  | m + 1 => by
    rw [sumN_front]
    have e : sumN (fun j => f (m + 1 - 1 - (j + 1))) m = sumN (fun j => f (m - 1 - j)) m := sumN_congr m fun j hj => by
      show f (m + 1 - 1 - (j + 1)) = f (m - 1 - j)
      rw [show m + 1 - 1 - (j + 1) = m - 1 - j by omega]
    rw [e, sumN_rev f m]
    show f (m + 1 - 1 - 0) + sumN f m = sumN f m + f m
    rw [show m + 1 - 1 - 0 = m by omega]; omega
theorem cst_sum (S : ArcsF) (b : Nat → Int) (v : Nat) : ∀ m, cst S b v m = sumN (fun j => S.ln (b (iter (bk S b) j v)).toNat) m
  | 0 => rfl
  | m + 1 => by show cst S b v m + _ = sumN _ m + _; rw [cst_sum S b v m]
/-- how soon one comes round -/
theorem first_back {f : Nat → Nat} {v : Nat} : ∀ m, 0 < m → iter f m v = v → ∃ p, 0 < p ∧ p ≤ m ∧ iter f p v = v ∧ ∀ j, 0 < j → j < p → iter f j v ≠ v := by
  intro m
  induction m using Nat.strongRecOn with
  | ind m ih =>
    intro h0 h
    by_cases q : ∃ j, 0 < j ∧ j < m ∧ iter f j v = v
    · obtain ⟨j, h1, h2, h3⟩ := q
      obtain ⟨p, a1, a2, a3⟩ := ih j h2 h1 h3
      exact ⟨p, a1, by omega, a3⟩
    · exact ⟨m, h0, Nat.le_refl _, h, fun j h1 h2 h3 => q ⟨j, h1, h2, h3⟩⟩
theorem first_apart {f : Nat → Nat} {v p : Nat} (hb : iter f p v = v) (hm : ∀ j, 0 < j → j < p → iter f j v ≠ v) {i j : Nat} (h0 : 0 < i) (hij : i < j) (hj : j ≤ p) : iter f i v ≠ iter f j v := fun e => by
  have h1 : iter f (p - j + i) v = v := by rw [iter_add, e, ← iter_add, show p - j + j = p by omega]; exact hb
  exact hm (p - j + i) (by omega) (by omega) h1

/-- a row of m arcs that is a round below 0, that is reached -/
structure RoundF (S : ArcsF) (k s n m : Nat) (r : Nat → Nat) : Prop where
  pos : 0 < m
  le : m ≤ n
  lt : ∀ j, j < m → r j < k
  link : ∀ j, j + 1 < m → S.th (r j) = S.fr (r (j + 1))
  last : S.th (r (m - 1)) = S.fr (r 0)
  apart : ∀ i j, i < j → j < m → S.fr (r i) ≠ S.fr (r j)
  neg : sumN (fun j => S.ln (r j)) m < 0
  reach : ∃ c q, Way S k s (S.fr (r 0)) c q
section
variable {S : ArcsF} {k n s t v m p : Nat} {L : Int} {d b : Nat → Int} {r : Nat → Nat}
theorem Pred.ring (P : Pred S k n d b) (SD : Sound S k s n t d) (A : ArcsIn S k n L) (hv : v < n) (lp : Loop S b v p) (hp : p ≤ n) (hf : ∀ j, 0 < j → j < p → iter (bk S b) j v ≠ v) :
    RoundF S k s n p (fun j => (b (iter (bk S b) (p - 1 - j) v)).toNat) := by
  have hpos := lp.pos
  have lt : ∀ j, j ≤ p → iter (bk S b) j v < n := fun j hj => P.its A hv j fun i hi => lp.all i (by omega)
  have arc : ∀ j, j < p → ∃ i : Nat, i < k ∧ (b (iter (bk S b) j v)).toNat = i ∧ S.th i = iter (bk S b) j v ∧ S.fr i = iter (bk S b) (j + 1) v ∧ d (S.fr i) ≠ far := fun j hj => by
    rcases P.each _ (lt j (by omega)) with q | ⟨i, h1, h2, h3, h4, h5⟩
    · have := lp.all j hj; omega
    · refine ⟨i, h1, by rw [h2]; rfl, h3, ?_, h4⟩
      show S.fr i = S.fr (b (iter (bk S b) j v)).toNat
      rw [h2]; rfl
  refine ⟨hpos, hp, fun j hj => ?_, fun j hj => ?_, ?_, fun i j hij hj => ?_, ?_, ?_⟩
  · obtain ⟨i, h1, h2, _⟩ := arc (p - 1 - j) (by omega)
    show (b (iter (bk S b) (p - 1 - j) v)).toNat < k
    omega
  · obtain ⟨i, h1, h2, h3, h4, _⟩ := arc (p - 1 - j) (by omega)
    obtain ⟨i', h1', h2', h3', h4', _⟩ := arc (p - 1 - (j + 1)) (by omega)
    show S.th (b (iter (bk S b) (p - 1 - j) v)).toNat = S.fr (b (iter (bk S b) (p - 1 - (j + 1)) v)).toNat
    rw [h2, h2', h3, h4', show p - 1 - (j + 1) + 1 = p - 1 - j by omega]
  · obtain ⟨i, h1, h2, h3, h4, _⟩ := arc (p - 1 - (p - 1)) (by omega)
    obtain ⟨i', h1', h2', h3', h4', _⟩ := arc (p - 1 - 0) (by omega)
    show S.th (b (iter (bk S b) (p - 1 - (p - 1)) v)).toNat = S.fr (b (iter (bk S b) (p - 1 - 0) v)).toNat
    rw [h2, h2', h3, h4', show p - 1 - (p - 1) = 0 by omega, show p - 1 - 0 + 1 = p by omega, lp.back]
    rfl
  · obtain ⟨a, h1, h2, h3, h4, _⟩ := arc (p - 1 - i) (by omega)
    obtain ⟨a', h1', h2', h3', h4', _⟩ := arc (p - 1 - j) (by omega)
    show S.fr (b (iter (bk S b) (p - 1 - i) v)).toNat ≠ S.fr (b (iter (bk S b) (p - 1 - j) v)).toNat
    rw [h2, h2', h4, h4']
    exact Ne.symm (first_apart lp.back hf (by omega) (by omega) (by omega))
  · have h1 := P.neg v p hv lp
    rw [cst_sum] at h1
    have e := sumN_rev (fun j => S.ln (b (iter (bk S b) j v)).toNat) p
    rw [← e] at h1
    exact h1
  · obtain ⟨i, h1, h2, h3, h4, h5⟩ := arc (p - 1 - 0) (by omega)
    show ∃ c q, Way S k s (S.fr (b (iter (bk S b) (p - 1 - 0) v)).toNat) c q
    rw [h2]
    rcases SD.each _ (A.fr i h1) with q | ⟨m, _, w⟩
    · exact absurd q h5
    · exact ⟨_, _, w⟩
theorem RoundF.ways (h : RoundF S k s n m r) : ∀ j, j < m → Way S k (S.fr (r 0)) (S.th (r j)) (sumN (fun j => S.ln (r j)) (j + 1)) (j + 1)
  | 0, hj => by
    have := Way.snoc (S := S) (k := k) (s := S.fr (r 0)) .nil (h.lt 0 hj)
    show Way S k _ _ (0 + S.ln (r 0)) (0 + 1)
    exact this
  | j + 1, hj => by
    have w := RoundF.ways h j (by omega)
    rw [h.link j hj] at w
    exact Way.snoc w (h.lt (j + 1) hj)
theorem RoundF.bad (h : RoundF S k s n m r) : ¬ NoNeg S k s := fun N => by
  obtain ⟨c, q, w⟩ := h.reach
  have hp := h.pos
  have w2 := h.ways (m - 1) (by omega)
  rw [h.last, show m - 1 + 1 = m by omega] at w2
  have := N _ _ _ _ _ w w2
  have := h.neg
  omega
end
end Go.Proofs.Ytchlccendggfpaa.Ro
