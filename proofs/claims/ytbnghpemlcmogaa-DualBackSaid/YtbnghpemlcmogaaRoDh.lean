/- Plain: where the halves of a face meet. -/
import Derived.Test.YtbnghpemlcmogaaRoDq
import Derived.Test.YtbnghpemlcmogaaRoCt
namespace Go.Proofs.Ytbnghpemlcmogaa.Ro
open Go.RowKit Go.Proofs Go.Maps
set_option linter.unusedVariables false
set_option linter.unusedSimpArgs false

section
variable {m f e0 l a r k : Nat} {x t o : Nat → Int} {s v K : Int}
/-- what a dart is told is its round's, or the new one -/
theorem Halved.cases (h : Halved m x t o f s v e0 l a r) (O : Orb (bh x) m o k) (p : Perm (bh x) m) {d : Nat} (hd : d < m) :
    (o d ≠ f ∧ halfO x o K e0 a r l d = o d) ∨ (o d = f ∧ (halfO x o K e0 a r l d = f ∨ halfO x o K e0 a r l d = K)) := by
  by_cases e : o d = f
  · right
    obtain ⟨j, hj, rfl⟩ := h.place O p hd e
    refine ⟨e, ?_⟩
    rw [h.value O p K hj]
    by_cases q : r ≤ j
    · rw [if_pos q]; exact .inr rfl
    · rw [if_neg q]; exact .inl rfl
  · exact .inl ⟨e, h.other O p K e⟩
/-- a dart and the one behind it are told unlike just at two places -/
theorem Halved.meet (h : Halved m x t o f s v e0 l a r) (O : Orb (bh x) m o k) (p : Perm (bh x) m) (hK : (f : Int) ≠ K) {d : Nat} (hd : d < m) :
    halfO x o K e0 a r l d ≠ halfO x o K e0 a r l (bh x d) ↔ (d = it (bh x) (a + (r - 1)) e0 ∨ d = it (bh x) (a + (l - 1)) e0) := by
  have hr := h.rpos
  have hl := h.rlt
  by_cases e : o d = f
  · obtain ⟨j, hj, rfl⟩ := h.place O p hd e
    have hb : bh x (it (bh x) (a + j) e0) = it (bh x) (a + (j + 1)) e0 := rfl
    rw [hb, h.value O p K hj]
    have nxt : halfO x o K e0 a r l (it (bh x) (a + (j + 1)) e0) = if r ≤ j + 1 ∧ j + 1 < l then K else (f : Int) := by
      rcases Nat.lt_or_ge (j + 1) l with q | q
      · rw [h.value O p K q]
        by_cases z : r ≤ j + 1
        · rw [if_pos z, if_pos ⟨z, q⟩]
        · rw [if_neg z, if_neg (fun y => z y.1)]
      · have e1 : it (bh x) (a + (j + 1)) e0 = it (bh x) (a + 0) e0 := by
          rw [show j + 1 = l by omega, it_add, h.rnd.back, Nat.add_zero]
        rw [e1, h.value O p K (by omega : 0 < l), if_neg (by omega), if_neg (by omega)]
    rw [nxt]
    have i1 : it (bh x) (a + j) e0 = it (bh x) (a + (r - 1)) e0 ↔ j = r - 1 := ⟨fun z => h.rnd.shift hj (by omega) z, fun z => by rw [z]⟩
    have i2 : it (bh x) (a + j) e0 = it (bh x) (a + (l - 1)) e0 ↔ j = l - 1 := ⟨fun z => h.rnd.shift hj (by omega) z, fun z => by rw [z]⟩
    rw [i1, i2]
    by_cases q1 : r ≤ j
    · rw [if_pos q1]
      by_cases q2 : j + 1 < l
      · rw [if_pos ⟨by omega, q2⟩]
        constructor
        · intro z; exact absurd rfl z
        · intro z; omega
      · rw [if_neg (by omega)]
        constructor
        · intro _; right; omega
        · intro _ z; exact hK z.symm
    · rw [if_neg q1]
      by_cases q2 : r ≤ j + 1
      · rw [if_pos ⟨q2, by omega⟩]
        constructor
        · intro _; left; omega
        · intro _; exact hK
      · rw [if_neg (by omega)]
        constructor
        · intro z; exact absurd rfl z
        · intro z; omega
  · have e2 : o (bh x d) ≠ f := by rw [O.fwd d hd]; exact e
    rw [h.other O p K e, h.other O p K e2, O.fwd d hd]
    constructor
    · intro z; exact absurd rfl z
    · rintro (z | z)
      · rw [z, h.in_ O p] at e; exact absurd rfl e
      · rw [z, h.in_ O p] at e; exact absurd rfl e
/-- the one behind it then begins at the half's vertex -/
theorem Halved.begin_ (h : Halved m x t o f s v e0 l a r) (O : Orb (bh x) m o k) (p : Perm (bh x) m) (hK : (f : Int) ≠ K) {d : Nat} (hd : d < m) (hq : halfO x o K e0 a r l d ≠ halfO x o K e0 a r l (bh x d)) :
    (halfO x o K e0 a r l (bh x d) = f ∧ t (bh x d) = s) ∨ (halfO x o K e0 a r l (bh x d) = K ∧ t (bh x d) = v) := by
  have hr := h.rpos
  have hl := h.rlt
  rcases (h.meet O p hK hd).1 hq with rfl | rfl
  · right
    have e1 : bh x (it (bh x) (a + (r - 1)) e0) = it (bh x) (a + r) e0 := by
      show it (bh x) (a + (r - 1) + 1) e0 = _
      rw [show a + (r - 1) + 1 = a + r by omega]
    rw [e1, h.value O p K hl, if_pos (Nat.le_refl _)]
    exact ⟨rfl, h.there⟩
  · left
    have e1 : bh x (it (bh x) (a + (l - 1)) e0) = it (bh x) (a + 0) e0 := by
      show it (bh x) (a + (l - 1) + 1) e0 = _
      rw [show a + (l - 1) + 1 = a + l by omega, it_add, h.rnd.back, Nat.add_zero]
    rw [e1, h.value O p K (by omega : 0 < l), if_neg (by omega)]
    exact ⟨rfl, h.here⟩
theorem Halved.two (h : Halved m x t o f s v e0 l a r) (O : Orb (bh x) m o k) (p : Perm (bh x) m) (hK : (f : Int) ≠ K) :
    cnt (fun d => !(halfO x o K e0 a r l d == halfO x o K e0 a r l (bh x d))) m = 2 := by
  have hr := h.rpos
  have hl := h.rlt
  have sw : ∀ d, d < m → ((!(halfO x o K e0 a r l d == halfO x o K e0 a r l (bh x d))) = true ↔ (d = it (bh x) (a + (r - 1)) e0 ∨ d = it (bh x) (a + (l - 1)) e0)) := fun d hd => by
    rw [← h.meet O p hK hd]; simp
  have l1 := p.it_lt h.lt (a + (r - 1))
  have l2 := p.it_lt h.lt (a + (l - 1))
  refine cnt_row m 2 (fun j => if j = 0 then it (bh x) (a + (r - 1)) e0 else it (bh x) (a + (l - 1)) e0) (fun j hj => ?_) (fun i j hij hj => ?_) (fun y hy hp => ?_)
  · by_cases q : j = 0
    · simp only [if_pos q]; exact ⟨l1, (sw _ l1).2 (.inl rfl)⟩
    · simp only [if_neg q]; exact ⟨l2, (sw _ l2).2 (.inr rfl)⟩
  · have e1 : i = 0 := by omega
    have e2 : j ≠ 0 := by omega
    simp only [if_pos e1, if_neg e2]
    intro z
    have := h.rnd.shift (by omega) (by omega) z
    omega
  · rcases (sw y hy).1 hp with z | z
    · exact ⟨0, by omega, by simp only [if_pos rfl]; exact z.symm⟩
    · exact ⟨1, by omega, by simp only [show ¬ (1 = 0) by omega, if_false]; exact z.symm⟩
end
end Go.Proofs.Ytbnghpemlcmogaa.Ro
