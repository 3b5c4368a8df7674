/- Plain laws: more arcs, arcs in another order; arcs from one on. -/
import Derived.Test.YtchlccendggfpaaPaAp
namespace Go.Proofs.Ytchlccendggfpaa.Ro
open Go.RowKit Go.Proofs Go.Maps
set_option linter.unusedVariables false
set_option linter.unusedSimpArgs false

theorem add_off (b o j : Nat) : (⟨b, o, none⟩ : Addr).add j = ⟨b, o + j, none⟩ := by unfold Addr.add; split <;> simp_all
/-- arcs from the q-th on -/
def shA (S : ArcsF) (q : Nat) : ArcsF := ⟨fun j => S.fr (j + q), fun j => S.th (j + q), fun j => S.ln (j + q)⟩
theorem shA_cell (S : ArcsF) (q i : Nat) : arcCell (shA S q) i = arcCell S (i + q * 3) := by
  unfold arcCell shA
  simp only
  rw [show (i + q * 3) % 3 = i % 3 by omega, show (i + q * 3) / 3 = i / 3 + q by omega]
theorem Way.map {S S' : ArcsF} {k k' s v m : Nat} {c : Int} (h : ∀ i, i < k → ∃ j, j < k' ∧ S'.fr j = S.fr i ∧ S'.th j = S.th i ∧ S'.ln j = S.ln i) (w : Way S k s v c m) : Way S' k' s v c m := by
  induction w with
  | nil => exact .nil
  | @snoc c m i w hi ih =>
    obtain ⟨j, h1, h2, h3, h4⟩ := h i hi
    rw [← h2] at ih
    rw [← h3, ← h4]
    exact .snoc ih h1
/-- of arcs that hold these and more no way is longer -/
theorem Fix.more {S S' : ArcsF} {k k' n s t t' : Nat} {L : Int} {d e : Nat → Int} (h : ∀ i, i < k → ∃ j, j < k' ∧ S'.fr j = S.fr i ∧ S'.th j = S.th i ∧ S'.ln j = S.ln i) (hd : Sound S k s n t d) (fe : Fix S' k' e) (he : Sound S' k' s n t' e) (A : ArcsIn S' k' n L) (hL : 0 ≤ L) (hb : (t' : Int) * L + L < far) (hs : s < n) {v : Nat} (hv : v < n) : e v ≤ d v := by
  rcases hd.each v hv with q | ⟨m, _, w⟩
  · rw [q]
    by_cases z : e v = far
    · rw [z]; exact Int.le_refl _
    · have := (he.size A hL hv z).2
      omega
  · exact (fe.le he A hL hb hs (w.map h)).2
theorem OwA.count {w : World} {v : Value} {n n' : Nat} {S : ArcsF} (h : OwA w v n S) (e : n = n') : OwA w v n' S := e ▸ h
theorem OwA.cap {w : World} {b n cap : Nat} {S : ArcsF} (h : OwA w (.slice (some ⟨b, 0, none⟩) n cap) n S) : n ≤ cap := by
  obtain ⟨xs, ⟨_, h1⟩, _⟩ := h
  rcases h1 with ⟨e, _⟩ | ⟨b', cap', cur, e, _, _, hnc, _⟩
  · cases e
  · injection e with _ _ e; rw [e]; exact hnc
theorem OwA.nilOr {w : World} {v : Value} {n : Nat} {S : ArcsF} (h : OwA w v n S) : (v = .slice none 0 0 ∧ n = 0) ∨ ∃ g cap, v = .slice (some ⟨g, 0, none⟩) n cap ∧ n ≤ cap ∧ cap ≤ 9223372036854775807 ∧ g < w.heap.size := by
  obtain ⟨xs, ⟨_, h1⟩, _⟩ := h
  rcases h1 with h1 | ⟨b', cap', cur, e, _, hg, hnc, hc, _⟩
  · exact .inl h1
  · unfold maxLen at hc
    exact .inr ⟨b', cap', e, hnc, by omega, blk_lt hg⟩
/-- the arcs from q on, then those ahead of q, then one more -/
def rotA (S : ArcsF) (k q : Nat) (X : ArcsF) : ArcsF := catA (catA (catA S 0 (shA S q)) (0 + (k - q)) S) (0 + (k - q) + q) X
theorem rotA_one {S X : ArcsF} {k q j : Nat} (hq : q ≤ k) : (j < k - q → (rotA S k q X).fr j = S.fr (j + q) ∧ (rotA S k q X).th j = S.th (j + q) ∧ (rotA S k q X).ln j = S.ln (j + q)) ∧
    (k - q ≤ j → j < k → (rotA S k q X).fr j = S.fr (j - (k - q)) ∧ (rotA S k q X).th j = S.th (j - (k - q)) ∧ (rotA S k q X).ln j = S.ln (j - (k - q))) ∧ (j = k → (rotA S k q X).fr j = X.fr 0 ∧ (rotA S k q X).th j = X.th 0 ∧ (rotA S k q X).ln j = X.ln 0) := by
  refine ⟨fun h => ?_, fun h1 h2 => ?_, fun h => ?_⟩
  · unfold rotA catA shA
    simp only [if_pos (show j < 0 + (k - q) + q by omega), if_pos (show j < 0 + (k - q) by omega), if_neg (show ¬ j < 0 by omega), Nat.sub_zero]
    exact ⟨trivial, trivial, trivial⟩
  · unfold rotA catA shA
    simp only [if_pos (show j < 0 + (k - q) + q by omega), if_neg (show ¬ j < 0 + (k - q) by omega), show j - (0 + (k - q)) = j - (k - q) by omega]
    exact ⟨trivial, trivial, trivial⟩
  · unfold rotA catA shA
    simp only [if_neg (show ¬ j < 0 + (k - q) + q by omega), show j - (0 + (k - q) + q) = 0 by omega]
    exact ⟨trivial, trivial, trivial⟩
theorem rotA_has {S X : ArcsF} {k q : Nat} (hq : q ≤ k) : ∀ i, i < k → ∃ j, j < k ∧ (rotA S k q X).fr j = S.fr i ∧ (rotA S k q X).th j = S.th i ∧ (rotA S k q X).ln j = S.ln i := fun i hi => by
  by_cases h : q ≤ i
  · have := (rotA_one (S := S) (X := X) (j := i - q) hq).1 (by omega)
    rw [show i - q + q = i by omega] at this
    exact ⟨i - q, by omega, this⟩
  · have := (rotA_one (S := S) (X := X) (j := i + (k - q)) hq).2.1 (by omega) (by omega)
    rw [show i + (k - q) - (k - q) = i by omega] at this
    exact ⟨i + (k - q), by omega, this⟩
theorem rotA_of {S X : ArcsF} {k q : Nat} (hq : q ≤ k) : ∀ j, j < k → ∃ i, i < k ∧ S.fr i = (rotA S k q X).fr j ∧ S.th i = (rotA S k q X).th j ∧ S.ln i = (rotA S k q X).ln j := fun j hj => by
  by_cases h : j < k - q
  · obtain ⟨h1, h2, h3⟩ := (rotA_one (S := S) (X := X) (j := j) hq).1 h
    exact ⟨j + q, by omega, h1.symm, h2.symm, h3.symm⟩
  · obtain ⟨h1, h2, h3⟩ := (rotA_one (S := S) (X := X) (j := j) hq).2.1 (by omega) hj
    exact ⟨j - (k - q), by omega, h1.symm, h2.symm, h3.symm⟩
theorem rotA_in {S X : ArcsF} {k q n : Nat} {L : Int} (hq : q ≤ k) (A : ArcsIn S k n L) (B : ArcsIn X 1 n L) : ArcsIn (rotA S k q X) (k + 1) n L := by
  have all : ∀ j, j < k + 1 → (rotA S k q X).fr j < n ∧ (rotA S k q X).th j < n ∧ -L ≤ (rotA S k q X).ln j ∧ (rotA S k q X).ln j ≤ L := fun j hj => by
    rcases Nat.lt_or_ge j k with z | z
    · obtain ⟨i, hi, h1, h2, h3⟩ := rotA_of (X := X) hq j z
      rw [← h1, ← h2, ← h3]
      exact ⟨A.fr i hi, A.th i hi, A.lo i hi, A.hi i hi⟩
    · obtain ⟨h1, h2, h3⟩ := (rotA_one (S := S) (X := X) (j := j) hq).2.2 (by omega)
      rw [h1, h2, h3]
      exact ⟨B.fr 0 (by omega), B.th 0 (by omega), B.lo 0 (by omega), B.hi 0 (by omega)⟩
  exact ⟨fun i hi => (all i hi).1, fun i hi => (all i hi).2.1, fun i hi => (all i hi).2.2.1, fun i hi => (all i hi).2.2.2⟩
theorem rotA_low {S X : ArcsF} {k q : Nat} (hq : q ≤ k) (hS : ∀ i, i < k → 0 ≤ S.ln i) (hX : 0 ≤ X.ln 0) : ∀ j, j < k + 1 → 0 ≤ (rotA S k q X).ln j := fun j hj => by
  rcases Nat.lt_or_ge j k with z | z
  · obtain ⟨i, hi, h1, h2, h3⟩ := rotA_of (X := X) hq j z
    rw [← h3]; exact hS i hi
  · rw [((rotA_one (S := S) (X := X) (j := j) hq).2.2 (by omega)).2.2]; exact hX
theorem ArcsIn.less {S : ArcsF} {k k' n : Nat} {L : Int} (A : ArcsIn S k n L) (h : k' ≤ k) : ArcsIn S k' n L :=
  ⟨fun i hi => A.fr i (by omega), fun i hi => A.th i (by omega), fun i hi => A.lo i (by omega), fun i hi => A.hi i (by omega)⟩
theorem RdA.front {w : World} {A : Option Addr} {k k' c c' : Nat} {S : ArcsF} (h : RdA w (.slice A k c) k S) (hk : k' ≤ k) : RdA w (.slice A k' c') k' S := by
  obtain ⟨A', cap, e, r⟩ := h
  injection e with e1 e2 e3
  subst e1
  refine ⟨_, c', rfl, fun h => ?_⟩
  obtain ⟨b, hb, h1, h2⟩ := r (by omega)
  exact ⟨b, hb, h1, fun i hi => h2 i (by omega)⟩
end Go.Proofs.Ytchlccendggfpaa.Ro
