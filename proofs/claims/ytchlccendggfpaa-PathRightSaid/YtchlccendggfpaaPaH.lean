/- Plain laws: ways back by rounds over the arcs. -/
import Derived.Test.YtchlccendggfpaaPaD
namespace Go.Proofs.Ytchlccendggfpaa.Ro
set_option linter.unusedVariables false
set_option linter.unusedSimpArgs false

/-- all ways of at most r arcs are told -/
def UpTo2 (S : ArcsF) (k t : Nat) (g a : Nat → Int) (r : Nat) : Prop := ∀ v c m, Way S.rev k t v c m → m ≤ r → g v < c ∨ (g v = c ∧ a v ≤ m)
structure Rnd2 (S : ArcsF) (k t : Nat) (g a : Nat → Int) (r i : Nat) : Prop where
  old : UpTo2 S k t g a r
  new : ∀ j, j < i → ∀ c m, Way S.rev k t (S.th j) c m → m ≤ r → g (S.fr j) < c + S.ln j ∨ (g (S.fr j) = c + S.ln j ∧ a (S.fr j) ≤ m + 1)
section
variable {S : ArcsF} {k n t T r i : Nat} {L : Int} {g a g' a' : Nat → Int}
theorem UpTo2.start (S : ArcsF) (k t n : Nat) : UpTo2 S k t (upd (fun _ => far) t 0) (upd (fun _ => far) t 0) 0 := fun v c m w hm => by
  cases w with
  | nil => rw [upd_same]; exact .inr ⟨rfl, by simp⟩
  | snoc _ _ => omega
theorem Rnd2.start (h : UpTo2 S k t g a r) : Rnd2 S k t g a r 0 := ⟨h, fun j hj => by omega⟩
theorem Rnd2.less (h : Rnd2 S k t g a r i) (hd : ∀ v, g' v < g v ∨ (g' v = g v ∧ a' v ≤ a v)) : Rnd2 S k t g' a' r i :=
  ⟨fun v c m w hm => by have := h.old v c m w hm; have := hd v; omega, fun j hj c m w hm => by have := h.new j hj c m w hm; have := hd (S.fr j); omega⟩
theorem Rnd2.skip (h : Rnd2 S k t g a r i) (A : ArcsIn S k n L) (hL : 0 ≤ L) (hi : i < k) (hb : (r : Int) * L < far)
    (hn : g (S.th i) = far ∨ g (S.fr i) < g (S.th i) + S.ln i ∨ (g (S.fr i) = g (S.th i) + S.ln i ∧ a (S.fr i) ≤ a (S.th i) + 1)) : Rnd2 S k t g a r (i + 1) :=
  ⟨h.old, fun j hj c m w hm => by
    rcases Nat.lt_or_ge j i with q | q
    · exact h.new j q c m w hm
    · obtain rfl : j = i := by omega
      have h1 := h.old _ _ _ w hm
      rcases hn with z | z
      · have h2 := (w.bound A.rev).2
        have : (m : Int) * L ≤ r * L := Int.mul_le_mul_of_nonneg_right (by omega) hL
        omega
      · omega⟩
theorem Rnd2.take (h : Rnd2 S k t g a r i) (hi : i < k)
    (hl : g (S.th i) + S.ln i < g (S.fr i) ∨ (g (S.th i) + S.ln i = g (S.fr i) ∧ a (S.th i) + 1 < a (S.fr i))) : Rnd2 S k t (upd g (S.fr i) (g (S.th i) + S.ln i)) (upd a (S.fr i) (a (S.th i) + 1)) r (i + 1) := by
  have le : ∀ v, upd g (S.fr i) (g (S.th i) + S.ln i) v < g v ∨ (upd g (S.fr i) (g (S.th i) + S.ln i) v = g v ∧ upd a (S.fr i) (a (S.th i) + 1) v ≤ a v) := fun v => by
    by_cases e : v = S.fr i
    · subst e; rw [upd_same, upd_same]; omega
    · rw [upd_ne e, upd_ne e]; exact .inr ⟨rfl, Int.le_refl _⟩
  have h2 := h.less le
  refine ⟨h2.old, fun j hj c m w hm => ?_⟩
  rcases Nat.lt_or_ge j i with q | q
  · exact h2.new j q c m w hm
  · obtain rfl : j = i := by omega
    rw [upd_same, upd_same]
    have := h.old _ _ _ w hm
    omega
theorem Rnd2.done (h : Rnd2 S k t g a r k) (h0 : g t = 0 ∧ a t = 0) : UpTo2 S k t g a (r + 1) := fun v c m w hm => by
  cases w with
  | nil => exact .inr ⟨h0.1, by simp [h0.2]⟩
  | @snoc c m i w hi =>
    have := h.new i hi c m w (by omega)
    show g (S.fr i) < c + S.ln i ∨ (g (S.fr i) = c + S.ln i ∧ a (S.fr i) ≤ ((m + 1 : Nat) : Int))
    omega
/-- behind so many rounds nothing makes it less -/
theorem UpTo2.fix (u : UpTo2 S k t g a r) (h : Sound2 S k t n T g a) (A : ArcsIn S k n L) (h0 : ∀ i, i < k → 0 ≤ S.ln i) (ht : t < n) (hr : n ≤ r + 1) : Fix2 S k g a := fun i hi hf => by
  have N : NoNeg S.rev k t := fun v c m c' m' _ w => w.nonneg (S := S.rev) h0
  rcases h.each _ (A.th i hi) with q | ⟨m, h1, h2, w⟩
  · exact absurd q.1 hf
  · have w2 : Way S.rev k t (S.fr i) (g (S.th i) + S.ln i) (m + 1) := Way.snoc (S := S.rev) w hi
    rcases Nat.lt_or_ge r (m + 1) with q | q
    · obtain ⟨c', m', w', k1, k2⟩ := N.short A.rev ht (m + 1) (m + 1) (Nat.le_refl _) _ _ w2
      have := u _ _ _ w' (by omega)
      omega
    · have := u _ _ _ w2 q
      omega

/-- all tight ways of at most r arcs are told -/
def UpToF (S : ArcsF) (k t : Nat) (D F : Nat → Int) (r : Nat) : Prop := ∀ v m, Way S.rev k t v (D v) m → m ≤ r → F v ≤ m
structure RndF (S : ArcsF) (k t : Nat) (D F : Nat → Int) (r i : Nat) : Prop where
  old : UpToF S k t D F r
  new : ∀ j, j < i → ∀ m, Way S.rev k t (S.th j) (D (S.th j)) m → D (S.fr j) = D (S.th j) + S.ln j → m ≤ r → F (S.fr j) ≤ m + 1
section
variable {D F F' : Nat → Int}
theorem UpToF.start (S : ArcsF) (k t : Nat) (D : Nat → Int) (h0 : D t = 0) : UpToF S k t D (upd (fun _ => far) t 0) 0 := fun v m w hm => by
  have : m = 0 := by omega
  subst this
  generalize hc : D v = c at w
  cases w with
  | nil => rw [upd_same]; simp
theorem RndF.start (h : UpToF S k t D F r) : RndF S k t D F r 0 := ⟨h, fun j hj => by omega⟩
theorem RndF.less (h : RndF S k t D F r i) (hd : ∀ v, F' v ≤ F v) : RndF S k t D F' r i :=
  ⟨fun v m w hm => Int.le_trans (hd v) (h.old v m w hm), fun j hj m w e hm => Int.le_trans (hd _) (h.new j hj m w e hm)⟩
theorem RndF.skip (h : RndF S k t D F r i) (hi : i < k) (hb : (r : Int) < far)
    (hn : ¬ (D (S.th i) ≠ far ∧ D (S.fr i) = D (S.th i) + S.ln i ∧ F (S.th i) ≠ far ∧ F (S.th i) + 1 < F (S.fr i))) (hD : ∀ c m, Way S.rev k t (S.th i) c m → D (S.th i) ≠ far) : RndF S k t D F r (i + 1) :=
  ⟨h.old, fun j hj m w e hm => by
    rcases Nat.lt_or_ge j i with q | q
    · exact h.new j q m w e hm
    · obtain rfl : j = i := by omega
      have h1 := h.old _ _ w hm
      have h2 := hD _ _ w
      have h3 : F (S.th j) ≠ far := by omega
      have : ¬ (F (S.th j) + 1 < F (S.fr j)) := fun z => hn ⟨h2, e, h3, z⟩
      omega⟩
theorem RndF.take (h : RndF S k t D F r i) (hi : i < k) (hl : F (S.th i) + 1 < F (S.fr i)) : RndF S k t D (upd F (S.fr i) (F (S.th i) + 1)) r (i + 1) := by
  have le : ∀ v, upd F (S.fr i) (F (S.th i) + 1) v ≤ F v := fun v => by
    by_cases e : v = S.fr i
    · subst e; rw [upd_same]; omega
    · rw [upd_ne e]; exact Int.le_refl _
  have h2 := h.less le
  refine ⟨h2.old, fun j hj m w e hm => ?_⟩
  rcases Nat.lt_or_ge j i with q | q
  · exact h2.new j q m w e hm
  · obtain rfl : j = i := by omega
    rw [upd_same]
    have := h.old _ _ w hm
    omega
theorem RndF.done (h : RndF S k t D F r k) (h0 : F t ≤ 0) (fD : Fix S.rev k D) {U : Nat} (hD : Sound S.rev k t n U D) (A : ArcsIn S k n L) (hL : 0 ≤ L) (hb : (U : Int) * L + L < far) (ht : t < n) : UpToF S k t D F (r + 1) := fun v m w hm => by
  have key : ∀ c, Way S.rev k t v c m → c = D v → F v ≤ m := fun c w hc => by
    cases w with
    | nil => simpa using h0
    | @snoc c m i w0 hi =>
      have d1 : D (S.th i) ≠ far ∧ D (S.th i) ≤ c := fD.le hD A.rev hL hb ht w0
      have d2 := fD i hi d1.1
      have d2 : D (S.fr i) ≤ D (S.th i) + S.ln i := d2
      have hc : c + S.ln i = D (S.fr i) := hc
      have e : c = D (S.th i) := by omega
      rw [e] at w0
      have := h.new i hi m w0 (by omega) (by omega)
      show F (S.fr i) ≤ ((m + 1 : Nat) : Int)
      omega
  exact key _ w rfl
/-- behind so many rounds nothing makes it less -/
theorem UpToF.fix {U : Nat} (u : UpToF S k t D F r) (h : SoundF S k t n T D F) (A : ArcsIn S k n L) (h0 : ∀ i, i < k → 0 ≤ S.ln i) (ht : t < n) (hr : n ≤ r + 1) (fD : Fix S.rev k D) (hD : Sound S.rev k t n U D) (hL : 0 ≤ L) (hb : (U : Int) * L + L < far) : FixF S k D F := fun i hi hf he hF => by
  have N : NoNeg S.rev k t := fun v c m c' m' _ w => w.nonneg (S := S.rev) h0
  rcases h.each _ (A.th i hi) with q | ⟨m, h1, h2, w⟩
  · exact absurd q hF
  · have w2 : Way S.rev k t (S.fr i) (D (S.fr i)) (m + 1) := by rw [he]; exact Way.snoc (S := S.rev) w hi
    rcases Nat.lt_or_ge r (m + 1) with q | q
    · obtain ⟨c', m', w', k1, k2⟩ := N.short A.rev ht (m + 1) (m + 1) (Nat.le_refl _) _ _ w2
      have l1 := (fD.le hD A.rev hL hb ht w').2
      have e : c' = D (S.fr i) := by omega
      rw [e] at w'
      have := u _ _ w' (by omega)
      omega
    · have := u _ _ w2 q
      omega
end
end
end Go.Proofs.Ytchlccendggfpaa.Ro
