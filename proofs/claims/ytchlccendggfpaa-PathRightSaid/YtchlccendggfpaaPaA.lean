/- Plain laws: ways along arcs; distances that are reached, that nothing makes less. -/
import Derived.Test.YtchlccendggfpaaRoW
namespace Go.Proofs.Ytchlccendggfpaa.Ro
set_option linter.unusedVariables false
set_option linter.unusedSimpArgs false

/-- arcs: where each begins, where it ends, how long it is -/
structure ArcsF where
  fr : Nat → Nat
  th : Nat → Nat
  ln : Nat → Int
/-- a way along the first k arcs, from s: how long, by how many arcs -/
inductive Way (S : ArcsF) (k s : Nat) : Nat → Int → Nat → Prop
  | nil : Way S k s s 0 0
  | snoc {c : Int} {m i : Nat} : Way S k s (S.fr i) c m → i < k → Way S k s (S.th i) (c + S.ln i) (m + 1)
def far : Int := 1152921504606846976

/-- arcs lead between places below n, and are no longer than L -/
structure ArcsIn (S : ArcsF) (k n : Nat) (L : Int) : Prop where
  fr : ∀ i, i < k → S.fr i < n
  th : ∀ i, i < k → S.th i < n
  lo : ∀ i, i < k → -L ≤ S.ln i
  hi : ∀ i, i < k → S.ln i ≤ L
section
variable {S : ArcsF} {k n s u v t : Nat} {L c c' : Int} {m m' : Nat} {d d' : Nat → Int}
theorem Way.trans (h : Way S k s u c m) (g : Way S k u v c' m') : Way S k s v (c + c') (m + m') := by
  induction g with
  | nil => rw [Int.add_zero]; exact h
  | snoc _ hi ih => rw [← Int.add_assoc]; exact .snoc ih hi
theorem Way.lt (h : Way S k s v c m) (A : ArcsIn S k n L) (hs : s < n) : v < n := by
  cases h with
  | nil => exact hs
  | snoc _ hi => exact A.th _ hi
theorem Way.bound (h : Way S k s v c m) (A : ArcsIn S k n L) : -(m * L) ≤ c ∧ c ≤ m * L := by
  induction h with
  | nil => simp
  | @snoc c m i _ hi ih =>
    have h1 := A.lo i hi
    have h2 := A.hi i hi
    have e : ((m + 1 : Nat) : Int) * L = m * L + L := by rw [Int.natCast_add, Int.add_mul]; simp
    rw [e]
    omega

/-- what is told is how long a way is, of at most t arcs -/
structure Sound (S : ArcsF) (k s n t : Nat) (d : Nat → Int) : Prop where
  each : ∀ v, v < n → d v = far ∨ ∃ m, m ≤ t ∧ Way S k s v (d v) m
  here : d s ≤ 0
theorem Sound.start (S : ArcsF) (k s n : Nat) : Sound S k s n 0 (upd (fun _ => far) s 0) :=
  ⟨fun v _ => by
    by_cases e : v = s
    · subst e; rw [upd_same]; exact .inr ⟨0, Nat.le_refl _, .nil⟩
    · rw [upd_ne e]; exact .inl rfl, by rw [upd_same]; exact Int.le_refl _⟩
theorem Sound.more (h : Sound S k s n t d) {t' : Nat} (ht : t ≤ t') : Sound S k s n t' d :=
  ⟨fun v hv => (h.each v hv).elim .inl fun ⟨m, h1, h2⟩ => .inr ⟨m, by omega, h2⟩, h.here⟩
theorem Sound.step (h : Sound S k s n t d) (A : ArcsIn S k n L) {i : Nat} (hi : i < k) (hf : d (S.fr i) ≠ far) (hl : d (S.fr i) + S.ln i < d (S.th i)) : Sound S k s n (t + 1) (upd d (S.th i) (d (S.fr i) + S.ln i)) := by
  refine ⟨fun v hv => ?_, ?_⟩
  · by_cases e : v = S.th i
    · subst e
      rw [upd_same]
      rcases h.each _ (A.fr i hi) with q | ⟨m, h1, h2⟩
      · exact absurd q hf
      · exact .inr ⟨m + 1, by omega, .snoc h2 hi⟩
    · rw [upd_ne e]; exact (h.more (Nat.le_succ t)).each v hv
  · by_cases e : s = S.th i
    · rw [e, upd_same]; have := h.here; rw [e] at this; omega
    · rw [upd_ne e]; exact h.here
theorem Sound.size (h : Sound S k s n t d) (A : ArcsIn S k n L) (hL : 0 ≤ L) (hv : v < n) (hd : d v ≠ far) : -(t * L) ≤ d v ∧ d v ≤ t * L := by
  rcases h.each v hv with q | ⟨m, h1, h2⟩
  · exact absurd q hd
  · have b := h2.bound A
    have : (m : Int) * L ≤ t * L := Int.mul_le_mul_of_nonneg_right (by omega) hL
    omega

/-- nothing makes it less -/
def Fix (S : ArcsF) (k : Nat) (d : Nat → Int) : Prop := ∀ i, i < k → d (S.fr i) ≠ far → d (S.th i) ≤ d (S.fr i) + S.ln i
theorem Fix.way (f : Fix S k d) (h : Sound S k s n t d) (A : ArcsIn S k n L) (hL : 0 ≤ L) (hb : (t : Int) * L + L < far) (hu : u < n) (hd : d u ≠ far) (w : Way S k u v c m) : d v ≠ far ∧ d v ≤ d u + c := by
  induction w with
  | nil => exact ⟨hd, by omega⟩
  | @snoc c m i w hi ih =>
    have h1 := f i hi ih.1
    have h2 := h.size A hL (A.fr i hi) ih.1
    have h3 := A.hi i hi
    exact ⟨by omega, by omega⟩
theorem Fix.le (f : Fix S k d) (h : Sound S k s n t d) (A : ArcsIn S k n L) (hL : 0 ≤ L) (hb : (t : Int) * L + L < far) (hs : s < n) (w : Way S k s v c m) : d v ≠ far ∧ d v ≤ c := by
  have h0 := h.here
  have hf : d s ≠ far := by unfold far; omega
  have := f.way h A hL hb hs hf w
  exact ⟨this.1, by omega⟩
/-- two such are the same -/
theorem Fix.one {t' : Nat} (f : Fix S k d) (h : Sound S k s n t d) (f' : Fix S k d') (h' : Sound S k s n t' d') (A : ArcsIn S k n L) (hL : 0 ≤ L) (hb : (t : Int) * L + L < far) (hb' : (t' : Int) * L + L < far) (hs : s < n) : ∀ v, v < n → d v = d' v := by
  intro v hv
  rcases h.each v hv with q | ⟨m, _, w⟩ <;> rcases h'.each v hv with q' | ⟨m', _, w'⟩
  · rw [q, q']
  · exact absurd q (f.le h A hL hb hs w').1
  · exact absurd q' (f'.le h' A hL hb' hs w).1
  · have h1 := (f.le h A hL hb hs w').2
    have h2 := (f'.le h' A hL hb' hs w).2
    omega

/-- no round that is reached is less than 0 -/
def NoNeg (S : ArcsF) (k s : Nat) : Prop := ∀ v c m c' m', Way S k s v c m → Way S k v v c' m' → 0 ≤ c'
theorem Fix.noNeg (f : Fix S k d) (h : Sound S k s n t d) (A : ArcsIn S k n L) (hL : 0 ≤ L) (hb : (t : Int) * L + L < far) (hs : s < n) : NoNeg S k s := by
  intro v c m c' m' w w'
  have h1 := f.le h A hL hb hs w
  have h2 := f.way h A hL hb (w.lt A hs) h1.1 w'
  omega
/-- the places of a way, one behind the other -/
theorem Way.places (h : Way S k s v c m) : ∃ (p : Nat → Nat) (q : Nat → Int), p m = v ∧ q m = c ∧ p 0 = s ∧ q 0 = 0 ∧ ∀ i j, i ≤ j → j ≤ m → Way S k (p i) (p j) (q j - q i) (j - i) := by
  induction h with
  | nil => exact ⟨fun _ => s, fun _ => 0, rfl, rfl, rfl, rfl, fun i j h1 h2 => by
      rw [show j - i = 0 by omega]; exact .nil⟩
  | @snoc c m i w hi ih =>
    obtain ⟨p, q, h1, h2, h3, h0, h4⟩ := ih
    refine ⟨upd p (m + 1) (S.th i), upd q (m + 1) (c + S.ln i), upd_same _ _ _, upd_same _ _ _, by rw [upd_ne (by omega)]; exact h3, by rw [upd_ne (by omega)]; exact h0, fun a b hab hb => ?_⟩
    by_cases e : b = m + 1
    · subst e
      rw [upd_same, upd_same]
      by_cases e2 : a = m + 1
      · subst e2
        rw [upd_same, upd_same, Int.sub_self, Nat.sub_self]; exact .nil
      · rw [upd_ne e2, upd_ne e2]
        have w1 := h4 a m (by omega) (Nat.le_refl _)
        rw [h1, h2] at w1
        have := Way.snoc w1 hi
        rw [show m + 1 - a = m - a + 1 by omega, show c + S.ln i - q a = c - q a + S.ln i by omega]
        exact this
    · rw [upd_ne (show b ≠ m + 1 from e), upd_ne (show b ≠ m + 1 from e), upd_ne (show a ≠ m + 1 by omega), upd_ne (show a ≠ m + 1 by omega)]
      exact h4 a b hab (by omega)
/-- among more places than there are two are the same -/
theorem pigeon {n : Nat} : ∀ (k : Nat) (s : Nat → Nat), n < k → (∀ j, j < k → s j < n) → ∃ i j, i < j ∧ j < k ∧ s i = s j := by
  intro k s hk hs
  rcases Classical.em (∃ i j, i < j ∧ j < k ∧ s i = s j) with q | q
  · exact q
  · exfalso
    have : ∀ (n k : Nat) (s : Nat → Nat), (∀ j, j < k → s j < n) → (∀ i j, i < j → j < k → s i ≠ s j) → k ≤ n := by
      intro n
      induction n with
      | zero =>
        intro k s h _
        rcases Nat.eq_zero_or_pos k with z | z
        · omega
        · have := h 0 z; omega
      | succ n ih =>
        intro k s h ha
        by_cases hm : ∃ i, i < k ∧ s i = n
        · obtain ⟨i, hi, e⟩ := hm
          have := ih (k - 1) (fun j => if j < i then s j else s (j + 1)) (fun j hj => by
            by_cases q : j < i
            · simp only [if_pos q]
              have h1 := h j (by omega); have h2 := ha j i q hi; omega
            · simp only [if_neg q]
              have h1 := h (j + 1) (by omega); have h2 := ha i (j + 1) (by omega) (by omega); omega) (fun a b hab hb => by
            by_cases q : b < i
            · simp only [if_pos q, if_pos (show a < i by omega)]
              exact ha a b hab (by omega)
            · by_cases q2 : a < i
              · simp only [if_neg q, if_pos q2]
                exact ha a (b + 1) (by omega) (by omega)
              · simp only [if_neg q, if_neg q2]
                exact ha (a + 1) (b + 1) (by omega) (by omega))
          omega
        · have := ih k s (fun j hj => by
            have h1 := h j hj
            have h2 : s j ≠ n := fun e => hm ⟨j, hj, e⟩
            omega) ha
          omega
    have := this n k s hs fun i j h1 h2 h3 => q ⟨i, j, h1, h2, h3⟩
    omega
/-- a way that is no longer, of fewer arcs than there are places -/
theorem NoNeg.short (N : NoNeg S k s) (A : ArcsIn S k n L) (hs : s < n) : ∀ b m, m ≤ b → ∀ v c, Way S k s v c m → ∃ c' m', Way S k s v c' m' ∧ c' ≤ c ∧ m' < n := by
  intro b
  induction b with
  | zero =>
    intro m hm v c w
    exact ⟨c, m, w, Int.le_refl _, by omega⟩
  | succ b ih =>
    intro m hm v c w
    rcases Nat.lt_or_ge m n with q | q
    · exact ⟨c, m, w, Int.le_refl _, q⟩
    · obtain ⟨p, r, h1, h2, h3, r0, h4⟩ := w.places
      have first : ∀ j, j ≤ m → Way S k s (p j) (r j - r 0) j := fun j hj => by
        have := h4 0 j (by omega) hj
        rw [h3] at this
        exact this
      obtain ⟨i, j, hij, hj, e⟩ := pigeon (n := n) (m + 1) p (by omega) (fun j hj => (first j (by omega)).lt A hs)
      have cyc := h4 i j (by omega) (by omega)
      rw [e] at cyc
      have c0 := N _ _ _ _ _ (first j (by omega)) cyc
      have w1 := first i (by omega)
      have w2 := h4 j m (by omega) (Nat.le_refl _)
      rw [← e, h1] at w2
      have w3 := w1.trans w2
      obtain ⟨c', m', k1, k2, k3⟩ := ih (i + (m - j)) (by omega) v _ w3
      exact ⟨c', m', k1, by rw [h2] at k2; omega, k3⟩

/-- all ways of at most r arcs are told -/
def UpTo (S : ArcsF) (k s : Nat) (d : Nat → Int) (r : Nat) : Prop := ∀ v c m, Way S k s v c m → m ≤ r → d v ≤ c
/-- a round over the arcs, the first i of them gone over -/
structure Rnd1 (S : ArcsF) (k s : Nat) (d : Nat → Int) (r i : Nat) : Prop where
  old : UpTo S k s d r
  new : ∀ j, j < i → ∀ c m, Way S k s (S.fr j) c m → m ≤ r → d (S.th j) ≤ c + S.ln j
theorem UpTo.start (h : Sound S k s n t d) : UpTo S k s d 0 := fun v c m w hm => by
  cases w with
  | nil => exact h.here
  | snoc _ _ => omega
theorem Rnd1.start {r : Nat} (h : UpTo S k s d r) : Rnd1 S k s d r 0 := ⟨h, fun j hj => by omega⟩
theorem Rnd1.less {r i : Nat} (h : Rnd1 S k s d r i) (hd : ∀ v, d' v ≤ d v) : Rnd1 S k s d' r i :=
  ⟨fun v c m w hm => Int.le_trans (hd v) (h.old v c m w hm), fun j hj c m w hm => Int.le_trans (hd _) (h.new j hj c m w hm)⟩
theorem Rnd1.skip {r i : Nat} (h : Rnd1 S k s d r i) (A : ArcsIn S k n L) (hL : 0 ≤ L) (hi : i < k) (hb : (r : Int) * L < far) (hn : d (S.fr i) = far ∨ d (S.th i) ≤ d (S.fr i) + S.ln i) : Rnd1 S k s d r (i + 1) :=
  ⟨h.old, fun j hj c m w hm => by
    rcases Nat.lt_or_ge j i with q | q
    · exact h.new j q c m w hm
    · obtain rfl : j = i := by omega
      have h1 := h.old _ _ _ w hm
      rcases hn with z | z
      · have h2 := (w.bound A).2
        have : (m : Int) * L ≤ r * L := Int.mul_le_mul_of_nonneg_right (by omega) hL
        omega
      · omega⟩
theorem Rnd1.take {r i : Nat} (h : Rnd1 S k s d r i) (hi : i < k) (hl : d (S.fr i) + S.ln i < d (S.th i)) : Rnd1 S k s (upd d (S.th i) (d (S.fr i) + S.ln i)) r (i + 1) := by
  have le : ∀ v, upd d (S.th i) (d (S.fr i) + S.ln i) v ≤ d v := fun v => by
    by_cases e : v = S.th i
    · subst e; rw [upd_same]; omega
    · rw [upd_ne e]; exact Int.le_refl _
  have h2 := h.less le
  refine ⟨h2.old, fun j hj c m w hm => ?_⟩
  rcases Nat.lt_or_ge j i with q | q
  · exact h2.new j q c m w hm
  · obtain rfl : j = i := by omega
    rw [upd_same]
    have := h.old _ _ _ w hm
    omega
theorem Rnd1.done {r : Nat} (h : Rnd1 S k s d r k) (h0 : d s ≤ 0) : UpTo S k s d (r + 1) := fun v c m w hm => by
  cases w with
  | nil => exact h0
  | snoc w hi => exact h.new _ hi _ _ w (by omega)
/-- what may still be made less behind so many rounds tells a round below 0 -/
theorem NoNeg.fix {r : Nat} (N : NoNeg S k s) (A : ArcsIn S k n L) (hs : s < n) (h : Sound S k s n t d) (u : UpTo S k s d r) (hr : n ≤ r + 1) : Fix S k d := fun i hi hf => by
  rcases h.each _ (A.fr i hi) with q | ⟨m, _, w⟩
  · exact absurd q hf
  · obtain ⟨c', m', w', h1, h2⟩ := N.short A hs (m + 1) (m + 1) (Nat.le_refl _) _ _ (w.snoc hi)
    have := u _ _ _ w' (by omega)
    omega
end
end Go.Proofs.Ytchlccendggfpaa.Ro
