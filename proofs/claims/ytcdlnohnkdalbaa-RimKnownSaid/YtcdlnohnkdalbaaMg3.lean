/- Plain laws: ways along arcs; distances that are reached, that nothing makes less. Plain laws: places taken by their distance, the least first. Plain laws: by which arc each place was made less last; rounds below 0. Plain laws: of the shortest ways those of the fewest arcs, of these the least row. Memory words: rows of arcs. -/
import Derived.Test.YtcdlnohnkdalbaaMxRoW
namespace Go.Proofs.Ytcdlnohnkdalbaa.Ro
set_option linter.unusedVariables false
set_option maxRecDepth 100000
set_option linter.unusedSimpArgs false

/-- arcs: where each begins, where it ends, how long it is -/
structure ArcsF where
  fr : Nat → Nat
  th : Nat → Nat
  ln : Nat → Int
/-- a way along the first k arcs, from s: how long, by how many arcs -/
inductive Way (S : ArcsF) (k s : Nat) : Nat → Int → Nat → Prop
  | nil : Way S k s s 0 0
  | snoc {c : Int} {m i : Nat} : Way S k s (S.fr i) c m → i < k → Way S k s (S.th i) (c + S.ln i) (m + 1)
def far : Int := 1152921504606846976

/-- arcs lead between places below n, and are no longer than L -/
structure ArcsIn (S : ArcsF) (k n : Nat) (L : Int) : Prop where
  fr : ∀ i, i < k → S.fr i < n
  th : ∀ i, i < k → S.th i < n
  lo : ∀ i, i < k → -L ≤ S.ln i
  hi : ∀ i, i < k → S.ln i ≤ L
section
variable {S : ArcsF} {k n s u v t : Nat} {L c c' : Int} {m m' : Nat} {d d' : Nat → Int}
theorem Way.trans (h : Way S k s u c m) (g : Way S k u v c' m') : Way S k s v (c + c') (m + m') := by
  induction g with
  | nil => rw [Int.add_zero]; exact h
  | snoc _ hi ih => rw [← Int.add_assoc]; exact .snoc ih hi
theorem Way.lt (h : Way S k s v c m) (A : ArcsIn S k n L) (hs : s < n) : v < n := by
  cases h with
  | nil => exact hs
  | snoc _ hi => exact A.th _ hi
theorem Way.bound (h : Way S k s v c m) (A : ArcsIn S k n L) : -(m * L) ≤ c ∧ c ≤ m * L := by
  induction h with
  | nil => simp
  | @snoc c m i _ hi ih =>
    have h1 := A.lo i hi
    have h2 := A.hi i hi
    have e : ((m + 1 : Nat) : Int) * L = m * L + L := by rw [Int.natCast_add, Int.add_mul]; simp
    rw [e]
    omega

/-- what is told is how long a way is, of at most t arcs -/
structure Sound (S : ArcsF) (k s n t : Nat) (d : Nat → Int) : Prop where
  each : ∀ v, v < n → d v = far ∨ ∃ m, m ≤ t ∧ Way S k s v (d v) m
  here : d s ≤ 0
theorem Sound.start (S : ArcsF) (k s n : Nat) : Sound S k s n 0 (upd (fun _ => far) s 0) :=
  ⟨fun v _ => by
    by_cases e : v = s
    · subst e; rw [upd_same]; exact .inr ⟨0, Nat.le_refl _, .nil⟩
    · rw [upd_ne e]; exact .inl rfl, by rw [upd_same]; exact Int.le_refl _⟩
theorem Sound.more (h : Sound S k s n t d) {t' : Nat} (ht : t ≤ t') : Sound S k s n t' d :=
  ⟨fun v hv => (h.each v hv).elim .inl fun ⟨m, h1, h2⟩ => .inr ⟨m, by omega, h2⟩, h.here⟩
theorem Sound.step (h : Sound S k s n t d) (A : ArcsIn S k n L) {i : Nat} (hi : i < k) (hf : d (S.fr i) ≠ far) (hl : d (S.fr i) + S.ln i < d (S.th i)) : Sound S k s n (t + 1) (upd d (S.th i) (d (S.fr i) + S.ln i)) := by
  refine ⟨fun v hv => ?_, ?_⟩
  · by_cases e : v = S.th i
    · subst e
      rw [upd_same]
      rcases h.each _ (A.fr i hi) with q | ⟨m, h1, h2⟩
      · exact absurd q hf
      · exact .inr ⟨m + 1, by omega, .snoc h2 hi⟩
    · rw [upd_ne e]; exact (h.more (Nat.le_succ t)).each v hv
  · by_cases e : s = S.th i
    · rw [e, upd_same]; have := h.here; rw [e] at this; omega
    · rw [upd_ne e]; exact h.here
theorem Sound.size (h : Sound S k s n t d) (A : ArcsIn S k n L) (hL : 0 ≤ L) (hv : v < n) (hd : d v ≠ far) : -(t * L) ≤ d v ∧ d v ≤ t * L := by
  rcases h.each v hv with q | ⟨m, h1, h2⟩
  · exact absurd q hd
  · have b := h2.bound A
    have : (m : Int) * L ≤ t * L := Int.mul_le_mul_of_nonneg_right (by omega) hL
    omega

/-- nothing makes it less -/
def Fix (S : ArcsF) (k : Nat) (d : Nat → Int) : Prop := ∀ i, i < k → d (S.fr i) ≠ far → d (S.th i) ≤ d (S.fr i) + S.ln i
theorem Fix.way (f : Fix S k d) (h : Sound S k s n t d) (A : ArcsIn S k n L) (hL : 0 ≤ L) (hb : (t : Int) * L + L < far) (hu : u < n) (hd : d u ≠ far) (w : Way S k u v c m) : d v ≠ far ∧ d v ≤ d u + c := by
  induction w with
  | nil => exact ⟨hd, by omega⟩
  | @snoc c m i w hi ih =>
    have h1 := f i hi ih.1
    have h2 := h.size A hL (A.fr i hi) ih.1
    have h3 := A.hi i hi
    exact ⟨by omega, by omega⟩
theorem Fix.le (f : Fix S k d) (h : Sound S k s n t d) (A : ArcsIn S k n L) (hL : 0 ≤ L) (hb : (t : Int) * L + L < far) (hs : s < n) (w : Way S k s v c m) : d v ≠ far ∧ d v ≤ c := by
  have h0 := h.here
  have hf : d s ≠ far := by unfold far; omega
  have := f.way h A hL hb hs hf w
  exact ⟨this.1, by omega⟩
/-- two such are the same -/
theorem Fix.one {t' : Nat} (f : Fix S k d) (h : Sound S k s n t d) (f' : Fix S k d') (h' : Sound S k s n t' d') (A : ArcsIn S k n L) (hL : 0 ≤ L) (hb : (t : Int) * L + L < far) (hb' : (t' : Int) * L + L < far) (hs : s < n) : ∀ v, v < n → d v = d' v := by
  intro v hv
  rcases h.each v hv with q | ⟨m, _, w⟩ <;> rcases h'.each v hv with q' | ⟨m', _, w'⟩
  · rw [q, q']
  · exact absurd q (f.le h A hL hb hs w').1
  · exact absurd q' (f'.le h' A hL hb' hs w).1
  · have h1 := (f.le h A hL hb hs w').2
    have h2 := (f'.le h' A hL hb' hs w).2
    omega

/-- no round that is reached is less than 0 -/
def NoNeg (S : ArcsF) (k s : Nat) : Prop := ∀ v c m c' m', Way S k s v c m → Way S k v v c' m' → 0 ≤ c'
theorem Fix.noNeg (f : Fix S k d) (h : Sound S k s n t d) (A : ArcsIn S k n L) (hL : 0 ≤ L) (hb : (t : Int) * L + L < far) (hs : s < n) : NoNeg S k s := by
  intro v c m c' m' w w'
  have h1 := f.le h A hL hb hs w
  have h2 := f.way h A hL hb (w.lt A hs) h1.1 w'
  omega
/-- the places of a way, one behind the other -/
theorem Way.places (h : Way S k s v c m) : ∃ (p : Nat → Nat) (q : Nat → Int), p m = v ∧ q m = c ∧ p 0 = s ∧ q 0 = 0 ∧ ∀ i j, i ≤ j → j ≤ m → Way S k (p i) (p j) (q j - q i) (j - i) := by
  induction h with
  | nil => exact ⟨fun _ => s, fun _ => 0, rfl, rfl, rfl, rfl, fun i j h1 h2 => by
      rw [show j - i = 0 by omega]; exact .nil⟩
  | @snoc c m i w hi ih =>
    obtain ⟨p, q, h1, h2, h3, h0, h4⟩ := ih
    refine ⟨upd p (m + 1) (S.th i), upd q (m + 1) (c + S.ln i), upd_same _ _ _, upd_same _ _ _, by rw [upd_ne (by omega)]; exact h3, by rw [upd_ne (by omega)]; exact h0, fun a b hab hb => ?_⟩
    by_cases e : b = m + 1
    · subst e
      rw [upd_same, upd_same]
      by_cases e2 : a = m + 1
      · subst e2
        rw [upd_same, upd_same, Int.sub_self, Nat.sub_self]; exact .nil
      · rw [upd_ne e2, upd_ne e2]
        have w1 := h4 a m (by omega) (Nat.le_refl _)
        rw [h1, h2] at w1
        have := Way.snoc w1 hi
        rw [show m + 1 - a = m - a + 1 by omega, show c + S.ln i - q a = c - q a + S.ln i by omega]
        exact this
    · rw [upd_ne (show b ≠ m + 1 from e), upd_ne (show b ≠ m + 1 from e), upd_ne (show a ≠ m + 1 by omega), upd_ne (show a ≠ m + 1 by omega)]
      exact h4 a b hab (by omega)
/-- among more places than there are two are the same -/
theorem pigeon {n : Nat} : ∀ (k : Nat) (s : Nat → Nat), n < k → (∀ j, j < k → s j < n) → ∃ i j, i < j ∧ j < k ∧ s i = s j := by
  intro k s hk hs
  rcases Classical.em (∃ i j, i < j ∧ j < k ∧ s i = s j) with q | q
  · exact q
  · exfalso
    have : ∀ (n k : Nat) (s : Nat → Nat), (∀ j, j < k → s j < n) → (∀ i j, i < j → j < k → s i ≠ s j) → k ≤ n := by
      intro n
      induction n with
      | zero =>
        intro k s h _
        rcases Nat.eq_zero_or_pos k with z | z
        · omega
        · have := h 0 z; omega
      | succ n ih =>
        intro k s h ha
        by_cases hm : ∃ i, i < k ∧ s i = n
        · obtain ⟨i, hi, e⟩ := hm
          have := ih (k - 1) (fun j => if j < i then s j else s (j + 1)) (fun j hj => by
            by_cases q : j < i
            · simp only [if_pos q]
              have h1 := h j (by omega); have h2 := ha j i q hi; omega
            · simp only [if_neg q]
              have h1 := h (j + 1) (by omega); have h2 := ha i (j + 1) (by omega) (by omega); omega) (fun a b hab hb => by
            by_cases q : b < i
            · simp only [if_pos q, if_pos (show a < i by omega)]
              exact ha a b hab (by omega)
            · by_cases q2 : a < i
              · simp only [if_neg q, if_pos q2]
                exact ha a (b + 1) (by omega) (by omega)
              · simp only [if_neg q, if_neg q2]
                exact ha (a + 1) (b + 1) (by omega) (by omega))
          omega
        · have := ih k s (fun j hj => by
            have h1 := h j hj
            have h2 : s j ≠ n := fun e => hm ⟨j, hj, e⟩
            omega) ha
          omega
    have := this n k s hs fun i j h1 h2 h3 => q ⟨i, j, h1, h2, h3⟩
    omega
/-- a way that is no longer, of fewer arcs than there are places -/
theorem NoNeg.short (N : NoNeg S k s) (A : ArcsIn S k n L) (hs : s < n) : ∀ b m, m ≤ b → ∀ v c, Way S k s v c m → ∃ c' m', Way S k s v c' m' ∧ c' ≤ c ∧ m' < n := by
  intro b
  induction b with
  | zero =>
    intro m hm v c w
    exact ⟨c, m, w, Int.le_refl _, by omega⟩
  | succ b ih =>
    intro m hm v c w
    rcases Nat.lt_or_ge m n with q | q
    · exact ⟨c, m, w, Int.le_refl _, q⟩
    · obtain ⟨p, r, h1, h2, h3, r0, h4⟩ := w.places
      have first : ∀ j, j ≤ m → Way S k s (p j) (r j - r 0) j := fun j hj => by
        have := h4 0 j (by omega) hj
        rw [h3] at this
        exact this
      obtain ⟨i, j, hij, hj, e⟩ := pigeon (n := n) (m + 1) p (by omega) (fun j hj => (first j (by omega)).lt A hs)
      have cyc := h4 i j (by omega) (by omega)
      rw [e] at cyc
      have c0 := N _ _ _ _ _ (first j (by omega)) cyc
      have w1 := first i (by omega)
      have w2 := h4 j m (by omega) (Nat.le_refl _)
      rw [← e, h1] at w2
      have w3 := w1.trans w2
      obtain ⟨c', m', k1, k2, k3⟩ := ih (i + (m - j)) (by omega) v _ w3
      exact ⟨c', m', k1, by rw [h2] at k2; omega, k3⟩

/-- all ways of at most r arcs are told -/
def UpTo (S : ArcsF) (k s : Nat) (d : Nat → Int) (r : Nat) : Prop := ∀ v c m, Way S k s v c m → m ≤ r → d v ≤ c
/-- a round over the arcs, the first i of them gone over -/
structure Rnd1 (S : ArcsF) (k s : Nat) (d : Nat → Int) (r i : Nat) : Prop where
  old : UpTo S k s d r
  new : ∀ j, j < i → ∀ c m, Way S k s (S.fr j) c m → m ≤ r → d (S.th j) ≤ c + S.ln j
theorem UpTo.start (h : Sound S k s n t d) : UpTo S k s d 0 := fun v c m w hm => by
  cases w with
  | nil => exact h.here
  | snoc _ _ => omega
theorem Rnd1.start {r : Nat} (h : UpTo S k s d r) : Rnd1 S k s d r 0 := ⟨h, fun j hj => by omega⟩
theorem Rnd1.less {r i : Nat} (h : Rnd1 S k s d r i) (hd : ∀ v, d' v ≤ d v) : Rnd1 S k s d' r i :=
  ⟨fun v c m w hm => Int.le_trans (hd v) (h.old v c m w hm), fun j hj c m w hm => Int.le_trans (hd _) (h.new j hj c m w hm)⟩
theorem Rnd1.skip {r i : Nat} (h : Rnd1 S k s d r i) (A : ArcsIn S k n L) (hL : 0 ≤ L) (hi : i < k) (hb : (r : Int) * L < far) (hn : d (S.fr i) = far ∨ d (S.th i) ≤ d (S.fr i) + S.ln i) : Rnd1 S k s d r (i + 1) :=
  ⟨h.old, fun j hj c m w hm => by
    rcases Nat.lt_or_ge j i with q | q
    · exact h.new j q c m w hm
    · obtain rfl : j = i := by omega
      have h1 := h.old _ _ _ w hm
      rcases hn with z | z
      · have h2 := (w.bound A).2
        have : (m : Int) * L ≤ r * L := Int.mul_le_mul_of_nonneg_right (by omega) hL
        omega
      · omega⟩
theorem Rnd1.take {r i : Nat} (h : Rnd1 S k s d r i) (hi : i < k) (hl : d (S.fr i) + S.ln i < d (S.th i)) : Rnd1 S k s (upd d (S.th i) (d (S.fr i) + S.ln i)) r (i + 1) := by
  have le : ∀ v, upd d (S.th i) (d (S.fr i) + S.ln i) v ≤ d v := fun v => by
    by_cases e : v = S.th i
    · subst e; rw [upd_same]; omega
    · rw [upd_ne e]; exact Int.le_refl _
  have h2 := h.less le
  refine ⟨h2.old, fun j hj c m w hm => ?_⟩
  rcases Nat.lt_or_ge j i with q | q
  · exact h2.new j q c m w hm
  · obtain rfl : j = i := by omega
    rw [upd_same]
    have := h.old _ _ _ w hm
    omega
theorem Rnd1.done {r : Nat} (h : Rnd1 S k s d r k) (h0 : d s ≤ 0) : UpTo S k s d (r + 1) := fun v c m w hm => by
  cases w with
  | nil => exact h0
  | snoc w hi => exact h.new _ hi _ _ w (by omega)
/-- what may still be made less behind so many rounds tells a round below 0 -/
theorem NoNeg.fix {r : Nat} (N : NoNeg S k s) (A : ArcsIn S k n L) (hs : s < n) (h : Sound S k s n t d) (u : UpTo S k s d r) (hr : n ≤ r + 1) : Fix S k d := fun i hi hf => by
  rcases h.each _ (A.fr i hi) with q | ⟨m, _, w⟩
  · exact absurd q hf
  · obtain ⟨c', m', w', h1, h2⟩ := N.short A hs (m + 1) (m + 1) (Nat.le_refl _) _ _ (w.snoc hi)
    have := u _ _ _ w' (by omega)
    omega
end
end Go.Proofs.Ytcdlnohnkdalbaa.Ro
namespace Go.Proofs.Ytcdlnohnkdalbaa.Ro
set_option linter.unusedVariables false
set_option maxRecDepth 100000
set_option linter.unusedSimpArgs false

/-- what is known between two takings: which places are done, what waits, the last one's distance -/
structure Dij (S : ArcsF) (k s n t : Nat) (d : Nat → Int) (done : Nat → Bool) (f : Int → Option Int) (top : Int) : Prop where
  sound : Sound S k s n t d
  wait : ∀ v : Nat, v < n → done v = false → d v ≠ far → f (v : Int) = some (d v)
  none_ : ∀ v : Nat, v < n → done v = true ∨ d v = far → f (v : Int) = none
  keys : ∀ z r, f z = some r → ∃ v : Nat, v < n ∧ z = (v : Int)
  fin : ∀ u, u < n → done u = true → d u ≠ far ∧ d u ≤ top
  all : ∀ v, v < n → done v = false → d v ≠ far → top ≤ d v
  fix : ∀ i, i < k → done (S.fr i) = true → d (S.th i) ≤ d (S.fr i) + S.ln i
/-- x was taken; the first j arcs were gone over -/
structure DijX (S : ArcsF) (k s n t : Nat) (d : Nat → Int) (done : Nat → Bool) (f : Int → Option Int) (x j : Nat) : Prop where
  sound : Sound S k s n t d
  wait : ∀ v : Nat, v < n → done v = false → d v ≠ far → f (v : Int) = some (d v)
  none_ : ∀ v : Nat, v < n → done v = true ∨ d v = far → f (v : Int) = none
  keys : ∀ z r, f z = some r → ∃ v : Nat, v < n ∧ z = (v : Int)
  here : x < n ∧ done x = true
  fin : ∀ u, u < n → done u = true → d u ≠ far ∧ d u ≤ d x
  all : ∀ v, v < n → done v = false → d v ≠ far → d x ≤ d v
  fix : ∀ i, i < k → done (S.fr i) = true → (S.fr i ≠ x ∨ i < j) → d (S.th i) ≤ d (S.fr i) + S.ln i
section
variable {S : ArcsF} {k s n t x j : Nat} {L top : Int} {d : Nat → Int} {done : Nat → Bool} {f : Int → Option Int}
theorem Dij.start (hs : s < n) : Dij S k s n 0 (upd (fun _ => far) s 0) (fun _ => false) (upd (fun _ => none) (s : Int) (some 0)) 0 := by
  refine ⟨Sound.start S k s n, fun v hv _ h => ?_, fun v hv h => ?_, fun z r h => ?_, fun u _ h => ?_, fun v _ _ h => ?_, fun i _ h => ?_⟩
  · by_cases e : v = s
    · subst e; rw [upd_same, upd_same]
    · rw [upd_ne e] at h; exact absurd rfl h
  · by_cases e : v = s
    · subst e; rw [upd_same] at h
      rcases h with h | h
      · cases h
      · unfold far at h; omega
    · rw [upd_ne (by omega)]
  · by_cases e : z = (s : Int)
    · exact ⟨s, hs, e⟩
    · rw [upd_ne e] at h; cases h
  · cases h
  · by_cases e : v = s
    · subst e; rw [upd_same]; exact Int.le_refl _
    · rw [upd_ne e] at h; exact absurd rfl h
  · cases h
/-- the least of what waits is taken -/
theorem Dij.take (h : Dij S k s n t d done f top) {z r : Int} (hf : f z = some r) (hl : ∀ z' r', f z' = some r' → r ≤ r') : ∃ x : Nat, x < n ∧ z = (x : Int) ∧ r = d x ∧ done x = false ∧ DijX S k s n t d (upd done x true) (upd f z none) x 0 := by
  obtain ⟨x, hx, rfl⟩ := h.keys z r hf
  have hd : done x = false ∧ d x ≠ far := by
    rcases Classical.em (done x = true ∨ d x = far) with q | q
    · rw [h.none_ x hx q] at hf; cases hf
    · refine ⟨?_, fun e => q (.inr e)⟩
      cases e : done x with
      | false => rfl
      | true => exact absurd (.inl e) q
  have hr : r = d x := by
    have := h.wait x hx hd.1 hd.2
    rw [hf] at this
    injection this
  refine ⟨x, hx, rfl, hr, hd.1, h.sound, fun v hv h1 h2 => ?_, fun v hv h1 => ?_, fun z' r' h1 => ?_, ⟨hx, upd_same _ _ _⟩, fun u hu h1 => ?_, fun v hv h1 h2 => ?_, fun i hi h1 h2 => ?_⟩
  · by_cases e : v = x
    · subst e; rw [upd_same] at h1; cases h1
    · rw [upd_ne e] at h1; rw [upd_ne (by omega)]; exact h.wait v hv h1 h2
  · by_cases e : v = x
    · subst e; rw [upd_same]
    · rw [upd_ne e] at h1; rw [upd_ne (by omega)]; exact h.none_ v hv h1
  · by_cases e : z' = (x : Int)
    · rw [e, upd_same] at h1; cases h1
    · rw [upd_ne e] at h1; exact h.keys z' r' h1
  · by_cases e : u = x
    · subst e; exact ⟨hd.2, Int.le_refl _⟩
    · rw [upd_ne e] at h1
      have h3 := h.fin u hu h1
      have h4 := h.all x hx hd.1 hd.2
      exact ⟨h3.1, by omega⟩
  · by_cases e : v = x
    · subst e; exact Int.le_refl _
    · rw [upd_ne e] at h1
      have := hl _ _ (h.wait v hv h1 h2)
      omega
  · have e : S.fr i ≠ x := by rcases h2 with q | q
                              · exact q
                              · omega
    rw [upd_ne e] at h1
    exact h.fix i hi h1
theorem DijX.skip (h : DijX S k s n t d done f x j) (hj : j < k) (hn : S.fr j ≠ x ∨ d (S.th j) ≤ d (S.fr j) + S.ln j) : DijX S k s n t d done f x (j + 1) :=
  ⟨h.sound, h.wait, h.none_, h.keys, h.here, h.fin, h.all, fun i hi h1 h2 => by
    by_cases e : i = j
    · subst e
      rcases hn with q | q
      · exact h.fix i hi h1 (.inl q)
      · exact q
    · exact h.fix i hi h1 (h2.elim .inl fun z => .inr (by omega))⟩
/-- an arc to what is done makes nothing less -/
theorem DijX.seen (h : DijX S k s n t d done f x j) (A : ArcsIn S k n L) (hj : j < k) (h0 : 0 ≤ S.ln j) (hx : S.fr j = x) (hd : done (S.th j) = true) : d (S.th j) ≤ d (S.fr j) + S.ln j := by
  have := (h.fin _ (A.th j hj) hd).2
  rw [hx]; omega
theorem DijX.put (h : DijX S k s n t d done f x j) (A : ArcsIn S k n L) (hj : j < k) (h0 : 0 ≤ S.ln j) (hx : S.fr j = x) (hd : done (S.th j) = false) (hl : d (S.fr j) + S.ln j < d (S.th j)) (hb : d x + S.ln j < far) :
    DijX S k s n (t + 1) (upd d (S.th j) (d (S.fr j) + S.ln j)) done (upd f ((S.th j : Nat) : Int) (some (d (S.fr j) + S.ln j))) x (j + 1) := by
  have nx : S.th j ≠ x := fun e => by rw [e, h.here.2] at hd; cases hd
  have hf := (h.fin x h.here.1 h.here.2).1
  have vx : upd d (S.th j) (d (S.fr j) + S.ln j) x = d x := upd_ne (Ne.symm nx)
  refine ⟨h.sound.step A hj (by rw [hx]; exact hf) hl, fun v hv h1 h2 => ?_, fun v hv h1 => ?_, fun z r h1 => ?_, h.here, fun u hu h1 => ?_, fun v hv h1 h2 => ?_, fun i hi h1 h2 => ?_⟩
  · by_cases e : v = S.th j
    · subst e; rw [upd_same, upd_same]
    · rw [upd_ne e] at h2 ⊢; rw [upd_ne (by omega)]; exact h.wait v hv h1 h2
  · by_cases e : v = S.th j
    · subst e
      rw [upd_same] at h1
      rcases h1 with q | q
      · rw [hd] at q; cases q
      · rw [hx] at q; omega
    · rw [upd_ne e] at h1; rw [upd_ne (by omega)]; exact h.none_ v hv h1
  · by_cases e : z = ((S.th j : Nat) : Int)
    · exact ⟨_, A.th j hj, e⟩
    · rw [upd_ne e] at h1; exact h.keys z r h1
  · have e : u ≠ S.th j := fun e => by rw [e, hd] at h1; cases h1
    rw [upd_ne e, vx]; exact h.fin u hu h1
  · rw [vx]
    by_cases e : v = S.th j
    · subst e; rw [upd_same, hx]; omega
    · rw [upd_ne e] at h2 ⊢; exact h.all v hv h1 h2
  · have e : S.fr i ≠ S.th j := fun e => by rw [e, hd] at h1; cases h1
    rw [upd_ne e]
    by_cases e2 : S.th i = S.th j
    · rw [e2, upd_same]
      by_cases e3 : i = j
      · subst e3; exact Int.le_refl _
      · have := h.fix i hi h1 (h2.elim .inl fun z => .inr (by omega))
        rw [e2] at this; omega
    · rw [upd_ne e2]
      by_cases e3 : i = j
      · subst e3; exact absurd rfl e2
      · exact h.fix i hi h1 (h2.elim .inl fun z => .inr (by omega))
theorem DijX.done_ (h : DijX S k s n t d done f x k) : Dij S k s n t d done f (d x) :=
  ⟨h.sound, h.wait, h.none_, h.keys, h.fin, h.all, fun i hi h1 => h.fix i hi h1 (.inr hi)⟩
/-- nothing waits: nothing makes it less -/
theorem Dij.end_ (h : Dij S k s n t d done f top) (A : ArcsIn S k n L) (he : ∀ z, f z = none) : Fix S k d := fun i hi hf => by
  cases e : done (S.fr i) with
  | true => exact h.fix i hi e
  | false =>
    have := h.wait _ (A.fr i hi) e hf
    rw [he] at this; cases this
end
end Go.Proofs.Ytcdlnohnkdalbaa.Ro
namespace Go.Proofs.Ytcdlnohnkdalbaa.Ro
set_option linter.unusedVariables false
set_option maxRecDepth 100000
set_option linter.unusedSimpArgs false

def iter (f : Nat → Nat) : Nat → Nat → Nat
  | 0, d => d
  | k + 1, d => f (iter f k d)
theorem iter_add (f : Nat → Nat) (d : Nat) : ∀ (a b : Nat), iter f (a + b) d = iter f a (iter f b d)
  | 0, b => by rw [Nat.zero_add]; rfl
  | a + 1, b => by rw [show a + 1 + b = (a + b) + 1 by omega]; show f _ = f _; rw [iter_add f d a b]
/-- the place whose arc made one less -/
def bk (S : ArcsF) (b : Nat → Int) (v : Nat) : Nat := S.fr (b v).toNat
/-- how long the arcs back are, m of them -/
def cst (S : ArcsF) (b : Nat → Int) (v : Nat) : Nat → Int
  | 0 => 0
  | m + 1 => cst S b v m + S.ln (b (iter (bk S b) m v)).toNat
/-- m arcs back one comes round -/
structure Loop (S : ArcsF) (b : Nat → Int) (v m : Nat) : Prop where
  pos : 0 < m
  back : iter (bk S b) m v = v
  all : ∀ j, j < m → 0 ≤ b (iter (bk S b) j v)
structure Pred (S : ArcsF) (k n : Nat) (d : Nat → Int) (b : Nat → Int) : Prop where
  each : ∀ v, v < n → b v = -1 ∨ ∃ i : Nat, i < k ∧ b v = (i : Int) ∧ S.th i = v ∧ d (S.fr i) ≠ far ∧ d (S.fr i) + S.ln i ≤ d v
  neg : ∀ v m, v < n → Loop S b v m → cst S b v m < 0
section
variable {S : ArcsF} {k n s t u v m : Nat} {L : Int} {d b : Nat → Int}
theorem Pred.start (S : ArcsF) (k n : Nat) (d : Nat → Int) : Pred S k n d (fun _ => -1) :=
  ⟨fun _ _ => .inl rfl, fun v m _ h => by have h := h.all 0 h.pos; simp at h⟩
theorem Pred.lt (h : Pred S k n d b) (A : ArcsIn S k n L) (hv : v < n) (h0 : 0 ≤ b v) : bk S b v < n := by
  rcases h.each v hv with q | ⟨i, h1, h2, _⟩
  · omega
  · unfold bk; rw [h2, Int.toNat_natCast]; exact A.fr i h1
theorem Pred.its (h : Pred S k n d b) (A : ArcsIn S k n L) (hv : v < n) : ∀ j, (∀ i, i < j → 0 ≤ b (iter (bk S b) i v)) → iter (bk S b) j v < n
  | 0, _ => hv
  | j + 1, hj => h.lt A (Pred.its h A hv j fun i hi => hj i (by omega)) (hj j (by omega))
/-- falls that come round, one of them steeper, are less than 0 together -/
theorem falls {x e : Nat → Int} : ∀ m, (∀ j, j < m → x (j + 1) + e j ≤ x j) → ∀ c : Nat → Int, c 0 = 0 → (∀ j, j < m → c (j + 1) = c j + e j) → x m + c m ≤ x 0 ∧ ((∃ j, j < m ∧ x (j + 1) + e j < x j) → x m + c m < x 0)
  | 0, _, c, h0, _ => ⟨by omega, fun ⟨j, h, _⟩ => by omega⟩
  | m + 1, h, c, h0, hc => by
    obtain ⟨i1, i2⟩ := falls m (fun j hj => h j (by omega)) c h0 (fun j hj => hc j (by omega))
    have h1 := h m (by omega)
    have h2 := hc m (by omega)
    refine ⟨by omega, fun ⟨j, hj, hs⟩ => ?_⟩
    rcases Nat.lt_or_ge j m with q | q
    · have := i2 ⟨j, q, hs⟩; omega
    · obtain rfl : j = m := by omega
      omega
theorem Pred.step (h : Pred S k n d b) (A : ArcsIn S k n L) {i : Nat} (hi : i < k) (hf : d (S.fr i) ≠ far) (hl : d (S.fr i) + S.ln i < d (S.th i)) (hne : d (S.fr i) + S.ln i ≠ far) :
    Pred S k n (upd d (S.th i) (d (S.fr i) + S.ln i)) (upd b (S.th i) (i : Int)) := by
  have le : ∀ v, upd d (S.th i) (d (S.fr i) + S.ln i) v ≤ d v := fun v => by
    by_cases e : v = S.th i
    · subst e; rw [upd_same]; omega
    · rw [upd_ne e]; exact Int.le_refl _
  have nf : ∀ v, d v ≠ far → upd d (S.th i) (d (S.fr i) + S.ln i) v ≠ far := fun v hv => by
    by_cases e : v = S.th i
    · subst e; rw [upd_same]; exact hne
    · rw [upd_ne e]; exact hv
  refine ⟨fun v hv => ?_, fun v m hv lp => ?_⟩
  · by_cases e : v = S.th i
    · subst e
      rw [upd_same, upd_same]
      refine .inr ⟨i, hi, rfl, rfl, nf _ hf, ?_⟩
      have := le (S.fr i)
      omega
    · rw [upd_ne (show v ≠ S.th i from e), upd_ne (show v ≠ S.th i from e)]
      rcases h.each v hv with q | ⟨j, h1, h2, h3, h4, h5⟩
      · exact .inl q
      · refine .inr ⟨j, h1, h2, h3, nf _ h4, ?_⟩
        have := le (S.fr j)
        omega
  · by_cases on : ∃ j, j < m ∧ iter (bk S (upd b (S.th i) (i : Int))) j v = S.th i
    · -- the new arc is on it: the distances fall along it, there steeper
      have lt : ∀ j, j ≤ m → iter (bk S (upd b (S.th i) (i : Int))) j v < n := fun j hj => by
        induction j with
        | zero => exact hv
        | succ j ih =>
          have ih := ih (by omega)
          have h0 := lp.all j (by omega)
          show bk S _ (iter _ j v) < n
          generalize iter (bk S (upd b (S.th i) (i : Int))) j v = y at *
          unfold bk
          by_cases e : y = S.th i
          · rw [e, upd_same, Int.toNat_natCast]; exact A.fr i hi
          · rw [upd_ne e] at h0 ⊢
            rcases h.each y ih with q | ⟨a, h1, h2, _⟩
            · omega
            · rw [h2, Int.toNat_natCast]; exact A.fr a h1
      have fl : ∀ j, j < m → d (iter (bk S (upd b (S.th i) (i : Int))) (j + 1) v) + S.ln (upd b (S.th i) (i : Int) (iter (bk S (upd b (S.th i) (i : Int))) j v)).toNat ≤ d (iter (bk S (upd b (S.th i) (i : Int))) j v) ∧
          (iter (bk S (upd b (S.th i) (i : Int))) j v = S.th i → d (iter (bk S (upd b (S.th i) (i : Int))) (j + 1) v) + S.ln (upd b (S.th i) (i : Int) (iter (bk S (upd b (S.th i) (i : Int))) j v)).toNat < d (iter (bk S (upd b (S.th i) (i : Int))) j v)) := fun j hj => by
        have h0 := lp.all j hj
        have hy := lt j (by omega)
        show d (bk S _ (iter _ j v)) + _ ≤ _ ∧ (_ → d (bk S _ (iter _ j v)) + _ < _)
        generalize iter (bk S (upd b (S.th i) (i : Int))) j v = y at *
        unfold bk
        by_cases e : y = S.th i
        · subst e
          rw [upd_same, Int.toNat_natCast]
          exact ⟨by omega, fun _ => hl⟩
        · rw [upd_ne e] at h0 ⊢
          rcases h.each y hy with q | ⟨a, h1, h2, h3, h4, h5⟩
          · omega
          · rw [h2, Int.toNat_natCast]; exact ⟨h5, fun z => absurd z e⟩
      obtain ⟨j0, hj0, ej0⟩ := on
      have := (falls (x := fun j => d (iter (bk S (upd b (S.th i) (i : Int))) j v)) (e := fun j => S.ln (upd b (S.th i) (i : Int) (iter (bk S (upd b (S.th i) (i : Int))) j v)).toNat) m (fun j hj => (fl j hj).1) (cst S (upd b (S.th i) (i : Int)) v) rfl (fun j _ => rfl)).2 ⟨j0, hj0, (fl j0 hj0).2 ej0⟩
      have e1 : iter (bk S (upd b (S.th i) (i : Int))) m v = v := lp.back
      have e2 : d (iter (bk S (upd b (S.th i) (i : Int))) m v) + cst S (upd b (S.th i) (i : Int)) v m < d v := this
      rw [e1] at e2
      omega
    · -- it is as it was
      have same : ∀ j, j ≤ m → iter (bk S (upd b (S.th i) (i : Int))) j v = iter (bk S b) j v := fun j hj => by
        induction j with
        | zero => rfl
        | succ j ih =>
          have ih := ih (by omega)
          have e : iter (bk S b) j v ≠ S.th i := fun e => on ⟨j, by omega, by rw [ih]; exact e⟩
          show bk S _ (iter _ j v) = bk S b (iter (bk S b) j v)
          rw [ih]
          show S.fr (upd b (S.th i) (i : Int) (iter (bk S b) j v)).toNat = S.fr (b (iter (bk S b) j v)).toNat
          rw [upd_ne e]
      have val : ∀ j, j < m → upd b (S.th i) (i : Int) (iter (bk S (upd b (S.th i) (i : Int))) j v) = b (iter (bk S b) j v) := fun j hj => by
        rw [upd_ne (fun e => on ⟨j, hj, e⟩), same j (by omega)]
      have cs : ∀ j, j ≤ m → cst S (upd b (S.th i) (i : Int)) v j = cst S b v j := fun j hj => by
        induction j with
        | zero => rfl
        | succ j ih =>
          show cst S _ v j + _ = cst S b v j + _
          rw [ih (by omega), val j (by omega)]
      rw [cs m (Nat.le_refl _)]
      exact h.neg v m hv ⟨lp.pos, by rw [← same m (Nat.le_refl _)]; exact lp.back, fun j hj => by rw [← val j hj]; exact lp.all j hj⟩

/-- in which round each place was made less last; in round r the first i arcs were gone over -/
structure Lev (S : ArcsF) (k n : Nat) (d b : Nat → Int) (R : Nat → Nat) (r i : Nat) : Prop where
  some : ∀ v, v < n → 1 ≤ R v → 0 ≤ b v
  prev : ∀ v, v < n → 0 ≤ b v → R v ≤ R (bk S b v) + 1
  open_ : ∀ j, j < k → d (S.fr j) ≠ far → d (S.fr j) + S.ln j < d (S.th j) → (j < i → R (S.fr j) = r) ∧ r ≤ R (S.fr j) + 1
  le : ∀ v, R v ≤ r
theorem Lev.start (S : ArcsF) (k n : Nat) (d : Nat → Int) : Lev S k n d (fun _ => -1) (fun _ => 0) 1 0 :=
  ⟨fun v _ h => by omega, fun v _ h => by simp at h, fun j _ _ _ => ⟨fun h => by omega, by omega⟩, fun _ => by omega⟩
theorem Lev.skip {R : Nat → Nat} {r i : Nat} (h : Lev S k n d b R r i) (hn : d (S.fr i) = far ∨ d (S.th i) ≤ d (S.fr i) + S.ln i) : Lev S k n d b R r (i + 1) :=
  ⟨h.some, h.prev, fun j hj h1 h2 => by
    have h3 := h.open_ j hj h1 h2
    refine ⟨fun q => ?_, h3.2⟩
    rcases Nat.lt_or_ge j i with z | z
    · exact h3.1 z
    · obtain rfl : j = i := by omega
      rcases hn with y | y
      · exact absurd y h1
      · omega, h.le⟩
theorem Lev.take {R : Nat → Nat} {r i : Nat} (h : Lev S k n d b R r i) (A : ArcsIn S k n L) (hi : i < k) (hf : d (S.fr i) ≠ far) (hl : d (S.fr i) + S.ln i < d (S.th i)) (hr : 1 ≤ r) :
    Lev S k n (upd d (S.th i) (d (S.fr i) + S.ln i)) (upd b (S.th i) (i : Int)) (upd R (S.th i) r) r (i + 1) := by
  have ge : ∀ v, R v ≤ upd R (S.th i) r v := fun v => by
    by_cases e : v = S.th i
    · subst e; rw [upd_same]; exact h.le _
    · rw [upd_ne e]; exact Nat.le_refl _
  have o := h.open_ i hi hf hl
  refine ⟨fun v hv h1 => ?_, fun v hv h1 => ?_, fun j hj h1 h2 => ?_, fun v => ?_⟩
  · by_cases e : v = S.th i
    · subst e; rw [upd_same]; omega
    · rw [upd_ne e] at h1 ⊢; exact h.some v hv h1
  · by_cases e : v = S.th i
    · subst e
      unfold bk
      rw [upd_same, upd_same, Int.toNat_natCast]
      have := ge (S.fr i)
      omega
    · unfold bk
      rw [upd_ne (show v ≠ S.th i from e)] at h1
      rw [upd_ne (show v ≠ S.th i from e), upd_ne (show v ≠ S.th i from e)]
      have h3 := h.prev v hv h1
      have h4 := ge (S.fr (b v).toNat)
      unfold bk at h3
      omega
  · by_cases e : S.fr j = S.th i
    · rw [e, upd_same]; exact ⟨fun _ => rfl, by omega⟩
    · rw [upd_ne e] at h1 h2 ⊢
      by_cases e2 : S.th j = S.th i
      · rw [e2, upd_same] at h2
        have h3 := h.open_ j hj h1 (by rw [e2]; omega)
        refine ⟨fun q => ?_, h3.2⟩
        rcases Nat.lt_or_ge j i with z | z
        · exact h3.1 z
        · obtain rfl : j = i := by omega
          omega
      · rw [upd_ne e2] at h2
        have h3 := h.open_ j hj h1 h2
        refine ⟨fun q => ?_, h3.2⟩
        rcases Nat.lt_or_ge j i with z | z
        · exact h3.1 z
        · obtain rfl : j = i := by omega
          exact absurd rfl e2
  · by_cases e : v = S.th i
    · subst e; rw [upd_same]; exact Nat.le_refl _
    · rw [upd_ne e]; exact h.le v
theorem Lev.next {R : Nat → Nat} {r : Nat} (h : Lev S k n d b R r k) : Lev S k n d b R (r + 1) 0 :=
  ⟨h.some, h.prev, fun j hj h1 h2 => ⟨fun q => by omega, by have := (h.open_ j hj h1 h2).1 hj; omega⟩, fun v => by have := h.le v; omega⟩
/-- n arcs back from what was made less in round n one is on a round -/
theorem Lev.round {R : Nat → Nat} {i : Nat} (h : Lev S k n d b R n i) (P : Pred S k n d b) (A : ArcsIn S k n L) (hv : v < n) (hR : R v = n) :
    (∀ j, j < n → 0 ≤ b (iter (bk S b) j v)) ∧ iter (bk S b) n v < n ∧ ∃ m, m ≤ n ∧ Loop S b (iter (bk S b) n v) m := by
  have lev : ∀ j, j ≤ n → n ≤ R (iter (bk S b) j v) + j ∧ (∀ a, a < j → 0 ≤ b (iter (bk S b) a v)) := fun j hj => by
    induction j with
    | zero => exact ⟨by show n ≤ R v + 0; omega, fun a h => by omega⟩
    | succ j ih =>
      obtain ⟨h1, h2⟩ := ih (by omega)
      have hlt := P.its A hv j h2
      have h3 := h.some _ hlt (by omega)
      have h4 := h.prev _ hlt h3
      refine ⟨by show n ≤ R (bk S b (iter (bk S b) j v)) + (j + 1); omega, fun a ha => ?_⟩
      rcases Nat.lt_or_ge a j with q | q
      · exact h2 a q
      · rw [show a = j by omega]; exact h3
  have all := (lev n (Nat.le_refl _)).2
  refine ⟨all, P.its A hv n all, ?_⟩
  obtain ⟨a, c, hac, hc, e⟩ := pigeon (n := n) (n + 1) (fun j => iter (bk S b) j v) (by omega) (fun j hj => P.its A hv j fun i hi => all i (by omega))
  have e : iter (bk S b) a v = iter (bk S b) c v := e
  have per : ∀ q, iter (bk S b) (c - a) (iter (bk S b) (q + a) v) = iter (bk S b) (q + a) v := fun q => by
    rw [← iter_add, show c - a + (q + a) = q + c by omega, iter_add, ← e, ← iter_add]
  have back : iter (bk S b) (c - a) (iter (bk S b) n v) = iter (bk S b) n v := by
    have := per (n - a)
    rwa [show n - a + a = n by omega] at this
  refine ⟨c - a, by omega, by omega, back, fun j hj => ?_⟩
  -- it was met before
  have per2 : ∀ w q, iter (bk S b) (w * (c - a) + (q + a)) v = iter (bk S b) (q + a) v := fun w q => by
    induction w with
    | zero => rw [Nat.zero_mul, Nat.zero_add]
    | succ w ih => rw [Nat.succ_mul, show w * (c - a) + (c - a) + (q + a) = w * (c - a) + ((q + (c - a)) + a) by omega, iter_add, show q + (c - a) + a = (c - a) + (q + a) by omega, iter_add, per, ← iter_add, ih]
  have hx : iter (bk S b) j (iter (bk S b) n v) = iter (bk S b) ((n - a + j) % (c - a) + a) v := by
    rw [← iter_add]
    have := per2 ((n - a + j) / (c - a)) ((n - a + j) % (c - a))
    rw [← this]
    congr 1
    have h1 := Nat.div_add_mod (n - a + j) (c - a)
    rw [Nat.mul_comm] at h1
    omega
  rw [hx]
  have := Nat.mod_lt (n - a + j) (show 0 < c - a by omega)
  exact all _ (by omega)
end
end Go.Proofs.Ytcdlnohnkdalbaa.Ro
namespace Go.Proofs.Ytcdlnohnkdalbaa.Ro
set_option linter.unusedVariables false
set_option maxRecDepth 100000
set_option linter.unusedSimpArgs false

/-- the arcs, turned about -/
def ArcsF.rev (S : ArcsF) : ArcsF := ⟨S.th, S.fr, S.ln⟩
theorem ArcsIn.rev {S : ArcsF} {k n : Nat} {L : Int} (A : ArcsIn S k n L) : ArcsIn S.rev k n L := ⟨A.th, A.fr, A.lo, A.hi⟩
/-- how far it is to t: D, by how many arcs at least: F -/
structure Best (S : ArcsF) (k t n : Nat) (D F : Nat → Int) : Prop where
  none_ : ∀ v, v < n → D v = far → ∀ c m, ¬ Way S.rev k t v c m
  way : ∀ v, v < n → D v ≠ far → ∃ m : Nat, F v = (m : Int) ∧ Way S.rev k t v (D v) m
  least : ∀ v c m, v < n → Way S.rev k t v c m → D v < c ∨ (D v = c ∧ F v ≤ m)
section
variable {S : ArcsF} {k n s t v T : Nat} {L : Int} {D F D' F' : Nat → Int}
theorem Best.one (h : Best S k t n D F) (h' : Best S k t n D' F') : ∀ v, v < n → D v = D' v ∧ (D v ≠ far → F v = F' v) := by
  intro v hv
  by_cases e : D v = far <;> by_cases e' : D' v = far
  · exact ⟨by rw [e, e'], fun q => absurd e q⟩
  · obtain ⟨m, _, w⟩ := h'.way v hv e'
    exact absurd w (h.none_ v hv e _ _)
  · obtain ⟨m, _, w⟩ := h.way v hv e
    exact absurd w (h'.none_ v hv e' _ _)
  · obtain ⟨m, h1, w⟩ := h.way v hv e
    obtain ⟨m', h1', w'⟩ := h'.way v hv e'
    have l := h.least v _ _ hv w'
    have l' := h'.least v _ _ hv w
    exact ⟨by omega, fun _ => by omega⟩

/-- pairs that are reached -/
structure Sound2 (S : ArcsF) (k t n T : Nat) (g a : Nat → Int) : Prop where
  each : ∀ v, v < n → (g v = far ∧ a v = far) ∨ ∃ m : Nat, m ≤ T ∧ a v = (m : Int) ∧ Way S.rev k t v (g v) m
  here : g t = 0 ∧ a t = 0
def Fix2 (S : ArcsF) (k : Nat) (g a : Nat → Int) : Prop := ∀ i, i < k → g (S.th i) ≠ far → g (S.fr i) < g (S.th i) + S.ln i ∨ (g (S.fr i) = g (S.th i) + S.ln i ∧ a (S.fr i) ≤ a (S.th i) + 1)
theorem Sound2.start (S : ArcsF) (k t n : Nat) : Sound2 S k t n 0 (upd (fun _ => far) t 0) (upd (fun _ => far) t 0) :=
  ⟨fun v _ => by
    by_cases e : v = t
    · subst e; rw [upd_same]; exact .inr ⟨0, Nat.le_refl _, rfl, .nil⟩
    · rw [upd_ne e]; exact .inl ⟨rfl, rfl⟩, by rw [upd_same]; exact ⟨rfl, rfl⟩⟩
theorem Way.nonneg {c : Int} {m : Nat} (h : Way S k s v c m) (h0 : ∀ i, i < k → 0 ≤ S.ln i) : 0 ≤ c := by
  induction h with
  | nil => exact Int.le_refl _
  | snoc _ hi ih => have := h0 _ hi; omega
theorem Sound2.more {g a : Nat → Int} (h : Sound2 S k t n T g a) {T' : Nat} (hT : T ≤ T') : Sound2 S k t n T' g a :=
  ⟨fun v hv => (h.each v hv).elim .inl fun ⟨m, h1, h2, h3⟩ => .inr ⟨m, by omega, h2, h3⟩, h.here⟩
theorem Sound2.step {g a : Nat → Int} (h : Sound2 S k t n T g a) (A : ArcsIn S k n L) (h0 : ∀ i, i < k → 0 ≤ S.ln i) (ht : t < n) {i : Nat} (hi : i < k) (hf : g (S.th i) ≠ far)
    (hl : g (S.th i) + S.ln i < g (S.fr i) ∨ (g (S.th i) + S.ln i = g (S.fr i) ∧ a (S.th i) + 1 < a (S.fr i))) :
    Sound2 S k t n (T + 1) (upd g (S.fr i) (g (S.th i) + S.ln i)) (upd a (S.fr i) (a (S.th i) + 1)) := by
  have pos : ∀ v, v < n → g v ≠ far → 0 ≤ g v ∧ 0 ≤ a v := fun v hv hg => by
    rcases h.each v hv with q | ⟨m, h1, h2, w⟩
    · exact absurd q.1 hg
    · exact ⟨w.nonneg (S := S.rev) h0, by omega⟩
  refine ⟨fun v hv => ?_, ?_⟩
  · by_cases e : v = S.fr i
    · subst e
      rw [upd_same, upd_same]
      rcases h.each _ (A.th i hi) with q | ⟨m, h1, h2, w⟩
      · exact absurd q.1 hf
      · exact .inr ⟨m + 1, by omega, by omega, Way.snoc (S := S.rev) w hi⟩
    · rw [upd_ne e, upd_ne e]; exact (h.more (Nat.le_succ T)).each v hv
  · have nt : t ≠ S.fr i := fun e => by
      have h1 := h.here
      rw [e] at h1
      have h2 := pos _ (A.th i hi) hf
      have h3 := h0 i hi
      omega
    rw [upd_ne nt, upd_ne nt]; exact h.here
theorem Sound2.size {g a : Nat → Int} (h : Sound2 S k t n T g a) (A : ArcsIn S k n L) (hL : 0 ≤ L) (hv : v < n) (hd : g v ≠ far) : -(T * L) ≤ g v ∧ g v ≤ T * L ∧ 0 ≤ a v ∧ a v ≤ T := by
  rcases h.each v hv with q | ⟨m, h1, h2, w⟩
  · exact absurd q.1 hd
  · have b := w.bound A.rev
    have : (m : Int) * L ≤ T * L := Int.mul_le_mul_of_nonneg_right (by omega) hL
    omega
theorem Fix2.best {g a : Nat → Int} (f : Fix2 S k g a) (h : Sound2 S k t n T g a) (A : ArcsIn S k n L) (hL : 0 ≤ L) (hb : (T : Int) * L + L < far) (ht : t < n) : Best S k t n g a := by
  have le : ∀ v c m, Way S.rev k t v c m → g v ≠ far ∧ (g v < c ∨ (g v = c ∧ a v ≤ m)) := fun v c m w => by
    induction w with
    | nil => have := h.here; exact ⟨by unfold far; omega, .inr ⟨this.1, by omega⟩⟩
    | @snoc c m i w hi ih =>
      have i1 : g (S.th i) ≠ far ∧ (g (S.th i) < c ∨ (g (S.th i) = c ∧ a (S.th i) ≤ m)) := ih
      have f1 := f i hi i1.1
      have s1 := (h.size A hL (A.th i hi) i1.1).2.1
      have s2 := A.hi i hi
      show g (S.fr i) ≠ far ∧ (g (S.fr i) < c + S.ln i ∨ (g (S.fr i) = c + S.ln i ∧ a (S.fr i) ≤ ((m + 1 : Nat) : Int)))
      refine ⟨by omega, ?_⟩
      omega
  refine ⟨fun v hv e c m w => (le v c m w).1 e, fun v hv e => ?_, fun v c m _ w => (le v c m w).2⟩
  rcases h.each v hv with q | ⟨m, _, h2, w⟩
  · exact absurd q.1 e
  · exact ⟨m, h2, w⟩

/-- so few arcs are reached along tight ones -/
structure SoundF (S : ArcsF) (k t n T : Nat) (D F : Nat → Int) : Prop where
  each : ∀ v, v < n → F v = far ∨ ∃ m : Nat, m ≤ T ∧ F v = (m : Int) ∧ Way S.rev k t v (D v) m
  here : F t ≤ 0
def FixF (S : ArcsF) (k : Nat) (D F : Nat → Int) : Prop := ∀ i, i < k → D (S.th i) ≠ far → D (S.fr i) = D (S.th i) + S.ln i → F (S.th i) ≠ far → F (S.fr i) ≤ F (S.th i) + 1
theorem SoundF.start (h0 : D t = 0) : SoundF S k t n 0 D (upd (fun _ => far) t 0) :=
  ⟨fun v _ => by
    by_cases e : v = t
    · subst e; rw [upd_same, h0]; exact .inr ⟨0, Nat.le_refl _, rfl, .nil⟩
    · rw [upd_ne e]; exact .inl rfl, by rw [upd_same]; exact Int.le_refl _⟩
theorem SoundF.step (h : SoundF S k t n T D F) (A : ArcsIn S k n L) {i : Nat} (hi : i < k) (ht : D (S.fr i) = D (S.th i) + S.ln i) (hf : F (S.th i) ≠ far) (hl : F (S.th i) + 1 < F (S.fr i)) : SoundF S k t n (T + 1) D (upd F (S.fr i) (F (S.th i) + 1)) := by
  refine ⟨fun v hv => ?_, ?_⟩
  · by_cases e : v = S.fr i
    · subst e
      rw [upd_same]
      rcases h.each _ (A.th i hi) with q | ⟨m, h1, h2, w⟩
      · exact absurd q hf
      · refine .inr ⟨m + 1, by omega, by omega, ?_⟩
        rw [ht]; exact Way.snoc (S := S.rev) w hi
    · rw [upd_ne e]
      rcases h.each v hv with q | ⟨m, h1, h2, w⟩
      · exact .inl q
      · exact .inr ⟨m, by omega, h2, w⟩
  · by_cases e : t = S.fr i
    · rw [e, upd_same]
      have := h.here
      rw [e] at this
      omega
    · rw [upd_ne e]; exact h.here
theorem FixF.best (f : FixF S k D F) (h : SoundF S k t n T D F) (hT : (T : Int) + 1 < far) (fD : Fix S.rev k D) {U : Nat} (hD : Sound S.rev k t n U D) (A : ArcsIn S k n L) (hL : 0 ≤ L) (hb : (U : Int) * L + L < far) (ht : t < n) (h0 : ∀ i, i < k → 0 ≤ S.ln i) : Best S k t n D F := by
  have le : ∀ v c m, Way S.rev k t v c m → D v = c → F v ≠ far ∧ F v ≤ m := fun v c m w => by
    induction w with
    | nil => intro _; have := h.here; exact ⟨by unfold far; omega, by omega⟩
    | @snoc c m i w hi ih =>
      intro e
      have e : D (S.fr i) = c + S.ln i := e
      have d1 : D (S.th i) ≠ far ∧ D (S.th i) ≤ c := fD.le hD A.rev hL hb ht w
      have d2 := fD i hi d1.1
      have d2 : D (S.fr i) ≤ D (S.th i) + S.ln i := d2
      have i1 : F (S.th i) ≠ far ∧ F (S.th i) ≤ m := ih (by show D (S.th i) = c; omega)
      have f1 := f i hi d1.1 (by omega) i1.1
      have s1 : F (S.th i) ≤ T := by
        rcases h.each _ (A.th i hi) with q | ⟨m, h1, h2, _⟩
        · exact absurd q i1.1
        · omega
      show F (S.fr i) ≠ far ∧ F (S.fr i) ≤ ((m + 1 : Nat) : Int)
      exact ⟨by omega, by omega⟩
  refine ⟨fun v hv e c m w => (fD.le hD A.rev hL hb ht w).1 e, fun v hv e => ?_, fun v c m hv w => ?_⟩
  · rcases hD.each v hv with q | ⟨m, _, w⟩
    · exact absurd q e
    · have h1 := le v _ _ w rfl
      rcases h.each v hv with q | ⟨m', _, h2, w'⟩
      · exact absurd q h1.1
      · exact ⟨m', h2, w'⟩
  · have h1 := (fD.le hD A.rev hL hb ht w).2
    rcases Int.lt_or_eq_of_le h1 with q | q
    · exact .inl q
    · exact .inr ⟨q, (le v c m w q).2⟩

/-- the arc that is gone along from a place -/
structure Pick (S : ArcsF) (k : Nat) (D F : Nat → Int) (v i : Nat) : Prop where
  lt : i < k
  fr : S.fr i = v
  fin : D (S.th i) ≠ far
  len : D v = D (S.th i) + S.ln i
  few : F v = F (S.th i) + 1
  least : ∀ j, j < i → ¬ (S.fr j = v ∧ D (S.th j) ≠ far ∧ D v = D (S.th j) + S.ln j ∧ F v = F (S.th j) + 1)
theorem Best.pick (h : Best S k t n D F) (A : ArcsIn S k n L) (hv : v < n) (hd : D v ≠ far) (ht : v ≠ t) : ∃ i, Pick S k D F v i := by
  obtain ⟨m, hm, w⟩ := h.way v hv hd
  have ex : ∃ i, i < k ∧ S.fr i = v ∧ D (S.th i) ≠ far ∧ D v = D (S.th i) + S.ln i ∧ F v = F (S.th i) + 1 := by
    have key : ∀ c, Way S.rev k t v c m → c = D v → ∃ i, i < k ∧ S.fr i = v ∧ D (S.th i) ≠ far ∧ D v = D (S.th i) + S.ln i ∧ F v = F (S.th i) + 1 := fun c w hc => by
      cases w with
      | nil => exact absurd rfl ht
      | @snoc c' m' i w1 hi =>
        have wt : Way S.rev k t (S.th i) c' m' := w1
        have hln : S.rev.ln i = S.ln i := rfl
        have hto : S.rev.th i = S.fr i := rfl
        rw [hln, hto] at hc
        rw [hto] at hm
        have l1 := h.least _ _ _ (A.th i hi) wt
        have d1 : D (S.th i) ≠ far := fun e => h.none_ _ (A.th i hi) e _ _ wt
        obtain ⟨m2, hm2, w2⟩ := h.way _ (A.th i hi) d1
        have w3 : Way S.rev k t (S.fr i) (D (S.th i) + S.ln i) (m2 + 1) := Way.snoc (S := S.rev) w2 hi
        have l2 := h.least _ _ _ (A.fr i hi) w3
        refine ⟨i, hi, rfl, d1, ?_, ?_⟩
        · show D (S.fr i) = _; omega
        · show F (S.fr i) = _; omega
    exact key _ w rfl
  obtain ⟨i0, hi0⟩ := ex
  have wf : ∀ b, ∀ i, i ≤ b → (i < k ∧ S.fr i = v ∧ D (S.th i) ≠ far ∧ D v = D (S.th i) + S.ln i ∧ F v = F (S.th i) + 1) → ∃ i, Pick S k D F v i := by
    intro b
    induction b with
    | zero => intro i hi h1; exact ⟨i, h1.1, h1.2.1, h1.2.2.1, h1.2.2.2.1, h1.2.2.2.2, fun j hj => by omega⟩
    | succ b ih =>
      intro i hi h1
      by_cases q : ∃ j, j < i ∧ (S.fr j = v ∧ D (S.th j) ≠ far ∧ D v = D (S.th j) + S.ln j ∧ F v = F (S.th j) + 1)
      · obtain ⟨j, hj, h2⟩ := q
        exact ih j (by omega) ⟨by omega, h2⟩
      · exact ⟨i, h1.1, h1.2.1, h1.2.2.1, h1.2.2.2.1, h1.2.2.2.2, fun j hj h2 => q ⟨j, hj, h2⟩⟩
  exact wf i0 i0 (Nat.le_refl _) hi0
theorem Pick.one {i i' : Nat} (h : Pick S k D F v i) (h' : Pick S k D' F' v i') (A : ArcsIn S k n L) (hv : v < n) (b : Best S k t n D F) (b' : Best S k t n D' F') : i = i' := by
  have e := b.one b'
  have nf : ∀ i, i < k → D (S.th i) ≠ far → D v = D (S.th i) + S.ln i → D v ≠ far := fun i hi h1 h2 h3 => by
    obtain ⟨m, _, w⟩ := b.way _ (A.th i hi) h1
    by_cases q : S.fr i = v
    · exact b.none_ v hv h3 _ _ (by rw [← q]; exact Way.snoc (S := S.rev) w hi)
    · obtain ⟨i, hi⟩ : ∃ i, Pick S k D F v i := ⟨_, h⟩
      obtain ⟨m, _, w⟩ := b.way _ (A.th i hi.lt) hi.fin
      exact b.none_ v hv h3 _ _ (by rw [← hi.fr]; exact Way.snoc (S := S.rev) w hi.lt)
  have dv : D v ≠ far := nf i h.lt h.fin h.len
  have ev := e v hv
  rcases Nat.lt_trichotomy i i' with q | q | q
  · refine absurd ⟨h.fr, ?_, ?_, ?_⟩ (h'.least i q)
    · rw [← (e _ (A.th i h.lt)).1]; exact h.fin
    · rw [← ev.1, ← (e _ (A.th i h.lt)).1]; exact h.len
    · rw [← ev.2 dv, ← (e _ (A.th i h.lt)).2 h.fin]; exact h.few
  · exact q
  · refine absurd ⟨h'.fr, ?_, ?_, ?_⟩ (h.least i' q)
    · rw [(e _ (A.th i' h'.lt)).1]; exact h'.fin
    · rw [ev.1, (e _ (A.th i' h'.lt)).1]; exact h'.len
    · rw [ev.2 dv, (e _ (A.th i' h'.lt)).2 (by rw [(e _ (A.th i' h'.lt)).1]; exact h'.fin)]; exact h'.few
end
end Go.Proofs.Ytcdlnohnkdalbaa.Ro

namespace Go.Proofs.Ytcdlnohnkdalbaa.Ro
open Go.RowKit Go.Proofs
set_option linter.unusedVariables false
set_option maxRecDepth 100000
set_option linter.unusedSimpArgs false

/-- k arcs, to be read -/
def RdA (w : World) (v : Value) (k : Nat) (S : ArcsF) : Prop :=
  ∃ A cap, v = .slice A k cap ∧ (0 < k → ∃ b, A = some ⟨b, 0, none⟩ ∧ b < w.heap.size ∧ ∀ i, i < k → w.cell? ⟨b, i * 3, none⟩ = some (.int .i64 (S.fr i : Int)) ∧ w.cell? ⟨b, i * 3 + 1, none⟩ = some (.int .i64 (S.th i : Int)) ∧ w.cell? ⟨b, i * 3 + 2, none⟩ = some (.int .i64 (S.ln i)))
theorem RdA.below {w w' : World} {v : Value} {k B : Nat} {S : ArcsF} (h : RdA w v k S) (hb : Below B w w') (hB : w.heap.size ≤ B) : RdA w' v k S := by
  obtain ⟨A, c, e, r⟩ := h
  refine ⟨A, c, e, fun hn => ?_⟩
  obtain ⟨b, h1, h2, h3⟩ := r hn
  refine ⟨b, h1, Nat.lt_of_lt_of_le h2 hb.size, fun i hi => ?_⟩
  obtain ⟨k1, k2, k3⟩ := h3 i hi
  exact ⟨(hb.cell (p := ⟨b, i * 3, none⟩) (by show b < B; omega)).trans k1, (hb.cell (p := ⟨b, i * 3 + 1, none⟩) (by show b < B; omega)).trans k2, (hb.cell (p := ⟨b, i * 3 + 2, none⟩) (by show b < B; omega)).trans k3⟩
end Go.Proofs.Ytcdlnohnkdalbaa.Ro
