/- Plain laws: the rounds of a step, numbered by their least ones. -/
import Derived.Test.YtcejjcopchkmeaaRoO
namespace Go.Proofs.Ytcejjcopchkmeaa.Ro
set_option linter.unusedVariables false
set_option maxRecDepth 100000
set_option linter.unusedSimpArgs false

def it (f : Nat → Nat) : Nat → Nat → Nat
  | 0, d => d
  | k + 1, d => f (it f k d)
theorem it_add (f : Nat → Nat) (d : Nat) : ∀ (a b : Nat), it f (a + b) d = it f a (it f b d)
  | 0, b => by rw [Nat.zero_add]; rfl
  | a + 1, b => by rw [show a + 1 + b = (a + b) + 1 by omega]; show f _ = f _; rw [it_add f d a b]

structure Perm (f : Nat → Nat) (m : Nat) : Prop where
  lt : ∀ x, x < m → f x < m
  inj : ∀ x y, x < m → y < m → f x = f y → x = y
theorem Perm.it_lt {f : Nat → Nat} {m : Nat} (h : Perm f m) {d : Nat} (hd : d < m) : ∀ k, it f k d < m
  | 0 => hd
  | k + 1 => h.lt _ (Perm.it_lt h hd k)

/-- what has been numbered so far: all below i -/
structure Part (f : Nat → Nat) (m i : Nat) (o : Nat → Int) (c : Nat) : Prop where
  some : ∀ x, x < m → o x = -1 ∨ (0 ≤ o x ∧ o x < c)
  done : ∀ x, x < i → x < m → 0 ≤ o x
  fwd : ∀ x, x < m → 0 ≤ o x → o (f x) = o x
  bwd : ∀ x, x < m → 0 ≤ o (f x) → 0 ≤ o x
  one : ∀ x y, x < m → y < m → 0 ≤ o x → o x = o y → ∃ k, it f k x = y
  each : ∀ e : Nat, e < c → ∃ y, y < i ∧ y < m ∧ o y = e
  first : ∀ x, x < m → ∀ e : Nat, (e : Int) < o x → ∃ y, y < x ∧ o y = e

theorem Part.start (f : Nat → Nat) (m : Nat) : Part f m 0 (fun _ => -1) 0 :=
  ⟨fun _ _ => .inl rfl, fun x h => by omega, fun x _ h => by simp at h, fun x _ h => by simp at h, fun x y _ _ h => by simp at h, fun e h => by omega, fun x _ e h => by omega⟩
theorem Part.skip {f : Nat → Nat} {m i c : Nat} {o : Nat → Int} (h : Part f m i o c) (hi : 0 ≤ o i) : Part f m (i + 1) o c :=
  ⟨h.some, fun x hx hm => by
    rcases Nat.lt_or_ge x i with q | q
    · exact h.done x q hm
    · rw [show x = i by omega]; exact hi, h.fwd, h.bwd, h.one, fun e he => by obtain ⟨y, h1, h2⟩ := h.each e he; exact ⟨y, by omega, h2⟩, h.first⟩

/-- a round that is being gone along: k steps from d on -/
structure Chain (f : Nat → Nat) (m : Nat) (o : Nat → Int) (d c k at_ : Nat) (o' : Nat → Int) : Prop where
  here : at_ = it f k d
  was : ∀ j, j < k → o (it f j d) = -1
  now : ∀ x, x < m → (o' x = c ∧ ∃ j, j < k ∧ x = it f j d) ∨ (o' x = o x ∧ ∀ j, j < k → x ≠ it f j d)
  apart : ∀ i j, i < j → j < k → it f i d ≠ it f j d

section
variable {f : Nat → Nat} {m d c k at_ : Nat} {o o' : Nat → Int}
theorem Chain.start (f : Nat → Nat) (m : Nat) (o : Nat → Int) (d c : Nat) : Chain f m o d c 0 d o :=
  ⟨rfl, fun j h => by omega, fun x _ => .inr ⟨rfl, fun j h => by omega⟩, fun i j _ h => by omega⟩
theorem Chain.lt (h : Chain f m o d c k at_ o') (p : Perm f m) (hd : d < m) : at_ < m := by rw [h.here]; exact p.it_lt hd k
theorem Chain.step (h : Chain f m o d c k at_ o') (p : Perm f m) (hd : d < m) (P : Part f m d o c) (hn : o' at_ < 0) : Chain f m o d c (k + 1) (f at_) (upd o' at_ (c : Int)) := by
  have hlt := h.lt p hd
  have hk : o at_ = -1 ∧ ∀ j, j < k → at_ ≠ it f j d := by
    rcases h.now at_ hlt with ⟨e, _⟩ | ⟨e, q⟩
    · omega
    · refine ⟨?_, q⟩
      rcases P.some at_ hlt with e2 | e2
      · exact e2
      · omega
  refine ⟨by rw [h.here]; rfl, fun j hj => ?_, fun x hx => ?_, fun i j hij hj => ?_⟩
  · rcases Nat.lt_or_ge j k with q | q
    · exact h.was j q
    · rw [show j = k by omega, ← h.here]; exact hk.1
  · by_cases e : x = at_
    · subst e; rw [upd_same]; exact .inl ⟨rfl, k, by omega, h.here⟩
    · rw [upd_ne e]
      rcases h.now x hx with ⟨e2, j, hj, ej⟩ | ⟨e2, q⟩
      · exact .inl ⟨e2, j, by omega, ej⟩
      · refine .inr ⟨e2, fun j hj => ?_⟩
        rcases Nat.lt_or_ge j k with q2 | q2
        · exact q j q2
        · rw [show j = k by omega, ← h.here]; exact e
  · rcases Nat.lt_or_ge j k with q | q
    · exact h.apart i j hij q
    · rw [show j = k by omega, ← h.here]; exact (hk.2 i (by omega)).symm
theorem Chain.back (h : Chain f m o d c k at_ o') (p : Perm f m) (hd : d < m) (P : Part f m d o c) (h0 : o d = -1) (hn : 0 ≤ o' at_) : at_ = d ∧ 0 < k := by
  have hlt := h.lt p hd
  rcases h.now at_ hlt with ⟨e, j, hj, ej⟩ | ⟨e, q⟩
  · refine ⟨?_, by omega⟩
    rcases Nat.eq_zero_or_pos j with rfl | hj0
    · exact ej
    · exfalso
      obtain ⟨j', rfl⟩ : ∃ j', j = j' + 1 := ⟨j - 1, by omega⟩
      obtain ⟨k', rfl⟩ : ∃ k', k = k' + 1 := ⟨k - 1, by omega⟩
      have e1 : f (it f j' d) = f (it f k' d) := by rw [h.here] at ej; exact ej.symm
      exact h.apart j' k' (by omega) (by omega) (p.inj _ _ (p.it_lt hd _) (p.it_lt hd _) e1)
  · exfalso
    rcases Nat.eq_zero_or_pos k with rfl | hk
    · have : at_ = d := h.here
      rw [this] at e hn; omega
    · obtain ⟨k', rfl⟩ : ∃ k', k = k' + 1 := ⟨k - 1, by omega⟩
      have e1 : at_ = f (it f k' d) := h.here
      have := P.bwd (it f k' d) (p.it_lt hd _) (by rw [← e1]; omega)
      have := h.was k' (by omega)
      omega
theorem Chain.done (h : Chain f m o d c k at_ o') (p : Perm f m) (hd : d < m) (P : Part f m d o c) (h0 : o d = -1) (hn : 0 ≤ o' at_) : Part f m (d + 1) o' (c + 1) := by
  obtain ⟨hat, hk⟩ := h.back p hd P h0 hn
  have hk0 : it f k d = d := by rw [← h.here]; exact hat
  have inC : ∀ j, j < k → o' (it f j d) = c := fun j hj => by
    rcases h.now _ (p.it_lt hd j) with ⟨e, _⟩ | ⟨_, q⟩
    · exact e
    · exact absurd rfl (q j hj)
  have old : ∀ x, x < m → 0 ≤ o x → o' x = o x := fun x hx hp => by
    rcases h.now x hx with ⟨_, j, hj, ej⟩ | ⟨e, _⟩
    · have := h.was j hj; rw [← ej] at this; omega
    · exact e
  have nxt : ∀ j, j < k → ∃ i, i < k ∧ f (it f j d) = it f i d := fun j hj => by
    rcases Nat.lt_or_ge (j + 1) k with q | q
    · exact ⟨j + 1, q, rfl⟩
    · refine ⟨0, hk, ?_⟩
      show it f (j + 1) d = d
      rw [show j + 1 = k by omega]; exact hk0
  have prv : ∀ j, j < k → ∃ i, i < k ∧ f (it f i d) = it f j d := fun j hj => by
    rcases Nat.eq_zero_or_pos j with rfl | q
    · refine ⟨k - 1, by omega, ?_⟩
      show it f (k - 1 + 1) d = d
      rw [show k - 1 + 1 = k by omega]; exact hk0
    · refine ⟨j - 1, by omega, ?_⟩
      show it f (j - 1 + 1) d = _
      rw [show j - 1 + 1 = j by omega]
  have inCh : ∀ x, x < m → o' x = c → ∃ j, j < k ∧ x = it f j d := fun x hx e => by
    rcases h.now x hx with ⟨_, q⟩ | ⟨e2, _⟩
    · exact q
    · rcases P.some x hx with q | q <;> omega
  have notC : ∀ x, x < m → 0 ≤ o' x → o' x ≠ c → 0 ≤ o x ∧ o' x = o x := fun x hx hp hc => by
    rcases h.now x hx with ⟨e, _⟩ | ⟨e, _⟩
    · exact absurd e hc
    · exact ⟨by omega, e⟩
  refine ⟨fun x hx => ?_, fun x hx hm => ?_, fun x hx hp => ?_, fun x hx hp => ?_, fun x y hx hy hp e => ?_, fun e he => ?_, fun x hx e he => ?_⟩
  · rcases h.now x hx with ⟨e, _⟩ | ⟨e, _⟩
    · right; omega
    · rcases P.some x hx with q | q
      · left; omega
      · right; omega
  · rcases Nat.lt_or_ge x d with q | q
    · have := P.done x q hm; rw [old x hm this]; exact this
    · rw [show x = d by omega]; have := inC 0 hk; rw [show it f 0 d = d from rfl] at this; omega
  · by_cases hc : o' x = c
    · obtain ⟨j, hj, rfl⟩ := inCh x hx hc
      obtain ⟨i, hi, e⟩ := nxt j hj
      rw [e, inC i hi, hc]
    · obtain ⟨h1, h2⟩ := notC x hx hp hc
      have h3 := P.fwd x hx h1
      rw [old (f x) (p.lt x hx) (by omega), h2, h3]
  · by_cases hc : o' (f x) = c
    · obtain ⟨j, hj, e⟩ := inCh (f x) (p.lt x hx) hc
      obtain ⟨i, hi, e2⟩ := prv j hj
      have := p.inj x _ hx (p.it_lt hd i) (e.trans e2.symm)
      rw [this, inC i hi]; omega
    · obtain ⟨h1, h2⟩ := notC (f x) (p.lt x hx) hp hc
      have h3 := P.bwd x hx h1
      rw [old x hx h3]; exact h3
  · by_cases hc : o' x = c
    · obtain ⟨i, hi, rfl⟩ := inCh x hx hc
      obtain ⟨j, hj, rfl⟩ := inCh y hy (by omega)
      refine ⟨j + (k - i), ?_⟩
      rw [it_add, ← it_add f d (k - i) i, show k - i + i = k by omega, hk0]
    · obtain ⟨h1, h2⟩ := notC x hx hp hc
      obtain ⟨h3, h4⟩ := notC y hy (by omega) (by omega)
      exact P.one x y hx hy h1 (by omega)
  · rcases Nat.lt_or_ge e c with q | q
    · obtain ⟨y, h1, h2, h3⟩ := P.each e q
      exact ⟨y, by omega, h2, by rw [old y h2 (by omega)]; exact h3⟩
    · refine ⟨d, by omega, hd, ?_⟩
      have := inC 0 hk; rw [show it f 0 d = d from rfl] at this; omega
  · by_cases hc : o' x = c
    · obtain ⟨j, hj, ej⟩ := inCh x hx hc
      have hxd : d ≤ x := by
        rcases Nat.lt_or_ge x d with q | q
        · have := P.done x q hx
          have := h.was j hj
          rw [← ej] at this; omega
        · exact q
      obtain ⟨y, h1, h2, h3⟩ := P.each e (by omega)
      exact ⟨y, by omega, by rw [old y h2 (by omega)]; exact h3⟩
    · obtain ⟨h1, h2⟩ := notC x hx (by omega) hc
      obtain ⟨y, h3, h4⟩ := P.first x hx e (by omega)
      exact ⟨y, h3, by rw [old y (by omega) (by omega)]; exact h4⟩
end

/-- the rounds, numbered: there is but one such numbering -/
structure Orb (f : Nat → Nat) (m : Nat) (o : Nat → Int) (c : Nat) : Prop where
  lo : ∀ x, x < m → 0 ≤ o x ∧ o x < c
  fwd : ∀ x, x < m → o (f x) = o x
  one : ∀ x y, x < m → y < m → o x = o y → ∃ k, it f k x = y
  each : ∀ e : Nat, e < c → ∃ y, y < m ∧ o y = e
  first : ∀ x, x < m → ∀ e : Nat, (e : Int) < o x → ∃ y, y < x ∧ o y = e
theorem Part.orb {f : Nat → Nat} {m c : Nat} {o : Nat → Int} (h : Part f m m o c) : Orb f m o c :=
  ⟨fun x hx => by
    have := h.done x hx hx
    rcases h.some x hx with q | q
    · omega
    · exact q, fun x hx => h.fwd x hx (h.done x hx hx), fun x y hx hy e => h.one x y hx hy (h.done x hx hx) e, fun e he => by obtain ⟨y, _, h2⟩ := h.each e he; exact ⟨y, h2⟩, h.first⟩
theorem Orb.it {f : Nat → Nat} {m c : Nat} {o : Nat → Int} (h : Orb f m o c) (p : Perm f m) {x : Nat} (hx : x < m) : ∀ k, o (it f k x) = o x
  | 0 => rfl
  | k + 1 => (h.fwd _ (p.it_lt hx k)).trans (Orb.it h p hx k)
theorem Orb.same {f : Nat → Nat} {m c c' : Nat} {o o' : Nat → Int} (h : Orb f m o c) (h' : Orb f m o' c') (p : Perm f m) : ∀ n x, x < n → x < m → o x = o' x
  | 0, x, hx, _ => by omega
  | n + 1, x, hx, hm => by
    have ih := Orb.same h h' p n
    have ker : ∀ y, y < m → (o x = o y ↔ o' x = o' y) := fun y hy => ⟨fun e => by
      obtain ⟨k, e2⟩ := h.one x y hm hy e; rw [← e2, h'.it p hm], fun e => by
      obtain ⟨k, e2⟩ := h'.one x y hm hy e; rw [← e2, h.it p hm]⟩
    have l1 := h.lo x hm
    have l2 := h'.lo x hm
    rcases Int.lt_trichotomy (o x) (o' x) with q | q | q
    · obtain ⟨y, h1, h2⟩ := h'.first x hm (o x).toNat (by omega)
      have e1 := ih y (by omega) (by omega)
      have := (ker y (by omega)).1 (by omega)
      omega
    · exact q
    · obtain ⟨y, h1, h2⟩ := h.first x hm (o' x).toNat (by omega)
      have e1 := ih y (by omega) (by omega)
      have := (ker y (by omega)).2 (by omega)
      omega
theorem Orb.count {f : Nat → Nat} {m c c' : Nat} {o o' : Nat → Int} (h : Orb f m o c) (h' : Orb f m o' c') (p : Perm f m) : c = c' := by
  have e := fun x hx => h.same h' p m x hx hx
  rcases Nat.lt_trichotomy c c' with q | q | q
  · obtain ⟨y, h1, h2⟩ := h'.each c q
    have := (h.lo y h1).2; have := e y h1; omega
  · exact q
  · obtain ⟨y, h1, h2⟩ := h.each c' q
    have := (h'.lo y h1).2; have := e y h1; omega

/-- how many of a row are below 0 -/
def neg (o : Nat → Int) : Nat → Nat
  | 0 => 0
  | m + 1 => neg o m + if o m < 0 then 1 else 0
theorem neg_far {o : Nat → Int} {a : Nat} {u : Int} : ∀ {m}, m ≤ a → neg (upd o a u) m = neg o m
  | 0, _ => rfl
  | m + 1, h => by
    unfold neg
    rw [neg_far (m := m) (by omega), upd_ne (by omega)]
theorem neg_upd {o : Nat → Int} {a : Nat} {u : Int} (hu : 0 ≤ u) (ha : o a < 0) : ∀ {m}, a < m → neg (upd o a u) m + 1 = neg o m
  | 0, h => by omega
  | m + 1, h => by
    unfold neg
    by_cases e : a = m
    · subst e
      rw [neg_far (Nat.le_refl _), upd_same, if_neg (by omega), if_pos ha]
    · have := neg_upd (m := m) hu ha (by omega)
      rw [upd_ne (by omega)]; omega
end Go.Proofs.Ytcejjcopchkmeaa.Ro
