/- Walks: a dart's other one, and the closures that step on. Plain laws: the rounds of a step, numbered by their least ones. Walks: orbits, over the step behind. Walks: a good net's shape is told to be so; it is fine. Walks: Faces of a net whose next ones are a permutation. Walks: the closures that step on about a vertex. Walks: orbits, over the step about a vertex. -/
import Derived.Test.YtcdlnohnkdalbaaMxRoW
namespace Go.Proofs.Ytcdlnohnkdalbaa.Ro
open Go.RowKit Go.Proofs
set_option linter.unusedVariables false
set_option maxRecDepth 100000
set_option linter.unusedSimpArgs false

def oth (d : Nat) : Nat := if d % 2 = 0 then d + 1 else d - 1
theorem oth_oth (d : Nat) : oth (oth d) = d := by unfold oth; split <;> split <;> omega
theorem oth_lt {d m : Nat} (h : d < m) (hm : m % 2 = 0) : oth d < m := by unfold oth; split <;> omega
theorem xor_fin : ∀ d : Fin 1001, bits BinOp.xor IntKind.i64 ((d.val : Nat) : Int) 1 = ((oth d.val : Nat) : Int) := by decide +kernel
theorem xor_one (d : Nat) (h : d ≤ 1000) : bits BinOp.xor IntKind.i64 (d : Int) 1 = (oth d : Int) := xor_fin ⟨d, by omega⟩

theorem other_any (w : World) (d : Nat) (hd : d ≤ 1000) : Calls Try.prog 80 #[.int .i64 (d : Int)] w fun e w' => e = .returned (.int .i64 (oth d : Int)) ∧ w = w' := by
  have hx := xor_one d hd
  go_enter Try.func80, Try.ntmps80
  go_wp2_with fail
  go_ret
  exact ⟨rfl, rfl⟩

/-- a net in a variable of its own -/
def Box (w : World) (p : Nat) (N : Int) (T X C : Value) : Prop := w.heap[p]? = some (.cells #[.int .i64 N, T, X, C] 25 (0, 0))
theorem Box.below {w w' : World} {p B : Nat} {N : Int} {T X C : Value} (h : Box w p N T X C) (hb : Below B w w') (hB : w.heap.size ≤ B) : Box w' p N T X C :=
  (hb.block p (Nat.lt_of_lt_of_le (blk_lt h) hB)).trans h

theorem below_draws (w : World) (n : Nat) : Below w.heap.size w (w.drewN n) := ⟨rfl, rfl, rfl, Nat.le_refl _, fun _ _ => rfl⟩

theorem behind1_any (w : World) (p : Nat) (N : Int) (T X C : Value) (m : Nat) (x : Nat → Int) (hb : Box w p N T X C) (hx : Rd w X m x) (d : Nat) (hd : d ≤ 999) (ho : oth d < m) :
    Calls Try.prog 81 #[.int .i64 (d : Int), .pointer (some ⟨p, 0, none⟩)] w fun e w' => e = .returned (.int .i64 (x (oth d))) ∧ Below w.heap.size w w' := by
  obtain ⟨A, cap, rfl, r⟩ := hx
  obtain ⟨y, rfl, hy, hc⟩ := r (by omega)
  have c2 : w.cell? ⟨p, 2, none⟩ = some (.slice (some y) m cap) := blk_cell hb 2
  have cx := hc (oth d) ho
  have d1 : (oth d : Int) < (m : Int) := by omega
  clear hc r hb
  go_enter Try.func81, Try.ntmps81
  go_wp2_with fail
  go_big_quiet (exact (other_any _ d (by omega)).mono fun e w' h => ⟨h.1, _, h.2.symm⟩)
  go_wp2_with fail
  go_ret
  exact ⟨rfl, below_draws _ _⟩

end Go.Proofs.Ytcdlnohnkdalbaa.Ro
namespace Go.Proofs.Ytcdlnohnkdalbaa.Ro
set_option linter.unusedVariables false
set_option maxRecDepth 100000
set_option linter.unusedSimpArgs false

def it (f : Nat → Nat) : Nat → Nat → Nat
  | 0, d => d
  | k + 1, d => f (it f k d)
theorem it_add (f : Nat → Nat) (d : Nat) : ∀ (a b : Nat), it f (a + b) d = it f a (it f b d)
  | 0, b => by rw [Nat.zero_add]; rfl
  | a + 1, b => by rw [show a + 1 + b = (a + b) + 1 by omega]; show f _ = f _; rw [it_add f d a b]

structure Perm (f : Nat → Nat) (m : Nat) : Prop where
  lt : ∀ x, x < m → f x < m
  inj : ∀ x y, x < m → y < m → f x = f y → x = y
theorem Perm.it_lt {f : Nat → Nat} {m : Nat} (h : Perm f m) {d : Nat} (hd : d < m) : ∀ k, it f k d < m
  | 0 => hd
  | k + 1 => h.lt _ (Perm.it_lt h hd k)

/-- what has been numbered so far: all below i -/
structure Part (f : Nat → Nat) (m i : Nat) (o : Nat → Int) (c : Nat) : Prop where
  some : ∀ x, x < m → o x = -1 ∨ (0 ≤ o x ∧ o x < c)
  done : ∀ x, x < i → x < m → 0 ≤ o x
  fwd : ∀ x, x < m → 0 ≤ o x → o (f x) = o x
  bwd : ∀ x, x < m → 0 ≤ o (f x) → 0 ≤ o x
  one : ∀ x y, x < m → y < m → 0 ≤ o x → o x = o y → ∃ k, it f k x = y
  each : ∀ e : Nat, e < c → ∃ y, y < i ∧ y < m ∧ o y = e
  first : ∀ x, x < m → ∀ e : Nat, (e : Int) < o x → ∃ y, y < x ∧ o y = e

theorem Part.start (f : Nat → Nat) (m : Nat) : Part f m 0 (fun _ => -1) 0 :=
  ⟨fun _ _ => .inl rfl, fun x h => by omega, fun x _ h => by simp at h, fun x _ h => by simp at h, fun x y _ _ h => by simp at h, fun e h => by omega, fun x _ e h => by omega⟩
theorem Part.skip {f : Nat → Nat} {m i c : Nat} {o : Nat → Int} (h : Part f m i o c) (hi : 0 ≤ o i) : Part f m (i + 1) o c :=
  ⟨h.some, fun x hx hm => by
    rcases Nat.lt_or_ge x i with q | q
    · exact h.done x q hm
    · rw [show x = i by omega]; exact hi, h.fwd, h.bwd, h.one, fun e he => by obtain ⟨y, h1, h2⟩ := h.each e he; exact ⟨y, by omega, h2⟩, h.first⟩

/-- a round that is being gone along: k steps from d on -/
structure Chain (f : Nat → Nat) (m : Nat) (o : Nat → Int) (d c k at_ : Nat) (o' : Nat → Int) : Prop where
  here : at_ = it f k d
  was : ∀ j, j < k → o (it f j d) = -1
  now : ∀ x, x < m → (o' x = c ∧ ∃ j, j < k ∧ x = it f j d) ∨ (o' x = o x ∧ ∀ j, j < k → x ≠ it f j d)
  apart : ∀ i j, i < j → j < k → it f i d ≠ it f j d

section
variable {f : Nat → Nat} {m d c k at_ : Nat} {o o' : Nat → Int}
theorem Chain.start (f : Nat → Nat) (m : Nat) (o : Nat → Int) (d c : Nat) : Chain f m o d c 0 d o :=
  ⟨rfl, fun j h => by omega, fun x _ => .inr ⟨rfl, fun j h => by omega⟩, fun i j _ h => by omega⟩
theorem Chain.lt (h : Chain f m o d c k at_ o') (p : Perm f m) (hd : d < m) : at_ < m := by rw [h.here]; exact p.it_lt hd k
theorem Chain.step (h : Chain f m o d c k at_ o') (p : Perm f m) (hd : d < m) (P : Part f m d o c) (hn : o' at_ < 0) : Chain f m o d c (k + 1) (f at_) (upd o' at_ (c : Int)) := by
  have hlt := h.lt p hd
  have hk : o at_ = -1 ∧ ∀ j, j < k → at_ ≠ it f j d := by
    rcases h.now at_ hlt with ⟨e, _⟩ | ⟨e, q⟩
    · omega
    · refine ⟨?_, q⟩
      rcases P.some at_ hlt with e2 | e2
      · exact e2
      · omega
  refine ⟨by rw [h.here]; rfl, fun j hj => ?_, fun x hx => ?_, fun i j hij hj => ?_⟩
  · rcases Nat.lt_or_ge j k with q | q
    · exact h.was j q
    · rw [show j = k by omega, ← h.here]; exact hk.1
  · by_cases e : x = at_
    · subst e; rw [upd_same]; exact .inl ⟨rfl, k, by omega, h.here⟩
    · rw [upd_ne e]
      rcases h.now x hx with ⟨e2, j, hj, ej⟩ | ⟨e2, q⟩
      · exact .inl ⟨e2, j, by omega, ej⟩
      · refine .inr ⟨e2, fun j hj => ?_⟩
        rcases Nat.lt_or_ge j k with q2 | q2
        · exact q j q2
        · rw [show j = k by omega, ← h.here]; exact e
  · rcases Nat.lt_or_ge j k with q | q
    · exact h.apart i j hij q
    · rw [show j = k by omega, ← h.here]; exact (hk.2 i (by omega)).symm
theorem Chain.back (h : Chain f m o d c k at_ o') (p : Perm f m) (hd : d < m) (P : Part f m d o c) (h0 : o d = -1) (hn : 0 ≤ o' at_) : at_ = d ∧ 0 < k := by
  have hlt := h.lt p hd
  rcases h.now at_ hlt with ⟨e, j, hj, ej⟩ | ⟨e, q⟩
  · refine ⟨?_, by omega⟩
    rcases Nat.eq_zero_or_pos j with rfl | hj0
    · exact ej
    · exfalso
      obtain ⟨j', rfl⟩ : ∃ j', j = j' + 1 := ⟨j - 1, by omega⟩
      obtain ⟨k', rfl⟩ : ∃ k', k = k' + 1 := ⟨k - 1, by omega⟩
      have e1 : f (it f j' d) = f (it f k' d) := by rw [h.here] at ej; exact ej.symm
      exact h.apart j' k' (by omega) (by omega) (p.inj _ _ (p.it_lt hd _) (p.it_lt hd _) e1)
  · exfalso
    rcases Nat.eq_zero_or_pos k with rfl | hk
    · have : at_ = d := h.here
      rw [this] at e hn; omega
    · obtain ⟨k', rfl⟩ : ∃ k', k = k' + 1 := ⟨k - 1, by omega⟩
      have e1 : at_ = f (it f k' d) := h.here
      have := P.bwd (it f k' d) (p.it_lt hd _) (by rw [← e1]; omega)
      have := h.was k' (by omega)
      omega
theorem Chain.done (h : Chain f m o d c k at_ o') (p : Perm f m) (hd : d < m) (P : Part f m d o c) (h0 : o d = -1) (hn : 0 ≤ o' at_) : Part f m (d + 1) o' (c + 1) := by
  obtain ⟨hat, hk⟩ := h.back p hd P h0 hn
  have hk0 : it f k d = d := by rw [← h.here]; exact hat
  have inC : ∀ j, j < k → o' (it f j d) = c := fun j hj => by
    rcases h.now _ (p.it_lt hd j) with ⟨e, _⟩ | ⟨_, q⟩
    · exact e
    · exact absurd rfl (q j hj)
  have old : ∀ x, x < m → 0 ≤ o x → o' x = o x := fun x hx hp => by
    rcases h.now x hx with ⟨_, j, hj, ej⟩ | ⟨e, _⟩
    · have := h.was j hj; rw [← ej] at this; omega
    · exact e
  have nxt : ∀ j, j < k → ∃ i, i < k ∧ f (it f j d) = it f i d := fun j hj => by
    rcases Nat.lt_or_ge (j + 1) k with q | q
    · exact ⟨j + 1, q, rfl⟩
    · refine ⟨0, hk, ?_⟩
      show it f (j + 1) d = d
      rw [show j + 1 = k by omega]; exact hk0
  have prv : ∀ j, j < k → ∃ i, i < k ∧ f (it f i d) = it f j d := fun j hj => by
    rcases Nat.eq_zero_or_pos j with rfl | q
    · refine ⟨k - 1, by omega, ?_⟩
      show it f (k - 1 + 1) d = d
      rw [show k - 1 + 1 = k by omega]; exact hk0
    · refine ⟨j - 1, by omega, ?_⟩
      show it f (j - 1 + 1) d = _
      rw [show j - 1 + 1 = j by omega]
  have inCh : ∀ x, x < m → o' x = c → ∃ j, j < k ∧ x = it f j d := fun x hx e => by
    rcases h.now x hx with ⟨_, q⟩ | ⟨e2, _⟩
    · exact q
    · rcases P.some x hx with q | q <;> omega
  have notC : ∀ x, x < m → 0 ≤ o' x → o' x ≠ c → 0 ≤ o x ∧ o' x = o x := fun x hx hp hc => by
    rcases h.now x hx with ⟨e, _⟩ | ⟨e, _⟩
    · exact absurd e hc
    · exact ⟨by omega, e⟩
  refine ⟨fun x hx => ?_, fun x hx hm => ?_, fun x hx hp => ?_, fun x hx hp => ?_, fun x y hx hy hp e => ?_, fun e he => ?_, fun x hx e he => ?_⟩
  · rcases h.now x hx with ⟨e, _⟩ | ⟨e, _⟩
    · right; omega
    · rcases P.some x hx with q | q
      · left; omega
      · right; omega
  · rcases Nat.lt_or_ge x d with q | q
    · have := P.done x q hm; rw [old x hm this]; exact this
    · rw [show x = d by omega]; have := inC 0 hk; rw [show it f 0 d = d from rfl] at this; omega
  · by_cases hc : o' x = c
    · obtain ⟨j, hj, rfl⟩ := inCh x hx hc
      obtain ⟨i, hi, e⟩ := nxt j hj
      rw [e, inC i hi, hc]
    · obtain ⟨h1, h2⟩ := notC x hx hp hc
      have h3 := P.fwd x hx h1
      rw [old (f x) (p.lt x hx) (by omega), h2, h3]
  · by_cases hc : o' (f x) = c
    · obtain ⟨j, hj, e⟩ := inCh (f x) (p.lt x hx) hc
      obtain ⟨i, hi, e2⟩ := prv j hj
      have := p.inj x _ hx (p.it_lt hd i) (e.trans e2.symm)
      rw [this, inC i hi]; omega
    · obtain ⟨h1, h2⟩ := notC (f x) (p.lt x hx) hp hc
      have h3 := P.bwd x hx h1
      rw [old x hx h3]; exact h3
  · by_cases hc : o' x = c
    · obtain ⟨i, hi, rfl⟩ := inCh x hx hc
      obtain ⟨j, hj, rfl⟩ := inCh y hy (by omega)
      refine ⟨j + (k - i), ?_⟩
      rw [it_add, ← it_add f d (k - i) i, show k - i + i = k by omega, hk0]
    · obtain ⟨h1, h2⟩ := notC x hx hp hc
      obtain ⟨h3, h4⟩ := notC y hy (by omega) (by omega)
      exact P.one x y hx hy h1 (by omega)
  · rcases Nat.lt_or_ge e c with q | q
    · obtain ⟨y, h1, h2, h3⟩ := P.each e q
      exact ⟨y, by omega, h2, by rw [old y h2 (by omega)]; exact h3⟩
    · refine ⟨d, by omega, hd, ?_⟩
      have := inC 0 hk; rw [show it f 0 d = d from rfl] at this; omega
  · by_cases hc : o' x = c
    · obtain ⟨j, hj, ej⟩ := inCh x hx hc
      have hxd : d ≤ x := by
        rcases Nat.lt_or_ge x d with q | q
        · have := P.done x q hx
          have := h.was j hj
          rw [← ej] at this; omega
        · exact q
      obtain ⟨y, h1, h2, h3⟩ := P.each e (by omega)
      exact ⟨y, by omega, by rw [old y h2 (by omega)]; exact h3⟩
    · obtain ⟨h1, h2⟩ := notC x hx (by omega) hc
      obtain ⟨y, h3, h4⟩ := P.first x hx e (by omega)
      exact ⟨y, h3, by rw [old y (by omega) (by omega)]; exact h4⟩
end

/-- the rounds, numbered: there is but one such numbering -/
structure Orb (f : Nat → Nat) (m : Nat) (o : Nat → Int) (c : Nat) : Prop where
  lo : ∀ x, x < m → 0 ≤ o x ∧ o x < c
  fwd : ∀ x, x < m → o (f x) = o x
  one : ∀ x y, x < m → y < m → o x = o y → ∃ k, it f k x = y
  each : ∀ e : Nat, e < c → ∃ y, y < m ∧ o y = e
  first : ∀ x, x < m → ∀ e : Nat, (e : Int) < o x → ∃ y, y < x ∧ o y = e
theorem Part.orb {f : Nat → Nat} {m c : Nat} {o : Nat → Int} (h : Part f m m o c) : Orb f m o c :=
  ⟨fun x hx => by
    have := h.done x hx hx
    rcases h.some x hx with q | q
    · omega
    · exact q, fun x hx => h.fwd x hx (h.done x hx hx), fun x y hx hy e => h.one x y hx hy (h.done x hx hx) e, fun e he => by obtain ⟨y, _, h2⟩ := h.each e he; exact ⟨y, h2⟩, h.first⟩
theorem Orb.it {f : Nat → Nat} {m c : Nat} {o : Nat → Int} (h : Orb f m o c) (p : Perm f m) {x : Nat} (hx : x < m) : ∀ k, o (it f k x) = o x
  | 0 => rfl
  | k + 1 => (h.fwd _ (p.it_lt hx k)).trans (Orb.it h p hx k)
theorem Orb.same {f : Nat → Nat} {m c c' : Nat} {o o' : Nat → Int} (h : Orb f m o c) (h' : Orb f m o' c') (p : Perm f m) : ∀ n x, x < n → x < m → o x = o' x
  | 0, x, hx, _ => by omega
  | n + 1, x, hx, hm => by
    have ih := Orb.same h h' p n
    have ker : ∀ y, y < m → (o x = o y ↔ o' x = o' y) := fun y hy => ⟨fun e => by
      obtain ⟨k, e2⟩ := h.one x y hm hy e; rw [← e2, h'.it p hm], fun e => by
      obtain ⟨k, e2⟩ := h'.one x y hm hy e; rw [← e2, h.it p hm]⟩
    have l1 := h.lo x hm
    have l2 := h'.lo x hm
    rcases Int.lt_trichotomy (o x) (o' x) with q | q | q
    · obtain ⟨y, h1, h2⟩ := h'.first x hm (o x).toNat (by omega)
      have e1 := ih y (by omega) (by omega)
      have := (ker y (by omega)).1 (by omega)
      omega
    · exact q
    · obtain ⟨y, h1, h2⟩ := h.first x hm (o' x).toNat (by omega)
      have e1 := ih y (by omega) (by omega)
      have := (ker y (by omega)).2 (by omega)
      omega
theorem Orb.count {f : Nat → Nat} {m c c' : Nat} {o o' : Nat → Int} (h : Orb f m o c) (h' : Orb f m o' c') (p : Perm f m) : c = c' := by
  have e := fun x hx => h.same h' p m x hx hx
  rcases Nat.lt_trichotomy c c' with q | q | q
  · obtain ⟨y, h1, h2⟩ := h'.each c q
    have := (h.lo y h1).2; have := e y h1; omega
  · exact q
  · obtain ⟨y, h1, h2⟩ := h.each c' q
    have := (h'.lo y h1).2; have := e y h1; omega

/-- how many of a row are below 0 -/
def neg (o : Nat → Int) : Nat → Nat
  | 0 => 0
  | m + 1 => neg o m + if o m < 0 then 1 else 0
theorem neg_far {o : Nat → Int} {a : Nat} {u : Int} : ∀ {m}, m ≤ a → neg (upd o a u) m = neg o m
  | 0, _ => rfl
  | m + 1, h => by
    unfold neg
    rw [neg_far (m := m) (by omega), upd_ne (by omega)]
theorem neg_upd {o : Nat → Int} {a : Nat} {u : Int} (hu : 0 ≤ u) (ha : o a < 0) : ∀ {m}, a < m → neg (upd o a u) m + 1 = neg o m
  | 0, h => by omega
  | m + 1, h => by
    unfold neg
    by_cases e : a = m
    · subst e
      rw [neg_far (Nat.le_refl _), upd_same, if_neg (by omega), if_pos ha]
    · have := neg_upd (m := m) hu ha (by omega)
      rw [upd_ne (by omega)]; omega
end Go.Proofs.Ytcdlnohnkdalbaa.Ro
namespace Go.Proofs.Ytcdlnohnkdalbaa.Ro
open Go.RowKit Go.Proofs
set_option linter.unusedVariables false
set_option maxRecDepth 100000
set_option linter.unusedSimpArgs false

set_option maxHeartbeats 3200000 in
theorem orbits_behind (w : World) (p : Nat) (N : Int) (T X C : Value) (m : Nat) (x : Nat → Int) (hb : Box w p N T X C) (hx : Rd w X m x) (hm : m ≤ 999) (hev : m % 2 = 0) (f : Nat → Nat) (hf : ∀ d, d < m → x (oth d) = (f d : Int)) (pf : Perm f m) :
    Calls Try.prog 65 #[.int .i64 (m : Int), .func (.func 81) #[] #[.pointer (some ⟨p, 0, none⟩)]] w
      fun e w' => ∃ v o c, e = .returned (.tuple #[v, .int .i64 ((c : Nat) : Int), .bool true]) ∧ Ow w' v m o ∧ (∀ k, v.ownBlock = some k → w.heap.size ≤ k) ∧ Orb f m o c ∧ Below w.heap.size w w' := by
  go_enter Try.func65, Try.ntmps65
  go_wp2_with fail
  go_step3
  go_wp2_with fail
  have c0 : (w.alloc (.cells #[.int .i64 (-1)] 3)).cell? ⟨w.heap.size, 0, none⟩ = some (.int .i64 (-1)) := by rw [blk_cell (heap_alloc_new w _)]; rfl
  refine (repeat_any _ w.heap.size m (by omega) c0 (by simp)).mono ?_
  rintro e w2 ⟨cap, rfl, O2, b2⟩
  have B2 : Below w.heap.size w w2 := ((Below.refl _ w).alloc (Nat.le_refl _) _).trans (b2.mono (by simp))
  clear b2 c0
  go_wp2_with fail
  have hsz : (w.alloc (.cells #[.int .i64 (-1)] 3)).heap.size = w.heap.size + 1 := by simp
  rw [hsz] at O2
  clear hsz
  have hbB : w.heap.size ≤ w.heap.size + 1 := by omega
  generalize w.heap.size + 1 = b at *
  go_step3
  go_wp2_with fail
  go_loopw [8, 15] (fun u v wr => ∃ (i c : Nat) (o : Nat → Int), u = .int .i64 (c : Int) ∧ v = .int .i64 (i : Int) ∧ i ≤ m ∧ c ≤ i ∧ Part f m i o c ∧ Ow wr (.slice (some ⟨b, 0, none⟩) m cap) m o ∧ Below w.heap.size w wr) (fun _ v _ => m - (intOf v).toNat)
  case atStart => exact ⟨0, 0, _, rfl, rfl, Nat.zero_le _, Nat.le_refl _, Part.start f m, O2, B2⟩
  case round =>
    clear O2 B2
    obtain ⟨i, c, o, rfl, rfl, hi, hci, P, O, B⟩ := hrel
    by_cases hlt : i < m
    · have d1 : (i : Int) < (m : Int) := by omega
      have co := O.cell hlt
      rcases P.some i hlt with h0 | ⟨h0, h1⟩
      · rw [h0] at co
        go_wp2_with fail
        clear co
        go_loopg [10] (neg o m) (fun n u wr => ∃ (k a : Nat) (o' : Nat → Int), u = .int .i64 (a : Int) ∧ neg o' m = n ∧ Chain f m o i c k a o' ∧ Ow wr (.slice (some ⟨b, 0, none⟩) m cap) m o' ∧ Below w.heap.size w wr)
        case atStart => exact ⟨0, i, o, rfl, rfl, Chain.start f m o i c, O, B⟩
        case round =>
          clear O B
          obtain ⟨k, a, o', rfl, hn, Ch, O, B⟩ := hrel
          have hl := Ch.lt pf hlt
          have d2 : (a : Int) < (m : Int) := by omega
          have co := O.cell hl
          have zf := O.frozen a
          by_cases hneg : o' a < 0
          · have d3 : decide (o' a < 0) = true := by simp [hneg]
            have O3 := O.set hl (c : Int)
            have B3 := B.setCell (p := ⟨b, a, none⟩) hbB (.int .i64 (c : Int))
            have Ch3 := Lib.hid (Ch.step pf hlt P hneg)
            have hm3 := neg_upd (o := o') (a := a) (u := (c : Int)) (by omega) hneg hl
            have HN := Lib.hid hneg
            clear O B Ch hneg
            go_wp2_with fail
            generalize wr.setCell ⟨b, a, none⟩ (.int .i64 (c : Int)) = w4 at *
            refine (behind1_any _ p N T X C m x (hb.below B3 (Nat.le_refl _)) (hx.below B3 (Nat.le_refl _)) a (by omega) (oth_lt hl hev)).mono ?_
            rintro e w5 ⟨rfl, b5⟩
            have hfa := hf a hl
            rw [hfa]
            have O5 := O3.below b5 (Nat.le_refl _)
            have B5 := B3.trans (b5.mono B3.size)
            clear O3 B3 b5 co zf hfa
            go_wp2_with fail
            go_roundg (neg (upd o' a (c : Int)) m)
            case measure => omega
            case rel => exact ⟨k + 1, f a, _, rfl, rfl, Ch3.out, O5, B5⟩
          · have d3 : decide (o' a < 0) = false := by simp [hneg]
            have d4 : ¬ (o' a < 0) := hneg
            obtain ⟨e1, _⟩ := Ch.back pf hlt P h0 (by omega)
            have P5 := Lib.hid (Ch.done pf hlt P h0 (by omega))
            subst e1
            have ln : (c : Int) < 9223372036854775807 := by omega
            clear Ch P hneg
            go_wp2_with fail
            go_roundw
            case rel => exact ⟨a + 1, c + 1, o', by simp, by simp, by omega, by omega, P5.out, O, B⟩
            case measure => simp [intOf]; omega
      · have d2 : decide (o i ≥ 0) = true := by simp [h0]
        have P' := Lib.hid (P.skip h0)
        clear P
        go_wp2_with fail
        go_roundw
        case rel => exact ⟨i + 1, c, o, rfl, by simp, by omega, by omega, P'.out, O, B⟩
        case measure => simp [intOf]; omega
    · have d1 : ¬ ((i : Int) < (m : Int)) := by omega
      obtain rfl : i = m := by omega
      go_wp2
      go_ret3
      exact ⟨_, o, c, rfl, O, fun k hk => by simp [Value.ownBlock] at hk; omega, P.orb, B⟩
end Go.Proofs.Ytcdlnohnkdalbaa.Ro
namespace Go.Proofs.Ytcdlnohnkdalbaa.Ro
open Go.RowKit Go.Proofs
set_option linter.unusedVariables false
set_option maxRecDepth 100000
set_option linter.unusedSimpArgs false

structure Good (N m : Nat) (t x : Nat → Int) : Prop where
  one : 1 ≤ N
  most : N ≤ 60
  few : m ≤ 240
  even : m % 2 = 0
  next : ∀ d, d < m → 0 ≤ x d ∧ x d < m
  tail : ∀ d, d < m → 0 ≤ t d ∧ t d < N

set_option maxHeartbeats 3200000 in
theorem shape_ok (w : World) (N : Nat) (T X C : Value) (m : Nat) (t x c : Nat → Int) (hT : Rd w T m t) (hX : Rd w X m x) (hC : Rd w C m c) (g : Good N m t x) :
    Calls Try.prog 51 #[.agg #[.int .i64 (N : Int), T, X, C]] w fun e w' => e = .returned (.int .i64 0) ∧ Below w.heap.size w w' := by
  obtain ⟨A1, cap1, rfl, r1⟩ := hT
  obtain ⟨A2, cap2, rfl, r2⟩ := hX
  obtain ⟨A3, cap3, rfl, r3⟩ := hC
  obtain ⟨n1, n2, m1, m2, hx, ht⟩ := g
  have q1 : ¬ ((N : Int) > 60) := by omega
  have q2 : ¬ ((m : Int) > 240) := by omega
  have q3 : ((m : Int) % 2) = 0 := by omega
  have q5 : ¬ ((N : Int) < 1) := by omega
  go_enter Try.func51, Try.ntmps51
  go_wp2_with fail
  have B2 : Below w.heap.size w (w.alloc (.cells #[.int .i64 (N : Int), .slice A1 m cap1, .slice A2 m cap2, .slice A3 m cap3] 25)) := (Below.refl _ w).alloc (Nat.le_refl _) _
  have X2 : Box (w.alloc (.cells #[.int .i64 (N : Int), .slice A1 m cap1, .slice A2 m cap2, .slice A3 m cap3] 25)) w.heap.size N (.slice A1 m cap1) (.slice A2 m cap2) (.slice A3 m cap3) := heap_alloc_new _ _
  generalize (w.alloc (.cells #[.int .i64 (N : Int), .slice A1 m cap1, .slice A2 m cap2, .slice A3 m cap3] 25)) = w2 at *
  obtain ⟨p, hp⟩ : ∃ p, p = w.heap.size := ⟨_, rfl⟩
  rw [← hp] at X2 ⊢
  clear hp
  go_loopw [40] (fun u wr => ∃ i : Nat, u = .int .i64 (i : Int) ∧ i ≤ m ∧ Box wr p N (.slice A1 m cap1) (.slice A2 m cap2) (.slice A3 m cap3) ∧ Below w.heap.size w wr) (fun u _ => m - (intOf u).toNat)
  case atStart => exact ⟨0, rfl, Nat.zero_le _, X2, B2⟩
  case round =>
    clear X2 B2
    obtain ⟨i, rfl, hi, X, B⟩ := hrel
    by_cases hlt : i < m
    · obtain ⟨y, rfl, hy, hc⟩ := r2 (by omega)
      have cr : wr.cell? (y.add i) = some (.int .i64 (x i)) := (B.cell (by rw [block_add]; exact hy)).trans (hc i hlt)
      have d1 : (i : Int) < (m : Int) := by omega
      obtain ⟨e1, e2⟩ := hx i hlt
      have d2 : ¬ (x i < 0) := by omega
      have d3 : ¬ (x i ≥ (m : Int)) := by omega
      clear hc r1 r2 r3
      go_wp2_with fail
      go_roundw
      case rel => exact ⟨i + 1, by simp, by omega, X, B⟩
      case measure => simp [intOf]; omega
    · have d1 : ¬ ((i : Int) < (m : Int)) := by omega
      have c0 : wr.cell? ⟨p, 0, none⟩ = some (.int .i64 (N : Int)) := blk_cell X 0
      have c1 : wr.cell? ⟨p, 1, none⟩ = some (.slice A1 m cap1) := blk_cell X 1
      go_wp2_with fail
      clear c0 c1 d1 hlt hi hx r2 r3
      go_loopw [58] (fun u wr => ∃ i : Nat, u = .int .i64 (i : Int) ∧ i ≤ m ∧ Box wr p N (.slice A1 m cap1) (.slice A2 m cap2) (.slice A3 m cap3) ∧ Below w.heap.size w wr) (fun u _ => m - (intOf u).toNat)
      case atStart => exact ⟨0, rfl, Nat.zero_le _, X, B⟩
      case round =>
        clear X B
        obtain ⟨i, rfl, hi, X, B⟩ := hrel
        by_cases hlt : i < m
        · obtain ⟨y, rfl, hy, hc⟩ := r1 (by omega)
          have cr : wr.cell? (y.add i) = some (.int .i64 (t i)) := (B.cell (by rw [block_add]; exact hy)).trans (hc i hlt)
          have c0 : wr.cell? ⟨p, 0, none⟩ = some (.int .i64 (N : Int)) := blk_cell X 0
          have d1 : (i : Int) < (m : Int) := by omega
          obtain ⟨e1, e2⟩ := ht i hlt
          have d2 : ¬ (t i < 0) := by omega
          have d3 : ¬ (t i ≥ (N : Int)) := by omega
          clear hc r1
          go_wp2_with fail
          go_roundw
          case rel => exact ⟨i + 1, by simp, by omega, X, B⟩
          case measure => simp [intOf]; omega
        · have d1 : ¬ ((i : Int) < (m : Int)) := by omega
          clear r1
          go_wp2
          go_ret
          exact ⟨rfl, B⟩

theorem fine_ok (w : World) (N : Nat) (T X C : Value) (m : Nat) (t x c : Nat → Int) (hT : Rd w T m t) (hX : Rd w X m x) (hC : Rd w C m c) (g : Good N m t x) :
    Calls Try.prog 68 #[.agg #[.int .i64 (N : Int), T, X, C]] w fun e w' => e = .returned (.bool true) ∧ Below w.heap.size w w' := by
  go_enter Try.func68, Try.ntmps68
  go_wp2_with fail
  have B2 : Below w.heap.size w (w.alloc (.cells #[.int .i64 (N : Int), T, X, C] 25)) := (Below.refl _ w).alloc (Nat.le_refl _) _
  refine (shape_ok _ N T X C m t x c (hT.below B2 (Nat.le_refl _)) (hX.below B2 (Nat.le_refl _)) (hC.below B2 (Nat.le_refl _)) g).mono ?_
  rintro e w3 ⟨rfl, b3⟩
  have B3 := B2.trans (b3.mono B2.size)
  go_wp2_with fail
  go_ret
  exact ⟨rfl, B3⟩
end Go.Proofs.Ytcdlnohnkdalbaa.Ro
namespace Go.Proofs.Ytcdlnohnkdalbaa.Ro
open Go.RowKit Go.Proofs
set_option linter.unusedVariables false
set_option maxRecDepth 100000
set_option linter.unusedSimpArgs false

theorem behind_any (w : World) (N : Int) (T X C : Value) :
    Calls Try.prog 70 #[.agg #[.int .i64 N, T, X, C]] w fun e w' => e = .returned (.func (.func 81) #[] #[.pointer (some ⟨w.heap.size, 0, none⟩)]) ∧ w.alloc (.cells #[.int .i64 N, T, X, C] 25) = w' := by
  have hmf : ∀ (fn : Fn) (first cap : Array Value) (w : World), (Instr.makeFunc fn first cap).run Try.prog w = .ok (.func fn first cap) w := fun _ _ _ _ => rfl
  go_enter Try.func70, Try.ntmps70
  go_wp2_with fail
  go_ret
  exact ⟨rfl, rfl⟩

/-- the dart behind one, about its face -/
def bh (x : Nat → Int) (d : Nat) : Nat := (x (oth d)).toNat

set_option maxHeartbeats 3200000 in
theorem faces_ok (w : World) (N : Nat) (T X C : Value) (m : Nat) (t x c : Nat → Int) (hT : Rd w T m t) (hX : Rd w X m x) (hC : Rd w C m c) (g : Good N m t x) (pf : Perm (bh x) m) :
    Calls Try.prog 54 #[.agg #[.int .i64 (N : Int), T, X, C]] w
      fun e w' => ∃ v o k, e = .returned (.tuple #[v, .int .i64 ((max k 1 : Nat) : Int)]) ∧ Ow w' v m o ∧ (∀ k, v.ownBlock = some k → w.heap.size ≤ k) ∧ Orb (bh x) m o k ∧ Below w.heap.size w w' := by
  have hv : ∀ d, d < m → x (oth d) = (bh x d : Int) := fun d hd => by
    have := g.next (oth d) (oth_lt hd g.even)
    unfold bh; omega
  have hT' := hT
  obtain ⟨A1, cap1, rfl, r1⟩ := hT
  clear r1
  go_enter Try.func54, Try.ntmps54
  go_wp2_with fail
  have B2 : Below w.heap.size w (w.alloc (.cells #[.int .i64 (N : Int), .slice A1 m cap1, X, C] 25)) := (Below.refl _ w).alloc (Nat.le_refl _) _
  have X2 : Box (w.alloc (.cells #[.int .i64 (N : Int), .slice A1 m cap1, X, C] 25)) w.heap.size N (.slice A1 m cap1) X C := heap_alloc_new _ _
  generalize (w.alloc (.cells #[.int .i64 (N : Int), .slice A1 m cap1, X, C] 25)) = w2 at *
  refine (fine_ok _ N _ X C m t x c (hT'.below B2 (Nat.le_refl _)) (hX.below B2 (Nat.le_refl _)) (hC.below B2 (Nat.le_refl _)) g).mono ?_
  rintro e w3 ⟨rfl, b3⟩
  have B3 := B2.trans (b3.mono B2.size)
  have X3 := X2.below b3 (Nat.le_refl _)
  clear B2 X2 b3
  obtain ⟨p, hp⟩ : ∃ p, p = w.heap.size := ⟨_, rfl⟩
  rw [← hp] at X3 ⊢
  have pl := blk_lt X3
  have c0 : w3.cell? ⟨p, 0, none⟩ = some (.int .i64 (N : Int)) := blk_cell X3 0
  have c1 : w3.cell? ⟨p, 1, none⟩ = some (.slice A1 m cap1) := blk_cell X3 1
  have c2 : w3.cell? ⟨p, 2, none⟩ = some X := blk_cell X3 2
  have c3 : w3.cell? ⟨p, 3, none⟩ = some C := blk_cell X3 3
  rw [hp]
  rw [hp] at c0 c1 c2 c3 pl X3
  clear hp
  go_upto_region 3 with fail
  have Bx : Box (w3.alloc (.cells #[.int .i64 (N : Int), .slice A1 m cap1, X, C] 25)).drew w3.heap.size N (.slice A1 m cap1) X C := heap_alloc_new w3 _
  have b5 : Below w3.heap.size w3 (w3.alloc (.cells #[.int .i64 (N : Int), .slice A1 m cap1, X, C] 25)).drew := ((Below.refl _ w3).alloc (Nat.le_refl _) _).drew
  have hX5 : Rd (w3.alloc (.cells #[.int .i64 (N : Int), .slice A1 m cap1, X, C] 25)).drew X m x := (hX.below B3 (Nat.le_refl _)).below b5 (Nat.le_refl _)
  have hm : m ≤ 999 := by have := g.few; omega
  have B5 := B3.trans (b5.mono B3.size)
  go_region_with (first | (refine (behind_any _ _ _ _ _).mono ?_; rintro e w5 ⟨rfl, rfl⟩) | (refine (orbits_behind _ _ _ _ _ _ m x Bx hX5 hm g.even (bh x) hv pf).mono ?_; rintro e w6 ⟨v, o, k, rfl, O6, n6, R6, b6⟩))
  all_goals
    go_simp
    go_wp2_with fail
    all_goals
      go_ret2
      refine ⟨v, o, k, ?_, O6, fun j hj => Nat.le_trans B5.size (n6 j hj), R6, B5.trans (b6.mono B5.size)⟩
      simp
      omega

/-- the next dart about a vertex -/
def ab (x : Nat → Int) (d : Nat) : Nat := (x d).toNat
end Go.Proofs.Ytcdlnohnkdalbaa.Ro
namespace Go.Proofs.Ytcdlnohnkdalbaa.Ro
open Go.RowKit Go.Proofs Go.Maps
set_option linter.unusedVariables false
set_option maxRecDepth 100000
set_option linter.unusedSimpArgs false

theorem turns1_any (w : World) (p : Nat) (N : Int) (T X C : Value) (m : Nat) (x : Nat → Int) (hb : Box w p N T X C) (hx : Rd w X m x) (d : Nat) (hd : d < m) :
    Calls Try.prog 66 #[.int .i64 (d : Int), .pointer (some ⟨p, 0, none⟩)] w fun e w' => e = .returned (.int .i64 (x d)) ∧ Below w.heap.size w w' := by
  obtain ⟨A, cap, rfl, r⟩ := hx
  obtain ⟨y, rfl, hy, hc⟩ := r (by omega)
  have c2 : w.cell? ⟨p, 2, none⟩ = some (.slice (some y) m cap) := blk_cell hb 2
  have cx := hc d hd
  have d1 : (d : Int) < (m : Int) := by omega
  clear hc r hb
  go_enter Try.func66, Try.ntmps66
  go_wp2_with fail
  go_ret
  exact ⟨rfl, Below.refl _ _⟩
end Go.Proofs.Ytcdlnohnkdalbaa.Ro
namespace Go.Proofs.Ytcdlnohnkdalbaa.Ro
open Go.RowKit Go.Proofs
set_option linter.unusedVariables false
set_option maxRecDepth 100000
set_option linter.unusedSimpArgs false

set_option maxHeartbeats 3200000 in
theorem orbits_turns (w : World) (p : Nat) (N : Int) (T X C : Value) (m : Nat) (x : Nat → Int) (hb : Box w p N T X C) (hx : Rd w X m x) (hm : m ≤ 999) (hev : m % 2 = 0) (f : Nat → Nat) (hf : ∀ d, d < m → x d = (f d : Int)) (pf : Perm f m) :
    Calls Try.prog 65 #[.int .i64 (m : Int), .func (.func 66) #[] #[.pointer (some ⟨p, 0, none⟩)]] w
      fun e w' => ∃ v o c, e = .returned (.tuple #[v, .int .i64 ((c : Nat) : Int), .bool true]) ∧ Ow w' v m o ∧ (∀ k, v.ownBlock = some k → w.heap.size ≤ k) ∧ Orb f m o c ∧ Below w.heap.size w w' := by
  go_enter Try.func65, Try.ntmps65
  go_wp2_with fail
  go_step3
  go_wp2_with fail
  have c0 : (w.alloc (.cells #[.int .i64 (-1)] 3)).cell? ⟨w.heap.size, 0, none⟩ = some (.int .i64 (-1)) := by rw [blk_cell (heap_alloc_new w _)]; rfl
  refine (repeat_any _ w.heap.size m (by omega) c0 (by simp)).mono ?_
  rintro e w2 ⟨cap, rfl, O2, b2⟩
  have B2 : Below w.heap.size w w2 := ((Below.refl _ w).alloc (Nat.le_refl _) _).trans (b2.mono (by simp))
  clear b2 c0
  go_wp2_with fail
  have hsz : (w.alloc (.cells #[.int .i64 (-1)] 3)).heap.size = w.heap.size + 1 := by simp
  rw [hsz] at O2
  clear hsz
  have hbB : w.heap.size ≤ w.heap.size + 1 := by omega
  generalize w.heap.size + 1 = b at *
  go_step3
  go_wp2_with fail
  go_loopw [8, 15] (fun u v wr => ∃ (i c : Nat) (o : Nat → Int), u = .int .i64 (c : Int) ∧ v = .int .i64 (i : Int) ∧ i ≤ m ∧ c ≤ i ∧ Part f m i o c ∧ Ow wr (.slice (some ⟨b, 0, none⟩) m cap) m o ∧ Below w.heap.size w wr) (fun _ v _ => m - (intOf v).toNat)
  case atStart => exact ⟨0, 0, _, rfl, rfl, Nat.zero_le _, Nat.le_refl _, Part.start f m, O2, B2⟩
  case round =>
    clear O2 B2
    obtain ⟨i, c, o, rfl, rfl, hi, hci, P, O, B⟩ := hrel
    by_cases hlt : i < m
    · have d1 : (i : Int) < (m : Int) := by omega
      have co := O.cell hlt
      rcases P.some i hlt with h0 | ⟨h0, h1⟩
      · rw [h0] at co
        go_wp2_with fail
        clear co
        go_loopg [10] (neg o m) (fun n u wr => ∃ (k a : Nat) (o' : Nat → Int), u = .int .i64 (a : Int) ∧ neg o' m = n ∧ Chain f m o i c k a o' ∧ Ow wr (.slice (some ⟨b, 0, none⟩) m cap) m o' ∧ Below w.heap.size w wr)
        case atStart => exact ⟨0, i, o, rfl, rfl, Chain.start f m o i c, O, B⟩
        case round =>
          clear O B
          obtain ⟨k, a, o', rfl, hn, Ch, O, B⟩ := hrel
          have hl := Ch.lt pf hlt
          have d2 : (a : Int) < (m : Int) := by omega
          have co := O.cell hl
          have zf := O.frozen a
          by_cases hneg : o' a < 0
          · have d3 : decide (o' a < 0) = true := by simp [hneg]
            have O3 := O.set hl (c : Int)
            have B3 := B.setCell (p := ⟨b, a, none⟩) hbB (.int .i64 (c : Int))
            have Ch3 := Lib.hid (Ch.step pf hlt P hneg)
            have hm3 := neg_upd (o := o') (a := a) (u := (c : Int)) (by omega) hneg hl
            have HN := Lib.hid hneg
            clear O B Ch hneg
            go_wp2_with fail
            generalize wr.setCell ⟨b, a, none⟩ (.int .i64 (c : Int)) = w4 at *
            refine (turns1_any _ p N T X C m x (hb.below B3 (Nat.le_refl _)) (hx.below B3 (Nat.le_refl _)) a hl).mono ?_
            rintro e w5 ⟨rfl, b5⟩
            have hfa := hf a hl
            rw [hfa]
            have O5 := O3.below b5 (Nat.le_refl _)
            have B5 := B3.trans (b5.mono B3.size)
            clear O3 B3 b5 co zf hfa
            go_wp2_with fail
            go_roundg (neg (upd o' a (c : Int)) m)
            case measure => omega
            case rel => exact ⟨k + 1, f a, _, rfl, rfl, Ch3.out, O5, B5⟩
          · have d3 : decide (o' a < 0) = false := by simp [hneg]
            have d4 : ¬ (o' a < 0) := hneg
            obtain ⟨e1, _⟩ := Ch.back pf hlt P h0 (by omega)
            have P5 := Lib.hid (Ch.done pf hlt P h0 (by omega))
            subst e1
            have ln : (c : Int) < 9223372036854775807 := by omega
            clear Ch P hneg
            go_wp2_with fail
            go_roundw
            case rel => exact ⟨a + 1, c + 1, o', by simp, by simp, by omega, by omega, P5.out, O, B⟩
            case measure => simp [intOf]; omega
      · have d2 : decide (o i ≥ 0) = true := by simp [h0]
        have P' := Lib.hid (P.skip h0)
        clear P
        go_wp2_with fail
        go_roundw
        case rel => exact ⟨i + 1, c, o, rfl, by simp, by omega, by omega, P'.out, O, B⟩
        case measure => simp [intOf]; omega
    · have d1 : ¬ ((i : Int) < (m : Int)) := by omega
      obtain rfl : i = m := by omega
      go_wp2
      go_ret3
      exact ⟨_, o, c, rfl, O, fun k hk => by simp [Value.ownBlock] at hk; omega, P.orb, B⟩
end Go.Proofs.Ytcdlnohnkdalbaa.Ro
