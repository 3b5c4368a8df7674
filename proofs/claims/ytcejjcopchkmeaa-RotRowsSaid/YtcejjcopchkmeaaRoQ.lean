/- Plain laws: the pieces of a net, numbered by their least vertices. -/
import Derived.Test.YtcejjcopchkmeaaRoR
namespace Go.Proofs.Ytcejjcopchkmeaa.Ro
set_option linter.unusedVariables false
set_option maxRecDepth 100000
set_option linter.unusedSimpArgs false

/-- darts lead from the one to the other (tl: where a dart begins) -/
inductive Conn (m : Nat) (tl : Nat → Nat) (a : Nat) : Nat → Prop
  | refl : Conn m tl a a
  | step {d : Nat} : d < m → Conn m tl a (tl d) → Conn m tl a (tl (oth d))
theorem Conn.trans {m : Nat} {tl : Nat → Nat} {a b c : Nat} (h : Conn m tl a b) (k : Conn m tl b c) : Conn m tl a c := by
  induction k with
  | refl => exact h
  | step hd _ ih => exact .step hd ih
theorem Conn.one {m : Nat} {tl : Nat → Nat} {d : Nat} (hd : d < m) : Conn m tl (tl d) (tl (oth d)) := .step hd .refl
theorem Conn.symm {m : Nat} {tl : Nat → Nat} {a b : Nat} (he : m % 2 = 0) (h : Conn m tl a b) : Conn m tl b a := by
  induction h with
  | refl => exact .refl
  | @step d hd _ ih =>
    have := Conn.one (m := m) (tl := tl) (oth_lt hd he)
    rw [oth_oth] at this
    exact this.trans ih

/-- the pieces, numbered -/
structure Pcs (N m : Nat) (tl : Nat → Nat) (o : Nat → Int) (k : Nat) : Prop where
  lo : ∀ v, v < N → 0 ≤ o v ∧ o v < k
  edge : ∀ d, d < m → o (tl (oth d)) = o (tl d)
  one : ∀ u v, u < N → v < N → o u = o v → Conn m tl u v
  each : ∀ e : Nat, e < k → ∃ v, v < N ∧ o v = e
  first : ∀ v, v < N → ∀ e : Nat, (e : Int) < o v → ∃ u, u < v ∧ o u = e
theorem Pcs.conn {N m k : Nat} {tl : Nat → Nat} {o : Nat → Int} (h : Pcs N m tl o k) {a b : Nat} (c : Conn m tl a b) : o a = o b := by
  induction c with
  | refl => rfl
  | step hd _ ih => rw [h.edge _ hd]; exact ih
theorem Pcs.same {N m k k' : Nat} {tl : Nat → Nat} {o o' : Nat → Int} (h : Pcs N m tl o k) (h' : Pcs N m tl o' k') : ∀ n x, x < n → x < N → o x = o' x
  | 0, x, hx, _ => by omega
  | n + 1, x, hx, hm => by
    have ih := Pcs.same h h' n
    have ker : ∀ y, y < N → (o x = o y ↔ o' x = o' y) := fun y hy => ⟨fun e => h'.conn (h.one x y hm hy e), fun e => h.conn (h'.one x y hm hy e)⟩
    have l1 := h.lo x hm
    have l2 := h'.lo x hm
    rcases Int.lt_trichotomy (o x) (o' x) with q | q | q
    · obtain ⟨y, h1, h2⟩ := h'.first x hm (o x).toNat (by omega)
      have e1 := ih y (by omega) (by omega)
      have := (ker y (by omega)).1 (by omega)
      omega
    · exact q
    · obtain ⟨y, h1, h2⟩ := h.first x hm (o' x).toNat (by omega)
      have e1 := ih y (by omega) (by omega)
      have := (ker y (by omega)).2 (by omega)
      omega
theorem Pcs.count {N m k k' : Nat} {tl : Nat → Nat} {o o' : Nat → Int} (h : Pcs N m tl o k) (h' : Pcs N m tl o' k') : k = k' := by
  have e := fun x hx => h.same h' N x hx hx
  rcases Nat.lt_trichotomy k k' with q | q | q
  · obtain ⟨y, h1, h2⟩ := h'.each k q
    have := (h.lo y h1).2; have := e y h1; omega
  · exact q
  · obtain ⟨y, h1, h2⟩ := h.each k' q
    have := (h'.lo y h1).2; have := e y h1; omega

/-- what has been numbered so far: all below i -/
structure PPart (N m : Nat) (tl : Nat → Nat) (i : Nat) (o : Nat → Int) (c : Nat) : Prop where
  some : ∀ v, v < N → o v = -1 ∨ (0 ≤ o v ∧ o v < c)
  done : ∀ v, v < i → v < N → 0 ≤ o v
  edge : ∀ d, d < m → 0 ≤ o (tl d) → o (tl (oth d)) = o (tl d)
  one : ∀ u v, u < N → v < N → 0 ≤ o u → o u = o v → Conn m tl u v
  each : ∀ e : Nat, e < c → ∃ v, v < i ∧ v < N ∧ o v = e
  first : ∀ v, v < N → ∀ e : Nat, (e : Int) < o v → ∃ u, u < v ∧ o u = e
theorem PPart.start (N m : Nat) (tl : Nat → Nat) : PPart N m tl 0 (fun _ => -1) 0 :=
  ⟨fun _ _ => .inl rfl, fun v h => by omega, fun d _ h => by simp at h, fun u v _ _ h => by simp at h, fun e h => by omega, fun v _ e h => by omega⟩
theorem PPart.skip {N m i c : Nat} {tl : Nat → Nat} {o : Nat → Int} (h : PPart N m tl i o c) (hi : 0 ≤ o i) : PPart N m tl (i + 1) o c :=
  ⟨h.some, fun v hv hm => by
    rcases Nat.lt_or_ge v i with q | q
    · exact h.done v q hm
    · rw [show v = i by omega]; exact hi, h.edge, h.one, fun e he => by obtain ⟨y, h1, h2⟩ := h.each e he; exact ⟨y, by omega, h2⟩, h.first⟩
theorem PPart.pcs {N m c : Nat} {tl : Nat → Nat} {o : Nat → Int} (h : PPart N m tl N o c) (ht : ∀ d, d < m → tl d < N) : Pcs N m tl o c :=
  ⟨fun v hv => by
    have := h.done v hv hv
    rcases h.some v hv with q | q
    · omega
    · exact q, fun d hd => h.edge d hd (h.done _ (ht d hd) (ht d hd)), fun u v hu hv e => h.one u v hu hv (h.done u hu hu) e, fun e he => by obtain ⟨y, _, h2⟩ := h.each e he; exact ⟨y, h2⟩, h.first⟩

/-- a piece that is being grown from vertex i on -/
structure Grow (N m : Nat) (tl : Nat → Nat) (o : Nat → Int) (i c : Nat) (o' : Nat → Int) : Prop where
  here : o' i = c
  now : ∀ v, v < N → (o' v = c ∧ o v = -1 ∧ Conn m tl i v) ∨ o' v = o v
theorem Grow.start {N m i c : Nat} {tl : Nat → Nat} {o : Nat → Int} (h0 : o i = -1) : Grow N m tl o i c (upd o i (c : Int)) :=
  ⟨upd_same _ _ _, fun v hv => by
    by_cases e : v = i
    · subst e; exact .inl ⟨upd_same _ _ _, h0, .refl⟩
    · exact .inr (upd_ne e)⟩
theorem Grow.step {N m i c d : Nat} {tl : Nat → Nat} {o o' : Nat → Int} (h : Grow N m tl o i c o') (P : PPart N m tl i o c) (hi : i < N) (hd : d < m) (ht : tl d < N) (hh : tl (oth d) < N) (h1 : o' (tl d) = c) (h2 : o' (tl (oth d)) < 0) :
    Grow N m tl o i c (upd o' (tl (oth d)) (c : Int)) := by
  have hc : Conn m tl i (tl d) := by
    rcases h.now _ ht with ⟨_, _, q⟩ | e
    · exact q
    · rcases P.some _ ht with q | q <;> omega
  refine ⟨?_, fun v hv => ?_⟩
  · by_cases e : i = tl (oth d)
    · rw [← e, upd_same]
    · rw [upd_ne e]; exact h.here
  · by_cases e : v = tl (oth d)
    · subst e
      rw [upd_same]
      refine .inl ⟨rfl, ?_, .step hd hc⟩
      rcases h.now _ hh with ⟨q, _⟩ | q
      · omega
      · rcases P.some _ hh with q2 | q2 <;> omega
    · rw [upd_ne e]; exact h.now v hv
theorem Grow.done {N m i c : Nat} {tl : Nat → Nat} {o o' : Nat → Int} (h : Grow N m tl o i c o') (P : PPart N m tl i o c) (hi : i < N) (h0 : o i = -1) (he : m % 2 = 0) (ht : ∀ d, d < m → tl d < N)
    (full : ∀ d, d < m → o' (tl d) = c → 0 ≤ o' (tl (oth d))) : PPart N m tl (i + 1) o' (c + 1) := by
  have old : ∀ v, v < N → 0 ≤ o v → o' v = o v := fun v hv hp => by
    rcases h.now v hv with ⟨_, q, _⟩ | q
    · omega
    · exact q
  have inC : ∀ v, v < N → o' v = c → o v = -1 ∧ Conn m tl i v := fun v hv e => by
    rcases h.now v hv with ⟨_, q⟩ | q
    · exact q
    · rcases P.some v hv with q2 | q2 <;> omega
  have notC : ∀ v, v < N → 0 ≤ o' v → o' v ≠ c → 0 ≤ o v ∧ o' v = o v := fun v hv hp hc => by
    rcases h.now v hv with ⟨e, _⟩ | e
    · exact absurd e hc
    · exact ⟨by omega, e⟩
  refine ⟨fun v hv => ?_, fun v hx hv => ?_, fun d hd hp => ?_, fun u v hu hv hp e => ?_, fun e he => ?_, fun v hv e he => ?_⟩
  · rcases h.now v hv with ⟨e, _⟩ | e
    · right; omega
    · rcases P.some v hv with q | q
      · left; omega
      · right; omega
  · rcases Nat.lt_or_ge v i with q | q
    · have := P.done v q hv; rw [old v hv this]; exact this
    · rw [show v = i by omega, h.here]; omega
  · have hh := ht _ (oth_lt hd he)
    by_cases hc : o' (tl d) = c
    · have h1 := full d hd hc
      have h2 := (inC _ (ht d hd) hc).1
      by_cases hc2 : o' (tl (oth d)) = c
      · rw [hc, hc2]
      · obtain ⟨h3, h4⟩ := notC _ hh h1 hc2
        have := P.edge (oth d) (oth_lt hd he) h3
        rw [oth_oth] at this
        omega
    · obtain ⟨h1, h2⟩ := notC _ (ht d hd) hp hc
      have h3 := P.edge d hd h1
      rw [old _ hh (by omega), h2, h3]
  · by_cases hc : o' u = c
    · have h1 := (inC u hu hc).2
      have h2 := (inC v hv (by omega)).2
      exact (h1.symm he).trans h2
    · obtain ⟨h1, h2⟩ := notC u hu hp hc
      obtain ⟨h3, h4⟩ := notC v hv (by omega) (by omega)
      exact P.one u v hu hv h1 (by omega)
  · rcases Nat.lt_or_ge e c with q | q
    · obtain ⟨y, h1, h2, h3⟩ := P.each e q
      exact ⟨y, by omega, h2, by rw [old y h2 (by omega)]; exact h3⟩
    · exact ⟨i, by omega, hi, by rw [h.here]; omega⟩
  · by_cases hc : o' v = c
    · have h1 := (inC v hv hc).1
      have hxd : i ≤ v := by
        rcases Nat.lt_or_ge v i with q | q
        · have := P.done v q hv; omega
        · exact q
      obtain ⟨y, h2, h3, h4⟩ := P.each e (by omega)
      exact ⟨y, by omega, by rw [old y h3 (by omega)]; exact h4⟩
    · obtain ⟨h1, h2⟩ := notC v hv (by omega) hc
      obtain ⟨y, h3, h4⟩ := P.first v hv e (by omega)
      exact ⟨y, h3, by rw [old y (by omega) (by omega)]; exact h4⟩
end Go.Proofs.Ytcejjcopchkmeaa.Ro
