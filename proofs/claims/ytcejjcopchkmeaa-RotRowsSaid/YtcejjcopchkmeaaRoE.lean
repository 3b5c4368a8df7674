/- Plain laws: rounds where a step is changed at a place or two: how many there are. -/
import Derived.Test.YtcejjcopchkmeaaRoK0
namespace Go.Proofs.Ytcejjcopchkmeaa.Ro
set_option linter.unusedVariables false
set_option maxRecDepth 100000
set_option linter.unusedSimpArgs false

theorem it_in (f : Nat → Nat) (k d : Nat) : it f (k + 1) d = it f k (f d) := it_add f d k 1

/-- the first of some numbers -/
theorem least_of {P : Nat → Prop} : ∀ n, P n → ∃ k, P k ∧ ∀ i, i < k → ¬ P i
  | n, h => by
    by_cases q : ∃ i, i < n ∧ P i
    · obtain ⟨i, hi, hp⟩ := q
      exact least_of i hp
    · exact ⟨n, h, fun i hi hp => q ⟨i, hi, hp⟩⟩

theorem Perm.close {f : Nat → Nat} {m i c : Nat} {o : Nat → Int} (p : Perm f m) (hi : i < m) (P : Part f m i o c) (h0 : o i = -1) :
    ∀ n k a o', neg o' m = n → Chain f m o i c k a o' → ∃ o2, Part f m (i + 1) o2 (c + 1)
  | n, k, a, o', hn, h => by
    have hl := h.lt p hi
    by_cases hneg : o' a < 0
    · have h2 := neg_upd (o := o') (a := a) (u := (c : Int)) (by omega) hneg hl
      exact Perm.close p hi P h0 (neg (upd o' a (c : Int)) m) (k + 1) (f a) _ rfl (h.step p hi P hneg)
    · exact ⟨o', h.done p hi P h0 (by omega)⟩
  termination_by n => n
  decreasing_by omega
theorem Perm.upto {f : Nat → Nat} {m : Nat} (p : Perm f m) : ∀ i, i ≤ m → ∃ o c, Part f m i o c
  | 0, _ => ⟨_, _, Part.start f m⟩
  | i + 1, h => by
    obtain ⟨o, c, P⟩ := Perm.upto p i (by omega)
    rcases P.some i (by omega) with e | ⟨e, _⟩
    · obtain ⟨o2, P2⟩ := p.close (by omega) P e _ 0 i o rfl (Chain.start f m o i c)
      exact ⟨o2, _, P2⟩
    · exact ⟨o, c, P.skip e⟩
theorem Perm.orb {f : Nat → Nat} {m : Nat} (p : Perm f m) : ∃ o c, Orb f m o c := by
  obtain ⟨o, c, P⟩ := p.upto m (Nat.le_refl _)
  exact ⟨o, c, P.orb⟩
theorem Perm.back {f : Nat → Nat} {m x y k : Nat} (p : Perm f m) (hx : x < m) (h : it f k x = y) : ∃ j, it f j y = x := by
  obtain ⟨o, c, O⟩ := p.orb
  have hy : y < m := by rw [← h]; exact p.it_lt hx k
  exact O.one y x hy hx (by rw [← h, O.it p hx])

/-- a name for each round -/
structure Cy (f : Nat → Nat) (m : Nat) (o : Nat → Nat) : Prop where
  fwd : ∀ x, x < m → o (f x) = o x
  one : ∀ x y, x < m → y < m → o x = o y → ∃ k, it f k x = y
theorem Cy.it {f : Nat → Nat} {m : Nat} {o : Nat → Nat} (h : Cy f m o) (p : Perm f m) {x : Nat} (hx : x < m) : ∀ k, o (it f k x) = o x
  | 0 => rfl
  | k + 1 => (h.fwd _ (p.it_lt hx k)).trans (Cy.it h p hx k)

/-- names below c, each of them used -/
structure Cls (f : Nat → Nat) (m : Nat) (o : Nat → Nat) (c : Nat) : Prop where
  cy : Cy f m o
  lo : ∀ x, x < m → o x < c
  each : ∀ e, e < c → ∃ y, y < m ∧ o y = e
theorem Orb.cls {f : Nat → Nat} {m c : Nat} {o : Nat → Int} (h : Orb f m o c) (p : Perm f m) : Cls f m (fun x => (o x).toNat) c :=
  ⟨⟨fun x hx => by show (o (f x)).toNat = (o x).toNat; rw [h.fwd x hx], fun x y hx hy e => h.one x y hx hy (by
      have := h.lo x hx
      have := h.lo y hy
      have e : (o x).toNat = (o y).toNat := e
      omega)⟩,
   fun x hx => by have := h.lo x hx; show (o x).toNat < c; omega, fun e he => by obtain ⟨y, h1, h2⟩ := h.each e he; exact ⟨y, h1, by show (o y).toNat = e; omega⟩⟩
theorem Cls.le {f : Nat → Nat} {m c c' : Nat} {o o' : Nat → Nat} (h : Cls f m o c) (h' : Cls f m o' c') (p : Perm f m) : c ≤ c' := by
  obtain ⟨g, hg⟩ : ∃ g : Nat → Nat, ∀ e, e < c → g e < m ∧ o (g e) = e := by
    refine ⟨fun e => if q : e < c then Classical.choose (h.each e q) else 0, fun e q => ?_⟩
    simp only [dif_pos q]
    exact Classical.choose_spec (h.each e q)
  refine apart_le c (fun e => o' (g e)) (fun j hj => h'.lo _ (hg j hj).1) (fun i j hij hj e => ?_)
  obtain ⟨k, hk⟩ := h'.cy.one _ _ (hg i (by omega)).1 (hg j hj).1 e
  have h1 := h.cy.it p (hg i (by omega)).1 k
  rw [hk, (hg j hj).2, (hg i (by omega)).2] at h1
  omega
theorem Cls.count {f : Nat → Nat} {m c c' : Nat} {o o' : Nat → Nat} (h : Cls f m o c) (h' : Cls f m o' c') (p : Perm f m) : c = c' :=
  Nat.le_antisymm (h.le h' p) (h'.le h p)

/-! ### one more, by itself -/
def ext (f : Nat → Nat) (m : Nat) : Nat → Nat := upd f m m
theorem Perm.ext {f : Nat → Nat} {m : Nat} (p : Perm f m) : Perm (ext f m) (m + 1) := by
  have e1 : Ro.ext f m m = m := upd_same _ _ _
  have e2 : ∀ x, x < m → Ro.ext f m x = f x := fun x hx => upd_ne (by omega)
  refine ⟨fun x hx => ?_, fun x y hx hy e => ?_⟩
  · rcases Nat.lt_or_ge x m with q | q
    · rw [e2 x q]; have := p.lt x q; omega
    · rw [show x = m by omega, e1]; omega
  · rcases Nat.lt_or_ge x m with q | q
    · have := p.lt x q
      rcases Nat.lt_or_ge y m with q2 | q2
      · rw [e2 x q, e2 y q2] at e; exact p.inj x y q q2 e
      · rw [e2 x q, show y = m by omega, e1] at e; omega
    · rw [show x = m by omega, e1] at e
      rcases Nat.lt_or_ge y m with q2 | q2
      · rw [e2 y q2] at e; have := p.lt y q2; omega
      · omega
theorem it_same {f g : Nat → Nat} {m : Nat} (p : Perm f m) (h : ∀ x, x < m → g x = f x) {x : Nat} (hx : x < m) : ∀ k, it g k x = it f k x
  | 0 => rfl
  | k + 1 => by show g _ = f _; rw [it_same p h hx k, h _ (p.it_lt hx k)]
theorem Cy.ext {f : Nat → Nat} {m c : Nat} {o : Nat → Nat} (h : Cy f m o) (p : Perm f m) (hc : ∀ x, x < m → o x ≠ c) : Cy (ext f m) (m + 1) (upd o m c) := by
  have e1 : Ro.ext f m m = m := upd_same _ _ _
  have e2 : ∀ x, x < m → Ro.ext f m x = f x := fun x hx => upd_ne (by omega)
  have o1 : upd o m c m = c := upd_same _ _ _
  have o2 : ∀ x, x < m → upd o m c x = o x := fun x hx => upd_ne (by omega)
  refine ⟨fun x hx => ?_, fun x y hx hy e => ?_⟩
  · rcases Nat.lt_or_ge x m with q | q
    · rw [e2 x q, o2 _ (p.lt x q), o2 x q, h.fwd x q]
    · rw [show x = m by omega, e1]
  · rcases Nat.lt_or_ge x m with q | q
    · rcases Nat.lt_or_ge y m with q2 | q2
      · rw [o2 x q, o2 y q2] at e
        obtain ⟨k, hk⟩ := h.one x y q q2 e
        exact ⟨k, by rw [it_same p e2 q]; exact hk⟩
      · rw [o2 x q, show y = m by omega, o1] at e; exact absurd e (hc x q)
    · rw [show x = m by omega, o1] at e
      rcases Nat.lt_or_ge y m with q2 | q2
      · rw [o2 y q2] at e; exact absurd e.symm (hc y q2)
      · exact ⟨0, by show x = y; omega⟩
theorem Cls.ext {f : Nat → Nat} {m c : Nat} {o : Nat → Nat} (h : Cls f m o c) (p : Perm f m) : Cls (ext f m) (m + 1) (upd o m c) (c + 1) := by
  refine ⟨h.cy.ext p fun x hx e => by have := h.lo x hx; omega, fun x hx => ?_, fun e he => ?_⟩
  · rcases Nat.lt_or_ge x m with q | q
    · rw [upd_ne (by omega)]; have := h.lo x q; omega
    · rw [show x = m by omega, upd_same]; omega
  · rcases Nat.lt_or_ge e c with q | q
    · obtain ⟨y, h1, h2⟩ := h.each e q
      exact ⟨y, by omega, by rw [upd_ne (by omega)]; exact h2⟩
    · exact ⟨m, by omega, by rw [upd_same]; omega⟩

/-! ### one more, laid in behind another -/
def ins (f : Nat → Nat) (e m : Nat) : Nat → Nat := upd (upd f m (f e)) e m
section
variable {f : Nat → Nat} {m e c : Nat} {o : Nat → Nat}
theorem ins_at : ins f e m e = m := upd_same _ _ _
theorem ins_new (he : e < m) : ins f e m m = f e := by unfold ins; rw [upd_ne (by omega), upd_same]
theorem ins_old {x : Nat} (hx : x < m) (hn : x ≠ e) : ins f e m x = f x := by unfold ins; rw [upd_ne hn, upd_ne (by omega)]
theorem Perm.ins (p : Perm f m) (he : e < m) : Perm (ins f e m) (m + 1) := by
  have hfe := p.lt e he
  have cases3 : ∀ x, x < m + 1 → (x = e ∧ Ro.ins f e m x = m) ∨ (x = m ∧ Ro.ins f e m x = f e) ∨ (x < m ∧ x ≠ e ∧ Ro.ins f e m x = f x) := fun x hx => by
    by_cases h1 : x = e
    · subst h1; exact .inl ⟨rfl, ins_at⟩
    · rcases Nat.lt_or_ge x m with q | q
      · exact .inr (.inr ⟨q, h1, ins_old q h1⟩)
      · obtain rfl : x = m := by omega
        exact .inr (.inl ⟨rfl, ins_new he⟩)
  refine ⟨fun x hx => ?_, fun x y hx hy q => ?_⟩
  · rcases cases3 x hx with ⟨_, h⟩ | ⟨_, h⟩ | ⟨h1, _, h⟩
    · omega
    · omega
    · rw [h]; have := p.lt x h1; omega
  · rcases cases3 x hx with ⟨h1, h⟩ | ⟨h1, h⟩ | ⟨h1, h2, h⟩ <;> rcases cases3 y hy with ⟨k1, k⟩ | ⟨k1, k⟩ | ⟨k1, k2, k⟩
    · omega
    · omega
    · have := p.lt y k1; omega
    · omega
    · omega
    · have := p.inj e y he k1 (by omega); omega
    · have := p.lt x h1; omega
    · have := p.inj x e h1 he (by omega); omega
    · exact p.inj x y h1 k1 (by omega)
theorem ins_reach (p : Perm f m) (he : e < m) : ∀ k x, x < m → ∃ j, it (ins f e m) j x = it f k x
  | 0, x, hx => ⟨0, rfl⟩
  | k + 1, x, hx => by
    obtain ⟨j, hj⟩ := ins_reach p he k (f x) (p.lt x hx)
    rw [it_in]
    by_cases h : x = e
    · subst h
      refine ⟨j + 2, ?_⟩
      rw [it_in, it_in, ins_at, ins_new he]; exact hj
    · exact ⟨j + 1, by rw [it_in, ins_old hx h]; exact hj⟩
theorem Cy.ins (h : Cy f m o) (p : Perm f m) (he : e < m) : Cy (ins f e m) (m + 1) (upd o m (o e)) := by
  have o1 : upd o m (o e) m = o e := upd_same _ _ _
  have o2 : ∀ x, x < m → upd o m (o e) x = o x := fun x hx => upd_ne (by omega)
  have toY : ∀ x y, x < m → y < m → o x = o y → ∃ j, Ro.it (Ro.ins f e m) j x = y := fun x y hx hy q => by
    obtain ⟨k, hk⟩ := h.one x y hx hy q
    obtain ⟨j, hj⟩ := ins_reach p he k x hx
    exact ⟨j, hj.trans hk⟩
  refine ⟨fun x hx => ?_, fun x y hx hy q => ?_⟩
  · by_cases h1 : x = e
    · subst h1; rw [ins_at, o1, o2 x he]
    · rcases Nat.lt_or_ge x m with h2 | h2
      · rw [ins_old h2 h1, o2 _ (p.lt x h2), o2 x h2, h.fwd x h2]
      · obtain rfl : x = m := by omega
        rw [ins_new he, o1, o2 _ (p.lt e he), h.fwd e he]
  · rcases Nat.lt_or_ge x m with h1 | h1 <;> rcases Nat.lt_or_ge y m with h2 | h2
    · rw [o2 x h1, o2 y h2] at q; exact toY x y h1 h2 q
    · obtain rfl : y = m := by omega
      rw [o2 x h1, o1] at q
      obtain ⟨j, hj⟩ := toY x e h1 he q
      exact ⟨j + 1, by show Ro.ins f e y _ = y; rw [hj, ins_at]⟩
    · obtain rfl : x = m := by omega
      rw [o1, o2 y h2] at q
      obtain ⟨j, hj⟩ := toY (f e) y (p.lt e he) h2 (by rw [h.fwd e he]; exact q)
      exact ⟨j + 1, by rw [it_in, ins_new he]; exact hj⟩
    · exact ⟨0, by show x = y; omega⟩
theorem Cls.ins (h : Cls f m o c) (p : Perm f m) (he : e < m) : Cls (ins f e m) (m + 1) (upd o m (o e)) c := by
  refine ⟨h.cy.ins p he, fun x hx => ?_, fun k hk => ?_⟩
  · rcases Nat.lt_or_ge x m with q | q
    · rw [upd_ne (by omega)]; exact h.lo x q
    · rw [show x = m by omega, upd_same]; exact h.lo e he
  · obtain ⟨y, h1, h2⟩ := h.each k hk
    exact ⟨y, by omega, by rw [upd_ne (by omega)]; exact h2⟩
end

/-! ### two values exchanged, of one round: it falls in two -/
def sw (f : Nat → Nat) (u v : Nat) : Nat → Nat := upd (upd f u (f v)) v (f u)
section
variable {f : Nat → Nat} {m u v c : Nat} {o : Nat → Nat}
theorem sw_u (hne : u ≠ v) : sw f u v u = f v := by unfold sw; rw [upd_ne hne, upd_same]
theorem sw_v : sw f u v v = f u := upd_same _ _ _
theorem sw_x {x : Nat} (h1 : x ≠ u) (h2 : x ≠ v) : sw f u v x = f x := by unfold sw; rw [upd_ne h2, upd_ne h1]
theorem Perm.sw (p : Perm f m) (hu : u < m) (hv : v < m) (hne : u ≠ v) : Perm (sw f u v) m := by
  have c3 : ∀ x, x < m → ∃ y, y < m ∧ Ro.sw f u v x = f y ∧ (x = u → y = v) ∧ (x = v → y = u) ∧ (x ≠ u → x ≠ v → y = x) := fun x hx => by
    by_cases h1 : x = u
    · subst h1; exact ⟨v, hv, sw_u hne, fun _ => rfl, fun h => absurd h hne, fun h => absurd rfl h⟩
    · by_cases h2 : x = v
      · subst h2; exact ⟨u, hu, sw_v, fun h => absurd h h1, fun _ => rfl, fun _ h => absurd rfl h⟩
      · exact ⟨x, hx, sw_x h1 h2, fun h => absurd h h1, fun h => absurd h h2, fun _ _ => rfl⟩
  refine ⟨fun x hx => ?_, fun x y hx hy q => ?_⟩
  · obtain ⟨y, h1, h2, _⟩ := c3 x hx
    rw [h2]; exact p.lt y h1
  · obtain ⟨a, a1, a2, a3, a4, a5⟩ := c3 x hx
    obtain ⟨b, b1, b2, b3, b4, b5⟩ := c3 y hy
    have := p.inj a b a1 b1 (by rw [← a2, ← b2]; exact q)
    by_cases e1 : x = u
    · have := a3 e1
      by_cases e2 : y = u
      · omega
      · by_cases e3 : y = v
        · have := b4 e3; omega
        · have := b5 e2 e3; omega
    · by_cases e4 : x = v
      · have := a4 e4
        by_cases e2 : y = u
        · have := b3 e2; omega
        · by_cases e3 : y = v
          · omega
          · have := b5 e2 e3; omega
      · have := a5 e1 e4
        by_cases e2 : y = u
        · have := b3 e2; omega
        · by_cases e3 : y = v
          · have := b4 e3; omega
          · have := b5 e2 e3; omega

/-- on the way from behind v, not beyond u -/
def Arc (f : Nat → Nat) (u v x : Nat) : Prop := ∃ j, it f j (f v) = x ∧ ∀ i, i < j → it f i (f v) ≠ u
theorem Arc.step {x : Nat} (h : Arc f u v x) (hx : x ≠ u) : Arc f u v (f x) := by
  obtain ⟨j, h1, h2⟩ := h
  refine ⟨j + 1, by show f _ = f _; rw [h1], fun i hi => ?_⟩
  rcases Nat.lt_or_ge i j with q | q
  · exact h2 i q
  · rw [show i = j by omega, h1]; exact hx
theorem Arc.first : Arc f u v (f v) := ⟨0, rfl, fun i hi => by omega⟩
theorem Arc.prev {x : Nat} (p : Perm f m) (hv : v < m) (hx : x < m) (h : Arc f u v (f x)) : x = v ∨ Arc f u v x ∧ x ≠ u := by
  obtain ⟨j, h1, h2⟩ := h
  cases j with
  | zero => exact .inl (p.inj x v hx hv h1.symm)
  | succ j =>
    have e : it f j (f v) = x := p.inj _ _ (p.it_lt (p.lt v hv) j) hx h1
    exact .inr ⟨⟨j, e, fun i hi => h2 i (by omega)⟩, by rw [← e]; exact h2 j (by omega)⟩
theorem Arc.last (h : Cy f m o) (p : Perm f m) (hu : u < m) (hv : v < m) (he : o u = o v) : Arc f u v u := by
  obtain ⟨k, hk⟩ := h.one (f v) u (p.lt v hv) hu (by rw [h.fwd v hv, he])
  obtain ⟨j, h1, h2⟩ := least_of (P := fun k => it f k (f v) = u) k hk
  exact ⟨j, h1, h2⟩
theorem Arc.not (h : Cy f m o) (p : Perm f m) (hu : u < m) (hv : v < m) (hne : u ≠ v) (he : o u = o v) : ¬ Arc f u v v := by
  rintro ⟨j, h1, h2⟩
  obtain ⟨k, hk, hl⟩ := Arc.last h p hu hv he
  have h3 : it f (j + 1) (f v) = f v := by show f _ = f _; rw [h1]
  rcases Nat.lt_trichotomy k j with q | q | q
  · exact h2 k q hk
  · subst q; rw [hk] at h1; exact hne h1
  · have h4 := it_add f (f v) (k - (j + 1)) (j + 1)
    rw [h3, show k - (j + 1) + (j + 1) = k by omega, hk] at h4
    exact hl (k - (j + 1)) (by omega) h4.symm
theorem Arc.name {x : Nat} (h : Cy f m o) (p : Perm f m) (hv : v < m) (hx : Arc f u v x) : o x = o v := by
  obtain ⟨j, h1, _⟩ := hx
  rw [← h1, h.it p (p.lt v hv), h.fwd v hv]

open Classical in
/-- the names behind the exchange: c for the arc that holds v -/
noncomputable def splitO (f : Nat → Nat) (o : Nat → Nat) (u v c : Nat) : Nat → Nat := fun x => if o x = o u ∧ ¬ Arc f u v x then c else o x
theorem Cy.split (h : Cy f m o) (p : Perm f m) (hu : u < m) (hv : v < m) (hne : u ≠ v) (he : o u = o v) (hc : ∀ x, x < m → o x ≠ c) : Cy (Ro.sw f u v) m (splitO f o u v c) := by
  have Au := Arc.last h p hu hv he
  have Av := Arc.not h p hu hv hne he
  have p' := p.sw hu hv hne
  have oB : ∀ x, o x = o u → ¬ Arc f u v x → splitO f o u v c x = c := fun x h1 h2 => if_pos ⟨h1, h2⟩
  have oA : ∀ x, Arc f u v x → splitO f o u v c x = o u := fun x h1 => by
    have : splitO f o u v c x = o x := if_neg fun q => q.2 h1
    rw [this, h1.name h p hv, he]
  have oC : ∀ x, o x ≠ o u → splitO f o u v c x = o x := fun x h1 => if_neg fun q => h1 q.1
  have nB : ¬ Arc f u v (f u) := fun q => by
    rcases q.prev p hv hu with e | ⟨_, e⟩
    · exact hne e
    · exact e rfl
  have toU : ∀ n x, x < m → Arc f u v x → Ro.it f n x = u → ∃ k, Ro.it (Ro.sw f u v) k x = u := by
    intro n
    induction n with
    | zero => intro x _ _ e; exact ⟨0, e⟩
    | succ n ih =>
      intro x hx hA e
      by_cases h1 : x = u
      · exact ⟨0, h1⟩
      · have h2 : x ≠ v := fun q => Av (q ▸ hA)
        rw [it_in] at e
        obtain ⟨k, hk⟩ := ih (f x) (p.lt x hx) (hA.step h1) e
        exact ⟨k + 1, by rw [it_in, sw_x h1 h2]; exact hk⟩
  have toV : ∀ n x, x < m → ¬ Arc f u v x → Ro.it f n x = v → ∃ k, Ro.it (Ro.sw f u v) k x = v := by
    intro n
    induction n with
    | zero => intro x _ _ e; exact ⟨0, e⟩
    | succ n ih =>
      intro x hx hA e
      by_cases h2 : x = v
      · exact ⟨0, h2⟩
      · have h1 : x ≠ u := fun q => hA (q ▸ Au)
        rw [it_in] at e
        obtain ⟨k, hk⟩ := ih (f x) (p.lt x hx) (fun q => by
          rcases q.prev p hv hx with e | ⟨e, _⟩
          · exact h2 e
          · exact hA e) e
        exact ⟨k + 1, by rw [it_in, sw_x h1 h2]; exact hk⟩
  have back : ∀ {x y k}, x < m → Ro.it (Ro.sw f u v) k x = y → ∃ j, Ro.it (Ro.sw f u v) j y = x := fun hx e => p'.back hx e
  have join : ∀ {x y z j k}, Ro.it (Ro.sw f u v) j x = y → Ro.it (Ro.sw f u v) k y = z → ∃ i, Ro.it (Ro.sw f u v) i x = z := fun {x y z j k} e1 e2 => ⟨k + j, by rw [it_add, e1]; exact e2⟩
  refine ⟨fun x hx => ?_, fun x y hx hy q => ?_⟩
  · by_cases h1 : x = u
    · subst h1; rw [sw_u hne, oA _ Arc.first, oA _ Au]
    · by_cases h2 : x = v
      · subst h2; rw [sw_v, oB _ (h.fwd u hu) nB, oB _ he.symm Av]
      · rw [sw_x h1 h2]
        by_cases h3 : o x = o u
        · by_cases h4 : Arc f u v x
          · rw [oA _ h4, oA _ (h4.step h1)]
          · rw [oB _ h3 h4, oB _ (by rw [h.fwd x hx]; exact h3) (fun q => by
              rcases q.prev p hv hx with e | ⟨e, _⟩
              · exact h2 e
              · exact h4 e)]
        · rw [oC _ h3, oC _ (by rw [h.fwd x hx]; exact h3), h.fwd x hx]
  · by_cases h3 : o x = o u
    · by_cases h4 : Arc f u v x
      · rw [oA _ h4] at q
        have h5 : o y = o u := by
          by_cases h6 : o y = o u
          · exact h6
          · rw [oC _ h6] at q; exact q.symm
        have h7 : Arc f u v y := by
          apply Classical.byContradiction
          intro h8
          rw [oB _ h5 h8] at q
          exact hc u hu q
        obtain ⟨n1, e1⟩ := h.one x u hx hu h3
        obtain ⟨n2, e2⟩ := h.one y u hy hu h5
        obtain ⟨k1, r1⟩ := toU n1 x hx h4 e1
        obtain ⟨k2, r2⟩ := toU n2 y hy h7 e2
        obtain ⟨k3, r3⟩ := back hy r2
        exact join r1 r3
      · rw [oB _ h3 h4] at q
        have h5 : o y = o u := by
          by_cases h6 : o y = o u
          · exact h6
          · rw [oC _ h6] at q; exact absurd q.symm (hc y hy)
        have h7 : ¬ Arc f u v y := fun h8 => by
          rw [oA _ h8] at q
          exact hc u hu q.symm
        obtain ⟨n1, e1⟩ := h.one x v hx hv (by rw [h3, he])
        obtain ⟨n2, e2⟩ := h.one y v hy hv (by rw [h5, he])
        obtain ⟨k1, r1⟩ := toV n1 x hx h4 e1
        obtain ⟨k2, r2⟩ := toV n2 y hy h7 e2
        obtain ⟨k3, r3⟩ := back hy r2
        exact join r1 r3
    · rw [oC _ h3] at q
      have h5 : o y ≠ o u := fun h6 => by
        by_cases h8 : Arc f u v y
        · rw [oA _ h8] at q; exact h3 q
        · rw [oB _ h6 h8] at q; exact hc x hx q
      rw [oC _ h5] at q
      obtain ⟨k, hk⟩ := h.one x y hx hy q
      refine ⟨k, ?_⟩
      rw [← hk]
      clear hk
      induction k with
      | zero => rfl
      | succ k ih =>
        have e := h.it p hx k
        have n1 : Ro.it f k x ≠ u := fun w => by rw [w] at e; exact h3 e.symm
        have n2 : Ro.it f k x ≠ v := fun w => by rw [w] at e; exact h3 (by rw [← e, he])
        show Ro.sw f u v _ = f _
        rw [ih, sw_x n1 n2]
theorem Cls.split (h : Cls f m o c) (p : Perm f m) (hu : u < m) (hv : v < m) (hne : u ≠ v) (he : o u = o v) : Cls (Ro.sw f u v) m (splitO f o u v c) (c + 1) := by
  refine ⟨h.cy.split p hu hv hne he fun x hx e => by have := h.lo x hx; omega, fun x hx => ?_, fun e hx => ?_⟩
  · unfold splitO
    have := h.lo x hx
    split <;> omega
  · rcases Nat.lt_or_ge e c with q | q
    · obtain ⟨y, h1, h2⟩ := h.each e q
      by_cases h3 : o y = o u
      · refine ⟨u, hu, ?_⟩
        have : splitO f o u v c u = o u := if_neg fun q => q.2 (Arc.last h.cy p hu hv he)
        rw [this, ← h3, h2]
      · refine ⟨y, h1, ?_⟩
        have : splitO f o u v c y = o y := if_neg fun q => h3 q.1
        rw [this, h2]
    · refine ⟨v, hv, ?_⟩
      have : splitO f o u v c v = c := if_pos ⟨he.symm, Arc.not h.cy p hu hv hne he⟩
      rw [this]; omega
end

/-! ### a step that does the same -/
theorem Perm.same {f g : Nat → Nat} {m : Nat} (p : Perm f m) (h : ∀ x, x < m → g x = f x) : Perm g m :=
  ⟨fun x hx => by rw [h x hx]; exact p.lt x hx, fun x y hx hy e => p.inj x y hx hy (by rw [← h x hx, ← h y hy]; exact e)⟩
theorem Cy.same {f g : Nat → Nat} {m : Nat} {o o' : Nat → Nat} (c : Cy f m o) (p : Perm f m) (h : ∀ x, x < m → g x = f x) (ho : ∀ x, x < m → o' x = o x) : Cy g m o' :=
  ⟨fun x hx => by rw [h x hx, ho _ (p.lt x hx), ho x hx]; exact c.fwd x hx, fun x y hx hy e => by
    obtain ⟨k, hk⟩ := c.one x y hx hy (by rw [← ho x hx, ← ho y hy]; exact e)
    exact ⟨k, by rw [it_same p h hx]; exact hk⟩⟩
theorem Cls.same {f g : Nat → Nat} {m c : Nat} {o : Nat → Nat} (k : Cls f m o c) (p : Perm f m) (h : ∀ x, x < m → g x = f x) : Cls g m o c :=
  ⟨k.cy.same p h fun _ _ => rfl, k.lo, k.each⟩
end Go.Proofs.Ytcejjcopchkmeaa.Ro
