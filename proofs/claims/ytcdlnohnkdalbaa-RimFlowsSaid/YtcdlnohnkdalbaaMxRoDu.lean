/- Plain laws: the dual of a plane net is a plane net. -/
import Derived.Test.YtcdlnohnkdalbaaMg10
namespace Go.Proofs.Ytcdlnohnkdalbaa.Ro
set_option linter.unusedVariables false
set_option maxRecDepth 100000
set_option linter.unusedSimpArgs false

section
variable {N m k : Nat} {t x c o : Nat → Int}
/-- the dual's next ones -/
def dualX (x : Nat → Int) : Nat → Int := fun d => x (oth d)
theorem ab_dual (d : Nat) : ab (dualX x) d = bh x d := rfl
theorem bh_dual (d : Nat) : bh (dualX x) d = ab x d := by show (x (oth (oth d))).toNat = _; rw [oth_oth]; rfl
theorem Conn.eq {tl : Nat → Nat} {a b : Nat} (h : a = b) : Conn m tl a b := by subst h; exact .refl
theorem face_turn (O : Orb (bh x) m o k) (p : Perm (ab x) m) (ev : m % 2 = 0) {d : Nat} (hd : d < m) : ∀ j, Conn m (tlOf o) (tlOf o d) (tlOf o (it (ab x) j d))
  | 0 => .refl
  | j + 1 => by
    have ih := face_turn O p ev hd j
    have hl := p.it_lt hd j
    refine ih.trans ?_
    show Conn m (tlOf o) (tlOf o (it (ab x) j d)) (tlOf o (ab x (it (ab x) j d)))
    generalize it (ab x) j d = e at *
    have h1 := Conn.one (m := m) (tl := tlOf o) hl
    have h2 : o (bh x (oth e)) = o (oth e) := O.fwd _ (oth_lt hl ev)
    have h3 : bh x (oth e) = ab x e := by unfold bh ab; rw [oth_oth]
    rw [h3] at h2
    rw [show tlOf o (ab x e) = tlOf o (oth e) by unfold tlOf; rw [h2]]
    exact h1
theorem face_conn (h : Grown N m t x c) (O : Orb (bh x) m o k) {d0 : Nat} (hd : d0 < m) {v : Nat} (hc : Conn m (tlOf t) (tlOf t d0) v) : ∀ e, e < m → tlOf t e = v → Conn m (tlOf o) (tlOf o d0) (tlOf o e) := by
  have ev := h.good.even
  have p := h.turns.perm
  induction hc with
  | refl =>
    intro e he q
    obtain ⟨j, hj⟩ := h.turns.one d0 e hd he q.symm
    rw [← hj]; exact face_turn O p ev hd j
  | @step d hdm _ ih =>
    intro e he q
    have ho := oth_lt hdm ev
    obtain ⟨j, hj⟩ := h.turns.one (oth d) e ho he q.symm
    have h1 := ih d hdm rfl
    have h2 := Conn.one (m := m) (tl := tlOf o) hdm
    have h3 := face_turn O p ev ho j
    rw [hj] at h3
    exact (h1.trans h2).trans h3
theorem Grown.dual (h : Grown N m t x c) (O : Orb (bh x) m o k) (hm : m ≤ 100) : Grown (max k 1) m o (dualX x) c := by
  have g := h.good
  have ev := g.even
  have p := h.turns.perm
  have pb := p.bh ev
  have eu := h.plane.euler _ _ O
  have h1 := g.one
  have tlN : ∀ d, d < m → tlOf t d < N := fun d hd => by have := g.tail d hd; unfold tlOf; omega
  refine ⟨⟨by omega, by omega, g.few, ev, fun d hd => g.next _ (oth_lt hd ev), fun d hd => by have := O.lo d hd; omega⟩, ⟨pb.same fun d _ => ab_dual d, fun d hd => ?_, fun d e hd he q => ?_⟩, h.caps, fun u v hu hv => ?_, ?_⟩
  · rw [ab_dual]; unfold tlOf; rw [O.fwd d hd]
  · obtain ⟨j, hj⟩ := O.one d e hd he (by
      have := O.lo d hd
      have := O.lo e he
      unfold tlOf at q
      omega)
    exact ⟨j, by rw [it_same pb (fun d _ => ab_dual d) hd]; exact hj⟩
  · rcases Nat.eq_zero_or_pos m with q | q
    · have hk : k = 0 := by
        rcases Nat.eq_zero_or_pos k with w | w
        · exact w
        · obtain ⟨y, hy, _⟩ := O.each 0 w; omega
      exact Conn.eq (by omega)
    · have hk : 0 < k := by have := O.lo 0 q; omega
      obtain ⟨d, hd, e1⟩ := O.each u (by omega)
      obtain ⟨e, he, e2⟩ := O.each v (by omega)
      have := face_conn h O hd (h.whole _ _ (tlN d hd) (tlN e he)) e he rfl
      rw [show tlOf o d = u by unfold tlOf; rw [e1]; rfl, show tlOf o e = v by unfold tlOf; rw [e2]; rfl] at this
      exact this
  · rcases Nat.eq_zero_or_pos m with q | q
    · have hk : k = 0 := by
        rcases Nat.eq_zero_or_pos k with w | w
        · exact w
        · obtain ⟨y, hy, _⟩ := O.each 0 w; omega
      exact ⟨fun _ => 0, 0, ⟨⟨fun d hd => by omega, fun d e hd => by omega⟩, fun d hd => by omega, fun e he => by omega⟩, by omega⟩
    · refine ⟨tlOf t, N, ⟨h.turns.cy.same p (fun d _ => bh_dual d) (fun _ _ => rfl), tlN, fun e he => ?_⟩, by omega⟩
      have hc := h.whole (tlOf t 0) e (tlN 0 q) he
      cases hc with
      | refl => exact ⟨0, q, rfl⟩
      | step hd _ => exact ⟨_, oth_lt hd ev, rfl⟩
end
end Go.Proofs.Ytcdlnohnkdalbaa.Ro
