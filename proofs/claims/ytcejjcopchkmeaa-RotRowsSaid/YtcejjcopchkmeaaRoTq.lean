/- Plain laws: a net seen from behind is a net as well. -/
import Derived.Test.YtcejjcopchkmeaaRoL
namespace Go.Proofs.Ytcejjcopchkmeaa.Ro
open Go.RowKit Go.Proofs Go.Maps
set_option linter.unusedVariables false
set_option maxRecDepth 100000
set_option linter.unusedSimpArgs false

/-- next ones turned, of the first i darts -/
def turnUp (x : Nat → Int) : Nat → Nat → Int
  | 0 => x
  | i + 1 => upd (turnUp x i) (ab x i) (i : Int)

theorem Perm.onto2 {f : Nat → Nat} {m e : Nat} (p : Perm f m) (he : e < m) : ∃ d, d < m ∧ f d = e := by
  obtain ⟨j, hj⟩ := p.back (x := e) (y := f e) (k := 1) he rfl
  cases j with
  | zero => exact ⟨e, he, hj⟩
  | succ j => exact ⟨it f j (f e), p.it_lt (p.lt e he) j, hj⟩
theorem turnUp_at {x : Nat → Int} {m : Nat} (p : Perm (ab x) m) {d : Nat} : ∀ i, i ≤ m → d < i → turnUp x i (ab x d) = d
  | 0, _, h => by omega
  | i + 1, hi, h => by
    show upd (turnUp x i) (ab x i) (i : Int) (ab x d) = d
    by_cases e : d = i
    · subst e; rw [upd_same]
    · rw [upd_ne (fun q => e (p.inj d i (by omega) (by omega) q))]
      exact turnUp_at p i (by omega) (by omega)
section
variable {N m : Nat} {t x c : Nat → Int}
theorem ab_turn (p : Perm (ab x) m) {d : Nat} (hd : d < m) : ab (turnUp x m) (ab x d) = d := by
  show (turnUp x m (ab x d)).toNat = d
  rw [turnUp_at p m (Nat.le_refl _) hd]; rfl
theorem it_turn (p : Perm (ab x) m) {d : Nat} (hd : d < m) : ∀ k, it (ab (turnUp x m)) k (it (ab x) k d) = d
  | 0 => rfl
  | k + 1 => by
    rw [it_in]
    show it (ab (turnUp x m)) k (ab (turnUp x m) (ab x (it (ab x) k d))) = d
    rw [ab_turn p (p.it_lt hd k)]
    exact it_turn p hd k
theorem turn_bh (p : Perm (ab x) m) (he : m % 2 = 0) {u e : Nat} (hu : u < m) (hE : e < m) (h : bh x (oth e) = oth u) : bh (turnUp x m) u = e := by
  have h1 : ab x e = oth u := by rw [← h]; unfold bh ab; rw [oth_oth]
  show (turnUp x m (oth u)).toNat = e
  rw [← h1]; exact ab_turn p hE
theorem turn_reach (p : Perm (ab x) m) (he : m % 2 = 0) {v : Nat} (hv : v < m) : ∀ k u, u < m → it (bh x) k (oth v) = oth u → it (bh (turnUp x m)) k u = v
  | 0, u, hu, h => by
    have : oth v = oth u := h
    show u = v
    exact (oth_inj this).symm
  | k + 1, u, hu, h => by
    have pb := p.bh he
    have hl := pb.it_lt (oth_lt hv he) k
    rw [it_in, turn_bh p he hu (oth_lt hl he) (by rw [oth_oth]; exact h)]
    exact turn_reach p he hv k _ (oth_lt hl he) (by rw [oth_oth])
theorem Grown.turn (h : Grown N m t x c) : Grown N m t (turnUp x m) c := by
  have g := h.good
  have p := h.turns.perm
  have ev := g.even
  have pb := p.bh ev
  have val : ∀ e, e < m → ∃ d, d < m ∧ ab x d = e ∧ turnUp x m e = d := fun e he => by
    obtain ⟨d, hd, e1⟩ := p.onto2 he
    exact ⟨d, hd, e1, by rw [← e1]; exact turnUp_at p m (Nat.le_refl _) hd⟩
  have pt : Perm (ab (turnUp x m)) m := ⟨fun e he => by
    obtain ⟨d, hd, e1, e2⟩ := val e he
    show (turnUp x m e).toNat < m
    rw [e2]; exact hd, fun a b ha hb q => by
    obtain ⟨d, hd, e1, e2⟩ := val a ha
    obtain ⟨d', hd', e1', e2'⟩ := val b hb
    have q1 : (turnUp x m a).toNat = (turnUp x m b).toNat := q
    rw [e2, e2'] at q1
    have : d = d' := by simpa using q1
    rw [← e1, ← e1', this]⟩
  refine ⟨⟨g.one, g.most, g.few, ev, fun e he => ?_, g.tail⟩, ⟨pt, fun e he => ?_, fun d e hd he q => ?_⟩, h.caps, h.whole, ?_⟩
  · obtain ⟨d, hd, _, e2⟩ := val e he
    rw [e2]; omega
  · obtain ⟨d, hd, e1, e2⟩ := val e he
    rw [← e1, ab_turn p hd, h.turns.keep d hd]
  · obtain ⟨k, hk⟩ := h.turns.one e d he hd q.symm
    exact ⟨k, by rw [← hk]; exact it_turn p he k⟩
  · obtain ⟨o, k, K, eu⟩ := h.euler
    refine ⟨fun d => o (oth d), k, ⟨⟨fun d hd => ?_, fun u v hu hv q => ?_⟩, fun d hd => K.lo _ (oth_lt hd ev), fun e he => ?_⟩, eu⟩
    · obtain ⟨e, he, e1, e2⟩ := val (oth d) (oth_lt hd ev)
      have e3 : bh (turnUp x m) d = e := by show (turnUp x m (oth d)).toNat = e; rw [e2]; rfl
      have e4 : bh x (oth e) = oth d := by rw [← e1]; unfold bh ab; rw [oth_oth]
      show o (oth (bh (turnUp x m) d)) = o (oth d)
      rw [e3, ← e4, K.cy.fwd _ (oth_lt he ev)]
    · obtain ⟨k, hk⟩ := K.cy.one _ _ (oth_lt hv ev) (oth_lt hu ev) (show o (oth v) = o (oth u) from q.symm)
      exact ⟨k, turn_reach p ev hv k u hu hk⟩
    · obtain ⟨y, h1, h2⟩ := K.each e he
      exact ⟨oth y, oth_lt h1 ev, by show o (oth (oth y)) = e; rw [oth_oth]; exact h2⟩
theorem turn_turn (h : Grown N m t x c) {j : Nat} (hj : j < m) : turnUp (turnUp x m) m j = x j := by
  have p := h.turns.perm
  have pt := h.turn.turns.perm
  have e1 := turnUp_at (x := turnUp x m) pt m (Nat.le_refl _) (p.lt j hj)
  rw [ab_turn p hj] at e1
  rw [e1]
  have := h.good.next j hj
  unfold ab; omega
theorem turn_count (h : Grown N m t x c) {o o' : Nat → Int} {k k' : Nat} (O : Orb (bh x) m o k) (O' : Orb (bh (turnUp x m)) m o' k') : max k 1 = max k' 1 := by
  have e1 := h.plane.euler _ _ O
  have e2 := h.turn.plane.euler _ _ O'
  omega
end

end Go.Proofs.Ytcejjcopchkmeaa.Ro
