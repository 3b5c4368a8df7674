/- Plain: the other way about, and seen from behind, as much runs. -/
import Derived.Test.YtcdlnohnkdalbaaMg15
import Derived.Test.YtcdlnohnkdalbaaMxRoPu
import Derived.Test.YtcdlnohnkdalbaaMxRoTq
namespace Go.Proofs.Ytcdlnohnkdalbaa.Ro
open Go.RowKit Go.Proofs Go.Maps
set_option linter.unusedVariables false
set_option maxRecDepth 100000
set_option linter.unusedSimpArgs false

/-- two darts of one face begin at the two -/
def Sharing (m : Nat) (x t : Nat → Int) (s v : Int) : Prop := ∃ d1 d2, d1 < m ∧ d2 < m ∧ (∃ k, it (bh x) k d1 = d2) ∧ t d1 = s ∧ t d2 = v
section
variable {N m n n' : Nat} {x x' t t' c c' y y' : Nat → Int} {s v s' v' u u' code code' : Int}
theorem Sharing.symm (p : Perm (bh x) m) (h : Sharing m x t s v) : Sharing m x t v s := by
  obtain ⟨d1, d2, h1, h2, ⟨k, hk⟩, e1, e2⟩ := h
  obtain ⟨j, hj⟩ := p.back h1 hk
  exact ⟨d2, d1, h2, h1, ⟨j, hj⟩, e2, e1⟩
theorem RimOk.sharing {K f : Nat} {o D : Nat → Int} (h : RimOk N m x t c s v o K f D) : Sharing m x t s v := by
  obtain ⟨o0, k, e0, l, a, r, ⟨O, S, H⟩, -, -⟩ := h.over
  obtain ⟨-, g, -, -, ⟨d1, h1, o1, t1⟩, ⟨d2, h2, o2, t2⟩, -⟩ := S
  exact ⟨d1, d2, h1, h2, O.one d1 d2 h1 h2 (o1.trans o2.symm), t1, t2⟩
theorem RimBad.apart (h : RimBad N m x t s v code) (hin : InNet N s v) (hne : s ≠ v) (p : Perm (bh x) m) : ¬ Sharing m x t s v := by
  rcases h with ⟨h1, -⟩ | ⟨-, h2, -⟩ | ⟨-, -, ⟨o, k, O, -, hS⟩, -⟩
  · exact absurd hin h1
  · exact absurd h2 hne
  · rintro ⟨d1, d2, h1, h2, ⟨j, hj⟩, e1, e2⟩
    rcases hS with q | q
    · exact hne q
    · have lo := O.lo d1 h1
      refine q (o d1).toNat (by omega) ⟨⟨d1, h1, by omega, e1⟩, ⟨d2, h2, ?_, e2⟩⟩
      rw [← hj, O.it p h1]; omega
theorem RimBad.code_of (h : RimBad N m x t s v code) (h' : RimBad N m x' t' s' v' code') (e1 : InNet N s v ↔ InNet N s' v') (e2 : s = v ↔ s' = v') : code = code' := by
  rcases h with ⟨h1, rfl⟩ | ⟨h1, h2, rfl⟩ | ⟨h1, h2, -, rfl⟩ <;> rcases h' with ⟨k1, rfl⟩ | ⟨k1, k2, rfl⟩ | ⟨k1, k2, -, rfl⟩
  · rfl
  · exact absurd (e1.2 k1) h1
  · exact absurd (e1.2 k1) h1
  · exact absurd (e1.1 h1) k1
  · rfl
  · exact absurd (e2.1 h2) k2
  · exact absurd (e1.1 h1) k1
  · exact absurd (e2.2 k2) h2
  · rfl
/-- next ones behind the darts' others go the other way -/
def Mir (m : Nat) (x x' : Nat → Int) : Prop := ∀ u e, u < m → e < m → (bh x (oth e) = oth u ↔ bh x' u = e)
theorem Mir.symm (h : Mir m x x') (ev : m % 2 = 0) : Mir m x' x := fun u e hu he => by
  have := h (oth e) (oth u) (oth_lt he ev) (oth_lt hu ev)
  rw [oth_oth, oth_oth] at this
  exact this.symm
theorem Mir.reach (h : Mir m x x') (ev : m % 2 = 0) (p : Perm (bh x) m) {y1 : Nat} (h1 : y1 < m) : ∀ k y2, it (bh x) k y1 = y2 → it (bh x') k (oth y2) = oth y1
  | 0, y2, e => by
    have e : y1 = y2 := e
    rw [e]; rfl
  | k + 1, y2, e => by
    have hz := p.it_lt h1 k
    have e2 : bh x (it (bh x) k y1) = y2 := e
    have hy2 : y2 < m := by rw [← e2]; exact p.lt _ hz
    have e3 := (h (oth y2) (oth (it (bh x) k y1)) (oth_lt hy2 ev) (oth_lt hz ev)).1 (by rw [oth_oth, oth_oth]; exact e2)
    rw [it_in, e3]
    exact Mir.reach h ev p h1 k _ rfl
theorem Sharing.mir (h : Sharing m x t s v) (M : Mir m x x') (g : Good N m t x) (tu : Turns m t x) : Sharing m x' t s v := by
  have ev := g.even
  have p := tu.perm.bh ev
  obtain ⟨d1, d2, h1, h2, ⟨k, hk⟩, e1, e2⟩ := h
  obtain ⟨y1, l1, f1⟩ := p.onto h1
  obtain ⟨y2, l2, f2⟩ := p.onto h2
  have t1 : t (oth y1) = s := by rw [← tu.head g l1, f1, e1]
  have t2 : t (oth y2) = v := by rw [← tu.head g l2, f2, e2]
  have hy : it (bh x) k y1 = y2 := by
    refine p.inj _ _ (p.it_lt l1 k) l2 ?_
    rw [f2, ← hk, ← f1]
    exact (it_in (bh x) k y1)
  have := M.reach ev p l1 k y2 hy
  exact Sharing.symm ⟨fun e he => by
      obtain ⟨z, hz, e3⟩ := p.onto (oth_lt he ev)
      have e4 := (M e (oth z) he (oth_lt hz ev)).1 (by rw [oth_oth]; exact e3)
      rw [e4]; exact oth_lt hz ev, fun a b ha hb q => by
      obtain ⟨z, hz, e3⟩ := p.onto (oth_lt ha ev)
      obtain ⟨z', hz', e3'⟩ := p.onto (oth_lt hb ev)
      have e4 := (M a (oth z) ha (oth_lt hz ev)).1 (by rw [oth_oth]; exact e3)
      have e4' := (M b (oth z') hb (oth_lt hz' ev)).1 (by rw [oth_oth]; exact e3')
      rw [e4, e4'] at q
      have := oth_inj q
      subst this
      exact oth_inj (e3.symm.trans e3')⟩ ⟨oth y2, oth y1, oth_lt l2 ev, oth_lt l1 ev, ⟨k, this⟩, t2, t1⟩
theorem turn_mir (gr : Grown N m t x c) : Mir m x (turnUp x m) := fun u e hu he => by
  have p := gr.turns.perm
  have ev := gr.good.even
  refine ⟨fun h => turn_bh p ev hu he h, fun h => ?_⟩
  obtain ⟨d, hd, e1⟩ := p.onto2 (oth_lt hu ev)
  have e2 := turn_bh p ev hu hd (by rw [← ab_bh]; exact e1)
  rw [h] at e2
  subst e2
  rw [← ab_bh]; exact e1
theorem Pots.turn (h : Pots m t x) (gr : Grown N m t x c) : Pots m t (turnUp x m) := fun g C => by
  obtain ⟨q, f1, f2⟩ := h g C
  have p := gr.turns.perm
  have ev := gr.good.even
  refine ⟨fun d => - q (oth d), fun d hd => ?_, fun d hd => ?_⟩
  · obtain ⟨e, he, e1⟩ := p.onto2 (oth_lt hd ev)
    have e2 := turn_bh p ev hd he (by rw [← ab_bh]; exact e1)
    show - q (oth (bh (turnUp x m) d)) = - q (oth d)
    rw [e2, ← f1 (oth e) (oth_lt he ev), ← ab_bh, e1]
  · show g d = - q (oth (oth d)) - - q (oth d)
    rw [oth_oth, f2 d hd]; omega
/-- seen from behind as much runs -/
theorem FlowIs.behind (h : FlowIs N m x t c s v n y u code) (h' : FlowIs N m (turnUp x m) t c s v n' y' u' code') (ps : Pots m t x) (gr : Grown N m t x c) (hm : m ≤ 48) : code = code' ∧ u = u' := by
  have gd := gr.good
  have tu := gr.turns
  have g2 := gr.turn
  have p := tu.perm.bh gd.even
  have p2 := g2.turns.perm.bh gd.even
  have M := turn_mir gr
  have hc := gr.caps
  rcases h with ⟨-, rfl, h⟩ | ⟨o, K, f, D, -, rfl, rfl, -, h⟩ <;> rcases h' with ⟨-, rfl, h'⟩ | ⟨o', K', f', D', -, rfl, rfl, -, h'⟩
  · exact ⟨h.code_of h' Iff.rfl Iff.rfl, rfl⟩
  · exact absurd (h'.sharing.mir (M.symm gd.even) g2.good g2.turns) (h.apart h'.in_ h'.ne p)
  · exact absurd (h.sharing.mir M gd tu) (h'.apart h.in_ h.ne p2)
  · obtain ⟨F, hF⟩ := h.flows gd tu hm hc
    obtain ⟨F', hF'⟩ := h'.flows g2.good g2.turns hm hc
    exact ⟨rfl, Int.le_antisymm (h'.most (ps.turn gr) g2.good g2.turns hm hc F hF) (h.most ps gd tu hm hc F' hF')⟩
theorem Flows.swap {g : Nat → Int} {W : Int} (F : Flows m t g s v W) : Flows m t (fun d => - g d) v s W := ⟨fun d hd => by show - g (oth d) = - - g d; rw [F.anti d hd], fun z => by
  have e : val m t (fun d => - g d) z = - val m t g z := by
    have := val_mul m t g (-1) z
    have e2 : (fun d => (-1) * g d) = fun d => - g d := funext fun d => by omega
    rw [e2] at this
    rw [this]; omega
  rw [e, F.kept z]
  split <;> split <;> omega⟩
/-- the other way about as much runs, each dart holding what its other held -/
theorem FlowIs.swap (h : FlowIs N m x t c s v n y u code) (h' : FlowIs N m x t c' v s n' y' u' code') (he : ∀ d, d < m → c' d = c (oth d)) (ps : Pots m t x) (gd : Good N m t x) (tu : Turns m t x) (hm : m ≤ 48)
    (hc : ∀ d, d < m → 0 ≤ c d ∧ c d ≤ 2147483648) : code = code' ∧ u = u' := by
  have p := tu.perm.bh gd.even
  have hc' : ∀ d, d < m → 0 ≤ c' d ∧ c' d ≤ 2147483648 := fun d hd => by rw [he d hd]; exact hc _ (oth_lt hd gd.even)
  have ii : InNet N s v ↔ InNet N v s := by unfold InNet; omega
  rcases h with ⟨-, rfl, h⟩ | ⟨o, K, f, D, -, rfl, rfl, -, h⟩ <;> rcases h' with ⟨-, rfl, h'⟩ | ⟨o', K', f', D', -, rfl, rfl, -, h'⟩
  · exact ⟨h.code_of h' ii ⟨Eq.symm, Eq.symm⟩, rfl⟩
  · exact absurd (h'.sharing.symm p) (h.apart (ii.2 h'.in_) (Ne.symm h'.ne) p)
  · exact absurd (h.sharing.symm p) (h'.apart (ii.1 h.in_) (Ne.symm h.ne) p)
  · obtain ⟨F, hF⟩ := h.flows gd tu hm hc
    obtain ⟨F', hF'⟩ := h'.flows gd tu hm hc'
    refine ⟨rfl, Int.le_antisymm (h'.most ps gd tu hm hc' F.swap fun d hd => ?_) (h.most ps gd tu hm hc F'.swap fun d hd => ?_)⟩
    · have h1 := hF (oth d) (oth_lt hd gd.even)
      have h2 := F.anti d hd
      rw [he d hd]; omega
    · have h1 := hF' (oth d) (oth_lt hd gd.even)
      have h2 := F'.anti d hd
      rw [he _ (oth_lt hd gd.even), oth_oth] at h1
      omega
end
end Go.Proofs.Ytcdlnohnkdalbaa.Ro
