/- Plain laws: plane nets grow: a new vertex, an edge across a face, a loop. -/
import Derived.Test.YtcejjcopchkmeaaRoE
namespace Go.Proofs.Ytcejjcopchkmeaa.Ro
set_option linter.unusedVariables false
set_option maxRecDepth 100000
set_option linter.unusedSimpArgs false

/-- what growing keeps -/
structure Grown (N m : Nat) (t x c : Nat → Int) : Prop where
  good : Good N m t x
  turns : Turns m t x
  caps : ∀ d, d < m → 0 ≤ c d ∧ c d ≤ 2147483648
  whole : ∀ u v, u < N → v < N → Conn m (tlOf t) u v
  euler : ∃ o k, Cls (bh x) m o k ∧ N + max k 1 = 2 + m / 2

theorem Turns.cy {m : Nat} {t x : Nat → Int} (h : Turns m t x) : Cy (ab x) m (tlOf t) := ⟨h.keep, h.one⟩
theorem Turns.of {m : Nat} {t x : Nat → Int} {f : Nat → Nat} {o : Nat → Nat} (p : Perm f m) (c : Cy f m o) (hf : ∀ d, d < m → ab x d = f d) (ho : ∀ d, d < m → tlOf t d = o d) : Turns m t x :=
  have q := c.same p hf ho
  ⟨p.same hf, q.fwd, q.one⟩

section
variable {N m : Nat} {t x c t' x' c' : Nat → Int}
theorem Grown.plane (h : Grown N m t x c) : Plane N m t x c := by
  refine ⟨h.good, h.turns, h.caps, fun o k P => ?_, fun o k O => ?_⟩
  · have h1 := h.good.one
    have l := P.lo 0 (by omega)
    rcases Nat.lt_or_ge 1 k with q | q
    · obtain ⟨v, h2, h3⟩ := P.each 1 q
      obtain ⟨u, h4, h5⟩ := P.each 0 (by omega)
      have := P.conn (h.whole u v h4 h2)
      omega
    · omega
  · obtain ⟨o', k', K, e⟩ := h.euler
    have p := h.turns.perm.bh h.good.even
    rw [(O.cls p).count K p]; exact e

theorem Grown.start (t x c : Nat → Int) : Grown 1 0 t x c :=
  ⟨⟨by omega, by omega, by omega, by omega, fun d h => by omega, fun d h => by omega⟩, ⟨⟨fun x h => by omega, fun x y h => by omega⟩, fun d h => by omega, fun d e h => by omega⟩, fun d h => by omega,
   fun u v hu hv => by rw [show u = v by omega]; exact .refl, ⟨fun _ => 0, 0, ⟨⟨fun x h => by omega, fun x y h => by omega⟩, fun x h => by omega, fun e h => by omega⟩, by omega⟩⟩

theorem oth0 : oth 0 = 1 := rfl
theorem oth1 : oth 1 = 0 := rfl
theorem two_cases {P : Nat → Prop} (h0 : P 0) (h1 : P 1) : ∀ d, d < 2 → P d := fun d h => by
  rcases Nat.lt_or_ge d 1 with q | q
  · rw [show d = 0 by omega]; exact h0
  · rw [show d = 1 by omega]; exact h1

theorem Grown.edge1 (t0 : t 0 = 0) (t1 : t 1 = 1) (x0 : x 0 = 0) (x1 : x 1 = 1) (c0 : 0 ≤ c 0 ∧ c 0 ≤ 2147483648) (c1 : 0 ≤ c 1 ∧ c 1 ≤ 2147483648) : Grown 2 2 t x c := by
  have a0 : ab x 0 = 0 := by unfold ab; rw [x0]; rfl
  have a1 : ab x 1 = 1 := by unfold ab; rw [x1]; rfl
  have b0 : bh x 0 = 1 := by unfold bh; rw [oth0, x1]; rfl
  have b1 : bh x 1 = 0 := by unfold bh; rw [oth1, x0]; rfl
  have l0 : tlOf t 0 = 0 := by unfold tlOf; rw [t0]; rfl
  have l1 : tlOf t 1 = 1 := by unfold tlOf; rw [t1]; rfl
  have cn : Conn 2 (tlOf t) 0 1 := by
    have := Conn.one (m := 2) (tl := tlOf t) (d := 0) (by omega)
    rw [oth0, l0, l1] at this; exact this
  refine ⟨⟨by omega, by omega, by omega, by omega, two_cases (by omega) (by omega), two_cases (by omega) (by omega)⟩,
    ⟨⟨two_cases (by omega) (by omega), ?_⟩, two_cases (by rw [a0]) (by rw [a1]), ?_⟩, two_cases c0 c1, ?_, ⟨fun _ => 0, 1, ⟨⟨fun _ _ => rfl, ?_⟩, fun x h => by omega, fun e h => ⟨0, by omega, by omega⟩⟩, by omega⟩⟩
  · refine fun d e hd he => two_cases (P := fun d => ab x d = ab x e → d = e) ?_ ?_ d hd
    · exact two_cases (P := fun e => ab x 0 = ab x e → 0 = e) (by omega) (by omega) e he
    · exact two_cases (P := fun e => ab x 1 = ab x e → 1 = e) (by omega) (by omega) e he
  · refine fun d e hd he => two_cases (P := fun d => tlOf t d = tlOf t e → ∃ k, it (ab x) k d = e) ?_ ?_ d hd
    · exact two_cases (P := fun e => tlOf t 0 = tlOf t e → ∃ k, it (ab x) k 0 = e) (fun _ => ⟨0, rfl⟩) (fun h => by omega) e he
    · exact two_cases (P := fun e => tlOf t 1 = tlOf t e → ∃ k, it (ab x) k 1 = e) (fun h => by omega) (fun _ => ⟨0, rfl⟩) e he
  · refine fun u v hu hv => two_cases (P := fun u => Conn 2 (tlOf t) u v) ?_ ?_ u hu
    · exact two_cases (P := fun v => Conn 2 (tlOf t) 0 v) .refl cn v hv
    · exact two_cases (P := fun v => Conn 2 (tlOf t) 1 v) (cn.symm (by omega)) .refl v hv
  · refine fun d e hd he _ => two_cases (P := fun d => ∃ k, it (bh x) k d = e) ?_ ?_ d hd
    · exact two_cases (P := fun e => ∃ k, it (bh x) k 0 = e) ⟨0, rfl⟩ ⟨1, b0⟩ e he
    · exact two_cases (P := fun e => ∃ k, it (bh x) k 1 = e) ⟨1, b1⟩ ⟨0, rfl⟩ e he

theorem Grown.loop1 (t0 : t 0 = 0) (t1 : t 1 = 0) (x0 : x 0 = 1) (x1 : x 1 = 0) (c0 : 0 ≤ c 0 ∧ c 0 ≤ 2147483648) (c1 : 0 ≤ c 1 ∧ c 1 ≤ 2147483648) : Grown 1 2 t x c := by
  have a0 : ab x 0 = 1 := by unfold ab; rw [x0]; rfl
  have a1 : ab x 1 = 0 := by unfold ab; rw [x1]; rfl
  have b0 : bh x 0 = 0 := by unfold bh; rw [oth0, x1]; rfl
  have b1 : bh x 1 = 1 := by unfold bh; rw [oth1, x0]; rfl
  have l0 : tlOf t 0 = 0 := by unfold tlOf; rw [t0]; rfl
  have l1 : tlOf t 1 = 0 := by unfold tlOf; rw [t1]; rfl
  refine ⟨⟨by omega, by omega, by omega, by omega, two_cases (by omega) (by omega), two_cases (by omega) (by omega)⟩,
    ⟨⟨two_cases (by omega) (by omega), ?_⟩, two_cases (by rw [a0, l1, l0]) (by rw [a1, l1, l0]), ?_⟩, two_cases c0 c1, fun u v hu hv => by rw [show u = v by omega]; exact .refl, ⟨id, 2, ⟨⟨two_cases b0 b1, ?_⟩, fun x h => h, fun e h => ⟨e, h, rfl⟩⟩, by omega⟩⟩
  · refine fun d e hd he => two_cases (P := fun d => ab x d = ab x e → d = e) ?_ ?_ d hd
    · exact two_cases (P := fun e => ab x 0 = ab x e → 0 = e) (by omega) (by omega) e he
    · exact two_cases (P := fun e => ab x 1 = ab x e → 1 = e) (by omega) (by omega) e he
  · refine fun d e hd he => two_cases (P := fun d => tlOf t d = tlOf t e → ∃ k, it (ab x) k d = e) ?_ ?_ d hd
    · exact two_cases (P := fun e => tlOf t 0 = tlOf t e → ∃ k, it (ab x) k 0 = e) (fun _ => ⟨0, rfl⟩) (fun h => ⟨1, a0⟩) e he
    · exact two_cases (P := fun e => tlOf t 1 = tlOf t e → ∃ k, it (ab x) k 1 = e) (fun h => ⟨1, a1⟩) (fun _ => ⟨0, rfl⟩) e he
  · exact fun d e hd he q => ⟨0, q⟩

theorem oth_even {m : Nat} (h : m % 2 = 0) : oth m = m + 1 := if_pos h
theorem oth_odd {m : Nat} (h : m % 2 = 0) : oth (m + 1) = m := by unfold oth; rw [if_neg (by omega)]; omega
theorem oth_inj {a b : Nat} (h : oth a = oth b) : a = b := by rw [← oth_oth a, h, oth_oth]
theorem four_cases {m e : Nat} {P : Nat → Prop} (h0 : ∀ d, d < m → d ≠ e → P d) (h1 : P e) (h2 : P m) (h3 : P (m + 1)) : ∀ d, d < m + 2 → P d := fun d h => by
  by_cases q : d = e
  · rw [q]; exact h1
  · rcases Nat.lt_or_ge d m with q2 | q2
    · exact h0 d q2 q
    · rcases Nat.lt_or_ge m d with q3 | q3
      · rw [show d = m + 1 by omega]; exact h3
      · rw [show d = m by omega]; exact h2
theorem three_cases {m : Nat} {P : Nat → Prop} (h0 : ∀ d, d < m → P d) (h2 : P m) (h3 : P (m + 1)) : ∀ d, d < m + 2 → P d := fun d h => by
  rcases Nat.lt_or_ge d m with q2 | q2
  · exact h0 d q2
  · rcases Nat.lt_or_ge m d with q3 | q3
    · rw [show d = m + 1 by omega]; exact h3
    · rw [show d = m by omega]; exact h2
theorem five_cases {m e g : Nat} {P : Nat → Prop} (h0 : ∀ d, d < m → d ≠ e → d ≠ g → P d) (h1 : P e) (h4 : P g) (h2 : P m) (h3 : P (m + 1)) : ∀ d, d < m + 2 → P d :=
  four_cases (m := m) (e := e) (P := P) (fun d hd he => by
    by_cases q : d = g
    · rw [q]; exact h4
    · exact h0 d hd he q) h1 h2 h3

theorem Conn.more {m : Nat} {tl tl' : Nat → Nat} {a b : Nat} (hm : m % 2 = 0) (he : ∀ d, d < m → tl' d = tl d) (h : Conn m tl a b) : Conn (m + 2) tl' a b := by
  induction h with
  | refl => exact .refl
  | @step d hd _ ih =>
    rw [← he d hd] at ih
    rw [← he (oth d) (oth_lt hd hm)]
    exact .step (by omega) ih

theorem Grown.vertex {e : Nat} (h : Grown N m t x c) (hN : N + 1 ≤ 60) (hm : m + 2 ≤ 240) (he : e < m) (ht : ∀ d, d < m → t' d = t d) (ht1 : t' m = t e) (ht2 : t' (m + 1) = N)
    (hx : ∀ d, d < m → d ≠ e → x' d = x d) (hx1 : x' e = m) (hx2 : x' m = x e) (hx3 : x' (m + 1) = (m + 1 : Nat)) (hc : ∀ d, d < m → c' d = c d) (hc1 : 0 ≤ c' m ∧ c' m ≤ 2147483648) (hc2 : 0 ≤ c' (m + 1) ∧ c' (m + 1) ≤ 2147483648) :
    Grown (N + 1) (m + 2) t' x' c' := by
  have g := h.good
  have ev := g.even
  have pa := h.turns.perm
  have pb := pa.bh ev
  have oe := oth_lt he ev
  have tl1 : ∀ d, d < m → tlOf t' d = tlOf t d := fun d hd => by unfold tlOf; rw [ht d hd]
  have tl2 : tlOf t' m = tlOf t e := by unfold tlOf; rw [ht1]
  have tl3 : tlOf t' (m + 1) = N := by unfold tlOf; rw [ht2]; rfl
  have tlN : ∀ d, d < m → tlOf t d < N := fun d hd => by have := g.tail d hd; unfold tlOf; omega
  refine ⟨⟨by omega, by omega, hm, by omega, four_cases (m := m) (e := e) ?_ ?_ ?_ ?_, three_cases (m := m) ?_ ?_ ?_⟩, ?_, three_cases (m := m) ?_ hc1 hc2, ?_, ?_⟩
  · intro d hd hn; rw [hx d hd hn]; have := g.next d hd; omega
  · rw [hx1]; omega
  · rw [hx2]; have := g.next e he; omega
  · rw [hx3]; omega
  · intro d hd; rw [ht d hd]; have := g.tail d hd; omega
  · rw [ht1]; have := g.tail e he; omega
  · rw [ht2]; omega
  · have p1 := pa.ins he
    have c1 := h.turns.cy.ins pa he
    have c2 := c1.ext p1 (c := N) (by
      intro x hx
      rcases Nat.lt_or_ge x m with q | q
      · rw [upd_ne (by omega)]; have := tlN x q; omega
      · rw [show x = m by omega, upd_same]; have := tlN e he; omega)
    refine Turns.of p1.ext c2 (four_cases (m := m) (e := e) ?_ ?_ ?_ ?_) (three_cases (m := m) ?_ ?_ ?_)
    · intro d hd hn
      show _ = upd _ _ _ d
      rw [upd_ne (by omega), ins_old hd hn]
      unfold ab; rw [hx d hd hn]
    · show _ = upd _ _ _ e
      rw [upd_ne (by omega), ins_at]
      unfold ab; rw [hx1]; rfl
    · show _ = upd _ _ _ m
      rw [upd_ne (by omega), ins_new he]
      unfold ab; rw [hx2]
    · show _ = upd _ _ _ (m + 1)
      rw [upd_same]
      unfold ab; rw [hx3]; rfl
    · intro d hd
      rw [upd_ne (by omega), upd_ne (by omega)]; exact tl1 d hd
    · rw [upd_ne (by omega), upd_same]; exact tl2
    · rw [upd_same]; exact tl3
  · intro d hd; rw [hc d hd]; exact h.caps d hd
  · have z : ∀ v, v < N + 1 → Conn (m + 2) (tlOf t') 0 v := fun v hv => by
      rcases Nat.lt_or_ge v N with q | q
      · exact (h.whole 0 v (by omega) q).more ev tl1
      · have k1 := (h.whole 0 (tlOf t e) g.one (tlN e he)).more ev tl1
        have k2 := Conn.one (m := m + 2) (tl := tlOf t') (d := m) (by omega)
        rw [tl2, oth_even ev, tl3] at k2
        rw [show v = N by omega]
        exact k1.trans k2
    exact fun u v hu hv => ((z u hu).symm (by omega)).trans (z v hv)
  · obtain ⟨o, k, K, eu⟩ := h.euler
    have K1 := K.ins pb oe
    have p1 := pb.ins oe
    have K2 := K1.ins (e := m) p1 (by omega)
    have p2 := p1.ins (e := m) (by omega)
    refine ⟨_, k, K2.same p2 (four_cases (m := m) (e := oth e) ?_ ?_ ?_ ?_), by omega⟩
    · intro d hd hn
      rw [ins_old (by omega) (by omega), ins_old hd hn]
      unfold bh
      rw [hx _ (oth_lt hd ev) (fun q => hn (by rw [← q, oth_oth]))]
    · rw [ins_old (by omega) (by omega), ins_at]
      unfold bh; rw [oth_oth, hx1]; rfl
    · rw [ins_at]
      unfold bh; rw [oth_even ev, hx3]; rfl
    · rw [ins_new (by omega), ins_new oe]
      unfold bh; rw [oth_odd ev, hx2, oth_oth]

theorem Grown.loop {e : Nat} (h : Grown N m t x c) (hm : m + 2 ≤ 240) (he : e < m) (ht : ∀ d, d < m → t' d = t d) (ht1 : t' m = t e) (ht2 : t' (m + 1) = t e)
    (hx : ∀ d, d < m → d ≠ e → x' d = x d) (hx1 : x' e = m) (hx2 : x' m = (m + 1 : Nat)) (hx3 : x' (m + 1) = x e) (hc : ∀ d, d < m → c' d = c d) (hc1 : 0 ≤ c' m ∧ c' m ≤ 2147483648) (hc2 : 0 ≤ c' (m + 1) ∧ c' (m + 1) ≤ 2147483648) :
    Grown N (m + 2) t' x' c' := by
  have g := h.good
  have ev := g.even
  have pa := h.turns.perm
  have pb := pa.bh ev
  have oe := oth_lt he ev
  have tl1 : ∀ d, d < m → tlOf t' d = tlOf t d := fun d hd => by unfold tlOf; rw [ht d hd]
  have tl2 : tlOf t' m = tlOf t e := by unfold tlOf; rw [ht1]
  have tl3 : tlOf t' (m + 1) = tlOf t e := by unfold tlOf; rw [ht2]
  refine ⟨⟨g.one, g.most, hm, by omega, four_cases (m := m) (e := e) ?_ ?_ ?_ ?_, three_cases (m := m) ?_ ?_ ?_⟩, ?_, three_cases (m := m) ?_ hc1 hc2, ?_, ?_⟩
  · intro d hd hn; rw [hx d hd hn]; have := g.next d hd; omega
  · rw [hx1]; omega
  · rw [hx2]; omega
  · rw [hx3]; have := g.next e he; omega
  · intro d hd; rw [ht d hd]; have := g.tail d hd; omega
  · rw [ht1]; have := g.tail e he; omega
  · rw [ht2]; have := g.tail e he; omega
  · have p1 := pa.ins he
    have c1 := h.turns.cy.ins pa he
    have c2 := c1.ins (e := m) p1 (by omega)
    refine Turns.of (p1.ins (e := m) (by omega)) c2 (four_cases (m := m) (e := e) ?_ ?_ ?_ ?_) (three_cases (m := m) ?_ ?_ ?_)
    · intro d hd hn
      rw [ins_old (by omega) (by omega), ins_old hd hn]
      unfold ab; rw [hx d hd hn]
    · rw [ins_old (by omega) (by omega), ins_at]
      unfold ab; rw [hx1]; rfl
    · rw [ins_at]
      unfold ab; rw [hx2]; rfl
    · rw [ins_new (by omega), ins_new he]
      unfold ab; rw [hx3]
    · intro d hd
      rw [upd_ne (by omega), upd_ne (by omega)]; exact tl1 d hd
    · rw [upd_ne (by omega), upd_same]; exact tl2
    · rw [upd_same, upd_same]; exact tl3
  · intro d hd; rw [hc d hd]; exact h.caps d hd
  · exact fun u v hu hv => (h.whole u v hu hv).more ev tl1
  · obtain ⟨o, k, K, eu⟩ := h.euler
    have K1 := K.ins pb oe
    have p1 := pb.ins oe
    have K2 := K1.ext p1
    have kp := K.lo e he
    refine ⟨_, k + 1, K2.same p1.ext (four_cases (m := m) (e := oth e) ?_ ?_ ?_ ?_), by omega⟩
    · intro d hd hn
      show _ = upd _ _ _ d
      rw [upd_ne (by omega), ins_old hd hn]
      unfold bh
      rw [hx _ (oth_lt hd ev) (fun q => hn (by rw [← q, oth_oth]))]
    · show _ = upd _ _ _ (oth e)
      rw [upd_ne (by omega), ins_at]
      unfold bh; rw [oth_oth, hx1]; rfl
    · show _ = upd _ _ _ m
      rw [upd_ne (by omega), ins_new oe]
      unfold bh; rw [oth_even ev, hx3, oth_oth]
    · show _ = upd _ _ _ (m + 1)
      rw [upd_same]
      unfold bh; rw [oth_odd ev, hx2]; rfl

theorem Grown.chord {e g : Nat} (h : Grown N m t x c) (hm : m + 2 ≤ 240) (he : e < m) (hg : g < m) (hne : g ≠ e) (hf : ∃ j, it (bh x) j (oth g) = oth e) (ht : ∀ d, d < m → t' d = t d) (ht1 : t' m = t e) (ht2 : t' (m + 1) = t g)
    (hx : ∀ d, d < m → d ≠ e → d ≠ g → x' d = x d) (hx1 : x' e = m) (hx4 : x' g = (m + 1 : Nat)) (hx2 : x' m = x e) (hx3 : x' (m + 1) = x g) (hc : ∀ d, d < m → c' d = c d) (hc1 : 0 ≤ c' m ∧ c' m ≤ 2147483648) (hc2 : 0 ≤ c' (m + 1) ∧ c' (m + 1) ≤ 2147483648) :
    Grown N (m + 2) t' x' c' := by
  have gd := h.good
  have ev := gd.even
  have pa := h.turns.perm
  have pb := pa.bh ev
  have oe := oth_lt he ev
  have og := oth_lt hg ev
  have one : oth g ≠ oth e := fun q => hne (oth_inj q)
  have tl1 : ∀ d, d < m → tlOf t' d = tlOf t d := fun d hd => by unfold tlOf; rw [ht d hd]
  have tl2 : tlOf t' m = tlOf t e := by unfold tlOf; rw [ht1]
  have tl3 : tlOf t' (m + 1) = tlOf t g := by unfold tlOf; rw [ht2]
  refine ⟨⟨gd.one, gd.most, hm, by omega, five_cases (m := m) (e := e) (g := g) ?_ ?_ ?_ ?_ ?_, three_cases (m := m) ?_ ?_ ?_⟩, ?_, three_cases (m := m) ?_ hc1 hc2, ?_, ?_⟩
  · intro d hd hn hn2; rw [hx d hd hn hn2]; have := gd.next d hd; omega
  · rw [hx1]; omega
  · rw [hx4]; omega
  · rw [hx2]; have := gd.next e he; omega
  · rw [hx3]; have := gd.next g hg; omega
  · intro d hd; rw [ht d hd]; have := gd.tail d hd; omega
  · rw [ht1]; have := gd.tail e he; omega
  · rw [ht2]; have := gd.tail g hg; omega
  · have p1 := pa.ins he
    have c1 := h.turns.cy.ins pa he
    have c2 := c1.ins (e := g) p1 (by omega)
    refine Turns.of (p1.ins (e := g) (by omega)) c2 (five_cases (m := m) (e := e) (g := g) ?_ ?_ ?_ ?_ ?_) (three_cases (m := m) ?_ ?_ ?_)
    · intro d hd hn hn2
      rw [ins_old (by omega) hn2, ins_old hd hn]
      unfold ab; rw [hx d hd hn hn2]
    · rw [ins_old (by omega) hne.symm, ins_at]
      unfold ab; rw [hx1]; rfl
    · rw [ins_at]
      unfold ab; rw [hx4]; rfl
    · rw [ins_old (by omega) (by omega), ins_new he]
      unfold ab; rw [hx2]
    · rw [ins_new (by omega), ins_old hg hne]
      unfold ab; rw [hx3]
    · intro d hd
      rw [upd_ne (by omega), upd_ne (by omega)]; exact tl1 d hd
    · rw [upd_ne (by omega), upd_same]; exact tl2
    · rw [upd_same, upd_ne (by omega)]; exact tl3
  · intro d hd; rw [hc d hd]; exact h.caps d hd
  · exact fun u v hu hv => (h.whole u v hu hv).more ev tl1
  · obtain ⟨o, k, K, eu⟩ := h.euler
    obtain ⟨j, hj⟩ := hf
    have same : o (oth g) = o (oth e) := by rw [← hj, K.cy.it pb og]
    have K1 := K.ins pb oe
    have p1 := pb.ins oe
    have K2 := K1.ins (e := oth g) p1 (by omega)
    have p2 := p1.ins (e := oth g) (by omega)
    have n1 : upd (upd o m (o (oth e))) (m + 1) (upd o m (o (oth e)) (oth g)) m = o (oth e) := by rw [upd_ne (by omega), upd_same]
    have n2 : upd (upd o m (o (oth e))) (m + 1) (upd o m (o (oth e)) (oth g)) (m + 1) = o (oth e) := by rw [upd_same, upd_ne (by omega), same]
    have K3 := K2.split (u := m) (v := m + 1) p2 (by omega) (by omega) (by omega) (n1.trans n2.symm)
    have p3 := p2.sw (u := m) (v := m + 1) (by omega) (by omega) (by omega)
    have kp := K.lo e he
    refine ⟨_, k + 1, K3.same p3 (five_cases (m := m) (e := oth e) (g := oth g) ?_ ?_ ?_ ?_ ?_), by omega⟩
    · intro d hd hn hn2
      rw [sw_x (by omega) (by omega), ins_old (by omega) hn2, ins_old hd hn]
      unfold bh
      rw [hx _ (oth_lt hd ev) (fun q => hn (by rw [← q, oth_oth])) (fun q => hn2 (by rw [← q, oth_oth]))]
    · rw [sw_x (by omega) (by omega), ins_old (by omega) one.symm, ins_at]
      unfold bh; rw [oth_oth, hx1]; rfl
    · rw [sw_x (by omega) (by omega), ins_at]
      unfold bh; rw [oth_oth, hx4]; rfl
    · rw [sw_u (by omega), ins_new (by omega), ins_old og one]
      unfold bh; rw [oth_even ev, hx3, oth_oth]
    · rw [sw_v, ins_old (by omega) (by omega), ins_new oe]
      unfold bh; rw [oth_odd ev, hx2, oth_oth]
end
end Go.Proofs.Ytcejjcopchkmeaa.Ro
