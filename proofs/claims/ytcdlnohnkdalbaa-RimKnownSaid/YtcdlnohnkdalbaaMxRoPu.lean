/- Plain: the nets that numbers make, and their parted faces: no flow is greater than the way is long. -/
import Derived.Test.YtcdlnohnkdalbaaMxRoPt
namespace Go.Proofs.Ytcdlnohnkdalbaa.Ro
set_option linter.unusedVariables false
set_option maxRecDepth 100000
set_option linter.unusedSimpArgs false

theorem more1_pots {s : Net5} {k : Int} (h : s.Ok) (hp : Pots s.m s.t s.x) (hk : 0 ≤ k) (hm : 0 < s.m) : Pots (more1 s k).m (more1 s k).t (more1 s k).x := by
  have he := (pickE_lt hk hm).1
  have gd : Good s.N s.m s.t s.x := Grown.good h
  show Pots (s.m + 2) (cat s.t s.m (two (s.t (pickE s k)) s.N)) (layIn (cat s.x s.m (two s.m (s.m + 1 : Nat))) (pickE s k) s.m)
  refine Pots.vertex (N := s.N) (e := pickE s k) hp gd he (fun d hd => cat_lo hd) ?_ ?_ ?_ ?_ ?_ ?_
  · rw [cat_hi (Nat.le_refl _), Nat.sub_self]; rfl
  · rw [cat_hi (by omega), show s.m + 1 - s.m = 1 by omega]; rfl
  · intro d hd hn; unfold layIn; rw [upd_ne hn, upd_ne (by omega), cat_lo hd]
  · unfold layIn; rw [upd_same]
  · unfold layIn; rw [upd_ne (by omega), upd_same, cat_lo he]
  · unfold layIn; rw [upd_ne (by omega), upd_ne (by omega), cat_hi (by omega), show s.m + 1 - s.m = 1 by omega]; rfl
theorem more2_pots {s : Net5} {k : Int} (h : s.Ok) (hp : Pots s.m s.t s.x) (hk : 0 ≤ k) (hm : 0 < s.m) : Pots (more2 s k).m (more2 s k).t (more2 s k).x := by
  have he := (pickE_lt hk hm).1
  obtain ⟨_, _, _, hg, hf⟩ := pickG_in (s := s) hk hm
  have gd : Good s.N s.m s.t s.x := Grown.good h
  have tu : Turns s.m s.t s.x := Grown.turns h
  have pb := tu.perm.bh gd.even
  have ev := gd.even
  obtain ⟨o, cc, O⟩ := pb.orb
  have CL := O.cls pb
  have fc : (fun x => (o x).toNat) (oth (pickE s k)) = (fun x => (o x).toNat) (oth (pickG s k)) := by
    obtain ⟨c, O2⟩ := facesOf_orb pb
    have e1 : ∀ y, ab s.x y = bh s.x (oth y) := fun y => by unfold ab bh; rw [oth_oth]
    rw [e1, e1, O2.fwd _ (oth_lt hg ev), O2.fwd _ (oth_lt he ev)] at hf
    show (o (oth (pickE s k))).toNat = (o (oth (pickG s k))).toNat
    rw [O.same O2 pb s.m _ (oth_lt he ev) (oth_lt he ev), O.same O2 pb s.m _ (oth_lt hg ev) (oth_lt hg ev), hf]
  have c0 : cat s.x s.m (two s.m (s.m + 1 : Nat)) s.m = s.m := by rw [cat_hi (Nat.le_refl _), Nat.sub_self]; rfl
  have c1 : cat s.x s.m (two s.m (s.m + 1 : Nat)) (s.m + 1) = (s.m + 1 : Nat) := by rw [cat_hi (by omega), show s.m + 1 - s.m = 1 by omega]; rfl
  have c2 : ∀ d, d < s.m → cat s.x s.m (two s.m (s.m + 1 : Nat)) d = s.x d := fun d hd => cat_lo hd
  show Pots (s.m + 2) (cat s.t s.m (two (s.t (pickE s k)) (s.t (pickG s k)))) (layIn (layIn (cat s.x s.m (two s.m (s.m + 1 : Nat))) (pickE s k) s.m) (if pickG s k = pickE s k then s.m else pickG s k) (s.m + 1))
  generalize cat s.x s.m (two s.m (s.m + 1 : Nat)) = y at *
  have l1 : ∀ d, d < s.m → d ≠ pickE s k → layIn y (pickE s k) s.m d = s.x d := fun d hd hn => by unfold layIn; rw [upd_ne hn, upd_ne (by omega), c2 d hd]
  have l2 : layIn y (pickE s k) s.m (pickE s k) = s.m := by unfold layIn; rw [upd_same]
  have l3 : layIn y (pickE s k) s.m s.m = s.x (pickE s k) := by unfold layIn; rw [upd_ne (by omega), upd_same, c2 _ he]
  have l4 : layIn y (pickE s k) s.m (s.m + 1) = (s.m + 1 : Nat) := by unfold layIn; rw [upd_ne (by omega), upd_ne (by omega), c1]
  generalize layIn y (pickE s k) s.m = x1 at *
  by_cases ge : pickG s k = pickE s k
  · rw [if_pos ge, ge]
    refine Pots.loop (e := pickE s k) hp gd he (fun d hd => cat_lo hd) ?_ ?_ ?_ ?_ ?_ ?_
    · rw [cat_hi (Nat.le_refl _), Nat.sub_self]; rfl
    · rw [cat_hi (by omega), show s.m + 1 - s.m = 1 by omega]; rfl
    · intro d hd hn; unfold layIn; rw [upd_ne (by omega), upd_ne (by omega), l1 d hd hn]
    · unfold layIn; rw [upd_ne (by omega), upd_ne (by omega), l2]
    · unfold layIn; rw [upd_same]
    · unfold layIn; rw [upd_ne (by omega), upd_same, l3]
  · rw [if_neg ge]
    refine Pots.chord (e := pickE s k) (g0 := pickG s k) hp gd tu CL.cy he hg ge fc (fun d hd => cat_lo hd) ?_ ?_ ?_ ?_ ?_ ?_ ?_
    · rw [cat_hi (Nat.le_refl _), Nat.sub_self]; rfl
    · rw [cat_hi (by omega), show s.m + 1 - s.m = 1 by omega]; rfl
    · intro d hd hn hn2; unfold layIn; rw [upd_ne hn2, upd_ne (by omega), l1 d hd hn]
    · unfold layIn; rw [upd_ne (fun q => ge q.symm), upd_ne (by omega), l2]
    · unfold layIn; rw [upd_same]
    · unfold layIn; rw [upd_ne (by omega), upd_ne (by omega), l3]
    · unfold layIn; rw [upd_ne (by omega), upd_same, l1 _ hg ge]
theorem planeUp_pots (z : Nat → Int) : ∀ i, i ≤ 24 → Pots (planeUp z i).m (planeUp z i).t (planeUp z i).x
  | 0, _ => Pots.start _ _
  | i + 1, hi => by
    obtain ⟨h1, h2, h3, h4⟩ := planeUp_ok z i (by omega)
    have h5 := planeUp_pots z i (by omega)
    have hk := Int.emod_nonneg (z i) (b := 1125899906842624) (by omega)
    show Pots (grow1 (planeUp z i) (z i % 1125899906842624)).m (grow1 (planeUp z i) (z i % 1125899906842624)).t (grow1 (planeUp z i) (z i % 1125899906842624)).x
    unfold grow1
    split
    · unfold onlyEdge
      split
      · exact Pots.loop1 rfl rfl
      · exact Pots.edge1 rfl rfl
    · split
      · exact more1_pots h1 h5 hk (by omega)
      · exact more2_pots h1 h5 hk (by omega)
theorem planeOf_pots (z : Nat → Int) (n : Nat) : Pots (planeOf z n).m (planeOf z n).t (planeOf z n).x := planeUp_pots z _ (by omega)

section
variable {N m K f : Nat} {x t c o D g : Nat → Int} {s v W : Int}
/-- a flow of value W out of s, to v -/
structure Flows (m : Nat) (t g : Nat → Int) (s v W : Int) : Prop where
  anti : ∀ d, d < m → g (oth d) = - g d
  kept : ∀ u, val m t g u = (if u = s then W else 0) + (if u = v then -W else 0)
/-- no flow that the darts hold is greater than the way between the halves is long -/
theorem Over.bound (h : Over m x t s v o K f) (ps : Pots m t x) (gd : Good N m t x) (tu : Turns m t x) (F : Flows m t g s v W) (hc : ∀ d, d < m → g d ≤ c d) (A : Away m c o K f D) (hD : D K ≠ far) (hn : f < K) : W ≤ D K := by
  obtain ⟨o0, k, e0, l, a, r, ⟨O, S, H⟩, hK, rfl⟩ := h
  have ev := gd.even
  have pb := tu.perm.bh ev
  have ne : (f : Int) ≠ (K : Int) := by omega
  -- the falls of the half
  obtain ⟨I, hI⟩ : ∃ I : Int → Int, I = fun z => if z = (K : Int) then 1 else 0 := ⟨_, rfl⟩
  have IK : I (K : Int) = 1 := by rw [hI]; exact if_pos rfl
  have If : I (f : Int) = 0 := by rw [hI]; exact if_neg ne
  have HI := fun u => H.falls O gd tu (K : Int) I u
  rw [IK, If] at HI
  obtain ⟨q, f1, f2⟩ := ps (fun d => g d - W * (I (halfO x o0 K e0 a r l (oth d)) - I (halfO x o0 K e0 a r l d))) ⟨fun d hd => by
    show g (oth d) - W * (I (halfO x o0 K e0 a r l (oth (oth d))) - I (halfO x o0 K e0 a r l (oth d))) = - (g d - W * (I (halfO x o0 K e0 a r l (oth d)) - I (halfO x o0 K e0 a r l d)))
    rw [oth_oth, F.anti d hd, Int.mul_sub, Int.mul_sub]
    omega, fun u => by
    have e1 := val_sub m t g (fun d => W * (I (halfO x o0 K e0 a r l (oth d)) - I (halfO x o0 K e0 a r l d))) u
    have e2 := val_mul m t (fun d => I (halfO x o0 K e0 a r l (oth d)) - I (halfO x o0 K e0 a r l d)) W u
    rw [e1, e2, HI u, F.kept u, Int.mul_add]
    split <;> split <;> omega⟩
  obtain ⟨P, hP⟩ : ∃ P : Nat → Int, P = fun d => q d + W * I (halfO x o0 K e0 a r l d) := ⟨_, rfl⟩
  have g2 : ∀ d, d < m → g d = P (oth d) - P d := fun d hd => by
    have e3 : g d - W * (I (halfO x o0 K e0 a r l (oth d)) - I (halfO x o0 K e0 a r l d)) = q (oth d) - q d := f2 d hd
    rw [hP]
    rw [Int.mul_sub] at e3
    show g d = (q (oth d) + W * I (halfO x o0 K e0 a r l (oth d))) - (q d + W * I (halfO x o0 K e0 a r l d))
    omega
  have qo : ∀ y y', y < m → y' < m → o0 y = o0 y' → q y = q y' := fun y y' hy hy' e => by
    obtain ⟨j, hj⟩ := O.one y y' hy hy' e
    have : ∀ j, q (it (bh x) j y) = q y := fun j => by
      induction j with
      | zero => rfl
      | succ j ih => exact (f1 _ (pb.it_lt hy j)).trans ih
    rw [← hj, this]
  have old : ∀ y, y < m → (halfO x o0 K e0 a r l y = (K : Int) ∧ o0 y = f) ∨ (halfO x o0 K e0 a r l y = o0 y ∧ halfO x o0 K e0 a r l y ≠ (K : Int)) := fun y hy => by
    have lo := O.lo y hy
    unfold halfO
    split
    · rename_i hx
      obtain ⟨i, -, -, rfl⟩ := hx
      exact .inl ⟨rfl, H.in_ O pb _⟩
    · exact .inr ⟨rfl, by omega⟩
  have Po : ∀ y y', y < m → y' < m → halfO x o0 K e0 a r l y = halfO x o0 K e0 a r l y' → P y = P y' := fun y y' hy hy' e => by
    rw [hP]
    show q y + W * I (halfO x o0 K e0 a r l y) = q y' + W * I (halfO x o0 K e0 a r l y')
    have : q y = q y' := by
      rcases old y hy with ⟨h1, h2⟩ | ⟨h1, h2⟩ <;> rcases old y' hy' with ⟨h3, h4⟩ | ⟨h3, h4⟩
      · exact qo y y' hy hy' (h2.trans h4.symm)
      · exact absurd (e.symm.trans h1) h4
      · exact absurd (e.trans h3) h2
      · exact qo y y' hy hy' (h1.symm.trans (e.trans h3))
    rw [e, this]
  -- a dart of the first half, one of the second
  have h0 := H.rpos
  have h1 := H.rlt
  have yf : halfO x o0 K e0 a r l (it (bh x) (a + 0) e0) = f := by rw [H.value O pb K (by omega), if_neg (by omega)]
  have yK : halfO x o0 K e0 a r l (it (bh x) (a + r) e0) = K := by rw [H.value O pb K (by omega), if_pos (by omega)]
  have lf := pb.it_lt H.lt (a + 0)
  have lK := pb.it_lt H.lt (a + r)
  have of0 : o0 (it (bh x) (a + 0) e0) = o0 (it (bh x) (a + r) e0) := (H.in_ O pb _).trans (H.in_ O pb _).symm
  have hq := qo _ _ lf lK of0
  have hW : P (it (bh x) (a + r) e0) = P (it (bh x) (a + 0) e0) + W := by
    rw [hP]
    show q _ + W * I _ = q _ + W * I _ + W
    rw [yf, yK, IK, If, hq]; omega
  generalize it (bh x) (a + r) e0 = y1 at *
  generalize it (bh x) (a + 0) e0 = y0 at *
  have pos : ∀ y, y < m → 0 ≤ halfO x o0 K e0 a r l y := fun y hy => by
    have := O.lo y hy
    rcases old y hy with ⟨h1, h2⟩ | ⟨h1, h2⟩ <;> omega
  generalize halfO x o0 (K : Int) e0 a r l = oo at *
  have way : ∀ {j : Nat} {L : Int} {n : Nat}, Way (overA oo c) m f j L n → ∀ y, y < m → (oo y).toNat = j → P y - P y0 ≤ L := by
    intro j L n w
    induction w with
    | nil =>
      intro y hy e
      have := pos y hy
      have := Po y y0 hy lf (by omega)
      omega
    | @snoc L' n' i w hi ih =>
      intro y hy e
      have e2 : (oo y).toNat = (oo (oth i)).toNat := e
      have p1 := pos y hy
      have p2 := pos _ (oth_lt hi ev)
      have h3 := Po y (oth i) hy (oth_lt hi ev) (by omega)
      have h4 := ih i hi rfl
      have h5 := g2 i hi
      have h6 := hc i hi
      show P y - P y0 ≤ L' + c i
      omega
  obtain ⟨T, SD, -, -⟩ := A
  rcases SD.each K (by omega) with q' | ⟨n, -, w⟩
  · exact absurd q' hD
  · have := way w y1 lK (by rw [yK]; rfl)
    omega
/-- what is told is a flow -/
theorem RimOk.flows (h : RimOk N m x t c s v o K f D) (g : Good N m t x) (tu : Turns m t x) (hm : m ≤ 48) (hc : ∀ d, d < m → 0 ≤ c d ∧ c d ≤ 2147483648) : Flows m t (fallOf o D) s v (D K) ∧ ∀ d, d < m → fallOf o D d ≤ c d := by
  obtain ⟨z, -, -⟩ := h.near g tu hm hc
  obtain ⟨ok, -, -⟩ := h.over.ok hm g.even hc
  refine ⟨⟨fun d _ => fallOf_oth o D d, fun u => ?_⟩, fun d hd => h.away.fall_le ok hd⟩
  rw [h.over.falls g tu D u, z]
  split <;> split <;> omega
/-- no flow is greater than what is told -/
theorem RimOk.most (h : RimOk N m x t c s v o K f D) (ps : Pots m t x) (gd : Good N m t x) (tu : Turns m t x) (hm : m ≤ 48) (hc : ∀ d, d < m → 0 ≤ c d ∧ c d ≤ 2147483648) (F : Flows m t g s v W) (hg : ∀ d, d < m → g d ≤ c d) : W ≤ D K := by
  obtain ⟨z, z1, z2⟩ := h.near gd tu hm hc
  obtain ⟨ok, -, hf⟩ := h.over.ok hm gd.even hc
  exact h.over.bound ps gd tu F hg h.away (by unfold far; omega) hf
end
end Go.Proofs.Ytcdlnohnkdalbaa.Ro
