/- Plain: what goes round in a plane net is what falls across its darts. -/
import Derived.Test.YtcdlnohnkdalbaaMg10
import Derived.Test.YtcdlnohnkdalbaaMxRiCv
namespace Go.Proofs.Ytcdlnohnkdalbaa.Ro
set_option linter.unusedVariables false
set_option maxRecDepth 100000
set_option linter.unusedSimpArgs false

/-- as much comes to each vertex as leaves it -/
structure Circ (m : Nat) (t g : Nat → Int) : Prop where
  anti : ∀ d, d < m → g (oth d) = - g d
  kept : ∀ u, val m t g u = 0
/-- what goes round is what falls -/
def Pots (m : Nat) (t x : Nat → Int) : Prop := ∀ g, Circ m t g → ∃ q : Nat → Int, (∀ d, d < m → q (bh x d) = q d) ∧ ∀ d, d < m → g d = q (oth d) - q d

section
variable {N m : Nat} {t x t' x' : Nat → Int}
theorem val_two (m : Nat) (t g : Nat → Int) (u : Int) : val (m + 2) t g u = val m t g u + (if t m = u then g m else 0) + (if t (m + 1) = u then g (m + 1) else 0) := rfl
theorem val_same {t t' : Nat → Int} (h : ∀ d, d < m → t' d = t d) (g : Nat → Int) (u : Int) : val m t' g u = val m t g u := sm_congr m fun d hd => by rw [h d hd]
theorem val_sub (m : Nat) (t g h : Nat → Int) (u : Int) : val m t (fun d => g d - h d) u = val m t g u - val m t h u := by
  unfold val
  rw [← sm_sub]
  refine sm_congr m fun d hd => ?_
  by_cases q : t d = u
  · simp only [if_pos q]
  · simp only [if_neg q]; rfl
theorem sm_mul (b : Int) (f : Nat → Int) : ∀ n, sm (fun d => b * f d) n = b * sm f n
  | 0 => by simp [sm]
  | n + 1 => by
    show sm (fun d => b * f d) n + b * f n = b * (sm f n + f n)
    rw [sm_mul b f n, Int.mul_add]
theorem val_mul (m : Nat) (t g : Nat → Int) (b u : Int) : val m t (fun d => b * g d) u = b * val m t g u := by
  unfold val
  rw [← sm_mul]
  refine sm_congr m fun d hd => ?_
  by_cases q : t d = u
  · simp only [if_pos q]
  · simp only [if_neg q]; simp
theorem val_none {t g : Nat → Int} {u : Int} (h : ∀ d, d < m → t d ≠ u) : val m t g u = 0 := by
  unfold val
  rw [sm_congr (g := fun _ => 0) m fun d hd => if_neg (h d hd), sm_zero]
/-- the falls of a row of numbers that changes along the faces at two places alone -/
theorem fall_sum (g : Good N m t x) (tu : Turns m t x) {P : Nat → Int} {y1 y2 : Nat} {A B : Int} (l1 : y1 < m) (l2 : y2 < m)
    (hs : ∀ y, y < m → P y - P (bh x y) = (if y = y1 then A else 0) + (if y = y2 then B else 0)) (u : Int) :
    val m t (fun d => P (oth d) - P d) u = (if t (oth y1) = u then A else 0) + (if t (oth y2) = u then B else 0) := by
  have ev := g.even
  unfold val
  rw [sm_congr (g := fun d => ((if d = oth y1 then (fun _ => if t (oth y1) = u then A else 0) d else 0) + (if d = oth y2 then (fun _ => if t (oth y2) = u then B else 0) d else 0)) + ((fun y => if t y = u then P y else 0) (ab x d) - (fun y => if t y = u then P y else 0) d)) m fun d hd => ?_]
  · rw [sm_add, sm_add, sm_one _ _ m (oth_lt l1 ev), sm_one _ _ m (oth_lt l2 ev), sm_sub]
    have hp : sm (fun d => (fun y => if t y = u then P y else 0) (ab x d)) m = sm (fun y => if t y = u then P y else 0) m := sm_perm tu.perm (fun y => if t y = u then P y else 0)
    rw [hp]
    omega
  · have ho := oth_lt hd ev
    have hb : bh x (oth d) = ab x d := (ab_bh x d).symm
    have := hs (oth d) ho
    rw [hb] at this
    have i1 : oth d = y1 ↔ d = oth y1 := ⟨fun z => by rw [← z, oth_oth], fun z => by rw [z, oth_oth]⟩
    have i2 : oth d = y2 ↔ d = oth y2 := ⟨fun z => by rw [← z, oth_oth], fun z => by rw [z, oth_oth]⟩
    simp only [i1, i2] at this
    show (if t d = u then P (oth d) - P d else 0) = ((if d = oth y1 then (if t (oth y1) = u then A else 0) else 0) + (if d = oth y2 then (if t (oth y2) = u then B else 0) else 0)) + ((if t (ab x d) = u then P (ab x d) else 0) - (if t d = u then P d else 0))
    rw [tu.tail g hd]
    have k1 : (if d = oth y1 then (if t (oth y1) = u then A else 0) else 0) = if t d = u then (if d = oth y1 then A else 0) else 0 := by
      by_cases q : d = oth y1
      · rw [if_pos q, if_pos q, ← q]
      · rw [if_neg q, if_neg q]; split <;> rfl
    have k2 : (if d = oth y2 then (if t (oth y2) = u then B else 0) else 0) = if t d = u then (if d = oth y2 then B else 0) else 0 := by
      by_cases q : d = oth y2
      · rw [if_pos q, if_pos q, ← q]
      · rw [if_neg q, if_neg q]; split <;> rfl
    rw [k1, k2]
    by_cases q : t d = u
    · simp only [if_pos q]; omega
    · simp only [if_neg q]; omega

theorem Pots.start (t x : Nat → Int) : Pots 0 t x := fun g _ => ⟨fun _ => 0, fun d hd => by omega, fun d hd => by omega⟩
theorem Pots.edge1 (t0 : t 0 = 0) (t1 : t 1 = 1) : Pots 2 t x := fun g C => by
  have h0 := C.kept 0
  rw [show (2 : Nat) = 0 + 2 from rfl, val_two, t0, t1, if_pos rfl, if_neg (by omega)] at h0
  have h1 : val 0 t g 0 = 0 := rfl
  have h2 : g 1 = - g 0 := C.anti 0 (by omega)
  refine ⟨fun _ => 0, fun _ _ => rfl, two_cases ?_ ?_⟩
  · show g 0 = 0 - 0
    omega
  · show g 1 = 0 - 0
    omega
theorem Pots.loop1 (x0 : x 0 = 1) (x1 : x 1 = 0) : Pots 2 t x := fun g C => by
  have h2 : g 1 = - g 0 := C.anti 0 (by omega)
  refine ⟨fun d => if d = 0 then 0 else g 0, two_cases ?_ ?_, two_cases ?_ ?_⟩
  · show (if (x (oth 0)).toNat = 0 then 0 else g 0) = _
    rw [oth0, x1]; rfl
  · show (if (x (oth 1)).toNat = 0 then 0 else g 0) = _
    rw [oth1, x0]; rfl
  · show g 0 = (if oth 0 = 0 then 0 else g 0) - (if 0 = 0 then 0 else g 0)
    rw [oth0, if_neg (by omega), if_pos rfl]; omega
  · show g 1 = (if oth 1 = 0 then 0 else g 0) - (if 1 = 0 then 0 else g 0)
    rw [oth1, if_pos rfl, if_neg (by omega)]; omega

theorem oth_low {d : Nat} (ev : m % 2 = 0) (hd : d < m) : oth d ≠ m ∧ oth d ≠ m + 1 := by have := oth_lt hd ev; omega
theorem Pots.vertex {e : Nat} (h : Pots m t x) (gd : Good N m t x) (he : e < m) (ht : ∀ d, d < m → t' d = t d) (ht1 : t' m = t e) (ht2 : t' (m + 1) = N)
    (hx : ∀ d, d < m → d ≠ e → x' d = x d) (hx1 : x' e = m) (hx2 : x' m = x e) (hx3 : x' (m + 1) = (m + 1 : Nat)) : Pots (m + 2) t' x' := fun g C => by
  have ev := gd.even
  have om := oth_even ev
  have om1 := oth_odd ev
  have hN := C.kept N
  have te := gd.tail e he
  rw [val_two, val_same ht, val_none (fun d hd => by have := gd.tail d hd; omega), ht1, ht2, if_pos rfl, if_neg (by omega)] at hN
  have ga := C.anti m (by omega)
  rw [om] at ga
  have g0 : g m = 0 := by omega
  have g1 : g (m + 1) = 0 := by omega
  obtain ⟨q, f1, f2⟩ := h g ⟨fun d hd => C.anti d (by omega), fun u => by
    have := C.kept u
    rw [val_two, val_same ht, g0, g1] at this
    split at this <;> split at this <;> omega⟩
  have qe : q (x e).toNat = q (oth e) := by
    have := f1 (oth e) (oth_lt he ev)
    unfold bh at this
    rw [oth_oth] at this
    exact this
  have xl : (x e).toNat < m := by have := gd.next e he; omega
  refine ⟨fun d => if d < m then q d else q (oth e), four_cases (m := m) (e := oth e) ?_ ?_ ?_ ?_, three_cases (m := m) ?_ ?_ ?_⟩
  · intro d hd hn
    have hb : bh x' d = bh x d := by unfold bh; rw [hx _ (oth_lt hd ev) (fun z => hn (by rw [← z, oth_oth]))]
    have hl : bh x d < m := by have := gd.next _ (oth_lt hd ev); unfold bh; omega
    rw [hb]
    simp only [if_pos hd, if_pos hl]
    exact f1 d hd
  · have hb : bh x' (oth e) = m := by unfold bh; rw [oth_oth, hx1]; rfl
    rw [hb]
    simp only [if_neg (Nat.lt_irrefl m), if_pos (oth_lt he ev)]
  · have hb : bh x' m = m + 1 := by unfold bh; rw [om, hx3]; rfl
    rw [hb]
    simp only [if_neg (Nat.lt_irrefl m), if_neg (show ¬ m + 1 < m by omega)]
  · have hb : bh x' (m + 1) = (x e).toNat := by unfold bh; rw [om1, hx2]
    rw [hb]
    simp only [if_pos xl, if_neg (show ¬ m + 1 < m by omega)]
    exact qe
  · intro d hd
    simp only [if_pos hd, if_pos (oth_lt hd ev)]
    exact f2 d hd
  · rw [om]
    simp only [if_neg (Nat.lt_irrefl m), if_neg (show ¬ m + 1 < m by omega)]
    omega
  · rw [om1]
    simp only [if_neg (Nat.lt_irrefl m), if_neg (show ¬ m + 1 < m by omega)]
    omega
theorem Pots.loop {e : Nat} (h : Pots m t x) (gd : Good N m t x) (he : e < m) (ht : ∀ d, d < m → t' d = t d) (ht1 : t' m = t e) (ht2 : t' (m + 1) = t e)
    (hx : ∀ d, d < m → d ≠ e → x' d = x d) (hx1 : x' e = m) (hx2 : x' m = (m + 1 : Nat)) (hx3 : x' (m + 1) = x e) : Pots (m + 2) t' x' := fun g C => by
  have ev := gd.even
  have om := oth_even ev
  have om1 := oth_odd ev
  have ga := C.anti m (by omega)
  rw [om] at ga
  obtain ⟨q, f1, f2⟩ := h g ⟨fun d hd => C.anti d (by omega), fun u => by
    have := C.kept u
    rw [val_two, val_same ht, ht1, ht2] at this
    split at this <;> omega⟩
  have qe : q (x e).toNat = q (oth e) := by
    have := f1 (oth e) (oth_lt he ev)
    unfold bh at this
    rw [oth_oth] at this
    exact this
  have xl : (x e).toNat < m := by have := gd.next e he; omega
  have n0 : ¬ m < m := Nat.lt_irrefl m
  have n1 : ¬ m + 1 < m := by omega
  have n2 : ¬ m + 1 = m := by omega
  refine ⟨fun d => if d < m then q d else if d = m then q (oth e) else q (oth e) + g m, four_cases (m := m) (e := oth e) ?_ ?_ ?_ ?_, three_cases (m := m) ?_ ?_ ?_⟩
  · intro d hd hn
    have hb : bh x' d = bh x d := by unfold bh; rw [hx _ (oth_lt hd ev) (fun z => hn (by rw [← z, oth_oth]))]
    have hl : bh x d < m := by have := gd.next _ (oth_lt hd ev); unfold bh; omega
    rw [hb]
    simp only [if_pos hd, if_pos hl]
    exact f1 d hd
  · have hb : bh x' (oth e) = m := by unfold bh; rw [oth_oth, hx1]; rfl
    rw [hb]
    simp only [if_neg n0, if_pos (oth_lt he ev), eq_self, reduceIte]
  · have hb : bh x' m = (x e).toNat := by unfold bh; rw [om, hx3]
    rw [hb]
    simp only [if_pos xl, if_neg n0, eq_self, reduceIte]
    exact qe
  · have hb : bh x' (m + 1) = m + 1 := by unfold bh; rw [om1, hx2]; rfl
    rw [hb]
  · intro d hd
    simp only [if_pos hd, if_pos (oth_lt hd ev)]
    exact f2 d hd
  · rw [om]
    simp only [if_neg n0, if_neg n1, if_neg n2, eq_self, reduceIte]
    omega
  · rw [om1]
    simp only [if_neg n0, if_neg n1, if_neg n2, eq_self, reduceIte]
    omega
open Classical in
theorem Pots.chord {e g0 : Nat} (h : Pots m t x) (gd : Good N m t x) (tu : Turns m t x) {o : Nat → Nat} (cy : Cy (bh x) m o) (he : e < m) (hg : g0 < m) (hne : g0 ≠ e) (hf : o (oth e) = o (oth g0)) (ht : ∀ d, d < m → t' d = t d) (ht1 : t' m = t e) (ht2 : t' (m + 1) = t g0)
    (hx : ∀ d, d < m → d ≠ e → d ≠ g0 → x' d = x d) (hx1 : x' e = m) (hx4 : x' g0 = (m + 1 : Nat)) (hx2 : x' m = x e) (hx3 : x' (m + 1) = x g0) : Pots (m + 2) t' x' := fun g C => by
  have ev := gd.even
  have pb := tu.perm.bh ev
  have om := oth_even ev
  have om1 := oth_odd ev
  have ga := C.anti m (by omega)
  rw [om] at ga
  have lu := oth_lt he ev
  have lv := oth_lt hg ev
  have huv : oth e ≠ oth g0 := fun z => hne (oth_inj z).symm
  have aL : Arc (bh x) (oth e) (oth g0) (oth e) := Arc.last cy pb lu lv hf
  have aN : ¬ Arc (bh x) (oth e) (oth g0) (oth g0) := Arc.not cy pb lu lv huv hf
  have aF : Arc (bh x) (oth e) (oth g0) (bh x (oth g0)) := Arc.first
  have aU : ¬ Arc (bh x) (oth e) (oth g0) (bh x (oth e)) := fun z => by
    rcases z.prev pb lv lu with q | ⟨-, q⟩
    · exact huv q
    · exact q rfl
  have aI : ∀ d, d < m → d ≠ oth e → d ≠ oth g0 → (Arc (bh x) (oth e) (oth g0) (bh x d) ↔ Arc (bh x) (oth e) (oth g0) d) := fun d hd h1 h2 => ⟨fun z => by
    rcases z.prev pb lv hd with q | ⟨q, -⟩
    · exact absurd q h2
    · exact q, fun z => z.step h1⟩
  have xe : bh x (oth e) = (x e).toNat := by unfold bh; rw [oth_oth]
  have xg : bh x (oth g0) = (x g0).toNat := by unfold bh; rw [oth_oth]
  obtain ⟨P, hP⟩ : ∃ P : Nat → Int, P = fun d => if Arc (bh x) (oth e) (oth g0) d then 1 else 0 := ⟨_, rfl⟩
  have P1 : P (oth e) = 1 := by rw [hP]; exact if_pos aL
  have P2 : P (oth g0) = 0 := by rw [hP]; exact if_neg aN
  have P3 : P (bh x (oth g0)) = 1 := by rw [hP]; exact if_pos aF
  have P4 : P (bh x (oth e)) = 0 := by rw [hP]; exact if_neg aU
  have P5 : ∀ d, d < m → d ≠ oth e → d ≠ oth g0 → P (bh x d) = P d := fun d hd h1 h2 => by rw [hP]; simp only [aI d hd h1 h2]
  clear hP aL aN aF aU aI
  have hs : ∀ y, y < m → P y - P (bh x y) = (if y = oth g0 then -1 else 0) + (if y = oth e then 1 else 0) := fun y hy => by
    by_cases q1 : y = oth g0
    · subst q1
      rw [P2, P3, if_pos rfl, if_neg fun z => huv z.symm]; rfl
    · by_cases q2 : y = oth e
      · subst q2
        rw [P1, P4, if_neg q1, if_pos rfl]; rfl
      · rw [P5 y hy q2 q1, if_neg q1, if_neg q2]; omega
  have HV := fun u => fall_sum gd tu lv lu hs u
  rw [oth_oth, oth_oth] at HV
  obtain ⟨q, f1, f2⟩ := h (fun d => g d - (- g m) * (P (oth d) - P d)) ⟨fun d hd => by
    have := C.anti d (by omega)
    show g (oth d) - (- g m) * (P (oth (oth d)) - P (oth d)) = - (g d - (- g m) * (P (oth d) - P d))
    rw [oth_oth, this, Int.mul_sub, Int.mul_sub]
    omega, fun u => by
    have hk := C.kept u
    rw [val_two, val_same ht, ht1, ht2] at hk
    have e1 := val_sub m t g (fun d => (- g m) * (P (oth d) - P d)) u
    have e2 := val_mul m t (fun d => P (oth d) - P d) (- g m) u
    rw [e1, e2, HV u]
    rw [Int.mul_add]
    by_cases q1 : t e = u <;> by_cases q2 : t g0 = u
    · rw [if_pos q1, if_pos q2] at hk; rw [if_pos q1, if_pos q2]; omega
    · rw [if_pos q1, if_neg q2] at hk; rw [if_pos q1, if_neg q2]; omega
    · rw [if_neg q1, if_pos q2] at hk; rw [if_neg q1, if_pos q2]; omega
    · rw [if_neg q1, if_neg q2] at hk; rw [if_neg q1, if_neg q2]; omega⟩
  have n0 : ¬ m < m := Nat.lt_irrefl m
  have n1 : ¬ m + 1 < m := by omega
  have n2 : ¬ m + 1 = m := by omega
  have qvu : q (oth g0) = q (oth e) := by
    obtain ⟨k, hk⟩ := cy.one _ _ lv lu hf.symm
    rw [← hk]
    have : ∀ k, q (it (bh x) k (oth g0)) = q (oth g0) := fun k => by
      induction k with
      | zero => rfl
      | succ k ih => exact (f1 _ (pb.it_lt lv k)).trans ih
    exact (this k).symm
  refine ⟨fun d => if d < m then q d - g m * P d else if d = m then q (oth e) - g m else q (oth e), fun d hd => ?_, three_cases (m := m) ?_ ?_ ?_⟩
  · rcases (show d < m ∨ d = m ∨ d = m + 1 by omega) with hd | rfl | rfl
    · by_cases q1 : d = oth e
      · subst q1
        have hb : bh x' (oth e) = m := by unfold bh; rw [oth_oth, hx1]; rfl
        rw [hb]
        simp only [if_neg n0, if_pos hd, eq_self, reduceIte, P1]
        omega
      · by_cases q2 : d = oth g0
        · subst q2
          have hb : bh x' (oth g0) = m + 1 := by unfold bh; rw [oth_oth, hx4]; rfl
          rw [hb]
          simp only [if_neg n1, if_pos hd, if_neg n2, P2]
          rw [qvu]; omega
        · have hb : bh x' d = bh x d := by unfold bh; rw [hx _ (oth_lt hd ev) (fun z => q1 (by rw [← z, oth_oth])) (fun z => q2 (by rw [← z, oth_oth]))]
          have hl := pb.lt d hd
          rw [hb]
          simp only [if_pos hd, if_pos hl]
          rw [f1 d hd, P5 d hd q1 q2]
    · have hb : bh x' d = bh x (oth g0) := by rw [xg]; unfold bh; rw [om, hx3]
      have hl := pb.lt _ lv
      rw [hb]
      simp only [if_pos hl, if_neg n0, eq_self, reduceIte]
      rw [f1 _ lv, P3, qvu]; omega
    · have hb : bh x' (m + 1) = bh x (oth e) := by rw [xe]; unfold bh; rw [om1, hx2]
      have hl := pb.lt _ lu
      rw [hb]
      simp only [if_pos hl, if_neg n1, if_neg n2]
      rw [f1 _ lu, P4]; omega
  · intro d hd
    simp only [if_pos hd, if_pos (oth_lt hd ev)]
    have := f2 d hd
    have e3 : g d - (- g m) * (P (oth d) - P d) = q (oth d) - q d := this
    rw [Int.neg_mul, Int.mul_sub] at e3
    omega
  · rw [om]
    simp only [if_neg n0, if_neg n1, if_neg n2, eq_self, reduceIte]
    omega
  · rw [om1]
    simp only [if_neg n0, if_neg n1, if_neg n2, eq_self, reduceIte]
    omega
end
end Go.Proofs.Ytcdlnohnkdalbaa.Ro
