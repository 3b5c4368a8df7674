/- Plain: a flow is made greater along a row of darts; where none leads on it is a greatest one. -/
import Derived.Test.YtcdlnohnkdalbaaMxRoPu
import Derived.Test.YtcdlnohnkdalbaaMxRxA
namespace Go.Proofs.Ytcdlnohnkdalbaa.Ro
open Go.RowKit Go.Proofs Go.Maps
set_option linter.unusedVariables false
set_option maxRecDepth 100000
set_option linter.unusedSimpArgs false

section
variable {N m s T : Nat} {t c f B : Nat → Int} {M : Nat → Bool}
/-- the vertex ahead of one, by the darts that reach told -/
def ahead (t B : Nat → Int) (v : Nat) : Nat := tlOf t (B v).toNat
/-- what is told of the way back from T -/
structure Back (N m : Nat) (t c f B : Nat → Int) (s T n : Nat) : Prop where
  last : it (ahead t B) n T = s
  each : ∀ k, k < n → it (ahead t B) k T ≠ s ∧ it (ahead t B) k T < N ∧ ∃ d, d < m ∧ B (it (ahead t B) k T) = (d : Int) ∧ tlOf t (oth d) = it (ahead t B) k T ∧ f d < c d ∧ tlOf t d = it (ahead t B) (k + 1) T
  apart : ∀ a b, a < b → b ≤ n → it (ahead t B) a T ≠ it (ahead t B) b T
theorem Reach.way (R : Reach N m t c f s M B) (hN : ∀ d, d < m → tlOf t d < N) (hT : T < N) (hM : M T = true) : ∃ n, Back N m t c f B s T n := by
  obtain ⟨ρ, hρ⟩ := R.back
  have key : ∀ b v, ρ v ≤ b → v < N → M v = true → ∃ n, it (ahead t B) n v = s ∧ (∀ k, k < n → it (ahead t B) k v ≠ s ∧ it (ahead t B) k v < N ∧ ∃ d, d < m ∧ B (it (ahead t B) k v) = (d : Int) ∧ tlOf t (oth d) = it (ahead t B) k v ∧ f d < c d ∧ tlOf t d = it (ahead t B) (k + 1) v) ∧ ∀ k, k < n → ρ (it (ahead t B) (k + 1) v) < ρ (it (ahead t B) k v) := by
    intro b
    induction b with
    | zero =>
      intro v hb hv hm
      by_cases e : v = s
      · exact ⟨0, e, fun k hk => by omega, fun k hk => by omega⟩
      · obtain ⟨d, h1, h2, h3, h4, h5, h6⟩ := hρ v hv hm e
        omega
    | succ b ih =>
      intro v hb hv hm
      by_cases e : v = s
      · exact ⟨0, e, fun k hk => by omega, fun k hk => by omega⟩
      · obtain ⟨d, h1, h2, h3, h4, h5, h6⟩ := hρ v hv hm e
        have ha : ahead t B v = tlOf t d := by unfold ahead; rw [h2]; rfl
        obtain ⟨n, g1, g2, g3⟩ := ih (tlOf t d) (by omega) (hN d h1) h5
        refine ⟨n + 1, by rw [it_in, ha]; exact g1, fun k hk => ?_, fun k hk => ?_⟩
        · cases k with
          | zero => exact ⟨e, hv, d, h1, h2, h3, h4, by show _ = ahead t B v; rw [ha]⟩
          | succ k =>
            rw [it_in (ahead t B) (k + 1) v, it_in (ahead t B) k v, ha]
            exact g2 k (by omega)
        · cases k with
          | zero =>
            show ρ (ahead t B v) < ρ v
            rw [ha]; exact h6
          | succ k =>
            rw [it_in (ahead t B) (k + 1) v, it_in (ahead t B) k v, ha]
            exact g3 k (by omega)
  obtain ⟨n, g1, g2, g3⟩ := key _ T (Nat.le_refl _) hT hM
  refine ⟨n, g1, g2, fun a b hab hb e => ?_⟩
  have down : ∀ j, a + j ≤ n → ρ (it (ahead t B) (a + j) T) + j ≤ ρ (it (ahead t B) a T) := fun j => by
    induction j with
    | zero => intro _; exact Nat.le_refl _
    | succ j ih =>
      intro hj
      have := ih (by omega)
      have h2 := g3 (a + j) (by omega)
      rw [show a + (j + 1) = a + j + 1 by omega]
      omega
  have := down (b - a) (by omega)
  rw [show a + (b - a) = b by omega, ← e] at this
  omega
/-- the least of what is left along the way -/
def leastUp (t c f B : Nat → Int) (T : Nat) : Nat → Int
  | 0 => 1152921504606846976
  | k + 1 => min (leastUp t c f B T k) (c (B (it (ahead t B) k T)).toNat - f (B (it (ahead t B) k T)).toNat)
theorem Back.least {n : Nat} (h : Back N m t c f B s T n) : ∀ k, k ≤ n → 1 ≤ leastUp t c f B T k ∧ ∀ j, j < k → leastUp t c f B T k ≤ c (B (it (ahead t B) j T)).toNat - f (B (it (ahead t B) j T)).toNat
  | 0, _ => ⟨by show (1 : Int) ≤ 1152921504606846976; omega, fun j hj => by omega⟩
  | k + 1, hk => by
    obtain ⟨h1, h2⟩ := h.least k (by omega)
    obtain ⟨-, -, d, d1, d2, d3, d4, d5⟩ := h.each k (by omega)
    have e : leastUp t c f B T (k + 1) = min (leastUp t c f B T k) (c d - f d) := by
      show min _ (c (B (it (ahead t B) k T)).toNat - f (B (it (ahead t B) k T)).toNat) = _
      rw [d2]; rfl
    rw [e]
    refine ⟨by omega, fun j hj => ?_⟩
    rcases Nat.lt_or_ge j k with z | z
    · have := h2 j z; omega
    · rw [show j = k by omega, d2, Int.toNat_natCast]; omega
/-- what runs, made greater by L along the way so far -/
def augUp (t f B : Nat → Int) (T : Nat) (L : Int) : Nat → Nat → Int
  | 0 => f
  | k + 1 => upd (upd (augUp t f B T L k) (B (it (ahead t B) k T)).toNat (augUp t f B T L k (B (it (ahead t B) k T)).toNat + L)) (oth (B (it (ahead t B) k T)).toNat) (augUp t f B T L k (oth (B (it (ahead t B) k T)).toNat) - L)
theorem oth_ne (d : Nat) : oth d ≠ d := by unfold oth; split <;> omega
theorem val_upd (t g : Nat → Int) {d : Nat} (hd : d < m) (y z : Int) : val m t (upd g d y) z = val m t g z + (if t d = z then y - g d else 0) := by
  unfold val
  rw [sm_congr (g := fun j => (if t j = z then g j else 0) + (if j = d then (fun _ => if t d = z then y - g d else 0) j else 0)) m fun j hj => ?_]
  · rw [sm_add, sm_one _ _ m hd]
  · by_cases e : j = d
    · subst e
      rw [upd_same, if_pos rfl]
      by_cases q : t j = z
      · simp only [if_pos q]; omega
      · simp only [if_neg q]; rfl
    · rw [upd_ne e, if_neg e]; omega
theorem Back.aug {n : Nat} (h : Back N m t c f B s T n) (ev : m % 2 = 0) (ht : ∀ d, d < m → 0 ≤ t d) (fa : ∀ d, d < m → f (oth d) = - f d) {L : Int} (hL : 0 ≤ L) (hc : ∀ d, d < m → f d ≤ c d) (hl : ∀ j, j < n → L ≤ c (B (it (ahead t B) j T)).toNat - f (B (it (ahead t B) j T)).toNat) : ∀ k, k ≤ n →
    (∀ d, d < m → augUp t f B T L k (oth d) = - augUp t f B T L k d) ∧
    (∀ z, val m t (augUp t f B T L k) z = val m t f z + (if z = (it (ahead t B) k T : Nat) then L else 0) - (if z = (T : Int) then L else 0)) ∧
    (∀ d, (∀ i, i < k → (B (it (ahead t B) i T)).toNat ≠ d) → augUp t f B T L k d ≤ f d) ∧ (∀ d, d < m → augUp t f B T L k d ≤ c d)
  | 0, _ => ⟨fa, fun z => by show val m t f z = val m t f z + (if z = (T : Int) then L else 0) - (if z = (T : Int) then L else 0); omega, fun d _ => Int.le_refl _, hc⟩
  | k + 1, hk => by
    obtain ⟨a1, a2, a3, a4⟩ := h.aug ev ht fa hL hc hl k (by omega)
    obtain ⟨-, hv, d, d1, d2, d3, d4, d5⟩ := h.each k (by omega)
    have hll := hl k (by omega)
    have e : augUp t f B T L (k + 1) = upd (upd (augUp t f B T L k) d (augUp t f B T L k d + L)) (oth d) (augUp t f B T L k (oth d) - L) := by
      show upd (upd (augUp t f B T L k) (B (it (ahead t B) k T)).toNat _) _ _ = _
      rw [d2]; rfl
    have dn : (B (it (ahead t B) k T)).toNat = d := by rw [d2]; rfl
    rw [dn] at hll
    have ho := oth_lt d1 ev
    have ne := oth_ne d
    rw [e]
    have fresh : ∀ i, i < k → (B (it (ahead t B) i T)).toNat ≠ d := fun i hi z => by
      obtain ⟨-, -, d', -, e2, e3, -, -⟩ := h.each i (by omega)
      rw [e2, Int.toNat_natCast] at z
      subst z
      exact h.apart i k hi (by omega) (e3.symm.trans d3)
    have hd := a3 d fresh
    refine ⟨fun y hy => ?_, fun z => ?_, fun y hy => ?_, fun y hy => ?_⟩
    · by_cases q1 : y = d
      · subst q1
        rw [upd_same, upd_ne ne.symm, upd_same, a1 y hy]; omega
      · by_cases q2 : y = oth d
        · subst q2
          rw [oth_oth, upd_ne ne.symm, upd_same, upd_same, a1 d d1]; omega
        · have n1 : oth y ≠ oth d := fun z => q1 (oth_inj z)
          have n2 : oth y ≠ d := fun z => q2 (by rw [← z, oth_oth])
          rw [upd_ne n1, upd_ne n2, upd_ne q2, upd_ne q1, a1 y hy]
    · rw [val_upd _ _ ho, val_upd _ _ d1, upd_ne ne, a2 z]
      have t1 := ht d d1
      have t2 := ht _ ho
      unfold tlOf at d3 d5
      have i1 : t d = z ↔ z = (it (ahead t B) (k + 1) T : Nat) := by omega
      have i2 : t (oth d) = z ↔ z = (it (ahead t B) k T : Nat) := by omega
      simp only [i1, i2]
      split <;> split <;> split <;> omega
    · have q1 : y ≠ d := fun z => hy k (by omega) (by rw [dn, z])
      have hy2 := a3 y fun i hi => hy i (by omega)
      by_cases q2 : y = oth d
      · subst q2; rw [upd_same]; omega
      · rw [upd_ne q2, upd_ne q1]; exact hy2
    · by_cases q2 : y = oth d
      · subst q2; rw [upd_same]; have := a4 _ hy; omega
      · rw [upd_ne q2]
        by_cases q1 : y = d
        · subst q1; rw [upd_same]; omega
        · rw [upd_ne q1]; exact a4 y hy
/-- the flow made greater -/
theorem Back.more {n : Nat} (h : Back N m t c f B s T n) (ev : m % 2 = 0) (ht : ∀ d, d < m → 0 ≤ t d) {W : Int} (F : Flows m t f (s : Int) (T : Int) W) (hc : ∀ d, d < m → f d ≤ c d) (hn : 0 < n) :
    Flows m t (augUp t f B T (leastUp t c f B T n) n) (s : Int) (T : Int) (W + leastUp t c f B T n) ∧ (∀ d, d < m → augUp t f B T (leastUp t c f B T n) n d ≤ c d) := by
  obtain ⟨l1, l2⟩ := h.least n (Nat.le_refl _)
  obtain ⟨a1, a2, -, a4⟩ := h.aug ev ht F.anti (L := leastUp t c f B T n) (by omega) hc l2 n (Nat.le_refl _)
  refine ⟨⟨a1, fun z => ?_⟩, a4⟩
  rw [a2 z, F.kept z, h.last]
  split <;> split <;> omega
/-- where T is not reached no flow is greater -/
theorem Reach.most (R : Reach N m t c f s M B) (ev : m % 2 = 0) (ht : ∀ d, d < m → 0 ≤ t d ∧ t d < N) (hs : s < N) (hT : T < N) (hM : M T = false) {W W' : Int} {g : Nat → Int} (F : Flows m t f (s : Int) (T : Int) W) (G : Flows m t g (s : Int) (T : Int) W') (hf : ∀ d, d < m → f d ≤ c d) (hg : ∀ d, d < m → g d ≤ c d) : W' ≤ W := by
  have hne : s ≠ T := fun e => by have := R.start; rw [e, hM] at this; cases this
  -- what leaves the reached ones
  have h1 : sm (fun v => if M v = true then val m t (fun d => f d - g d) (v : Int) else 0) N = W - W' := by
    rw [sm_congr (g := fun v => (if v = s then (fun _ => W - W') v else 0) + (if v = T then (fun _ => 0) v else 0)) N fun v hv => ?_]
    · rw [sm_add, sm_one _ _ N hs, sm_one _ _ N hT]; omega
    · have e := val_sub m t f g (v : Int)
      rw [e, F.kept, G.kept]
      have i1 : ((v : Int) = (s : Int)) ↔ v = s := by omega
      have i2 : ((v : Int) = (T : Int)) ↔ v = T := by omega
      simp only [i1, i2]
      show (if M v = true then ((if v = s then W else 0) + (if v = T then -W else 0)) - ((if v = s then W' else 0) + (if v = T then -W' else 0)) else 0) = (if v = s then W - W' else 0) + (if v = T then 0 else 0)
      by_cases q1 : v = s
      · subst q1
        rw [if_pos R.start, if_pos rfl, if_pos rfl, if_pos rfl, if_neg hne, if_neg hne, if_neg hne]; omega
      · by_cases q2 : v = T
        · subst q2
          rw [hM, if_neg (by simp), if_neg q1, if_pos rfl]; rfl
        · rw [if_neg q1, if_neg q1, if_neg q1, if_neg q2, if_neg q2, if_neg q2]; split <;> rfl
  have h2 : sm (fun v => if M v = true then val m t (fun d => f d - g d) (v : Int) else 0) N = sm (fun d => if M (tlOf t d) = true then f d - g d else 0) m := by
    rw [sm_congr (g := fun v => sm (fun d => if v = tlOf t d then (fun v => if M v = true then f d - g d else 0) v else 0) m) N fun v hv => ?_, sm_swap]
    · refine sm_congr m fun d hd => ?_
      have := ht d hd
      exact sm_one (tlOf t d) (fun v => if M v = true then f d - g d else 0) N (by unfold tlOf; omega)
    · by_cases q : M v = true
      · rw [if_pos q]
        refine sm_congr m fun d hd => ?_
        have := ht d hd
        have i : t d = (v : Int) ↔ v = tlOf t d := by unfold tlOf; omega
        simp only [i, if_pos q]
      · rw [if_neg q]
        rw [sm_congr (g := fun _ => 0) m fun d hd => ?_, sm_zero]
        simp only [if_neg q]; split <;> rfl
  have po : Perm oth m := ⟨fun d hd => oth_lt hd ev, fun a b _ _ e => oth_inj e⟩
  have h3 : sm (fun d => if M (tlOf t (oth d)) = true then f (oth d) - g (oth d) else 0) m = sm (fun d => if M (tlOf t d) = true then f d - g d else 0) m := sm_perm po (fun d => if M (tlOf t d) = true then f d - g d else 0)
  have h4 : 0 ≤ sm (fun d => (if M (tlOf t d) = true then f d - g d else 0) + (if M (tlOf t (oth d)) = true then f (oth d) - g (oth d) else 0)) m := by
    refine Int.le_trans (Int.le_of_eq (sm_zero m).symm) (sm_le m fun d hd => ?_)
    have ho := oth_lt hd ev
    have e1 := F.anti d hd
    have e2 := G.anti d hd
    show (0 : Int) ≤ (if M (tlOf t d) = true then f d - g d else 0) + (if M (tlOf t (oth d)) = true then f (oth d) - g (oth d) else 0)
    by_cases q1 : M (tlOf t d) = true <;> by_cases q2 : M (tlOf t (oth d)) = true
    · rw [if_pos q1, if_pos q2]; omega
    · rw [if_pos q1, if_neg q2]
      have : ¬ f d < c d := fun z => q2 (R.closed d hd q1 z)
      have := hg d hd
      omega
    · rw [if_neg q1, if_pos q2]
      have : ¬ f (oth d) < c (oth d) := fun z => q1 (by have := R.closed (oth d) ho q2 z; rw [oth_oth] at this; exact this)
      have := hg _ ho
      omega
    · rw [if_neg q1, if_neg q2]; omega
  rw [sm_add, h3] at h4
  omega
end
end Go.Proofs.Ytcdlnohnkdalbaa.Ro
