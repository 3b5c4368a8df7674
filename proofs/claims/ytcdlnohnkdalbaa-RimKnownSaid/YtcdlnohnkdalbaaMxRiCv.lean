/- Plain: what falls across darts is kept at each vertex but the two. -/
import Derived.Test.YtcdlnohnkdalbaaMg13
import Derived.Test.YtcdlnohnkdalbaaMg6
import Derived.Test.YtcdlnohnkdalbaaMg7
namespace Go.Proofs.Ytcdlnohnkdalbaa.Ro
set_option linter.unusedVariables false
set_option maxRecDepth 100000
set_option linter.unusedSimpArgs false

/-- the sum of the first ones -/
def sm (f : Nat → Int) : Nat → Int
  | 0 => 0
  | n + 1 => sm f n + f n
theorem sm_congr {f g : Nat → Int} : ∀ n, (∀ d, d < n → f d = g d) → sm f n = sm g n
  | 0, _ => rfl
  | n + 1, h => by
    show sm f n + f n = sm g n + g n
    rw [sm_congr n fun d hd => h d (by omega), h n (by omega)]
theorem sm_add (f g : Nat → Int) : ∀ n, sm (fun d => f d + g d) n = sm f n + sm g n
  | 0 => rfl
  | n + 1 => by
    show sm (fun d => f d + g d) n + (f n + g n) = sm f n + f n + (sm g n + g n)
    rw [sm_add f g n]; omega
theorem sm_neg (f : Nat → Int) : ∀ n, sm (fun d => - f d) n = - sm f n
  | 0 => rfl
  | n + 1 => by
    show sm (fun d => - f d) n + - f n = - (sm f n + f n)
    rw [sm_neg f n]; omega
theorem sm_sub (f g : Nat → Int) : ∀ n, sm (fun d => f d - g d) n = sm f n - sm g n
  | 0 => rfl
  | n + 1 => by
    show sm (fun d => f d - g d) n + (f n - g n) = sm f n + f n - (sm g n + g n)
    rw [sm_sub f g n]; omega
theorem sm_zero : ∀ n, sm (fun _ => 0) n = 0
  | 0 => rfl
  | n + 1 => by
    show sm (fun _ => 0) n + 0 = 0
    rw [sm_zero n]; rfl
theorem sm_le {f g : Nat → Int} : ∀ n, (∀ d, d < n → f d ≤ g d) → sm f n ≤ sm g n
  | 0, _ => Int.le_refl _
  | n + 1, h => by
    show sm f n + f n ≤ sm g n + g n
    have := sm_le n fun d hd => h d (by omega)
    have := h n (by omega)
    omega
theorem sm_const (b : Int) : ∀ n : Nat, sm (fun _ => b) n = n * b
  | 0 => by simp [sm]
  | n + 1 => by
    show sm (fun _ => b) n + b = _
    rw [sm_const b n, Int.natCast_add, Int.add_mul]; simp
theorem sm_swap (F : Nat → Nat → Int) (m : Nat) : ∀ n, sm (fun d => sm (fun y => F d y) m) n = sm (fun y => sm (fun d => F d y) n) m
  | 0 => (sm_zero m).symm
  | n + 1 => by
    show sm (fun d => sm (fun y => F d y) m) n + sm (fun y => F n y) m = sm (fun y => sm (fun d => F d y) n + F n y) m
    rw [sm_swap F m n, ← sm_add]
theorem sm_none (a : Nat) (f : Nat → Int) : ∀ m, m ≤ a → sm (fun y => if y = a then f y else 0) m = 0
  | 0, _ => rfl
  | n + 1, h => by
    show sm (fun y => if y = a then f y else 0) n + (if n = a then f n else 0) = 0
    rw [sm_none a f n (by omega), if_neg (by omega)]; rfl
theorem sm_one (a : Nat) (f : Nat → Int) : ∀ m, a < m → sm (fun y => if y = a then f y else 0) m = f a
  | 0, h => by omega
  | n + 1, h => by
    show sm (fun y => if y = a then f y else 0) n + (if n = a then f n else 0) = f a
    by_cases e : n = a
    · subst e; rw [sm_none n f n (Nat.le_refl _), if_pos rfl]; omega
    · rw [sm_one a f n (by omega), if_neg e]; omega
theorem Perm.onto {f : Nat → Nat} {m y : Nat} (p : Perm f m) (hy : y < m) : ∃ x, x < m ∧ f x = y := by
  obtain ⟨j, hj⟩ := p.back (x := y) (y := f y) (k := 1) hy rfl
  cases j with
  | zero => exact ⟨y, hy, hj⟩
  | succ j => exact ⟨it f j (f y), p.it_lt (p.lt y hy) j, hj⟩
theorem sm_perm {π : Nat → Nat} {m : Nat} (p : Perm π m) (f : Nat → Int) : sm (fun d => f (π d)) m = sm f m := by
  have h1 : ∀ d, d < m → f (π d) = sm (fun y => if y = π d then f y else 0) m := fun d hd => (sm_one (π d) f m (p.lt d hd)).symm
  rw [sm_congr m h1, sm_swap]
  refine sm_congr m fun y hy => ?_
  obtain ⟨d0, hd0, e⟩ := p.onto hy
  rw [sm_congr (g := fun d => if d = d0 then (fun _ => f y) d else 0) m fun d hd => ?_]
  · exact sm_one d0 (fun _ => f y) m hd0
  · by_cases q : d = d0
    · subst q; rw [if_pos e.symm, if_pos rfl]
    · rw [if_neg q, if_neg]
      intro z
      exact q (p.inj d d0 hd hd0 (z.symm.trans e.symm))

/-- what runs out of a vertex -/
def val (m : Nat) (t g : Nat → Int) (u : Int) : Int := sm (fun d => if t d = u then g d else 0) m

section
variable {N m k f e0 l a r : Nat} {x t o : Nat → Int} {s v : Int}
theorem ab_bh (x : Nat → Int) (y : Nat) : ab x y = bh x (oth y) := by unfold ab bh; rw [oth_oth]
theorem Turns.tail (tu : Turns m t x) (g : Good N m t x) {d : Nat} (hd : d < m) : t (ab x d) = t d := by
  have h1 := tu.keep d hd
  have h2 := g.tail d hd
  have h3 := g.tail _ (tu.perm.lt d hd)
  unfold tlOf at h1
  omega
theorem Turns.head (tu : Turns m t x) (g : Good N m t x) {y : Nat} (hy : y < m) : t (bh x y) = t (oth y) := by
  have e : bh x y = ab x (oth y) := by rw [ab_bh, oth_oth]
  rw [e, tu.tail g (oth_lt hy g.even)]
/-- where the faces change, behind the parting -/
theorem Halved.step (H : Halved m x t o f s v e0 l a r) (O : Orb (bh x) m o k) (p : Perm (bh x) m) (K : Int) (D : Int → Int) {y : Nat} (hy : y < m) :
    D (halfO x o K e0 a r l y) - D (halfO x o K e0 a r l (bh x y)) = (if y = it (bh x) (a + (r - 1)) e0 then D f - D K else 0) + (if y = it (bh x) (a + (l - 1)) e0 then D K - D f else 0) := by
  have h1 := H.rpos
  have h2 := H.rlt
  by_cases e : o y = f
  · obtain ⟨j, hj, rfl⟩ := H.place O p hy e
    have nx : bh x (it (bh x) (a + j) e0) = it (bh x) (a + (j + 1)) e0 := rfl
    have inj : ∀ i, i < l → (it (bh x) (a + j) e0 = it (bh x) (a + i) e0 ↔ j = i) := fun i hi => ⟨fun z => H.rnd.shift hj hi z, fun z => by rw [z]⟩
    rw [H.value O p K hj, nx]
    simp only [inj (r - 1) (by omega), inj (l - 1) (by omega)]
    by_cases q : j + 1 = l
    · have nx2 : it (bh x) (a + (j + 1)) e0 = it (bh x) (a + 0) e0 := by rw [q, it_add, H.rnd.back]; rfl
      rw [nx2, H.value O p K (by omega), if_pos (by omega), if_neg (by omega), if_neg (by omega), if_pos (by omega)]
      omega
    · rw [H.value O p K (by omega)]
      by_cases q1 : j = r - 1
      · rw [if_neg (by omega), if_pos (by omega), if_pos q1, if_neg (by omega)]; omega
      · rw [if_neg q1, if_neg (show ¬ j = l - 1 by omega)]
        by_cases q2 : r ≤ j
        · rw [if_pos q2, if_pos (by omega)]; omega
        · rw [if_neg q2, if_neg (by omega)]; omega
  · have e2 : o (bh x y) ≠ f := by rw [O.fwd y hy]; exact e
    rw [H.other O p K e, H.other O p K e2, O.fwd y hy, if_neg, if_neg]
    · omega
    · rintro rfl; exact e (H.in_ O p _)
    · rintro rfl; exact e (H.in_ O p _)
theorem Halved.falls (H : Halved m x t o f s v e0 l a r) (O : Orb (bh x) m o k) (g : Good N m t x) (tu : Turns m t x) (K : Int) (D : Int → Int) (u : Int) :
    val m t (fun d => D (halfO x o K e0 a r l (oth d)) - D (halfO x o K e0 a r l d)) u = (if u = s then D K - D f else 0) + (if u = v then D f - D K else 0) := by
  have ev := g.even
  have p := tu.perm.bh ev
  have h1 := H.rpos
  have h2 := H.rlt
  obtain ⟨P, hP⟩ : ∃ P : Nat → Int, P = fun d => D (halfO x o K e0 a r l d) := ⟨_, rfl⟩
  have hv : val m t (fun d => D (halfO x o K e0 a r l (oth d)) - D (halfO x o K e0 a r l d)) u = val m t (fun d => P (oth d) - P d) u := by rw [hP]
  have hs : ∀ y, y < m → P y - P (bh x y) = (if y = it (bh x) (a + (r - 1)) e0 then D f - D K else 0) + (if y = it (bh x) (a + (l - 1)) e0 then D K - D f else 0) := fun y hy => by
    rw [hP]; exact H.step O p K D hy
  rw [hv]
  clear hv hP
  have l1 := p.it_lt H.lt (a + (r - 1))
  have l2 := p.it_lt H.lt (a + (l - 1))
  have t1 : t (oth (it (bh x) (a + (r - 1)) e0)) = v := by
    rw [← tu.head g l1, show bh x (it (bh x) (a + (r - 1)) e0) = it (bh x) (a + (r - 1) + 1) e0 from rfl, show a + (r - 1) + 1 = a + r by omega]
    exact H.there
  have t2 : t (oth (it (bh x) (a + (l - 1)) e0)) = s := by
    rw [← tu.head g l2, show bh x (it (bh x) (a + (l - 1)) e0) = it (bh x) (a + (l - 1) + 1) e0 from rfl, show a + (l - 1) + 1 = a + l by omega, it_add, H.rnd.back]
    exact H.here
  generalize it (bh x) (a + (r - 1)) e0 = y1 at *
  generalize it (bh x) (a + (l - 1)) e0 = y2 at *
  unfold val
  rw [sm_congr (g := fun d => ((if d = oth y1 then (fun _ => if v = u then D f - D K else 0) d else 0) + (if d = oth y2 then (fun _ => if s = u then D K - D f else 0) d else 0)) + ((fun y => if t y = u then P y else 0) (ab x d) - (fun y => if t y = u then P y else 0) d)) m fun d hd => ?_]
  · rw [sm_add, sm_add, sm_one _ _ m (oth_lt l1 ev), sm_one _ _ m (oth_lt l2 ev), sm_sub]
    have hp : sm (fun d => (fun y => if t y = u then P y else 0) (ab x d)) m = sm (fun y => if t y = u then P y else 0) m := sm_perm tu.perm (fun y => if t y = u then P y else 0)
    rw [hp]
    have c1 : (if v = u then D f - D K else 0) = (if u = v then D f - D K else 0) := by
      by_cases q : v = u
      · rw [if_pos q, if_pos q.symm]
      · rw [if_neg q, if_neg fun z => q z.symm]
    have c2 : (if s = u then D K - D f else 0) = (if u = s then D K - D f else 0) := by
      by_cases q : s = u
      · rw [if_pos q, if_pos q.symm]
      · rw [if_neg q, if_neg fun z => q z.symm]
    rw [c1, c2]
    omega
  · have ho := oth_lt hd ev
    have hb : bh x (oth d) = ab x d := (ab_bh x d).symm
    have := hs (oth d) ho
    rw [hb] at this
    have i1 : oth d = y1 ↔ d = oth y1 := ⟨fun z => by rw [← z, oth_oth], fun z => by rw [z, oth_oth]⟩
    have i2 : oth d = y2 ↔ d = oth y2 := ⟨fun z => by rw [← z, oth_oth], fun z => by rw [z, oth_oth]⟩
    simp only [i1, i2] at this
    show (if t d = u then P (oth d) - P d else 0) = ((if d = oth y1 then (if v = u then D f - D K else 0) else 0) + (if d = oth y2 then (if s = u then D K - D f else 0) else 0)) + ((if t (ab x d) = u then P (ab x d) else 0) - (if t d = u then P d else 0))
    rw [tu.tail g hd]
    have k1 : (if d = oth y1 then (if v = u then D f - D K else 0) else 0) = if t d = u then (if d = oth y1 then D f - D K else 0) else 0 := by
      by_cases q : d = oth y1
      · rw [if_pos q, if_pos q, q, t1]
      · rw [if_neg q, if_neg q]; split <;> rfl
    have k2 : (if d = oth y2 then (if s = u then D K - D f else 0) else 0) = if t d = u then (if d = oth y2 then D K - D f else 0) else 0 := by
      by_cases q : d = oth y2
      · rw [if_pos q, if_pos q, q, t2]
      · rw [if_neg q, if_neg q]; split <;> rfl
    rw [k1, k2]
    by_cases q : t d = u
    · simp only [if_pos q]; omega
    · simp only [if_neg q]; omega
end
section
variable {N m K f : Nat} {x t c o D : Nat → Int} {s v : Int}
/-- what is told is a flow: at each vertex -/
theorem Over.falls (h : Over m x t s v o K f) (g : Good N m t x) (tu : Turns m t x) (D : Nat → Int) (u : Int) : val m t (fallOf o D) u = (if u = s then D K - D f else 0) + (if u = v then D f - D K else 0) := by
  obtain ⟨o0, k, e0, l, a, r, ⟨O, S, H⟩, hK, rfl⟩ := h
  exact H.falls O g tu (K : Int) (fun z => D z.toNat) u
theorem Away.zero (h : Away m c o K f D) (hf : f < K + 1) (hc : ∀ d, d < m → 0 ≤ c d) : D f = 0 := by
  obtain ⟨T, S, hT, F⟩ := h
  have h1 := S.here
  rcases S.each f hf with q | ⟨n, _, w⟩
  · unfold far at q; omega
  · have := w.nonneg (S := overA o c) hc
    omega
theorem Away.both (h : Away m c o K f D) (ok : OverOk m (K + 1) f o c) {d : Nat} (hd : d < m) : (D (o d).toNat = far → D (o (oth d)).toNat = far) ∧ (D (o d).toNat ≠ far → D (o (oth d)).toNat ≤ D (o d).toNat + c d) := by
  obtain ⟨T, S, hT, F⟩ := h
  have A := ok.arcs
  refine ⟨fun e => ?_, fun e => F d hd e⟩
  rcases Classical.em (D (o (oth d)).toNat = far) with q | q
  · exact q
  · have h1 := F (oth d) (oth_lt hd ok.even) q
    have h2 : (overA o c).th (oth d) = (o d).toNat := by show (o (oth (oth d))).toNat = _; rw [oth_oth]
    rw [h2, e] at h1
    have hz := ok.lt (oth d) (oth_lt hd ok.even)
    have h3 := S.size A (by omega) (v := (o (oth d)).toNat) (by omega) q
    have h4 := (ok.cap (oth d) (oth_lt hd ok.even)).2
    have h5 : (overA o c).ln (oth d) = c (oth d) := rfl
    have h6 : (overA o c).fr (oth d) = (o (oth d)).toNat := rfl
    rw [h5, h6] at h1
    unfold far at h1
    omega
theorem Away.fall_le (h : Away m c o K f D) (ok : OverOk m (K + 1) f o c) {d : Nat} (hd : d < m) : fallOf o D d ≤ c d := by
  obtain ⟨h1, h2⟩ := h.both ok hd
  unfold fallOf
  by_cases e : D (o d).toNat = far
  · rw [h1 e, e]
    have := (ok.cap d hd).1
    omega
  · have := h2 e
    omega
theorem fallOf_oth (o D : Nat → Int) (d : Nat) : fallOf o D (oth d) = - fallOf o D d := by unfold fallOf; rw [oth_oth]; omega
/-- the other half is reached -/
theorem RimOk.near (h : RimOk N m x t c s v o K f D) (g : Good N m t x) (tu : Turns m t x) (hm : m ≤ 48) (hc : ∀ d, d < m → 0 ≤ c d ∧ c d ≤ 2147483648) : D f = 0 ∧ 0 ≤ D K ∧ D K ≤ 103079215104 := by
  obtain ⟨ok, -, hf⟩ := h.over.ok hm g.even hc
  have z := h.away.zero (by omega) fun d hd => (hc d hd).1
  have h1 := h.over.falls g tu D s
  rw [if_pos rfl, if_neg h.ne, z] at h1
  have h2 : val m t (fallOf o D) s ≤ sm (fun _ => 2147483648) m := sm_le m fun d hd => by
    split
    · have := h.away.fall_le ok hd
      have := (hc d hd).2
      omega
    · omega
  rw [sm_const] at h2
  refine ⟨z, ?_, by omega⟩
  obtain ⟨T, S, hT, F⟩ := h.away
  rcases S.each K (by omega) with q | ⟨n, _, w⟩
  · unfold far at q; omega
  · exact w.nonneg (S := overA o c) fun d hd => (hc d hd).1
end
end Go.Proofs.Ytcdlnohnkdalbaa.Ro
