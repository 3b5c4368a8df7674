/- Plain laws: by which arc each place was made less last; rounds below 0. -/
import Derived.Test.YtchlccendggfpaaPaB
namespace Go.Proofs.Ytchlccendggfpaa.Ro
set_option linter.unusedVariables false
set_option linter.unusedSimpArgs false

def iter (f : Nat → Nat) : Nat → Nat → Nat
  | 0, d => d
  | k + 1, d => f (iter f k d)
theorem iter_add (f : Nat → Nat) (d : Nat) : ∀ (a b : Nat), iter f (a + b) d = iter f a (iter f b d)
  | 0, b => by rw [Nat.zero_add]; rfl
  | a + 1, b => by rw [show a + 1 + b = (a + b) + 1 by omega]; show f _ = f _; rw [iter_add f d a b]
/-- the place whose arc made one less -/
def bk (S : ArcsF) (b : Nat → Int) (v : Nat) : Nat := S.fr (b v).toNat
/-- how long the arcs back are, m of them -/
def cst (S : ArcsF) (b : Nat → Int) (v : Nat) : Nat → Int
  | 0 => 0
  | m + 1 => cst S b v m + S.ln (b (iter (bk S b) m v)).toNat
/-- m arcs back one comes round -/
structure Loop (S : ArcsF) (b : Nat → Int) (v m : Nat) : Prop where
  pos : 0 < m
  back : iter (bk S b) m v = v
  all : ∀ j, j < m → 0 ≤ b (iter (bk S b) j v)
structure Pred (S : ArcsF) (k n : Nat) (d : Nat → Int) (b : Nat → Int) : Prop where
  each : ∀ v, v < n → b v = -1 ∨ ∃ i : Nat, i < k ∧ b v = (i : Int) ∧ S.th i = v ∧ d (S.fr i) ≠ far ∧ d (S.fr i) + S.ln i ≤ d v
  neg : ∀ v m, v < n → Loop S b v m → cst S b v m < 0
section
variable {S : ArcsF} {k n s t u v m : Nat} {L : Int} {d b : Nat → Int}
theorem Pred.start (S : ArcsF) (k n : Nat) (d : Nat → Int) : Pred S k n d (fun _ => -1) :=
  ⟨fun _ _ => .inl rfl, fun v m _ h => by have h := h.all 0 h.pos; simp at h⟩
theorem Pred.lt (h : Pred S k n d b) (A : ArcsIn S k n L) (hv : v < n) (h0 : 0 ≤ b v) : bk S b v < n := by
  rcases h.each v hv with q | ⟨i, h1, h2, _⟩
  · omega
  · unfold bk; rw [h2, Int.toNat_natCast]; exact A.fr i h1
theorem Pred.its (h : Pred S k n d b) (A : ArcsIn S k n L) (hv : v < n) : ∀ j, (∀ i, i < j → 0 ≤ b (iter (bk S b) i v)) → iter (bk S b) j v < n
  | 0, _ => hv
  | j + 1, hj => h.lt A (Pred.its h A hv j fun i hi => hj i (by omega)) (hj j (by omega))
/-- falls that come round, one of them steeper, are less than 0 together -/
theorem falls {x e : Nat → Int} : ∀ m, (∀ j, j < m → x (j + 1) + e j ≤ x j) → ∀ c : Nat → Int, c 0 = 0 → (∀ j, j < m → c (j + 1) = c j + e j) → x m + c m ≤ x 0 ∧ ((∃ j, j < m ∧ x (j + 1) + e j < x j) → x m + c m < x 0)
  | 0, _, c, h0, _ => ⟨by omega, fun ⟨j, h, _⟩ => by omega⟩
  | m + 1, h, c, h0, hc => by
    obtain ⟨i1, i2⟩ := falls m (fun j hj => h j (by omega)) c h0 (fun j hj => hc j (by omega))
    have h1 := h m (by omega)
    have h2 := hc m (by omega)
    refine ⟨by omega, fun ⟨j, hj, hs⟩ => ?_⟩
    rcases Nat.lt_or_ge j m with q | q
    · have := i2 ⟨j, q, hs⟩; omega
    · obtain rfl : j = m := by omega
      omega
theorem Pred.step (h : Pred S k n d b) (A : ArcsIn S k n L) {i : Nat} (hi : i < k) (hf : d (S.fr i) ≠ far) (hl : d (S.fr i) + S.ln i < d (S.th i)) (hne : d (S.fr i) + S.ln i ≠ far) :
    Pred S k n (upd d (S.th i) (d (S.fr i) + S.ln i)) (upd b (S.th i) (i : Int)) := by
  have le : ∀ v, upd d (S.th i) (d (S.fr i) + S.ln i) v ≤ d v := fun v => by
    by_cases e : v = S.th i
    · subst e; rw [upd_same]; omega
    · rw [upd_ne e]; exact Int.le_refl _
  have nf : ∀ v, d v ≠ far → upd d (S.th i) (d (S.fr i) + S.ln i) v ≠ far := fun v hv => by
    by_cases e : v = S.th i
    · subst e; rw [upd_same]; exact hne
    · rw [upd_ne e]; exact hv
  refine ⟨fun v hv => ?_, fun v m hv lp => ?_⟩
  · by_cases e : v = S.th i
    · subst e
      rw [upd_same, upd_same]
      refine .inr ⟨i, hi, rfl, rfl, nf _ hf, ?_⟩
      have := le (S.fr i)
      omega
    · rw [upd_ne (show v ≠ S.th i from e), upd_ne (show v ≠ S.th i from e)]
      rcases h.each v hv with q | ⟨j, h1, h2, h3, h4, h5⟩
      · exact .inl q
      · refine .inr ⟨j, h1, h2, h3, nf _ h4, ?_⟩
        have := le (S.fr j)
        omega
  · by_cases on : ∃ j, j < m ∧ iter (bk S (upd b (S.th i) (i : Int))) j v = S.th i
    · -- the new arc is on it: the distances fall along it, there steeper
      have lt : ∀ j, j ≤ m → iter (bk S (upd b (S.th i) (i : Int))) j v < n := fun j hj => by
        induction j with
        | zero => exact hv
        | succ j ih =>
          have ih := ih (by omega)
          have h0 := lp.all j (by omega)
          show bk S _ (iter _ j v) < n
          generalize iter (bk S (upd b (S.th i) (i : Int))) j v = y at *
          unfold bk
          by_cases e : y = S.th i
          · rw [e, upd_same, Int.toNat_natCast]; exact A.fr i hi
          · rw [upd_ne e] at h0 ⊢
            rcases h.each y ih with q | ⟨a, h1, h2, _⟩
            · omega
            · rw [h2, Int.toNat_natCast]; exact A.fr a h1
      have fl : ∀ j, j < m → d (iter (bk S (upd b (S.th i) (i : Int))) (j + 1) v) + S.ln (upd b (S.th i) (i : Int) (iter (bk S (upd b (S.th i) (i : Int))) j v)).toNat ≤ d (iter (bk S (upd b (S.th i) (i : Int))) j v) ∧
          (iter (bk S (upd b (S.th i) (i : Int))) j v = S.th i → d (iter (bk S (upd b (S.th i) (i : Int))) (j + 1) v) + S.ln (upd b (S.th i) (i : Int) (iter (bk S (upd b (S.th i) (i : Int))) j v)).toNat < d (iter (bk S (upd b (S.th i) (i : Int))) j v)) := fun j hj => by
        have h0 := lp.all j hj
        have hy := lt j (by omega)
        show d (bk S _ (iter _ j v)) + _ ≤ _ ∧ (_ → d (bk S _ (iter _ j v)) + _ < _)
        generalize iter (bk S (upd b (S.th i) (i : Int))) j v = y at *
        unfold bk
        by_cases e : y = S.th i
        · subst e
          rw [upd_same, Int.toNat_natCast]
          exact ⟨by omega, fun _ => hl⟩
        · rw [upd_ne e] at h0 ⊢
          rcases h.each y hy with q | ⟨a, h1, h2, h3, h4, h5⟩
          · omega
          · rw [h2, Int.toNat_natCast]; exact ⟨h5, fun z => absurd z e⟩
      obtain ⟨j0, hj0, ej0⟩ := on
      have := (falls (x := fun j => d (iter (bk S (upd b (S.th i) (i : Int))) j v)) (e := fun j => S.ln (upd b (S.th i) (i : Int) (iter (bk S (upd b (S.th i) (i : Int))) j v)).toNat) m (fun j hj => (fl j hj).1) (cst S (upd b (S.th i) (i : Int)) v) rfl (fun j _ => rfl)).2 ⟨j0, hj0, (fl j0 hj0).2 ej0⟩
      have e1 : iter (bk S (upd b (S.th i) (i : Int))) m v = v := lp.back
      have e2 : d (iter (bk S (upd b (S.th i) (i : Int))) m v) + cst S (upd b (S.th i) (i : Int)) v m < d v := this
      rw [e1] at e2
      omega
    · -- it is as it was
      have same : ∀ j, j ≤ m → iter (bk S (upd b (S.th i) (i : Int))) j v = iter (bk S b) j v := fun j hj => by
        induction j with
        | zero => rfl
        | succ j ih =>
          have ih := ih (by omega)
          have e : iter (bk S b) j v ≠ S.th i := fun e => on ⟨j, by omega, by rw [ih]; exact e⟩
          show bk S _ (iter _ j v) = bk S b (iter (bk S b) j v)
          rw [ih]
          show S.fr (upd b (S.th i) (i : Int) (iter (bk S b) j v)).toNat = S.fr (b (iter (bk S b) j v)).toNat
          rw [upd_ne e]
      have val : ∀ j, j < m → upd b (S.th i) (i : Int) (iter (bk S (upd b (S.th i) (i : Int))) j v) = b (iter (bk S b) j v) := fun j hj => by
        rw [upd_ne (fun e => on ⟨j, hj, e⟩), same j (by omega)]
      have cs : ∀ j, j ≤ m → cst S (upd b (S.th i) (i : Int)) v j = cst S b v j := fun j hj => by
        induction j with
        | zero => rfl
        | succ j ih =>
          show cst S _ v j + _ = cst S b v j + _
          rw [ih (by omega), val j (by omega)]
      rw [cs m (Nat.le_refl _)]
      exact h.neg v m hv ⟨lp.pos, by rw [← same m (Nat.le_refl _)]; exact lp.back, fun j hj => by rw [← val j hj]; exact lp.all j hj⟩

/-- in which round each place was made less last; in round r the first i arcs were gone over -/
structure Lev (S : ArcsF) (k n : Nat) (d b : Nat → Int) (R : Nat → Nat) (r i : Nat) : Prop where
  some : ∀ v, v < n → 1 ≤ R v → 0 ≤ b v
  prev : ∀ v, v < n → 0 ≤ b v → R v ≤ R (bk S b v) + 1
  open_ : ∀ j, j < k → d (S.fr j) ≠ far → d (S.fr j) + S.ln j < d (S.th j) → (j < i → R (S.fr j) = r) ∧ r ≤ R (S.fr j) + 1
  le : ∀ v, R v ≤ r
theorem Lev.start (S : ArcsF) (k n : Nat) (d : Nat → Int) : Lev S k n d (fun _ => -1) (fun _ => 0) 1 0 :=
  ⟨fun v _ h => by omega, fun v _ h => by simp at h, fun j _ _ _ => ⟨fun h => by omega, by omega⟩, fun _ => by omega⟩
theorem Lev.skip {R : Nat → Nat} {r i : Nat} (h : Lev S k n d b R r i) (hn : d (S.fr i) = far ∨ d (S.th i) ≤ d (S.fr i) + S.ln i) : Lev S k n d b R r (i + 1) :=
  ⟨h.some, h.prev, fun j hj h1 h2 => by
    have h3 := h.open_ j hj h1 h2
    refine ⟨fun q => ?_, h3.2⟩
    rcases Nat.lt_or_ge j i with z | z
    · exact h3.1 z
    · obtain rfl : j = i := by omega
      rcases hn with y | y
      · exact absurd y h1
      · omega, h.le⟩
theorem Lev.take {R : Nat → Nat} {r i : Nat} (h : Lev S k n d b R r i) (A : ArcsIn S k n L) (hi : i < k) (hf : d (S.fr i) ≠ far) (hl : d (S.fr i) + S.ln i < d (S.th i)) (hr : 1 ≤ r) :
    Lev S k n (upd d (S.th i) (d (S.fr i) + S.ln i)) (upd b (S.th i) (i : Int)) (upd R (S.th i) r) r (i + 1) := by
  have ge : ∀ v, R v ≤ upd R (S.th i) r v := fun v => by
    by_cases e : v = S.th i
    · subst e; rw [upd_same]; exact h.le _
    · rw [upd_ne e]; exact Nat.le_refl _
  have o := h.open_ i hi hf hl
  refine ⟨fun v hv h1 => ?_, fun v hv h1 => ?_, fun j hj h1 h2 => ?_, fun v => ?_⟩
  · by_cases e : v = S.th i
    · subst e; rw [upd_same]; omega
    · rw [upd_ne e] at h1 ⊢; exact h.some v hv h1
  · by_cases e : v = S.th i
    · subst e
      unfold bk
      rw [upd_same, upd_same, Int.toNat_natCast]
      have := ge (S.fr i)
      omega
    · unfold bk
      rw [upd_ne (show v ≠ S.th i from e)] at h1
      rw [upd_ne (show v ≠ S.th i from e), upd_ne (show v ≠ S.th i from e)]
      have h3 := h.prev v hv h1
      have h4 := ge (S.fr (b v).toNat)
      unfold bk at h3
      omega
  · by_cases e : S.fr j = S.th i
    · rw [e, upd_same]; exact ⟨fun _ => rfl, by omega⟩
    · rw [upd_ne e] at h1 h2 ⊢
      by_cases e2 : S.th j = S.th i
      · rw [e2, upd_same] at h2
        have h3 := h.open_ j hj h1 (by rw [e2]; omega)
        refine ⟨fun q => ?_, h3.2⟩
        rcases Nat.lt_or_ge j i with z | z
        · exact h3.1 z
        · obtain rfl : j = i := by omega
          omega
      · rw [upd_ne e2] at h2
        have h3 := h.open_ j hj h1 h2
        refine ⟨fun q => ?_, h3.2⟩
        rcases Nat.lt_or_ge j i with z | z
        · exact h3.1 z
        · obtain rfl : j = i := by omega
          exact absurd rfl e2
  · by_cases e : v = S.th i
    · subst e; rw [upd_same]; exact Nat.le_refl _
    · rw [upd_ne e]; exact h.le v
theorem Lev.next {R : Nat → Nat} {r : Nat} (h : Lev S k n d b R r k) : Lev S k n d b R (r + 1) 0 :=
  ⟨h.some, h.prev, fun j hj h1 h2 => ⟨fun q => by omega, by have := (h.open_ j hj h1 h2).1 hj; omega⟩, fun v => by have := h.le v; omega⟩
/-- n arcs back from what was made less in round n one is on a round -/
theorem Lev.round {R : Nat → Nat} {i : Nat} (h : Lev S k n d b R n i) (P : Pred S k n d b) (A : ArcsIn S k n L) (hv : v < n) (hR : R v = n) :
    (∀ j, j < n → 0 ≤ b (iter (bk S b) j v)) ∧ iter (bk S b) n v < n ∧ ∃ m, m ≤ n ∧ Loop S b (iter (bk S b) n v) m := by
  have lev : ∀ j, j ≤ n → n ≤ R (iter (bk S b) j v) + j ∧ (∀ a, a < j → 0 ≤ b (iter (bk S b) a v)) := fun j hj => by
    induction j with
    | zero => exact ⟨by show n ≤ R v + 0; omega, fun a h => by omega⟩
    | succ j ih =>
      obtain ⟨h1, h2⟩ := ih (by omega)
      have hlt := P.its A hv j h2
      have h3 := h.some _ hlt (by omega)
      have h4 := h.prev _ hlt h3
      refine ⟨by show n ≤ R (bk S b (iter (bk S b) j v)) + (j + 1); omega, fun a ha => ?_⟩
      rcases Nat.lt_or_ge a j with q | q
      · exact h2 a q
      · rw [show a = j by omega]; exact h3
  have all := (lev n (Nat.le_refl _)).2
  refine ⟨all, P.its A hv n all, ?_⟩
  obtain ⟨a, c, hac, hc, e⟩ := pigeon (n := n) (n + 1) (fun j => iter (bk S b) j v) (by omega) (fun j hj => P.its A hv j fun i hi => all i (by omega))
  have e : iter (bk S b) a v = iter (bk S b) c v := e
  have per : ∀ q, iter (bk S b) (c - a) (iter (bk S b) (q + a) v) = iter (bk S b) (q + a) v := fun q => by
    rw [← iter_add, show c - a + (q + a) = q + c by omega, iter_add, ← e, ← iter_add]
  have back : iter (bk S b) (c - a) (iter (bk S b) n v) = iter (bk S b) n v := by
    have := per (n - a)
    rwa [show n - a + a = n by omega] at this
  refine ⟨c - a, by omega, by omega, back, fun j hj => ?_⟩
  -- it was met before
  have per2 : ∀ w q, iter (bk S b) (w * (c - a) + (q + a)) v = iter (bk S b) (q + a) v := fun w q => by
    induction w with
    | zero => rw [Nat.zero_mul, Nat.zero_add]
    | succ w ih => rw [Nat.succ_mul, show w * (c - a) + (c - a) + (q + a) = w * (c - a) + ((q + (c - a)) + a) by omega, iter_add, show q + (c - a) + a = (c - a) + (q + a) by omega, iter_add, per, ← iter_add, ih]
  have hx : iter (bk S b) j (iter (bk S b) n v) = iter (bk S b) ((n - a + j) % (c - a) + a) v := by
    rw [← iter_add]
    have := per2 ((n - a + j) / (c - a)) ((n - a + j) % (c - a))
    rw [← this]
    congr 1
    have h1 := Nat.div_add_mod (n - a + j) (c - a)
    rw [Nat.mul_comm] at h1
    omega
  rw [hx]
  have := Nat.mod_lt (n - a + j) (show 0 < c - a by omega)
  exact all _ (by omega)
end
end Go.Proofs.Ytchlccendggfpaa.Ro
