/- Plain: which vertices are reached by darts that hold more, one behind the other in a row. -/
import Derived.Test.YtcdlnohnkdalbaaMg6
namespace Go.Proofs.Ytcdlnohnkdalbaa.Ro
open Go.RowKit Go.Proofs Go.Maps
set_option linter.unusedVariables false
set_option maxRecDepth 100000
set_option linter.unusedSimpArgs false

/-- what reach tells -/
structure Reach (N m : Nat) (t c f : Nat → Int) (s : Nat) (M : Nat → Bool) (B : Nat → Int) : Prop where
  start : M s = true
  closed : ∀ d, d < m → M (tlOf t d) = true → f d < c d → M (tlOf t (oth d)) = true
  back : ∃ ρ : Nat → Nat, ∀ v, v < N → M v = true → v ≠ s → ∃ d, d < m ∧ B v = (d : Int) ∧ tlOf t (oth d) = v ∧ f d < c d ∧ M (tlOf t d) = true ∧ ρ (tlOf t d) < ρ v
/-- the row of those that were met, i gone through, of the next one the darts below j -/
structure Bf (N m : Nat) (t c f : Nat → Int) (s : Nat) (M : Nat → Bool) (B : Nat → Int) (Q : Nat → Nat) (L i j : Nat) : Prop where
  pos : 0 < L
  q0 : Q 0 = s
  lt : ∀ k, k < L → Q k < N
  met : ∀ k, k < L → M (Q k) = true
  inj : ∀ a b, a < b → b < L → Q a ≠ Q b
  all : ∀ v, v < N → M v = true → ∃ k, k < L ∧ Q k = v
  by_ : ∀ k, 0 < k → k < L → ∃ d, d < m ∧ B (Q k) = (d : Int) ∧ tlOf t (oth d) = Q k ∧ f d < c d ∧ ∃ a, a < k ∧ Q a = tlOf t d
  done : ∀ k, k < i → ∀ d, d < m → tlOf t d = Q k → f d < c d → M (tlOf t (oth d)) = true
  part : ∀ d, d < j → tlOf t d = Q i → f d < c d → M (tlOf t (oth d)) = true
section
variable {N m s L i j : Nat} {t c f B : Nat → Int} {M : Nat → Bool} {Q : Nat → Nat}
theorem Bf.start (hs : s < N) : Bf N m t c f s (upd (fun _ => false) s true) (upd (fun _ => 0) s (-1)) (fun _ => s) 1 0 0 :=
  ⟨by omega, rfl, fun _ _ => hs, fun _ _ => upd_same _ _ _, fun a b h1 h2 => by omega, fun v hv h => ⟨0, by omega, by
    by_cases e : v = s
    · exact e.symm
    · rw [upd_ne e] at h; cases h⟩, fun k h1 h2 => by omega, fun k h => by omega, fun d h => by omega⟩
theorem Bf.skip (h : Bf N m t c f s M B Q L i j) (hn : tlOf t j = Q i → f j < c j → M (tlOf t (oth j)) = true) : Bf N m t c f s M B Q L i (j + 1) :=
  ⟨h.pos, h.q0, h.lt, h.met, h.inj, h.all, h.by_, h.done, fun d hd h1 h2 => by
    rcases Nat.lt_or_ge d j with z | z
    · exact h.part d z h1 h2
    · obtain rfl : d = j := by omega
      exact hn h1 h2⟩
theorem Bf.take (h : Bf N m t c f s M B Q L i j) (hi : i < L) (hj : j < m) (h1 : tlOf t j = Q i) (h2 : f j < c j) (h3 : M (tlOf t (oth j)) = false) (hN : tlOf t (oth j) < N) :
    Bf N m t c f s (upd M (tlOf t (oth j)) true) (upd B (tlOf t (oth j)) (j : Int)) (upd Q L (tlOf t (oth j))) (L + 1) i (j + 1) := by
  generalize hh : tlOf t (oth j) = y at *
  have ne : ∀ k, k < L → Q k ≠ y := fun k hk e => by have := h.met k hk; rw [e, h3] at this; cases this
  have old : ∀ k, k < L → upd Q L y k = Q k := fun k hk => upd_ne (by omega)
  have mono : ∀ v, M v = true → upd M y true v = true := fun v hv => by
    by_cases e : v = y
    · rw [e, upd_same]
    · rw [upd_ne e]; exact hv
  refine ⟨by omega, by rw [old 0 h.pos]; exact h.q0, fun k hk => ?_, fun k hk => ?_, fun a b hab hb => ?_, fun v hv hm => ?_, fun k hk0 hk => ?_, fun k hk d hd e1 e2 => ?_, fun d hd e1 e2 => ?_⟩
  · rcases Nat.lt_or_ge k L with z | z
    · rw [old k z]; exact h.lt k z
    · rw [show k = L by omega, upd_same]; exact hN
  · rcases Nat.lt_or_ge k L with z | z
    · rw [old k z]; exact mono _ (h.met k z)
    · rw [show k = L by omega, upd_same, upd_same]
  · rcases Nat.lt_or_ge b L with z | z
    · rw [old a (by omega), old b z]; exact h.inj a b hab z
    · rw [old a (by omega), show b = L by omega, upd_same]; exact ne a (by omega)
  · by_cases e : v = y
    · exact ⟨L, by omega, by rw [upd_same, e]⟩
    · rw [upd_ne e] at hm
      obtain ⟨k, hk, e2⟩ := h.all v hv hm
      exact ⟨k, by omega, by rw [old k hk]; exact e2⟩
  · rcases Nat.lt_or_ge k L with z | z
    · obtain ⟨d, d1, d2, d3, d4, a, d5, d6⟩ := h.by_ k hk0 z
      rw [old k z, upd_ne (ne k z)]
      exact ⟨d, d1, d2, d3, d4, a, d5, by rw [old a (by omega)]; exact d6⟩
    · rw [show k = L by omega, upd_same, upd_same]
      exact ⟨j, hj, rfl, hh, h2, i, hi, by rw [old i hi]; exact h1.symm⟩
  · rw [old k (by omega)] at e1
    exact mono _ (h.done k hk d hd e1 e2)
  · rw [old i hi] at e1
    rcases Nat.lt_or_ge d j with z | z
    · exact mono _ (h.part d z e1 e2)
    · obtain rfl : d = j := by omega
      rw [hh, upd_same]
theorem Bf.next (h : Bf N m t c f s M B Q L i m) : Bf N m t c f s M B Q L (i + 1) 0 :=
  ⟨h.pos, h.q0, h.lt, h.met, h.inj, h.all, h.by_, fun k hk d hd e1 e2 => by
    rcases Nat.lt_or_ge k i with z | z
    · exact h.done k z d hd e1 e2
    · rw [show k = i by omega] at e1
      exact h.part d hd e1 e2, fun d hd => by omega⟩
theorem Bf.few (h : Bf N m t c f s M B Q L i j) : L ≤ N := by
  rcases Nat.lt_or_ge N L with z | z
  · have inj2 : ∀ a b, a < L → b < L → a ≠ b → Q a ≠ Q b := fun a b ha hb hne e => by
      rcases Nat.lt_trichotomy a b with q | q | q
      · exact h.inj a b q hb e
      · exact hne q
      · exact h.inj b a q ha e.symm
    exact absurd (apart_le (m := N) L Q (fun k hk => h.lt k hk) (fun a b hab hb e => h.inj a b hab hb e)) (by omega)
  · exact z
open Classical in
theorem Bf.rank (h : Bf N m t c f s M B Q L i j) : ∃ ρ : Nat → Nat, ∀ k, k < L → ρ (Q k) = k := by
  refine ⟨fun v => if hv : ∃ k, k < L ∧ Q k = v then hv.choose else 0, fun k hk => ?_⟩
  have hx : ∃ k', k' < L ∧ Q k' = Q k := ⟨k, hk, rfl⟩
  show (if hv : ∃ k', k' < L ∧ Q k' = Q k then hv.choose else 0) = k
  rw [dif_pos hx]
  have := hx.choose_spec
  rcases Nat.lt_trichotomy hx.choose k with q | q | q
  · exact absurd this.2 (h.inj _ _ q hk)
  · exact q
  · exact absurd this.2.symm (h.inj _ _ q this.1)
theorem Bf.reach (h : Bf N m t c f s M B Q L L 0) (hN : ∀ d, d < m → tlOf t d < N) : Reach N m t c f s M B := by
  obtain ⟨ρ, hρ⟩ := h.rank
  refine ⟨by have := h.met 0 h.pos; rw [h.q0] at this; exact this, fun d hd e1 e2 => ?_, ⟨ρ, fun v hv hm hne => ?_⟩⟩
  · obtain ⟨k, hk, e3⟩ := h.all _ (hN d hd) e1
    exact h.done k hk d hd e3.symm e2
  · obtain ⟨k, hk, rfl⟩ := h.all v hv hm
    have hk0 : 0 < k := by
      rcases Nat.eq_zero_or_pos k with q | q
      · rw [q, h.q0] at hne; exact absurd rfl hne
      · exact q
    obtain ⟨d, d1, d2, d3, d4, a, d5, d6⟩ := h.by_ k hk0 hk
    refine ⟨d, d1, d2, d3, d4, by rw [← d6]; exact h.met a (by omega), ?_⟩
    rw [hρ k hk, ← d6, hρ a (by omega)]
    exact d5
end
end Go.Proofs.Ytcdlnohnkdalbaa.Ro
