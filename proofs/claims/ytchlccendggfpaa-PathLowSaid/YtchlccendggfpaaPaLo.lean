/- Plain laws: arcs that lead on alone; distances by places in their row. -/
import Derived.Test.YtchlccendggfpaaPaE
namespace Go.Proofs.Ytchlccendggfpaa.Ro
set_option linter.unusedVariables false
set_option linter.unusedSimpArgs false

/-- each arc leads on -/
def Dag (S : ArcsF) (K n : Nat) : Prop := ∀ i, i < K → S.fr i < S.th i ∧ S.th i < n ∧ -10 ≤ S.ln i ∧ S.ln i ≤ 10
section
variable {S : ArcsF} {K n i k s v m t : Nat} {c : Int} {d : Nat → Int}
theorem Dag.way (h : Dag S K n) (w : Way S K s v c m) : s ≤ v ∧ (s = v → c = 0) := by
  induction w with
  | nil => exact ⟨Nat.le_refl _, fun _ => rfl⟩
  | @snoc c m i w hi ih =>
    have := h i hi
    exact ⟨by omega, fun e => by omega⟩
theorem Dag.noNeg (h : Dag S K n) : NoNeg S K s := fun v c m c' m' _ w => by have := (h.way w).2 rfl; omega
theorem Dag.in_ (h : Dag S K n) : ArcsIn S K n 4294967296 :=
  ⟨fun i hi => by have := h i hi; omega, fun i hi => (h i hi).2.1, fun i hi => by have := h i hi; omega, fun i hi => by have := h i hi; omega⟩
/-- arcs from places below i, and the first k from i, make nothing less -/
def FixI (S : ArcsF) (K i k : Nat) (d : Nat → Int) : Prop := ∀ a, a < K → (S.fr a < i ∨ (S.fr a = i ∧ a < k)) → d (S.fr a) ≠ far → d (S.th a) ≤ d (S.fr a) + S.ln a
theorem FixI.start (S : ArcsF) (K : Nat) (d : Nat → Int) : FixI S K 0 0 d := fun a _ h => by omega
theorem FixI.skip (h : FixI S K i k d) (hn : S.fr k ≠ i ∨ d i = far) : FixI S K i (k + 1) d := fun a ha hq hd => by
  by_cases e : a = k
  · subst e
    rcases hn with z | z
    · exact h a ha (by omega) hd
    · by_cases e2 : S.fr a = i
      · rw [e2] at hd; exact absurd z hd
      · exact h a ha (by omega) hd
  · exact h a ha (by omega) hd
theorem FixI.take (h : FixI S K i k d) (D : Dag S K n) (hk : k < K) (hf : S.fr k = i) : FixI S K i (k + 1) (upd d (S.th k) (min (d (S.th k)) (d i + S.ln k))) := fun a ha hq hd => by
  have dk := D k hk
  have da := D a ha
  have e1 : upd d (S.th k) (min (d (S.th k)) (d i + S.ln k)) (S.fr a) = d (S.fr a) := upd_ne (by omega)
  rw [e1] at hd ⊢
  by_cases e : a = k
  · subst e
    rw [upd_same, hf]; omega
  · have h1 := h a ha (by omega) hd
    by_cases e2 : S.th a = S.th k
    · rw [e2, upd_same]; rw [e2] at h1; omega
    · rw [upd_ne e2]; exact h1
theorem FixI.next (h : FixI S K i K d) : FixI S K (i + 1) 0 d := fun a ha hq hd => h a ha (by omega) hd
theorem FixI.end_ (h : FixI S K n 0 d) (D : Dag S K n) : Fix S K d := fun a ha hd => h a ha (by have := D a ha; omega) hd
theorem Sound.min_ (h : Sound S K s n t d) (D : Dag S K n) (hk : k < K) (hf : S.fr k = i) (hd : d i ≠ far) : Sound S K s n (t + 1) (upd d (S.th k) (min (d (S.th k)) (d i + S.ln k))) := by
  by_cases q : d (S.fr k) + S.ln k < d (S.th k)
  · have := h.step D.in_ hk (by rw [hf]; exact hd) q
    rw [hf] at this q
    rw [show min (d (S.th k)) (d i + S.ln k) = d i + S.ln k by omega]
    exact this
  · rw [hf] at q
    rw [show min (d (S.th k)) (d i + S.ln k) = d (S.th k) by omega]
    have e : upd d (S.th k) (d (S.th k)) = d := by
      funext x
      by_cases z : x = S.th k
      · rw [z, upd_same]
      · rw [upd_ne z]
    rw [e]
    exact h.more (Nat.le_succ _)
end
end Go.Proofs.Ytchlccendggfpaa.Ro
