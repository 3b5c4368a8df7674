/- Plain: with darts that hold more no less runs; with all that hold twice as much twice as much. -/
import Derived.Test.YtcdlnohnkdalbaaMg15
import Derived.Test.YtcdlnohnkdalbaaMxRoPu
namespace Go.Proofs.Ytcdlnohnkdalbaa.Ro
open Go.RowKit Go.Proofs Go.Maps
set_option linter.unusedVariables false
set_option maxRecDepth 100000
set_option linter.unusedSimpArgs false

section
variable {N m n n' : Nat} {x t c c' y y' : Nat → Int} {s v u u' code code' : Int}
theorem Way.twice {S S' : ArcsF} {k a : Nat} (e : ∀ i, i < k → S'.fr i = S.fr i ∧ S'.th i = S.th i ∧ S'.ln i = 2 * S.ln i) {b : Nat} {l : Int} {q : Nat} (w : Way S k a b l q) : Way S' k a b (2 * l) q := by
  induction w with
  | nil => exact .nil
  | @snoc L' n' i w hi ih =>
    obtain ⟨e1, e2, e3⟩ := e i hi
    have := Way.snoc (S := S') (i := i) (by rw [e1]; exact ih) hi
    rw [e2, e3, ← Int.mul_add] at this
    exact this
theorem FlowIs.more (h : FlowIs N m x t c s v n y u code) (h' : FlowIs N m x t c' s v n' y' u' code') (hle : ∀ d, d < m → c d ≤ c' d) (ps : Pots m t x) (gd : Good N m t x) (tu : Turns m t x) (hm : m ≤ 48)
    (hc : ∀ d, d < m → 0 ≤ c d ∧ c d ≤ 2147483648) (hc' : ∀ d, d < m → 0 ≤ c' d ∧ c' d ≤ 2147483648) : code = code' ∧ u ≤ u' := by
  have p := tu.perm.bh gd.even
  rcases h with ⟨-, rfl, h⟩ | ⟨o, K, f, D, -, rfl, rfl, -, h⟩ <;> rcases h' with ⟨-, rfl, h'⟩ | ⟨o', K', f', D', -, rfl, rfl, -, h'⟩
  · exact ⟨h.one h', Int.le_refl _⟩
  · exact (h.ok h' p).elim
  · exact (h'.ok h p).elim
  · obtain ⟨F, hF⟩ := h.flows gd tu hm hc
    exact ⟨rfl, h'.most ps gd tu hm hc' F fun d hd => Int.le_trans (hF d hd) (hle d hd)⟩
theorem FlowIs.twice (h : FlowIs N m x t c s v n y u code) (h' : FlowIs N m x t c' s v n' y' u' code') (he : ∀ d, d < m → c' d = 2 * c d) (ps : Pots m t x) (gd : Good N m t x) (tu : Turns m t x) (hm : m ≤ 48)
    (hc : ∀ d, d < m → 0 ≤ c d ∧ c d ≤ 2147483648) (hc' : ∀ d, d < m → 0 ≤ c' d ∧ c' d ≤ 2147483648) : code = code' ∧ u' = 2 * u ∧ 0 ≤ u ∧ u ≤ 103079215104 := by
  have p := tu.perm.bh gd.even
  rcases h with ⟨-, rfl, h⟩ | ⟨o, K, f, D, -, rfl, rfl, -, h⟩ <;> rcases h' with ⟨-, rfl, h'⟩ | ⟨o', K', f', D', -, rfl, rfl, -, h'⟩
  · exact ⟨h.one h', rfl, by omega, by omega⟩
  · exact (h.ok h' p).elim
  · exact (h'.ok h p).elim
  · obtain ⟨F, hF⟩ := h.flows gd tu hm hc
    have n1 := h.near gd tu hm hc
    refine ⟨rfl, Int.le_antisymm ?_ ?_, n1.2.1, n1.2.2⟩
    · obtain ⟨rfl, rfl, e⟩ := h.over.one h'.over p
      have A' := h'.away.other (fun d hd => (e d hd).symm) gd.even
      obtain ⟨ok', -, hf'⟩ := h.over.ok hm gd.even hc'
      obtain ⟨T, S, -, -⟩ := h.away
      rcases S.each K (by omega) with q | ⟨r, -, w⟩
      · unfold far at q; omega
      · have w2 := Way.twice (S := overA o c) (S' := overA o c') (fun i hi => ⟨rfl, rfl, he i hi⟩) w
        obtain ⟨T', S', hT', F'⟩ := A'
        exact (F'.le S' ok'.arcs (by omega) (by unfold far; omega) (by omega) w2).2
    · refine h'.most ps gd tu hm hc' (g := fun d => 2 * fallOf o D d) ⟨fun d hd => ?_, fun w => ?_⟩ fun d hd => ?_
      · show 2 * fallOf o D (oth d) = - (2 * fallOf o D d)
        rw [F.anti d hd]; omega
      · rw [val_mul, F.kept w, Int.mul_add]
        split <;> split <;> omega
      · have := hF d hd
        rw [he d hd]
        show 2 * fallOf o D d ≤ 2 * c d
        omega
end
end Go.Proofs.Ytcdlnohnkdalbaa.Ro
