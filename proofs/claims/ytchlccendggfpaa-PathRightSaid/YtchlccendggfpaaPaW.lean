/- Memory words: rows of arcs. -/

import Derived.Test.YtchlccendggfpaaPaD
namespace Go.Proofs.Ytchlccendggfpaa.Ro
open Go.RowKit Go.Proofs
set_option linter.unusedVariables false
set_option linter.unusedSimpArgs false

/-- k arcs, to be read -/
def RdA (w : World) (v : Value) (k : Nat) (S : ArcsF) : Prop :=
  ∃ A cap, v = .slice A k cap ∧ (0 < k → ∃ b, A = some ⟨b, 0, none⟩ ∧ b < w.heap.size ∧ ∀ i, i < k → w.cell? ⟨b, i * 3, none⟩ = some (.int .i64 (S.fr i : Int)) ∧ w.cell? ⟨b, i * 3 + 1, none⟩ = some (.int .i64 (S.th i : Int)) ∧ w.cell? ⟨b, i * 3 + 2, none⟩ = some (.int .i64 (S.ln i)))
theorem RdA.below {w w' : World} {v : Value} {k B : Nat} {S : ArcsF} (h : RdA w v k S) (hb : Below B w w') (hB : w.heap.size ≤ B) : RdA w' v k S := by
  obtain ⟨A, c, e, r⟩ := h
  refine ⟨A, c, e, fun hn => ?_⟩
  obtain ⟨b, h1, h2, h3⟩ := r hn
  refine ⟨b, h1, Nat.lt_of_lt_of_le h2 hb.size, fun i hi => ?_⟩
  obtain ⟨k1, k2, k3⟩ := h3 i hi
  exact ⟨(hb.cell (p := ⟨b, i * 3, none⟩) (by show b < B; omega)).trans k1, (hb.cell (p := ⟨b, i * 3 + 1, none⟩) (by show b < B; omega)).trans k2, (hb.cell (p := ⟨b, i * 3 + 2, none⟩) (by show b < B; omega)).trans k3⟩
theorem below_new (w : World) (o : Obj) : Below w.heap.size w (w.alloc o) := (Below.refl _ w).alloc (Nat.le_refl _) _
theorem Ow.made {w : World} {b n : Nat} (h : w.ownsRow 0 3 1 (.slice (some ⟨b, 0, none⟩) n n) n (List.replicate n (.int .i64 0))) : Ow w (.slice (some ⟨b, 0, none⟩) n n) n (fun _ => 0) :=
  ⟨_, h, fun j hj => by simp [hj]⟩
end Go.Proofs.Ytchlccendggfpaa.Ro
