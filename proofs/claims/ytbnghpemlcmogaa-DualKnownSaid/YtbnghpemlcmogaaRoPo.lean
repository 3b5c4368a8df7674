/- What is known of a law's net, of a round told. -/
import Derived.Test.YtbnghpemlcmogaaRoD
namespace Go.Proofs.Ytbnghpemlcmogaa.Ro
open Go.RowKit Go.Proofs Go.Maps
set_option linter.unusedVariables false
set_option linter.unusedSimpArgs false

theorem small_within {d : Int} {m : Nat} (h0 : 0 < m) : ∃ x : Nat, d % (m : Int) = (x : Int) ∧ x < m :=
  ⟨(d % (m : Int)).toNat, by have := Int.emod_nonneg d (b := (m : Int)) (by omega); omega, by have := Int.emod_nonneg d (b := (m : Int)) (by omega); have := Int.emod_lt_of_pos d (b := (m : Int)) (by omega); omega⟩

/-- the net of a law's numbers: what is known of it -/
theorem plane_ok (z : Nat → Int) (n : Nat) : (planeOf z n).Ok ∧ (planeOf z n).N ≤ 25 ∧ (planeOf z n).m ≤ 48 := by
  obtain ⟨h1, h2, h3, _⟩ := planeUp_ok z (min n 24) (Nat.min_le_right _ _)
  have := Nat.min_le_right n 24
  exact ⟨h1, by show (planeUp z (min n 24)).N ≤ 25; omega, by show (planeUp z (min n 24)).m ≤ 48; omega⟩

theorem RoundPost.row {B : Nat} {w w' : World} {f : Nat → Nat} {d : Nat} {e : Ending} (h : RoundPost B w f d e w') : ∃ b k, e = .returned (.slice (some ⟨b, 0, none⟩) k k) ∧ B ≤ b ∧ b < w'.heap.size ∧ (∀ j, j < k → w'.cell? ⟨b, j, none⟩ = some (.int .i64 (it f j d : Int))) ∧ Rnd f d k ∧ Below B w w' := by
  obtain ⟨b, k, cur, rfl, h1, h2, h3, h4, h5⟩ := h
  exact ⟨b, k, rfl, h1, blk_lt h2, fun j hj => by rw [blk_cell h2]; exact h3 j hj, h4, h5⟩

end Go.Proofs.Ytbnghpemlcmogaa.Ro
