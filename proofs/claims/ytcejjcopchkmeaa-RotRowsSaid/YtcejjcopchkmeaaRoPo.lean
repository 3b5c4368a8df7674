/- What is known of a law's net, of a round told. -/
import Derived.Test.YtcejjcopchkmeaaRoD
namespace Go.Proofs.Ytcejjcopchkmeaa.Ro
open Go.RowKit Go.Proofs Go.Maps
set_option linter.unusedVariables false
set_option maxRecDepth 100000
set_option linter.unusedSimpArgs false

theorem small_within {d : Int} {m : Nat} (h0 : 0 < m) : ∃ x : Nat, d % (m : Int) = (x : Int) ∧ x < m :=
  ⟨(d % (m : Int)).toNat, by have := Int.emod_nonneg d (b := (m : Int)) (by omega); omega, by have := Int.emod_nonneg d (b := (m : Int)) (by omega); have := Int.emod_lt_of_pos d (b := (m : Int)) (by omega); omega⟩

/-- the net of a law's numbers: what is known of it -/
theorem plane_ok (z : Nat → Int) (n : Nat) : (planeOf z n).Ok ∧ (planeOf z n).N ≤ 25 ∧ (planeOf z n).m ≤ 48 := by
  obtain ⟨h1, h2, h3, _⟩ := planeUp_ok z (min n 24) (Nat.min_le_right _ _)
  have := Nat.min_le_right n 24
  exact ⟨h1, by show (planeUp z (min n 24)).N ≤ 25; omega, by show (planeUp z (min n 24)).m ≤ 48; omega⟩

end Go.Proofs.Ytcejjcopchkmeaa.Ro
