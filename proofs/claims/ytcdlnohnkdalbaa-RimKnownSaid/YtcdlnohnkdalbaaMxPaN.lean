/- Walks: the document's From, Any, Ints and Right of chapter 6. -/
import Derived.Outline
import Derived.WalkMore
import Derived.Test.YtcdlnohnkdalbaaMxPaF
namespace Go.Proofs.Ytcdlnohnkdalbaa.Ro
open Go.RowKit Go.Proofs
set_option linter.unusedVariables false
set_option maxRecDepth 100000
set_option linter.unusedSimpArgs false

/-- what ref6.From tells -/
def RFromPost (B : Nat) (w : World) (S : ArcsF) (k s n : Nat) (e : Ending) (w' : World) : Prop :=
  ∃ (b : Nat) (d : Nat → Int) (t : Nat), e = .returned (.slice (some ⟨b, 0, none⟩) n n) ∧ Ow w' (.slice (some ⟨b, 0, none⟩) n n) n d ∧ B ≤ b ∧ Sound S k s n t d ∧ t ≤ 20200 ∧ (NoNeg S k s → Fix S k d) ∧ Below B w w'
set_option maxRecDepth 100000 in
set_option maxHeartbeats 6400000 in
theorem refFromD_any (w : World) (n k s : Nat) (V : Value) (S : ArcsF) (hV : RdA w V k S) (A : ArcsIn S k n 4294967296) (hs : s < n) (hn : n ≤ 100) (hk : k ≤ 200) :
    Calls Try.prog 49 #[.int .i64 (n : Int), V, .int .i64 (s : Int)] w (RFromPost w.heap.size w S k s n) := by
  obtain ⟨VA, vc, e0, rv⟩ := id hV
  subst e0
  clear rv
  go_enter Try.func49, Try.ntmps49
  go_wp2_with fail
  refine (refFrom_any _ n k s _ S hV A hs hn hk).mono ?_
  rintro e w1 ⟨b, d, t, again, rfl, O, hb, SD, ht, hF, hN, B⟩
  have FX : Hid (NoNeg S k s → Fix S k d) := Lib.hid fun q => by
    cases again with
    | false => exact hF rfl
    | true => exact absurd q (hN rfl)
  have HS := Lib.hid SD
  clear hF hN SD
  go_wp2
  go_ret
  exact ⟨b, d, t, rfl, O, hb, HS.out, ht, FX.out, B⟩

end Go.Proofs.Ytcdlnohnkdalbaa.Ro
