/- Plain laws: each front of a shortest way is one. -/
import Derived.Test.YtchlccendggfpaaPaJ
namespace Go.Proofs.Ytchlccendggfpaa.Ro
set_option linter.unusedVariables false
set_option linter.unusedSimpArgs false
theorem Trail.fin {S : ArcsF} {k n s t m : Nat} {D F : Nat → Int} {p r : Nat → Nat} (h : Trail S k D F s t m p r) (hd : D s ≠ far) : ∀ i, i ≤ m → D (p i) ≠ far
  | 0, _ => by rw [h.here]; exact hd
  | i + 1, hi => by rw [h.next i hi]; exact (h.pick i hi).fin
theorem Trail.front {S : ArcsF} {k n s t m U : Nat} {L : Int} {D F d : Nat → Int} {p r : Nat → Nat} (h : Trail S k D F s t m p r) (b : Best S k t n D F) (hf : D s ≠ far) (fd : Fix S k d) (hd : Sound S k s n U d) (A : ArcsIn S k n L) (hL : 0 ≤ L) (hb : (U : Int) * L + L < far) (hs : s < n) (ht : t < n) :
    ∀ i, i ≤ m → d (p i) = sumN (fun j => S.ln (r j)) i ∧ d (p i) ≠ far := fun i hi => by
  have h1 := fd.le hd A hL hb hs (h.way i hi)
  have h2 := (h.sum i hi).1
  have lt := h.lt A hs i hi
  obtain ⟨m', _, w⟩ := b.way _ lt (h.fin (n := n) hf i hi)
  have h3 := (fd.way hd A hL hb lt h1.1 w.back).2
  have h4 := b.from fd hd A hL hb hs ht
  exact ⟨by omega, h1.1⟩
theorem Fix.tri {S : ArcsF} {k n s u v U U' : Nat} {L : Int} {d d' : Nat → Int} (fd : Fix S k d) (hd : Sound S k s n U d) (hd' : Sound S k u n U' d') (A : ArcsIn S k n L) (hL : 0 ≤ L) (hb : (U : Int) * L + L < far) (hu : u < n) (hv : v < n) (h1 : d u ≠ far) (h2 : d' v ≠ far) : d v ≤ d u + d' v := by
  rcases hd'.each v hv with q | ⟨m, _, w⟩
  · exact absurd q h2
  · exact (fd.way hd A hL hb hu h1 w).2
end Go.Proofs.Ytchlccendggfpaa.Ro
