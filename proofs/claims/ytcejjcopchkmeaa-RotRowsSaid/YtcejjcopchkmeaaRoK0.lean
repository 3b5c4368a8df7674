/- Plain: turns, plane nets. -/
import Derived.Test.YtcejjcopchkmeaaRoQ
namespace Go.Proofs.Ytcejjcopchkmeaa.Ro
open Go.RowKit Go.Proofs Go.Maps
set_option linter.unusedVariables false
set_option maxRecDepth 100000
set_option linter.unusedSimpArgs false

def tlOf (t : Nat → Int) (d : Nat) : Nat := (t d).toNat

/-- each vertex's darts are one round -/
structure Turns (m : Nat) (t x : Nat → Int) : Prop where
  perm : Perm (ab x) m
  keep : ∀ d, d < m → tlOf t (ab x d) = tlOf t d
  one : ∀ d e, d < m → e < m → tlOf t d = tlOf t e → ∃ k, it (ab x) k d = e

theorem Perm.bh {m : Nat} {x : Nat → Int} (h : Perm (ab x) m) (he : m % 2 = 0) : Perm (bh x) m :=
  ⟨fun d hd => h.lt (oth d) (oth_lt hd he), fun d e hd he' q => by
    have := h.inj (oth d) (oth e) (oth_lt hd he) (oth_lt he' he) q
    have h2 : oth (oth d) = oth (oth e) := by rw [this]
    rwa [oth_oth, oth_oth] at h2⟩

/-- a plane net: what Check tells as OK -/
structure Plane (N m : Nat) (t x c : Nat → Int) : Prop where
  good : Good N m t x
  turns : Turns m t x
  caps : ∀ d, d < m → 0 ≤ c d ∧ c d ≤ 2147483648
  whole : ∀ o k, Pcs N m (tlOf t) o k → k = 1
  euler : ∀ o k, Orb (bh x) m o k → N + max k 1 = 2 + m / 2

end Go.Proofs.Ytcejjcopchkmeaa.Ro
