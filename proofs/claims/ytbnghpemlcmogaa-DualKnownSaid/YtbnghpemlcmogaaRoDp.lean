/- Plain: what the laws of chapter 3 say of dual nets. -/
import Derived.Test.YtbnghpemlcmogaaRoHv
import Derived.Test.YtbnghpemlcmogaaRoDu
namespace Go.Proofs.Ytbnghpemlcmogaa.Ro
open Go.RowKit Go.Proofs Go.Maps
set_option linter.unusedVariables false
set_option linter.unusedSimpArgs false

theorem Shares.symm {m k : Nat} {o t : Nat → Int} {s v r : Int} : ∀ {b : Bool}, Shares m o t k s v r b → Shares m o t k v s r b
  | true, ⟨h1, f, h2, h3, h4, h5, h6⟩ => ⟨Ne.symm h1, f, h2, h3, h5, h4, fun g hg q => h6 g hg ⟨q.2, q.1⟩⟩
  | false, ⟨h1, h2⟩ => ⟨h1, h2.elim (fun e => .inl e.symm) fun h => .inr fun g hg q => h g hg ⟨q.2, q.1⟩⟩
/-- the faces of a plane net's dual are as many as its vertices -/
theorem dual_count {N m k k' : Nat} {t x c o o' : Nat → Int} (h : Grown N m t x c) (O : Orb (bh x) m o k) (hm : m ≤ 100) (O' : Orb (bh (dualX x)) m o' k') : max k' 1 = N := by
  have h1 := h.plane.euler _ _ O
  have h2 := (h.dual O hm).plane.euler _ _ O'
  omega
/-- darts begin together in the dual's dual just where they did -/
theorem dual_tail {N m k' : Nat} {t x c o' : Nat → Int} (h : Grown N m t x c) (O' : Orb (bh (dualX x)) m o' k') {a b : Nat} (ha : a < m) (hb : b < m) : o' a = o' b ↔ t a = t b := by
  have e : ∀ j d, it (bh (dualX x)) j d = it (ab x) j d := fun j d => by
    have : bh (dualX x) = ab x := funext fun d => bh_dual d
    rw [this]
  have T := h.turns
  have tl : ∀ {d e}, d < m → e < m → (tlOf t d = tlOf t e ↔ t d = t e) := fun {d e} hd he => by
    have := h.good.tail d hd
    have := h.good.tail e he
    unfold tlOf; omega
  constructor
  · intro q
    obtain ⟨j, hj⟩ := O'.one a b ha hb q
    rw [e] at hj
    rw [← hj]
    have : ∀ j, t (it (ab x) j a) = t a := fun j => by
      induction j with
      | zero => rfl
      | succ j ih => exact ((tl (T.perm.lt _ (T.perm.it_lt ha j)) (T.perm.it_lt ha j)).1 (T.keep _ (T.perm.it_lt ha j))).trans ih
    exact (this j).symm
  · intro q
    obtain ⟨j, hj⟩ := T.one a b ha hb ((tl ha hb).2 q)
    rw [← hj, ← e]
    have p : Perm (bh (dualX x)) m := T.perm.same fun d _ => bh_dual d
    exact (O'.it p ha j).symm
end Go.Proofs.Ytbnghpemlcmogaa.Ro
