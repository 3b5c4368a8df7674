/- Plain: what Split tells, in one form. -/
import Derived.Test.YtbnghpemlcmogaaRoDp
import Derived.Test.YtbnghpemlcmogaaRoNt
namespace Go.Proofs.Ytbnghpemlcmogaa.Ro
open Go.RowKit Go.Proofs Go.Maps
set_option linter.unusedVariables false
set_option linter.unusedSimpArgs false

/-- what Split tells of two vertices: a row of n faces, how many, which was parted, the new one, whether -/
def SplitRel (m : Nat) (x t : Nat → Int) (s v : Int) (n : Nat) (h : Nat → Int) (kk ff nn : Int) (b : Bool) : Prop :=
  ∃ o k, Orb (bh x) m o k ∧ ((b = false ∧ Shares m o t (max k 1) s v 0 false ∧ n = 0 ∧ kk = 0 ∧ ff = 0 ∧ nn = 0) ∨
    (b = true ∧ ∃ f e0 l a r : Nat, Shares m o t (max k 1) s v (f : Int) true ∧ Halved m x t o f s v e0 l a r ∧ n = m ∧ h = halfO x o ((max k 1 : Nat) : Int) e0 a r l ∧ kk = ((max k 1 + 1 : Nat) : Int) ∧ ff = (f : Int) ∧ nn = ((max k 1 : Nat) : Int)))
theorem SplitPost.rel {B m : Nat} {w w' : World} {x t : Nat → Int} {s v : Int} {e : Ending} (h : SplitPost B w m x t s v e w') :
    ∃ (A : Option Addr) (n cap : Nat) (r : Nat → Int) (kk ff nn : Int) (b : Bool), e = .returned (.tuple #[.slice A n cap, .int .i64 kk, .int .i64 ff, .int .i64 nn, .bool b]) ∧ Ow w' (.slice A n cap) n r ∧ (∀ j, (Value.slice A n cap).ownBlock = some j → B ≤ j) ∧ SplitRel m x t s v n r kk ff nn b ∧ n ≤ m ∧ Below B w w' := by
  obtain ⟨o, k, O, b, ⟨S, rfl⟩ | ⟨f, e0, l, a, r, bb, cap, S, H, rfl, W, hb⟩⟩ := h
  · exact ⟨none, 0, 0, fun _ => 0, 0, 0, 0, false, rfl, Ow.nil _ _, fun j hj => by simp [Value.ownBlock] at hj, ⟨o, k, O, .inl ⟨rfl, S, rfl, rfl, rfl, rfl⟩⟩, Nat.zero_le _, b⟩
  · exact ⟨_, m, cap, _, _, _, _, true, rfl, W, fun j hj => by have e : some bb = some j := hj; injection e with e; omega, ⟨o, k, O, .inr ⟨rfl, f, e0, l, a, r, S, H, rfl, rfl, rfl, rfl, rfl⟩⟩, Nat.le_refl _, b⟩
theorem SplitRel.one {m n n' : Nat} {x t h h' : Nat → Int} {s v kk kk' ff ff' nn nn' : Int} {b b' : Bool} (p : Perm (bh x) m) (u : SplitRel m x t s v n h kk ff nn b) (u' : SplitRel m x t s v n' h' kk' ff' nn' b') :
    n = n' ∧ kk = kk' ∧ ff = ff' ∧ nn = nn' ∧ b = b' ∧ ∀ j, j < n → h j = h' j := by
  obtain ⟨o, k, O, u⟩ := u
  obtain ⟨o', k', O', u'⟩ := u'
  obtain rfl := O.count O' p
  have so : ∀ d, d < m → o d = o' d := fun d hd => O.same O' p m d hd hd
  rcases u with ⟨rfl, S, rfl, rfl, rfl, rfl⟩ | ⟨rfl, f, e0, l, a, r, S, H, rfl, rfl, rfl, rfl, rfl⟩ <;> rcases u' with ⟨rfl, S', rfl, rfl, rfl, rfl⟩ | ⟨rfl, f', e0', l', a', r', S', H', rfl, rfl, rfl, rfl, rfl⟩
  · exact ⟨rfl, rfl, rfl, rfl, rfl, fun j h => by omega⟩
  · exact absurd (S.one S' so).2 (by simp)
  · exact absurd (S.one S' so).2 (by simp)
  · have hf := (S.one S' so).1
    obtain rfl : f = f' := by omega
    obtain ⟨rfl, rfl, rfl, rfl⟩ := H.one H' so
    exact ⟨rfl, rfl, rfl, rfl, rfl, fun j hj => halfO_same _ _ _ _ _ so hj⟩
/-- three things made one behind the other -/
theorem alloc3 (W : World) (a b c : Array Value) (t1 t2 t3 : TypeId) : (((W.alloc (.cells a t1)).alloc (.cells b t2)).alloc (.cells c t3)).heap[W.heap.size]? = some (.cells a t1 (0, 0)) ∧ (((W.alloc (.cells a t1)).alloc (.cells b t2)).alloc (.cells c t3)).heap[W.heap.size + 1]? = some (.cells b t2 (0, 0)) ∧
    (((W.alloc (.cells a t1)).alloc (.cells b t2)).alloc (.cells c t3)).heap[W.heap.size + 1 + 1]? = some (.cells c t3 (0, 0)) ∧ Below W.heap.size W (((W.alloc (.cells a t1)).alloc (.cells b t2)).alloc (.cells c t3)) := by
  have s1 : (W.alloc (.cells a t1)).heap.size = W.heap.size + 1 := by simp
  have h1 := heap_alloc_new W (.cells a t1)
  generalize hW1 : W.alloc (.cells a t1) = W1 at *
  have s2 : (W1.alloc (.cells b t2)).heap.size = W1.heap.size + 1 := by simp
  have h2 := heap_alloc_new W1 (.cells b t2)
  have b2 := below_new W1 (.cells b t2)
  generalize hW2 : W1.alloc (.cells b t2) = W2 at *
  have h3 := heap_alloc_new W2 (.cells c t3)
  have b3 := below_new W2 (.cells c t3)
  have b1 : Below W.heap.size W W1 := by rw [← hW1]; exact below_new _ _
  rw [s1] at h2
  rw [s2, s1] at h3
  refine ⟨(b3.block _ (by omega)).trans ((b2.block _ (by omega)).trans h1), (b3.block _ (by omega)).trans h2, h3, b1.trans ((b2.mono b1.size).trans (b3.mono (Nat.le_trans b1.size b2.size)))⟩
end Go.Proofs.Ytbnghpemlcmogaa.Ro
