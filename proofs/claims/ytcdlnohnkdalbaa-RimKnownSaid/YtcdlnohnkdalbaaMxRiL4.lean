/- Three rows of two in a list. -/
import Derived.Test.YtcdlnohnkdalbaaMg1
namespace Go.Proofs.Ytcdlnohnkdalbaa.Ro
open Go.RowKit Go.Proofs Go.Maps
set_option linter.unusedVariables false
set_option maxRecDepth 100000
set_option linter.unusedSimpArgs false

theorem alloc4 (W : World) (a b c d : Array Value) (t1 t2 t3 t4 : TypeId) :
    ((((W.alloc (.cells a t1)).alloc (.cells b t2)).alloc (.cells c t3)).alloc (.cells d t4)).heap[W.heap.size]? = some (.cells a t1 (0, 0)) ∧
    ((((W.alloc (.cells a t1)).alloc (.cells b t2)).alloc (.cells c t3)).alloc (.cells d t4)).heap[W.heap.size + 1]? = some (.cells b t2 (0, 0)) ∧
    ((((W.alloc (.cells a t1)).alloc (.cells b t2)).alloc (.cells c t3)).alloc (.cells d t4)).heap[W.heap.size + 1 + 1]? = some (.cells c t3 (0, 0)) ∧
    ((((W.alloc (.cells a t1)).alloc (.cells b t2)).alloc (.cells c t3)).alloc (.cells d t4)).heap[W.heap.size + 1 + 1 + 1]? = some (.cells d t4 (0, 0)) ∧
    Below W.heap.size W ((((W.alloc (.cells a t1)).alloc (.cells b t2)).alloc (.cells c t3)).alloc (.cells d t4)) := by
  have s1 : (W.alloc (.cells a t1)).heap.size = W.heap.size + 1 := by simp
  have h1 := heap_alloc_new W (.cells a t1)
  have b1 := below_new W (.cells a t1)
  generalize W.alloc (.cells a t1) = W1 at *
  have s2 : (W1.alloc (.cells b t2)).heap.size = W1.heap.size + 1 := by simp
  have h2 := heap_alloc_new W1 (.cells b t2)
  have b2 := below_new W1 (.cells b t2)
  generalize W1.alloc (.cells b t2) = W2 at *
  have s3 : (W2.alloc (.cells c t3)).heap.size = W2.heap.size + 1 := by simp
  have h3 := heap_alloc_new W2 (.cells c t3)
  have b3 := below_new W2 (.cells c t3)
  generalize W2.alloc (.cells c t3) = W3 at *
  have h4 := heap_alloc_new W3 (.cells d t4)
  have b4 := below_new W3 (.cells d t4)
  generalize W3.alloc (.cells d t4) = W4 at *
  rw [s1] at h2
  rw [s2, s1] at h3
  rw [s3, s2, s1] at h4
  refine ⟨?_, ?_, ?_, h4, b1.trans ((b2.mono (by omega)).trans ((b3.mono (by omega)).trans (b4.mono (by omega))))⟩
  · exact (b4.block _ (by omega)).trans ((b3.block _ (by omega)).trans ((b2.block _ (by omega)).trans h1))
  · exact (b4.block _ (by omega)).trans ((b3.block _ (by omega)).trans h2)
  · exact (b4.block _ (by omega)).trans h3

/-- three rows of two, told by their places -/
def Three (w : World) (L : Nat) (F : Nat → Int → Int → Prop) : Prop := L < w.heap.size ∧ ∀ i : Nat, i < 3 → ∃ (P : Nat) (q r : Int), P < w.heap.size ∧ w.cell? ⟨L, i, none⟩ = some (.slice (some ⟨P, 0, none⟩) 2 2) ∧ w.cell? ⟨P, 0, none⟩ = some (.int .i64 q) ∧ w.cell? ⟨P, 1, none⟩ = some (.int .i64 r) ∧ Small q ∧ Small r ∧ F i q r
theorem Three.of {w : World} {L P Q R : Nat} {t1 t2 t3 t4 : TypeId} {a0 a1 b0 b1 c0 c1 : Int} {F : Nat → Int → Int → Prop}
    (hL : w.heap[L]? = some (.cells #[.slice (some ⟨P, 0, none⟩) 2 2, .slice (some ⟨Q, 0, none⟩) 2 2, .slice (some ⟨R, 0, none⟩) 2 2] t4 (0, 0)))
    (hP : w.heap[P]? = some (.cells #[.int .i64 a0, .int .i64 a1] t1 (0, 0))) (hQ : w.heap[Q]? = some (.cells #[.int .i64 b0, .int .i64 b1] t2 (0, 0))) (hR : w.heap[R]? = some (.cells #[.int .i64 c0, .int .i64 c1] t3 (0, 0)))
    (s : Small a0 ∧ Small a1 ∧ Small b0 ∧ Small b1 ∧ Small c0 ∧ Small c1) (f0 : F 0 a0 a1) (f1 : F 1 b0 b1) (f2 : F 2 c0 c1) : Three w L F := by
  obtain ⟨s0, s1, s2, s3, s4, s5⟩ := s
  refine ⟨blk_lt hL, fun i hi => ?_⟩
  rcases (show i = 0 ∨ i = 1 ∨ i = 2 by omega) with rfl | rfl | rfl
  · exact ⟨P, a0, a1, blk_lt hP, blk_cell hL 0, blk_cell hP 0, blk_cell hP 1, s0, s1, f0⟩
  · exact ⟨Q, b0, b1, blk_lt hQ, blk_cell hL 1, blk_cell hQ 0, blk_cell hQ 1, s2, s3, f1⟩
  · exact ⟨R, c0, c1, blk_lt hR, blk_cell hL 2, blk_cell hR 0, blk_cell hR 1, s4, s5, f2⟩
/-- one of three operations that may come up -/
theorem held_three {P : Program} {md : Region.Mode} {Q : Exit → Act → World → Prop} {S : World → Prop} {l : List Oper} (i j k : Nat) {n fuel : Nat} {listed : Array Bool} {a : Act} {w : World} (hn : n = fuel + 1) (hr : Region.ready md l.toArray listed = [i, j, k])
    (h1 : wpOne P md l.toArray Q S fuel (listed.setIfInBounds i true) (l.drop i) a w) (h2 : wpOne P md l.toArray Q S fuel (listed.setIfInBounds j true) (l.drop j) a w) (h3 : wpOne P md l.toArray Q S fuel (listed.setIfInBounds k true) (l.drop k) a w) : wpAnyH P md l.toArray Q S n listed a w := by
  subst hn
  refine wpAnyH_ready hr (by simp) ?_
  have one : ∀ (i : Nat) (rs : List Nat), wpOne P md l.toArray Q S fuel (listed.setIfInBounds i true) (l.drop i) a w → AllReadyH P md l.toArray Q S fuel listed a w rs → AllReadyH P md l.toArray Q S fuel listed a w (i :: rs) := fun i rs h hs => by
    rcases Nat.lt_or_ge i l.length with q | q
    · rw [List.drop_eq_getElem_cons q] at h
      exact AllReadyH.cons (o := l[i]) (by simp [q]) (fun K' hK => h K' (fun a w hS hW => hK a w hS (fun _ => hW))) hs
    · rw [List.drop_eq_nil_of_le q] at h; exact h.elim
  exact one i _ h1 (one j _ h2 (one k _ h3 AllReadyH.nil))
end Go.Proofs.Ytcdlnohnkdalbaa.Ro
