/- Walks: the law PathFew. -/
import Derived.Test.YtchlccendggfpaaPaKn
import Derived.Test.YtchlccendggfpaaPaFw
namespace Go.Proofs.Ytchlccendggfpaa.Ro
open Go.RowKit Go.Proofs Go.Maps
set_option linter.unusedVariables false
set_option linter.unusedSimpArgs false

def allocsF : World → List Obj → World
  | w, [] => w
  | w, o :: l => allocsF (w.alloc o) l
theorem allocsF_below : ∀ (l : List Obj) (w : World), Below w.heap.size w (allocsF w l)
  | [], w => Below.refl _ w
  | o :: l, w => by
    have h := allocsF_below l (w.alloc o)
    exact (below_new w o).trans (h.mono (below_new w o).size)
theorem allocsF_heap : ∀ (l : List Obj) (w : World) (i : Nat) (h : i < l.length), (allocsF w l).heap[w.heap.size + i]? = some (l[i]'h)
  | o :: l, w, 0, _ => by
    have b := allocsF_below l (w.alloc o)
    exact (b.block _ (by simp)).trans (heap_alloc_new w o)
  | o :: l, w, i + 1, h => by
    have := allocsF_heap l (w.alloc o) i (by simpa using h)
    rw [show (w.alloc o).heap.size + i = w.heap.size + (i + 1) by simp; omega] at this
    exact this
theorem six {j : Nat} (h : j < 6) : j = 0 ∨ j = 1 ∨ j = 2 ∨ j = 3 ∨ j = 4 ∨ j = 5 := by omega
theorem four {j : Nat} (h : j < 4) : j = 0 ∨ j = 1 ∨ j = 2 ∨ j = 3 := by omega

set_option maxRecDepth 100000 in
set_option maxHeartbeats 12800000 in
theorem few_walk (which : Int) (w : World) (hwhich : Small which) :
    Calls Try.prog 11 #[.int .i64 which] w fun e w' => e = .returned (.bool true) ∧ Below w.heap.size w w' := by
  go_enter Try.func11, Try.ntmps11
  go_wp2_with fail
  refine (known6_ok _).mono ?_
  rintro e w1 ⟨rfl, B1⟩
  go_upto_region 5 with fail
  obtain ⟨g, hg⟩ : ∃ g, g = w1.heap.size := ⟨_, rfl⟩
  rw [← hg]
  have HA := allocsF_heap [(.cells #[.int .i64 0, .int .i64 1, .int .i64 0, .int .i64 1, .int .i64 2, .int .i64 0, .int .i64 0, .int .i64 2, .int .i64 0] 30), (.cells #[.int .i64 0, .int .i64 2, .int .i64 2, .int .i64 0, .int .i64 1, .int .i64 1, .int .i64 1, .int .i64 2, .int .i64 1] 30), (.cells #[.int .i64 0, .int .i64 2, .int .i64 1, .int .i64 0, .int .i64 2, .int .i64 1] 30), (.cells #[.int .i64 1, .int .i64 2, .int .i64 0, .int .i64 0, .int .i64 1, .int .i64 0, .int .i64 0, .int .i64 1, .int .i64 0] 30), (.cells #[.int .i64 0, .int .i64 0, .int .i64 0, .int .i64 0, .int .i64 1, .int .i64 0, .int .i64 1, .int .i64 0, .int .i64 0, .int .i64 1, .int .i64 2, .int .i64 4] 30), (.cells #[.int .i64 0, .int .i64 1, .int .i64 1, .int .i64 1, .int .i64 2, .int .i64 2, .int .i64 0, .int .i64 1, .int .i64 2, .int .i64 1, .int .i64 2, .int .i64 1] 30), (.cells #[.slice (some ⟨g, 0, none⟩) 3 3, .slice (some ⟨g + 1, 0, none⟩) 3 3, .slice (some ⟨g + 1 + 1, 0, none⟩) 2 2, .slice (some ⟨g + 1 + 1 + 1, 0, none⟩) 3 3, .slice (some ⟨g + 1 + 1 + 1 + 1, 0, none⟩) 4 4, .slice (some ⟨g + 1 + 1 + 1 + 1 + 1, 0, none⟩) 4 4] 25), (.cells #[.int .i64 2] 3), (.cells #[.int .i64 0] 3), (.cells #[.int .i64 0] 3), (.cells #[.int .i64 1, .int .i64 0] 3), (.cells #[.int .i64 1, .int .i64 3] 3), (.cells #[.int .i64 0, .int .i64 3] 3), (.cells #[.slice (some ⟨g + 1 + 1 + 1 + 1 + 1 + 1 + 1, 0, none⟩) 1 1, .slice (some ⟨g + 1 + 1 + 1 + 1 + 1 + 1 + 1 + 1, 0, none⟩) 1 1, .slice (some ⟨g + 1 + 1 + 1 + 1 + 1 + 1 + 1 + 1 + 1, 0, none⟩) 1 1, .slice (some ⟨g + 1 + 1 + 1 + 1 + 1 + 1 + 1 + 1 + 1 + 1, 0, none⟩) 2 2, .slice (some ⟨g + 1 + 1 + 1 + 1 + 1 + 1 + 1 + 1 + 1 + 1 + 1, 0, none⟩) 2 2, .slice (some ⟨g + 1 + 1 + 1 + 1 + 1 + 1 + 1 + 1 + 1 + 1 + 1 + 1, 0, none⟩) 2 2] 22)] w1
  have HB := allocsF_below [(.cells #[.int .i64 0, .int .i64 1, .int .i64 0, .int .i64 1, .int .i64 2, .int .i64 0, .int .i64 0, .int .i64 2, .int .i64 0] 30), (.cells #[.int .i64 0, .int .i64 2, .int .i64 2, .int .i64 0, .int .i64 1, .int .i64 1, .int .i64 1, .int .i64 2, .int .i64 1] 30), (.cells #[.int .i64 0, .int .i64 2, .int .i64 1, .int .i64 0, .int .i64 2, .int .i64 1] 30), (.cells #[.int .i64 1, .int .i64 2, .int .i64 0, .int .i64 0, .int .i64 1, .int .i64 0, .int .i64 0, .int .i64 1, .int .i64 0] 30), (.cells #[.int .i64 0, .int .i64 0, .int .i64 0, .int .i64 0, .int .i64 1, .int .i64 0, .int .i64 1, .int .i64 0, .int .i64 0, .int .i64 1, .int .i64 2, .int .i64 4] 30), (.cells #[.int .i64 0, .int .i64 1, .int .i64 1, .int .i64 1, .int .i64 2, .int .i64 2, .int .i64 0, .int .i64 1, .int .i64 2, .int .i64 1, .int .i64 2, .int .i64 1] 30), (.cells #[.slice (some ⟨g, 0, none⟩) 3 3, .slice (some ⟨g + 1, 0, none⟩) 3 3, .slice (some ⟨g + 1 + 1, 0, none⟩) 2 2, .slice (some ⟨g + 1 + 1 + 1, 0, none⟩) 3 3, .slice (some ⟨g + 1 + 1 + 1 + 1, 0, none⟩) 4 4, .slice (some ⟨g + 1 + 1 + 1 + 1 + 1, 0, none⟩) 4 4] 25), (.cells #[.int .i64 2] 3), (.cells #[.int .i64 0] 3), (.cells #[.int .i64 0] 3), (.cells #[.int .i64 1, .int .i64 0] 3), (.cells #[.int .i64 1, .int .i64 3] 3), (.cells #[.int .i64 0, .int .i64 3] 3), (.cells #[.slice (some ⟨g + 1 + 1 + 1 + 1 + 1 + 1 + 1, 0, none⟩) 1 1, .slice (some ⟨g + 1 + 1 + 1 + 1 + 1 + 1 + 1 + 1, 0, none⟩) 1 1, .slice (some ⟨g + 1 + 1 + 1 + 1 + 1 + 1 + 1 + 1 + 1, 0, none⟩) 1 1, .slice (some ⟨g + 1 + 1 + 1 + 1 + 1 + 1 + 1 + 1 + 1 + 1, 0, none⟩) 2 2, .slice (some ⟨g + 1 + 1 + 1 + 1 + 1 + 1 + 1 + 1 + 1 + 1 + 1, 0, none⟩) 2 2, .slice (some ⟨g + 1 + 1 + 1 + 1 + 1 + 1 + 1 + 1 + 1 + 1 + 1 + 1, 0, none⟩) 2 2] 22)] w1
  generalize hv : ((((((((((((((w1.alloc (.cells #[.int .i64 0, .int .i64 1, .int .i64 0, .int .i64 1, .int .i64 2, .int .i64 0, .int .i64 0, .int .i64 2, .int .i64 0] 30)).alloc (.cells #[.int .i64 0, .int .i64 2, .int .i64 2, .int .i64 0, .int .i64 1, .int .i64 1, .int .i64 1, .int .i64 2, .int .i64 1] 30)).alloc (.cells #[.int .i64 0, .int .i64 2, .int .i64 1, .int .i64 0, .int .i64 2, .int .i64 1] 30)).alloc (.cells #[.int .i64 1, .int .i64 2, .int .i64 0, .int .i64 0, .int .i64 1, .int .i64 0, .int .i64 0, .int .i64 1, .int .i64 0] 30)).alloc (.cells #[.int .i64 0, .int .i64 0, .int .i64 0, .int .i64 0, .int .i64 1, .int .i64 0, .int .i64 1, .int .i64 0, .int .i64 0, .int .i64 1, .int .i64 2, .int .i64 4] 30)).alloc (.cells #[.int .i64 0, .int .i64 1, .int .i64 1, .int .i64 1, .int .i64 2, .int .i64 2, .int .i64 0, .int .i64 1, .int .i64 2, .int .i64 1, .int .i64 2, .int .i64 1] 30)).alloc (.cells #[.slice (some ⟨g, 0, none⟩) 3 3, .slice (some ⟨g + 1, 0, none⟩) 3 3, .slice (some ⟨g + 1 + 1, 0, none⟩) 2 2, .slice (some ⟨g + 1 + 1 + 1, 0, none⟩) 3 3, .slice (some ⟨g + 1 + 1 + 1 + 1, 0, none⟩) 4 4, .slice (some ⟨g + 1 + 1 + 1 + 1 + 1, 0, none⟩) 4 4] 25)).alloc (.cells #[.int .i64 2] 3)).alloc (.cells #[.int .i64 0] 3)).alloc (.cells #[.int .i64 0] 3)).alloc (.cells #[.int .i64 1, .int .i64 0] 3)).alloc (.cells #[.int .i64 1, .int .i64 3] 3)).alloc (.cells #[.int .i64 0, .int .i64 3] 3)).alloc (.cells #[.slice (some ⟨g + 1 + 1 + 1 + 1 + 1 + 1 + 1, 0, none⟩) 1 1, .slice (some ⟨g + 1 + 1 + 1 + 1 + 1 + 1 + 1 + 1, 0, none⟩) 1 1, .slice (some ⟨g + 1 + 1 + 1 + 1 + 1 + 1 + 1 + 1 + 1, 0, none⟩) 1 1, .slice (some ⟨g + 1 + 1 + 1 + 1 + 1 + 1 + 1 + 1 + 1 + 1, 0, none⟩) 2 2, .slice (some ⟨g + 1 + 1 + 1 + 1 + 1 + 1 + 1 + 1 + 1 + 1 + 1, 0, none⟩) 2 2, .slice (some ⟨g + 1 + 1 + 1 + 1 + 1 + 1 + 1 + 1 + 1 + 1 + 1 + 1, 0, none⟩) 2 2] 22)) = v at *
  rw [show allocsF w1 [(.cells #[.int .i64 0, .int .i64 1, .int .i64 0, .int .i64 1, .int .i64 2, .int .i64 0, .int .i64 0, .int .i64 2, .int .i64 0] 30), (.cells #[.int .i64 0, .int .i64 2, .int .i64 2, .int .i64 0, .int .i64 1, .int .i64 1, .int .i64 1, .int .i64 2, .int .i64 1] 30), (.cells #[.int .i64 0, .int .i64 2, .int .i64 1, .int .i64 0, .int .i64 2, .int .i64 1] 30), (.cells #[.int .i64 1, .int .i64 2, .int .i64 0, .int .i64 0, .int .i64 1, .int .i64 0, .int .i64 0, .int .i64 1, .int .i64 0] 30), (.cells #[.int .i64 0, .int .i64 0, .int .i64 0, .int .i64 0, .int .i64 1, .int .i64 0, .int .i64 1, .int .i64 0, .int .i64 0, .int .i64 1, .int .i64 2, .int .i64 4] 30), (.cells #[.int .i64 0, .int .i64 1, .int .i64 1, .int .i64 1, .int .i64 2, .int .i64 2, .int .i64 0, .int .i64 1, .int .i64 2, .int .i64 1, .int .i64 2, .int .i64 1] 30), (.cells #[.slice (some ⟨g, 0, none⟩) 3 3, .slice (some ⟨g + 1, 0, none⟩) 3 3, .slice (some ⟨g + 1 + 1, 0, none⟩) 2 2, .slice (some ⟨g + 1 + 1 + 1, 0, none⟩) 3 3, .slice (some ⟨g + 1 + 1 + 1 + 1, 0, none⟩) 4 4, .slice (some ⟨g + 1 + 1 + 1 + 1 + 1, 0, none⟩) 4 4] 25), (.cells #[.int .i64 2] 3), (.cells #[.int .i64 0] 3), (.cells #[.int .i64 0] 3), (.cells #[.int .i64 1, .int .i64 0] 3), (.cells #[.int .i64 1, .int .i64 3] 3), (.cells #[.int .i64 0, .int .i64 3] 3), (.cells #[.slice (some ⟨g + 1 + 1 + 1 + 1 + 1 + 1 + 1, 0, none⟩) 1 1, .slice (some ⟨g + 1 + 1 + 1 + 1 + 1 + 1 + 1 + 1, 0, none⟩) 1 1, .slice (some ⟨g + 1 + 1 + 1 + 1 + 1 + 1 + 1 + 1 + 1, 0, none⟩) 1 1, .slice (some ⟨g + 1 + 1 + 1 + 1 + 1 + 1 + 1 + 1 + 1 + 1, 0, none⟩) 2 2, .slice (some ⟨g + 1 + 1 + 1 + 1 + 1 + 1 + 1 + 1 + 1 + 1 + 1, 0, none⟩) 2 2, .slice (some ⟨g + 1 + 1 + 1 + 1 + 1 + 1 + 1 + 1 + 1 + 1 + 1 + 1, 0, none⟩) 2 2] 22)] = v from hv, ← hg] at HA
  rw [show allocsF w1 [(.cells #[.int .i64 0, .int .i64 1, .int .i64 0, .int .i64 1, .int .i64 2, .int .i64 0, .int .i64 0, .int .i64 2, .int .i64 0] 30), (.cells #[.int .i64 0, .int .i64 2, .int .i64 2, .int .i64 0, .int .i64 1, .int .i64 1, .int .i64 1, .int .i64 2, .int .i64 1] 30), (.cells #[.int .i64 0, .int .i64 2, .int .i64 1, .int .i64 0, .int .i64 2, .int .i64 1] 30), (.cells #[.int .i64 1, .int .i64 2, .int .i64 0, .int .i64 0, .int .i64 1, .int .i64 0, .int .i64 0, .int .i64 1, .int .i64 0] 30), (.cells #[.int .i64 0, .int .i64 0, .int .i64 0, .int .i64 0, .int .i64 1, .int .i64 0, .int .i64 1, .int .i64 0, .int .i64 0, .int .i64 1, .int .i64 2, .int .i64 4] 30), (.cells #[.int .i64 0, .int .i64 1, .int .i64 1, .int .i64 1, .int .i64 2, .int .i64 2, .int .i64 0, .int .i64 1, .int .i64 2, .int .i64 1, .int .i64 2, .int .i64 1] 30), (.cells #[.slice (some ⟨g, 0, none⟩) 3 3, .slice (some ⟨g + 1, 0, none⟩) 3 3, .slice (some ⟨g + 1 + 1, 0, none⟩) 2 2, .slice (some ⟨g + 1 + 1 + 1, 0, none⟩) 3 3, .slice (some ⟨g + 1 + 1 + 1 + 1, 0, none⟩) 4 4, .slice (some ⟨g + 1 + 1 + 1 + 1 + 1, 0, none⟩) 4 4] 25), (.cells #[.int .i64 2] 3), (.cells #[.int .i64 0] 3), (.cells #[.int .i64 0] 3), (.cells #[.int .i64 1, .int .i64 0] 3), (.cells #[.int .i64 1, .int .i64 3] 3), (.cells #[.int .i64 0, .int .i64 3] 3), (.cells #[.slice (some ⟨g + 1 + 1 + 1 + 1 + 1 + 1 + 1, 0, none⟩) 1 1, .slice (some ⟨g + 1 + 1 + 1 + 1 + 1 + 1 + 1 + 1, 0, none⟩) 1 1, .slice (some ⟨g + 1 + 1 + 1 + 1 + 1 + 1 + 1 + 1 + 1, 0, none⟩) 1 1, .slice (some ⟨g + 1 + 1 + 1 + 1 + 1 + 1 + 1 + 1 + 1 + 1, 0, none⟩) 2 2, .slice (some ⟨g + 1 + 1 + 1 + 1 + 1 + 1 + 1 + 1 + 1 + 1 + 1, 0, none⟩) 2 2, .slice (some ⟨g + 1 + 1 + 1 + 1 + 1 + 1 + 1 + 1 + 1 + 1 + 1 + 1, 0, none⟩) 2 2] 22)] = v from hv] at HB
  clear hv
  have OL : ∀ j, j < 6 → v.cell? ⟨g + 1 + 1 + 1 + 1 + 1 + 1, j, none⟩ = some (.slice (some ⟨g + j, 0, none⟩) (fk j) (fk j)) := fun j hj => by
    have h : v.heap[g + 1 + 1 + 1 + 1 + 1 + 1]? = some (.cells #[.slice (some ⟨g, 0, none⟩) 3 3, .slice (some ⟨g + 1, 0, none⟩) 3 3, .slice (some ⟨g + 1 + 1, 0, none⟩) 2 2, .slice (some ⟨g + 1 + 1 + 1, 0, none⟩) 3 3, .slice (some ⟨g + 1 + 1 + 1 + 1, 0, none⟩) 4 4, .slice (some ⟨g + 1 + 1 + 1 + 1 + 1, 0, none⟩) 4 4] 25 (0, 0)) := HA 6 (by simp)
    rw [blk_cell h]
    rcases six hj with rfl | rfl | rfl | rfl | rfl | rfl <;> rfl
  have OW : ∀ j, j < 6 → v.cell? ⟨g + 1 + 1 + 1 + 1 + 1 + 1 + 1 + 1 + 1 + 1 + 1 + 1 + 1, j, none⟩ = some (.slice (some ⟨g + 7 + j, 0, none⟩) (fm j) (fm j)) := fun j hj => by
    have h : v.heap[g + 1 + 1 + 1 + 1 + 1 + 1 + 1 + 1 + 1 + 1 + 1 + 1 + 1]? = some (.cells #[.slice (some ⟨g + 1 + 1 + 1 + 1 + 1 + 1 + 1, 0, none⟩) 1 1, .slice (some ⟨g + 1 + 1 + 1 + 1 + 1 + 1 + 1 + 1, 0, none⟩) 1 1, .slice (some ⟨g + 1 + 1 + 1 + 1 + 1 + 1 + 1 + 1 + 1, 0, none⟩) 1 1, .slice (some ⟨g + 1 + 1 + 1 + 1 + 1 + 1 + 1 + 1 + 1 + 1, 0, none⟩) 2 2, .slice (some ⟨g + 1 + 1 + 1 + 1 + 1 + 1 + 1 + 1 + 1 + 1 + 1, 0, none⟩) 2 2, .slice (some ⟨g + 1 + 1 + 1 + 1 + 1 + 1 + 1 + 1 + 1 + 1 + 1 + 1, 0, none⟩) 2 2] 22 (0, 0)) := HA 13 (by simp)
    rw [blk_cell h]
    rcases six hj with rfl | rfl | rfl | rfl | rfl | rfl <;> rfl
  have H0 : v.heap[g]? = some (.cells #[.int .i64 0, .int .i64 1, .int .i64 0, .int .i64 1, .int .i64 2, .int .i64 0, .int .i64 0, .int .i64 2, .int .i64 0] 30 (0, 0)) := HA 0 (by simp)
  have H1 : v.heap[g + 1]? = some (.cells #[.int .i64 0, .int .i64 2, .int .i64 2, .int .i64 0, .int .i64 1, .int .i64 1, .int .i64 1, .int .i64 2, .int .i64 1] 30 (0, 0)) := HA 1 (by simp)
  have H2 : v.heap[g + 1 + 1]? = some (.cells #[.int .i64 0, .int .i64 2, .int .i64 1, .int .i64 0, .int .i64 2, .int .i64 1] 30 (0, 0)) := HA 2 (by simp)
  have H3 : v.heap[g + 1 + 1 + 1]? = some (.cells #[.int .i64 1, .int .i64 2, .int .i64 0, .int .i64 0, .int .i64 1, .int .i64 0, .int .i64 0, .int .i64 1, .int .i64 0] 30 (0, 0)) := HA 3 (by simp)
  have H4 : v.heap[g + 1 + 1 + 1 + 1]? = some (.cells #[.int .i64 0, .int .i64 0, .int .i64 0, .int .i64 0, .int .i64 1, .int .i64 0, .int .i64 1, .int .i64 0, .int .i64 0, .int .i64 1, .int .i64 2, .int .i64 4] 30 (0, 0)) := HA 4 (by simp)
  have H5 : v.heap[g + 1 + 1 + 1 + 1 + 1]? = some (.cells #[.int .i64 0, .int .i64 1, .int .i64 1, .int .i64 1, .int .i64 2, .int .i64 2, .int .i64 0, .int .i64 1, .int .i64 2, .int .i64 1, .int .i64 2, .int .i64 1] 30 (0, 0)) := HA 5 (by simp)
  have H7 : v.heap[g + 1 + 1 + 1 + 1 + 1 + 1 + 1]? = some (.cells #[.int .i64 2] 3 (0, 0)) := HA 7 (by simp)
  have H8 : v.heap[g + 1 + 1 + 1 + 1 + 1 + 1 + 1 + 1]? = some (.cells #[.int .i64 0] 3 (0, 0)) := HA 8 (by simp)
  have H9 : v.heap[g + 1 + 1 + 1 + 1 + 1 + 1 + 1 + 1 + 1]? = some (.cells #[.int .i64 0] 3 (0, 0)) := HA 9 (by simp)
  have H10 : v.heap[g + 1 + 1 + 1 + 1 + 1 + 1 + 1 + 1 + 1 + 1]? = some (.cells #[.int .i64 1, .int .i64 0] 3 (0, 0)) := HA 10 (by simp)
  have H11 : v.heap[g + 1 + 1 + 1 + 1 + 1 + 1 + 1 + 1 + 1 + 1 + 1]? = some (.cells #[.int .i64 1, .int .i64 3] 3 (0, 0)) := HA 11 (by simp)
  have H12 : v.heap[g + 1 + 1 + 1 + 1 + 1 + 1 + 1 + 1 + 1 + 1 + 1 + 1]? = some (.cells #[.int .i64 0, .int .i64 3] 3 (0, 0)) := HA 12 (by simp)
  have RL : ∀ j, j < 6 → RdA v (.slice (some ⟨g + j, 0, none⟩) (fk j) (fk j)) (fk j) (fS j) := fun j hj => by
    refine ⟨_, _, rfl, fun _ => ⟨_, rfl, ?_, fun i hi => ?_⟩⟩
    · rcases six hj with rfl | rfl | rfl | rfl | rfl | rfl
      · exact blk_lt H0
      · exact blk_lt H1
      · exact blk_lt H2
      · exact blk_lt H3
      · exact blk_lt H4
      · exact blk_lt H5
    · rcases six hj with rfl | rfl | rfl | rfl | rfl | rfl
      · refine ⟨(blk_cell H0 _).trans ?_, (blk_cell H0 _).trans ?_, (blk_cell H0 _).trans ?_⟩ <;> (have hi : i < 3 := hi; rcases four (show i < 4 by omega) with rfl | rfl | rfl | rfl <;> first | rfl | omega)
      · refine ⟨(blk_cell H1 _).trans ?_, (blk_cell H1 _).trans ?_, (blk_cell H1 _).trans ?_⟩ <;> (have hi : i < 3 := hi; rcases four (show i < 4 by omega) with rfl | rfl | rfl | rfl <;> first | rfl | omega)
      · refine ⟨(blk_cell H2 _).trans ?_, (blk_cell H2 _).trans ?_, (blk_cell H2 _).trans ?_⟩ <;> (have hi : i < 2 := hi; rcases four (show i < 4 by omega) with rfl | rfl | rfl | rfl <;> first | rfl | omega)
      · refine ⟨(blk_cell H3 _).trans ?_, (blk_cell H3 _).trans ?_, (blk_cell H3 _).trans ?_⟩ <;> (have hi : i < 3 := hi; rcases four (show i < 4 by omega) with rfl | rfl | rfl | rfl <;> first | rfl | omega)
      · refine ⟨(blk_cell H4 _).trans ?_, (blk_cell H4 _).trans ?_, (blk_cell H4 _).trans ?_⟩ <;> (have hi : i < 4 := hi; rcases four (show i < 4 by omega) with rfl | rfl | rfl | rfl <;> first | rfl | omega)
      · refine ⟨(blk_cell H5 _).trans ?_, (blk_cell H5 _).trans ?_, (blk_cell H5 _).trans ?_⟩ <;> (have hi : i < 4 := hi; rcases four (show i < 4 by omega) with rfl | rfl | rfl | rfl <;> first | rfl | omega)
  have RW : ∀ j, j < 6 → Rd v (.slice (some ⟨g + 7 + j, 0, none⟩) (fm j) (fm j)) (fm j) (fun i => ((fr j i : Nat) : Int)) := fun j hj => by
    refine ⟨_, _, rfl, fun _ => ⟨_, rfl, ?_, fun i hi => ?_⟩⟩
    · rcases six hj with rfl | rfl | rfl | rfl | rfl | rfl
      · exact blk_lt H7
      · exact blk_lt H8
      · exact blk_lt H9
      · exact blk_lt H10
      · exact blk_lt H11
      · exact blk_lt H12
    · rw [add_head]
      rcases six hj with rfl | rfl | rfl | rfl | rfl | rfl
      · refine (blk_cell H7 _).trans ?_
        have hi : i < 1 := hi
        rcases four (show i < 4 by omega) with rfl | rfl | rfl | rfl <;> first | rfl | omega
      · refine (blk_cell H8 _).trans ?_
        have hi : i < 1 := hi
        rcases four (show i < 4 by omega) with rfl | rfl | rfl | rfl <;> first | rfl | omega
      · refine (blk_cell H9 _).trans ?_
        have hi : i < 1 := hi
        rcases four (show i < 4 by omega) with rfl | rfl | rfl | rfl <;> first | rfl | omega
      · refine (blk_cell H10 _).trans ?_
        have hi : i < 2 := hi
        rcases four (show i < 4 by omega) with rfl | rfl | rfl | rfl <;> first | rfl | omega
      · refine (blk_cell H11 _).trans ?_
        have hi : i < 2 := hi
        rcases four (show i < 4 by omega) with rfl | rfl | rfl | rfl <;> first | rfl | omega
      · refine (blk_cell H12 _).trans ?_
        have hi : i < 2 := hi
        rcases four (show i < 4 by omega) with rfl | rfl | rfl | rfl <;> first | rfl | omega
  have lO : g + 1 + 1 + 1 + 1 + 1 + 1 < v.heap.size := blk_lt (HA 6 (by simp))
  have lW : g + 1 + 1 + 1 + 1 + 1 + 1 + 1 + 1 + 1 + 1 + 1 + 1 + 1 < v.heap.size := blk_lt (HA 13 (by simp))
  replace B1 := B1.trans (HB.mono B1.size)
  have HR := Lib.hid (And.intro OL (And.intro OW (And.intro RL RW)))
  clear HA HB OL OW RL RW H0 H1 H2 H3 H4 H5 H7 H8 H9 H10 H11 H12 hg
  go_wp2_with fail
  refine (within6_any v which 6 hwhich (by omega) (by omega)).mono ?_
  rintro e v2 ⟨rfl, rfl⟩
  obtain ⟨j, hj, hj6⟩ := within_nat (d := which) (m := 6) (by omega)
  rw [hj]
  clear hj hwhich
  have hj : j < 6 := by omega
  have c0 := HR.out.1 j hj
  have kk := f_k j hj
  go_wp2_with fail
  refine (way_any v 3 (fk j) 0 2 _ (fS j) (HR.out.2.2.1 j hj) (f_in hj) (f_low hj) (by omega) (by omega) (by omega) (by omega)).mono ?_
  rintro e v3 ⟨b3, H3⟩
  have key : ∃ V, e = .returned (.tuple #[V, .bool true]) ∧ OwV v3 v.heap.size V (fm j) (fun i => ((fr j i : Nat) : Int)) := by
    rcases H3 with ⟨hn, rfl⟩ | ⟨D, F, V, m, p, r, b, hf, rfl, T, hp, O⟩
    · obtain ⟨m, _, w⟩ := (f_best hj).way 0 (by omega) (f_here j hj).2.2.1
      exact absurd w (hn _ _)
    · obtain ⟨rfl, er⟩ := (f_trail hj).one T (f_here j hj).2.2.2.2 hp (f_in hj) (by omega) (f_best hj) b
      refine ⟨V, rfl, ?_⟩
      rcases O with ⟨h, h'⟩ | ⟨h0, b, c, rfl, OS, hb⟩
      · exact .inl ⟨h, h'⟩
      · exact .inr ⟨h0, b, c, rfl, OS.congr fun i hi => by rw [er i hi], hb⟩
  obtain ⟨V, rfl, O3⟩ := key
  clear H3
  have RV := O3.rd
  obtain ⟨VA, vcp, rfl, -⟩ := id RV
  have lt3 : g + 1 + 1 + 1 + 1 + 1 + 1 < v3.heap.size := Nat.lt_of_lt_of_le lO b3.size
  have d0 : v3.cell? ⟨g + 1 + 1 + 1 + 1 + 1 + 1, j, none⟩ = some (.slice (some ⟨g + j, 0, none⟩) (fk j) (fk j)) := (b3.cell (p := ⟨g + 1 + 1 + 1 + 1 + 1 + 1, j, none⟩) lO).trans c0
  have R3 := (HR.out.2.2.1 j hj).below b3 (Nat.le_refl _)
  have W3 := (HR.out.2.2.2 j hj).below b3 (Nat.le_refl _)
  have o3 := (b3.cell (p := ⟨g + 1 + 1 + 1 + 1 + 1 + 1 + 1 + 1 + 1 + 1 + 1 + 1 + 1, j, none⟩) lW).trans (HR.out.2.1 j hj)
  have lW3 : g + 1 + 1 + 1 + 1 + 1 + 1 + 1 + 1 + 1 + 1 + 1 + 1 + 1 < v3.heap.size := Nat.lt_of_lt_of_le lW b3.size
  have B3 := B1.trans (b3.mono B1.size)
  clear c0 b3 B1 O3 lO lW HR
  go_wp2_with fail
  refine (way_any v3 3 (fk j) 2 0 _ (fS j) R3 (f_in hj) (f_low hj) (by omega) (by omega) (by omega) (by omega)).mono ?_
  rintro e v4 ⟨b4, ⟨hn, rfl⟩ | ⟨D, F, V, m, p, r, b, hf, rfl, T, hp, O⟩⟩
  rotate_left
  · obtain ⟨m, _, w⟩ := b.way 2 (by omega) hf
    have w2 : Way (fS j) (fk j) 2 0 _ _ := w.back
    have := stuck (fun i hi => (f_in0 j hj i hi).2.2.2.2) w2
    omega
  have d4 : v4.cell? ⟨g + 1 + 1 + 1 + 1 + 1 + 1, j, none⟩ = some (.slice (some ⟨g + j, 0, none⟩) (fk j) (fk j)) := (b4.cell (p := ⟨g + 1 + 1 + 1 + 1 + 1 + 1, j, none⟩) lt3).trans d0
  have R4 := R3.below b4 (Nat.le_refl _)
  have W4 := W3.below b4 (Nat.le_refl _)
  have RV4 := RV.below b4 (Nat.le_refl _)
  have o4 := (b4.cell (p := ⟨g + 1 + 1 + 1 + 1 + 1 + 1 + 1 + 1 + 1 + 1 + 1 + 1 + 1, j, none⟩) lW3).trans o3
  have lW4 : g + 1 + 1 + 1 + 1 + 1 + 1 + 1 + 1 + 1 + 1 + 1 + 1 + 1 < v4.heap.size := Nat.lt_of_lt_of_le lW3 b4.size
  have B4 := B3.trans (b4.mono B3.size)
  clear d0 R3 W3 RV o3 lW3 lt3 B3 b4 hn
  go_wp2_with fail
  refine (way_any v4 3 (fk j) 1 1 _ (fS j) R4 (f_in hj) (f_low hj) (by omega) (by omega) (by omega) (by omega)).mono ?_
  rintro e v5 ⟨b5, ⟨hn, rfl⟩ | ⟨D, F, V, m, p, r, b, hf, rfl, T, hp, O⟩⟩
  · exact absurd .nil (hn 0 0)
  have hm : m = 0 := by
    rcases Nat.eq_zero_or_pos m with z | z
    · exact z
    · exact absurd T.here (T.on 0 z)
  subst hm
  rcases O with ⟨_, rfl⟩ | ⟨h0, _⟩
  rotate_left
  · omega
  have W5 := W4.below b5 (Nat.le_refl _)
  have RV5 := RV4.below b5 (Nat.le_refl _)
  have o5 := (b5.cell (p := ⟨g + 1 + 1 + 1 + 1 + 1 + 1 + 1 + 1 + 1 + 1 + 1 + 1 + 1, j, none⟩) lW4).trans o4
  have B5 := B4.trans (b5.mono B4.size)
  have hm3 : fm j ≤ 10 := by rcases six hj with rfl | rfl | rfl | rfl | rfl | rfl <;> decide
  clear d4 R4 W4 RV4 o4 lW4 B4 b5 b hf T hp
  go_wp2_with fail
  refine (ints6_any v5 _ _ (fm j) (fm j) _ _ (by omega) (by omega) RV5 W5).mono ?_
  rintro e v6 ⟨rfl, b6⟩
  rw [show sameB (fm j) (fm j) (fun i => ((fr j i : Nat) : Int)) (fun i => ((fr j i : Nat) : Int)) = true from sameB_true.mpr ⟨rfl, fun _ _ => rfl⟩]
  have B6 := B5.trans (b6.mono B5.size)
  clear W5 RV5 o5 B5 b6
  go_wp2_with fail
  go_ret
  exact ⟨rfl, B6⟩
end Go.Proofs.Ytchlccendggfpaa.Ro
