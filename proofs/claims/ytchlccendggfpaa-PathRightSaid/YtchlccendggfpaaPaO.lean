/- Walks: relax of the program's chapter 6. -/
import Derived.Test.YtchlccendggfpaaPaS
import Derived.Outline
import Derived.WalkMore
import Derived.StillTailTactics
namespace Go.Proofs.Ytchlccendggfpaa.Ro
open Go.RowKit Go.Proofs
set_option linter.unusedVariables false
set_option linter.unusedSimpArgs false

/-- what relax does: makes a distance less by one arc, if it may -/
def RelaxPost (w : World) (D cD n a c : Nat) (l : Int) (d : Nat → Int) (e : Ending) (w' : World) : Prop :=
  Hp.Turn (fun x => x = D) w w' ∧ ((d a ≠ far ∧ d a + l < d c ∧ e = .returned (.bool true) ∧ Ow w' (.slice (some ⟨D, 0, none⟩) n cD) n (upd d c (d a + l))) ∨
    ((d a = far ∨ d c ≤ d a + l) ∧ e = .returned (.bool false) ∧ Ow w' (.slice (some ⟨D, 0, none⟩) n cD) n d))

set_option maxRecDepth 100000 in
set_option maxHeartbeats 6400000 in
theorem relax_any (w : World) (D cD n a c : Nat) (l : Int) (d : Nat → Int) (O : Ow w (.slice (some ⟨D, 0, none⟩) n cD) n d) (ha : a < n) (hc : c < n) (hn : n ≤ 100) (hd : d a = far ∨ (-1152921504606846976 ≤ d a + l ∧ d a + l ≤ 1152921504606846976)) :
    Calls Try.prog 34 #[.slice (some ⟨D, 0, none⟩) n cD, .agg #[.int .i64 (a : Int), .int .i64 (c : Int), .int .i64 l]] w (RelaxPost w D cD n a c l d) := by
  have lD := O.lt (k := D) rfl
  have O1 := O.below (below_new w (.cells #[.int .i64 (a : Int), .int .i64 (c : Int), .int .i64 l] 30)) (Nat.le_refl _)
  have T1 := (Hp.Turn.refl (fun x => x = D) w).alloc (.cells #[.int .i64 (a : Int), .int .i64 (c : Int), .int .i64 l] 30)
  have Y1 : (w.alloc (.cells #[.int .i64 (a : Int), .int .i64 (c : Int), .int .i64 l] 30)).heap[w.heap.size]? = some (.cells #[.int .i64 (a : Int), .int .i64 (c : Int), .int .i64 l] 30 (0, 0)) := heap_alloc_new _ _
  go_enter Try.func34, Try.ntmps34
  go_upto_region 1 with fail
  generalize w.alloc (.cells #[.int .i64 (a : Int), .int .i64 (c : Int), .int .i64 l] 30) = w1 at *
  generalize hy : w.heap.size = y at *
  have nDy : D ≠ y := by omega
  clear hy lD
  have a0 : w1.cell? ⟨y, 0, none⟩ = some (.int .i64 (a : Int)) := blk_cell Y1 0
  have a1 : w1.cell? ⟨y, 1, none⟩ = some (.int .i64 (c : Int)) := blk_cell Y1 1
  have a2 : w1.cell? ⟨y, 2, none⟩ = some (.int .i64 l) := blk_cell Y1 2
  have za := O1.cell ha
  have zc := O1.cell hc
  have f9 := O1.frozen c
  have i1 : (a : Int) < (n : Int) := by omega
  have i2 : (c : Int) < (n : Int) := by omega
  by_cases hf : d a = far
  · have q1 : (d a == 1152921504606846976) = true := by rw [hf]; rfl
    have HF := Lib.hid hf
    clear hf hd f9 zc
    go_big_quiet (fail)
    go_wp2_with fail
    go_ret
    exact ⟨T1.drewN _, .inr ⟨.inl HF.out, rfl, O1.keep fun _ _ => rfl⟩⟩
  · have hd := hd.resolve_left hf
    have q1 : (d a == 1152921504606846976) = false := by
      simp; exact hf
    have HF := Lib.hid hf
    have wq : wrap64 (d a + l) = d a + l := by unfold wrap64; omega
    clear hf
    by_cases hl : d a + l < d c
    · have q3 : ¬ (d a + l ≥ d c) := by omega
      have q2 : decide (d c ≤ d a + l) = false := by simp; omega
      have HL := Lib.hid hl
      clear hl
      go_big_quiet (fail)
      go_wp2_with fail
      have O2 := O1.below (⟨rfl, rfl, rfl, Nat.le_refl _, fun _ _ => rfl⟩ : Below w1.heap.size w1 (w1.drewN nq)) (Nat.le_refl _)
      have T2 := T1.drewN nq
      have Y2 : (w1.drewN nq).heap[y]? = some (.cells #[.int .i64 (a : Int), .int .i64 (c : Int), .int .i64 l] 30 (0, 0)) := Y1
      clear a0 a1 a2 za zc f9 O1 T1 Y1
      generalize w1.drewN nq = w2 at *
      have a0 : w2.cell? ⟨y, 0, none⟩ = some (.int .i64 (a : Int)) := blk_cell Y2 0
      have a1 : w2.cell? ⟨y, 1, none⟩ = some (.int .i64 (c : Int)) := blk_cell Y2 1
      have a2 : w2.cell? ⟨y, 2, none⟩ = some (.int .i64 l) := blk_cell Y2 2
      have za := O2.cell ha
      have zc := O2.cell hc
      have f9 := O2.frozen c
      refine still_tail 12 (by kernel_rfl) (by kernel_rfl) ?_
      simp only [List.take_succ_cons, List.take_zero, List.drop_succ_cons, List.drop_zero]
      repeat still_step
      with_reducible refine wpStill_nil ?_
      go_wp2_with fail
      go_ret
      exact ⟨(T2.setCell (p := ⟨D, c, none⟩) (.inl rfl) _).drew, .inl ⟨HF.out, HL.out, rfl, (O2.set hc _).keep fun _ _ => rfl⟩⟩
    · have q3 : d a + l ≥ d c := by omega
      have q2 : decide (d c ≤ d a + l) = true := by simp; omega
      have q4 : ¬ (wrap64 (d a + l) < d c) := by rw [wq]; omega
      have HL := Lib.hid hl
      clear hl
      go_big_quiet (fail)
      go_wp2_with fail
      go_ret
      exact ⟨T1.drewN _, .inr ⟨.inr (by have := HL.out; omega), rfl, O1.keep fun _ _ => rfl⟩⟩
end Go.Proofs.Ytchlccendggfpaa.Ro
