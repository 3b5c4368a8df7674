/- Walks: rows that are the same are told to be so. -/
import Derived.Test.YtcejjcopchkmeaaRoX
namespace Go.Proofs.Ytcejjcopchkmeaa.Ro
open Go.RowKit Go.Proofs Go.Maps
set_option linter.unusedVariables false
set_option maxRecDepth 100000
set_option linter.unusedSimpArgs false

theorem ints_same (w : World) (U V : Value) (n : Nat) (x y : Nat → Int) (hn : n ≤ 1000) (hU : Rd w U n x) (hV : Rd w V n y) (he : ∀ j, j < n → x j = y j) :
    Calls Try.prog 25 #[U, V] w fun e w' => e = .returned (.bool true) ∧ Below w.heap.size w w' := by
  obtain ⟨A1, cap1, rfl, r1⟩ := hU
  obtain ⟨A2, cap2, rfl, r2⟩ := hV
  have f0 : ((n : Int) != (n : Int)) = false := by simp
  go_enter Try.func25, Try.ntmps25
  go_wp2_with fail
  go_loopw [5] (fun u wr => ∃ j : Nat, u = .int .i64 (j : Int) ∧ j ≤ n ∧ Below w.heap.size w wr) (fun u _ => n - (intOf u).toNat)
  case atStart => exact ⟨0, rfl, Nat.zero_le _, Below.refl _ _⟩
  case round =>
    obtain ⟨j, rfl, hj, B⟩ := hrel
    by_cases hlt : j < n
    · have d1 : (j : Int) < (n : Int) := by omega
      obtain ⟨y1, rfl, hy1, hc1⟩ := r1 (by omega)
      obtain ⟨y2, rfl, hy2, hc2⟩ := r2 (by omega)
      have c1 : wr.cell? (y1.add j) = some (.int .i64 (x j)) := (B.cell (by rw [block_add]; exact hy1)).trans (hc1 j hlt)
      have c2 : wr.cell? (y2.add j) = some (.int .i64 (x j)) := by rw [he j hlt]; exact (B.cell (by rw [block_add]; exact hy2)).trans (hc2 j hlt)
      have f1 : (x j != x j) = false := by simp
      clear hc1 hc2 r1 r2 he
      go_upto_region 6 with fail
      go_big_quiet (fail)
      go_wp2_with fail
      go_roundw
      case rel => exact ⟨j + 1, by simp, by omega, ⟨B.os, B.tape, B.output, B.size, B.block⟩⟩
      case measure => simp [intOf]; omega
    · have d1 : ¬ ((j : Int) < (n : Int)) := by omega
      clear r1 r2
      go_wp2
      go_ret
      exact ⟨rfl, B⟩
end Go.Proofs.Ytcejjcopchkmeaa.Ro
