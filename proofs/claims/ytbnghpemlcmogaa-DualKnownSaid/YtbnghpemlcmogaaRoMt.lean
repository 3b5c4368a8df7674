/- Walks: first and meets, of the reference's chapter 3. -/
import Derived.Test.YtbnghpemlcmogaaRoWi
namespace Go.Proofs.Ytbnghpemlcmogaa.Ro
open Go.RowKit Go.Proofs Go.Maps
set_option linter.unusedVariables false
set_option linter.unusedSimpArgs false

set_option maxHeartbeats 3200000 in
theorem refFirst_any (w : World) (N : Int) (T X C L : Value) (m k : Nat) (t l : Nat → Int) (v : Int) (hT : Rd w T m t) (hL : Rd w L k l) (hk : k ≤ 1000) (hm : m ≤ 1000) (hd : ∀ j, j < k → 0 ≤ l j ∧ l j < m) :
    Calls Try.prog 39 #[.agg #[.int .i64 N, T, X, C], L, .int .i64 v] w fun e w' => ∃ r, e = .returned (.int .i64 r) ∧ First (fun i => t (l i).toNat) k v r ∧ Below w.heap.size w w' := by
  obtain ⟨TA, tp, rfl, rt⟩ := hT
  obtain ⟨LA, lp, rfl, rl⟩ := hL
  have HB := Lib.hid hd
  clear hd
  have RT := Lib.hid rt
  have RL := Lib.hid rl
  clear rt rl
  go_enter Try.func39, Try.ntmps39
  go_wp2_with fail
  have B2 : Below w.heap.size w (w.alloc (.cells #[.int .i64 N, .slice TA m tp, X, C] 25)) := (Below.refl _ w).alloc (Nat.le_refl _) _
  have X2 : (w.alloc (.cells #[.int .i64 N, .slice TA m tp, X, C] 25)).heap[w.heap.size]? = some (.cells #[.int .i64 N, .slice TA m tp, X, C] 25 (0, 0)) := heap_alloc_new _ _
  generalize (w.alloc (.cells #[.int .i64 N, .slice TA m tp, X, C] 25)) = w2 at *
  obtain ⟨p, hp⟩ : ∃ p, p = w.heap.size := ⟨_, rfl⟩
  rw [← hp] at X2 ⊢
  clear hp
  go_loopw [7] (fun u wr => ∃ i : Nat, u = .int .i64 (i : Int) ∧ i ≤ k ∧ (∀ j, j < i → t (l j).toNat ≠ v) ∧ wr.heap[p]? = some (.cells #[.int .i64 N, .slice TA m tp, X, C] 25 (0, 0)) ∧ Below w.heap.size w wr) (fun u _ => k - (intOf u).toNat)
  case atStart => exact ⟨0, rfl, Nat.zero_le _, fun j h => by omega, X2, B2⟩
  case round =>
    clear X2 B2
    obtain ⟨i, rfl, hi, hno, Xb, B⟩ := hrel
    have HN := Lib.hid hno
    clear hno
    have c1 : wr.cell? ⟨p, 1, none⟩ = some (.slice TA m tp) := blk_cell Xb 1
    by_cases hlt : i < k
    · have d1 : (i : Int) < (k : Int) := by omega
      have hb := HB.out _ hlt
      obtain ⟨u, hu⟩ : ∃ u : Nat, l i = (u : Int) := ⟨(l i).toNat, by omega⟩
      have hum : u < m := by omega
      obtain ⟨yl, rfl, hyl, hcl⟩ := RL.out (by omega)
      obtain ⟨yt, rfl, hyt, hct⟩ := RT.out (by omega)
      have cd := (B.cell (p := yl.add i) (by rw [block_add]; exact hyl)).trans (hcl _ hlt)
      rw [hu] at cd
      have ct := (B.cell (p := yt.add u) (by rw [block_add]; exact hyt)).trans (hct u hum)
      have HU : Hid (l i = (u : Int)) := Lib.hid hu
      clear hb hu hcl hct
      have l2 : (u : Int) < (m : Int) := by omega
      by_cases hq : t u = v
      · have q1 : (t u == v) = true := by simpa using hq
        have HQ := Lib.hid hq
        clear hq
        go_upto_region 5 with fail
        go_big_quiet (fail)
        have E := B.trans ((below_draws wr nq).mono B.size)
        clear B
        go_wp2_with fail
        go_ret
        exact ⟨_, rfl, .inr ⟨i, rfl, hlt, by show t (l i).toNat = v; rw [HU.out]; exact HQ.out, HN.out⟩, E⟩
      · have q1 : (t u == v) = false := by simpa using hq
        have H2 : Hid (∀ j, j < i + 1 → t (l j).toNat ≠ v) := Lib.hid fun j hj => by
          rcases Nat.lt_or_ge j i with q | q
          · exact HN.out j q
          · rw [show j = i by omega, HU.out]; exact hq
        clear hq
        go_upto_region 5 with fail
        go_big_quiet (fail)
        have E := B.trans ((below_draws wr nq).mono B.size)
        have X5 : (wr.drewN nq).heap[p]? = some (.cells #[.int .i64 N, .slice (some yt) m tp, X, C] 25 (0, 0)) := Xb
        clear B c1 cd ct l2
        generalize wr.drewN nq = w5 at *
        go_wp2_with fail
        go_roundw
        case rel => exact ⟨i + 1, by simp, by omega, H2.out, X5, E⟩
        case measure => simp [intOf]; omega
    · have d1 : ¬ ((i : Int) < (k : Int)) := by omega
      obtain rfl : k = i := by omega
      go_wp2_with fail
      go_ret
      exact ⟨_, rfl, .inl ⟨rfl, HN.out⟩, B⟩

set_option maxHeartbeats 3200000 in
theorem meets_any (w : World) (N : Int) (T X C O : Value) (m : Nat) (t o : Nat → Int) (f v : Int) (hT : Rd w T m t) (hO : Rd w O m o) (hm : m ≤ 1000) :
    Calls Try.prog 35 #[.agg #[.int .i64 N, T, X, C], O, .int .i64 f, .int .i64 v] w fun e w' => ∃ b : Bool, e = .returned (.bool b) ∧ (b = true ↔ ∃ d, d < m ∧ o d = f ∧ t d = v) ∧ Below w.heap.size w w' := by
  obtain ⟨TA, tp, rfl, rt⟩ := hT
  obtain ⟨OA, op, rfl, ro⟩ := hO
  have RT := Lib.hid rt
  have RO := Lib.hid ro
  clear rt ro
  go_enter Try.func35, Try.ntmps35
  go_wp2_with fail
  have B2 : Below w.heap.size w (w.alloc (.cells #[.int .i64 N, .slice TA m tp, X, C] 25)) := (Below.refl _ w).alloc (Nat.le_refl _) _
  have X2 : (w.alloc (.cells #[.int .i64 N, .slice TA m tp, X, C] 25)).heap[w.heap.size]? = some (.cells #[.int .i64 N, .slice TA m tp, X, C] 25 (0, 0)) := heap_alloc_new _ _
  generalize (w.alloc (.cells #[.int .i64 N, .slice TA m tp, X, C] 25)) = w2 at *
  obtain ⟨p, hp⟩ : ∃ p, p = w.heap.size := ⟨_, rfl⟩
  rw [← hp] at X2 ⊢
  clear hp
  go_loop [9] (fun u => ∃ i : Nat, u = .int .i64 (i : Int) ∧ i ≤ m ∧ ∀ j, j < i → ¬ (o j = f ∧ t j = v)) (fun u => m - (intOf u).toNat)
  case atStart => exact ⟨0, rfl, Nat.zero_le _, fun j h => by omega⟩
  case round =>
    obtain ⟨i, rfl, hi, hno⟩ := hrel
    have HN := Lib.hid hno
    clear hno
    have c1 : w2.cell? ⟨p, 1, none⟩ = some (.slice TA m tp) := blk_cell X2 1
    by_cases hlt : i < m
    · have d1 : (i : Int) < (m : Int) := by omega
      obtain ⟨yo, rfl, hyo, hco⟩ := RO.out (by omega)
      obtain ⟨yt, rfl, hyt, hct⟩ := RT.out (by omega)
      have cd := (B2.cell (p := yo.add i) (by rw [block_add]; exact hyo)).trans (hco _ hlt)
      have ct := (B2.cell (p := yt.add i) (by rw [block_add]; exact hyt)).trans (hct i hlt)
      clear hco hct
      by_cases hq : o i = f ∧ t i = v
      · have q1 : (o i == f) = true := by simpa using hq.1
        have q2 : (t i == v) = true := by simpa using hq.2
        have HQ := Lib.hid hq
        clear hq
        go_wp2_with fail
        go_ret
        exact .inr ⟨rfl, ⟨i, hlt, HQ.out⟩, B2⟩
      · have H2 : Hid (∀ j, j < i + 1 → ¬ (o j = f ∧ t j = v)) := Lib.hid fun j hj => by
          rcases Nat.lt_or_ge j i with q | q
          · exact HN.out j q
          · rw [show j = i by omega]; exact hq
        by_cases h1 : o i = f
        · have q1 : (o i == f) = true := by simpa using h1
          have q2 : (t i == v) = false := by simpa using fun h => hq ⟨h1, h⟩
          clear hq h1
          go_wp2_with fail
          go_round
          case rel => exact ⟨i + 1, by simp, by omega, H2.out⟩
          case measure => simp [intOf]; omega
        · have q1 : (o i == f) = false := by simpa using h1
          clear hq h1
          go_wp2_with fail
          go_round
          case rel => exact ⟨i + 1, by simp, by omega, H2.out⟩
          case measure => simp [intOf]; omega
    · have d1 : ¬ ((i : Int) < (m : Int)) := by omega
      obtain rfl : m = i := by omega
      go_wp2_with fail
      go_ret
      exact .inl ⟨rfl, fun d hd h1 h2 => HN.out d hd ⟨h1, h2⟩, B2⟩
end Go.Proofs.Ytbnghpemlcmogaa.Ro
