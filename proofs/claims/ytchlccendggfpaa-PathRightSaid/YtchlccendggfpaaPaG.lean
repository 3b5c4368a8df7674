/- Walks: which arcs may be gone along; the distances ahead of all arcs. -/
import Derived.Test.YtchlccendggfpaaPaW
import Derived.Test.YtchlccendggfpaaPaR
namespace Go.Proofs.Ytchlccendggfpaa.Ro
open Go.RowKit Go.Proofs
set_option linter.unusedVariables false
set_option linter.unusedSimpArgs false

theorem RdA.arc {w : World} {v : Value} {k i : Nat} {S : ArcsF} (h : RdA w v k S) (hi : i < k) : ∃ b cap, v = .slice (some ⟨b, 0, none⟩) k cap ∧ b < w.heap.size ∧ w.cell? ⟨b, i * 3, none⟩ = some (.int .i64 (S.fr i : Int)) ∧ w.cell? ⟨b, i * 3 + 1, none⟩ = some (.int .i64 (S.th i : Int)) ∧ w.cell? ⟨b, i * 3 + 2, none⟩ = some (.int .i64 (S.ln i)) := by
  obtain ⟨A, c, rfl, r⟩ := h
  obtain ⟨b, rfl, h2, h3⟩ := r (by omega)
  exact ⟨b, c, rfl, h2, h3 i hi⟩

theorem fine1_no (w : World) (p : Nat) (n a c : Nat) (l : Int) (hp : w.cell? ⟨p, 0, none⟩ = some (.int .i64 (n : Int))) (hl : p < w.heap.size) (ha : a < n) (hc : c < n) (h1 : -1099511627776 ≤ l) (h2 : l ≤ 1099511627776) :
    Calls Try.prog 42 #[.agg #[.int .i64 (a : Int), .int .i64 (c : Int), .int .i64 l], .pointer (some ⟨p, 0, none⟩)] w fun e w' => e = .returned (.bool false) ∧ Below w.heap.size w w' := by
  have q1 : decide (min (a : Int) (c : Int) < 0) = false := by simp; omega
  have q2 : decide (max (a : Int) (c : Int) ≥ (n : Int)) = false := by simp; omega
  have q3 : decide (l > 1099511627776) = false := by simp; omega
  have q4 : decide (l < -1099511627776) = false := by simp; omega
  have n1 := World.new_ne w ⟨p, 0, none⟩ hp
  have hm : min (a : Int) (c : Int) = ((min a c : Nat) : Int) := by omega
  have hx : max (a : Int) (c : Int) = ((max a c : Nat) : Int) := by omega
  have r1 : ¬ (((min a c : Nat) : Int) < 0) := by omega
  have r2 : ¬ (((max a c : Nat) : Int) ≥ (n : Int)) := by omega
  have hca := Lib.hid (And.intro ha hc)
  clear ha hc
  go_enter Try.func42, Try.ntmps42
  go_wp2
  all_goals
    have hh := hca.out
    go_ret
    exact ⟨by simp; omega, below_new w _⟩
theorem below0_no (w : World) (a c : Nat) (l : Int) (h1 : 0 ≤ l) :
    Calls Try.prog 39 #[.agg #[.int .i64 (a : Int), .int .i64 (c : Int), .int .i64 l]] w fun e w' => e = .returned (.bool false) ∧ Below w.heap.size w w' := by
  have q4 : decide (l < 0) = false := by simp; omega
  go_enter Try.func39, Try.ntmps39
  go_wp2
  go_ret
  exact ⟨rfl, below_new w _⟩

set_option maxHeartbeats 3200000 in
theorem index_fine (w : World) (V : Value) (k : Nat) (S : ArcsF) (hV : RdA w V k S) (hk : k ≤ 1000) (p n : Nat) (A : ArcsIn S k n 4294967296) (hp : w.cell? ⟨p, 0, none⟩ = some (.int .i64 (n : Int))) (hl : p < w.heap.size) :
    Calls Try.prog 49 #[V, .func (.func 42) #[] #[.pointer (some ⟨p, 0, none⟩)]] w fun e w' => e = .returned (.int .i64 (-1)) ∧ Below w.heap.size w w' := by
  obtain ⟨VA, vc, rfl, -⟩ := id hV
  go_enter Try.func49, Try.ntmps49
  go_wp2_with fail
  go_loopw [8] (fun u wr => ∃ i : Nat, u = .int .i64 (i : Int) ∧ i ≤ k ∧ Below w.heap.size w wr) (fun u _ => k - (intOf u).toNat)
  case atStart => exact ⟨0, rfl, Nat.zero_le _, Below.refl _ _⟩
  case round =>
    obtain ⟨i, rfl, hi, B⟩ := hrel
    by_cases hlt : i < k
    · have d1 : (i : Int) < (k : Int) := by omega
      obtain ⟨b, cap, e, hb, z1, z2, z3⟩ := hV.arc hlt
      injection e with e1 e2 e3
      subst e1
      have y1 := (B.cell (p := ⟨b, i * 3, none⟩) hb).trans z1
      have y2 := (B.cell (p := ⟨b, i * 3 + 1, none⟩) hb).trans z2
      have y3 := (B.cell (p := ⟨b, i * 3 + 2, none⟩) hb).trans z3
      clear z1 z2 z3 e2 e3
      go_wp2_with fail
      refine (fine1_no wr p n (S.fr i) (S.th i) (S.ln i) ((B.cell (p := ⟨p, 0, none⟩) hl).trans hp) (Nat.lt_of_lt_of_le hl B.size) (A.fr i hlt) (A.th i hlt) (by have := A.lo i hlt; omega) (by have := A.hi i hlt; omega)).mono ?_
      rintro e w2 ⟨rfl, b2⟩
      have B2 := B.trans (b2.mono B.size)
      clear b2 B y1 y2 y3
      go_wp2_with fail
      go_roundw
      case rel => exact ⟨i + 1, by simp, by omega, B2⟩
      case measure => simp [intOf]; omega
    · have d1 : ¬ ((i : Int) < (k : Int)) := by omega
      go_wp2_with fail
      go_ret
      exact ⟨rfl, B⟩
theorem contains_fine (w : World) (V : Value) (k : Nat) (S : ArcsF) (hV : RdA w V k S) (hk : k ≤ 1000) (p n : Nat) (A : ArcsIn S k n 4294967296) (hp : w.cell? ⟨p, 0, none⟩ = some (.int .i64 (n : Int))) (hl : p < w.heap.size) :
    Calls Try.prog 38 #[V, .func (.func 42) #[] #[.pointer (some ⟨p, 0, none⟩)]] w fun e w' => e = .returned (.bool false) ∧ Below w.heap.size w w' := by
  go_enter Try.func38, Try.ntmps38
  go_wp2_with fail
  refine (index_fine _ V k S hV hk p n A hp hl).mono ?_
  rintro e w2 ⟨rfl, b2⟩
  go_wp2_with fail
  go_ret
  exact ⟨rfl, b2⟩

set_option maxHeartbeats 3200000 in
theorem index_below0 (w : World) (V : Value) (k : Nat) (S : ArcsF) (hV : RdA w V k S) (hk : k ≤ 1000) (h0 : ∀ i, i < k → 0 ≤ S.ln i) :
    Calls Try.prog 49 #[V, .func (.func 39) #[] #[]] w fun e w' => e = .returned (.int .i64 (-1)) ∧ Below w.heap.size w w' := by
  obtain ⟨VA, vc, rfl, -⟩ := id hV
  go_enter Try.func49, Try.ntmps49
  go_wp2_with fail
  go_loopw [8] (fun u wr => ∃ i : Nat, u = .int .i64 (i : Int) ∧ i ≤ k ∧ Below w.heap.size w wr) (fun u _ => k - (intOf u).toNat)
  case atStart => exact ⟨0, rfl, Nat.zero_le _, Below.refl _ _⟩
  case round =>
    obtain ⟨i, rfl, hi, B⟩ := hrel
    by_cases hlt : i < k
    · have d1 : (i : Int) < (k : Int) := by omega
      obtain ⟨b, cap, e, hb, z1, z2, z3⟩ := hV.arc hlt
      injection e with e1 e2 e3
      subst e1
      have y1 := (B.cell (p := ⟨b, i * 3, none⟩) hb).trans z1
      have y2 := (B.cell (p := ⟨b, i * 3 + 1, none⟩) hb).trans z2
      have y3 := (B.cell (p := ⟨b, i * 3 + 2, none⟩) hb).trans z3
      clear z1 z2 z3 e2 e3
      go_wp2_with fail
      refine (below0_no wr (S.fr i) (S.th i) (S.ln i) (h0 i hlt)).mono ?_
      rintro e w2 ⟨rfl, b2⟩
      have B2 := B.trans (b2.mono B.size)
      clear b2 B y1 y2 y3
      go_wp2_with fail
      go_roundw
      case rel => exact ⟨i + 1, by simp, by omega, B2⟩
      case measure => simp [intOf]; omega
    · have d1 : ¬ ((i : Int) < (k : Int)) := by omega
      go_wp2_with fail
      go_ret
      exact ⟨rfl, B⟩
theorem contains_below0 (w : World) (V : Value) (k : Nat) (S : ArcsF) (hV : RdA w V k S) (hk : k ≤ 1000) (h0 : ∀ i, i < k → 0 ≤ S.ln i) :
    Calls Try.prog 38 #[V, .func (.func 39) #[] #[]] w fun e w' => e = .returned (.bool false) ∧ Below w.heap.size w w' := by
  go_enter Try.func38, Try.ntmps38
  go_wp2_with fail
  refine (index_below0 _ V k S hV hk h0).mono ?_
  rintro e w2 ⟨rfl, b2⟩
  go_wp2_with fail
  go_ret
  exact ⟨rfl, b2⟩

theorem fine_yes (w : World) (n k s : Nat) (V : Value) (S : ArcsF) (hV : RdA w V k S) (hk : k ≤ 1000) (A : ArcsIn S k n 4294967296) (hs : s < n) (hn : n ≤ 300) :
    Calls Try.prog 26 #[.int .i64 (n : Int), V, .int .i64 (s : Int)] w fun e w' => e = .returned (.bool true) ∧ Below w.heap.size w w' := by
  have hmf : ∀ (fn : Fn) (first cap : Array Value) (w : World), (Instr.makeFunc fn first cap).run Try.prog w = .ok (.func fn first cap) w := fun _ _ _ _ => rfl
  have q1 : decide ((n : Int) ≥ 1) = true := by simp; omega
  have q2 : decide ((n : Int) ≤ 300) = true := by simp; omega
  have q3 : decide ((s : Int) ≥ 0) = true := by simp
  have q4 : decide ((s : Int) < (n : Int)) = true := by simp; omega
  have HS := Lib.hid hs
  clear hs
  go_enter Try.func26, Try.ntmps26
  go_wp2_with fail
  have c0 : (w.alloc (.cells #[.int .i64 (n : Int)] 3)).cell? ⟨w.heap.size, 0, none⟩ = some (.int .i64 (n : Int)) := by rw [blk_cell (heap_alloc_new w _)]; rfl
  refine (contains_fine _ V k S (hV.below (below_new w _) (Nat.le_refl _)) hk w.heap.size n A c0 (by simp)).mono ?_
  rintro e w2 ⟨rfl, b2⟩
  have B2 := (below_new w (.cells #[.int .i64 (n : Int)] 3)).trans (b2.mono (below_new w _).size)
  go_wp2_with fail
  go_ret
  exact ⟨rfl, B2⟩
theorem begin_any (w : World) (n s : Nat) (hs : s < n) (hn : n ≤ 300) :
    Calls Try.prog 27 #[.int .i64 (n : Int), .int .i64 (s : Int)] w fun e w' => ∃ b c, e = .returned (.slice (some ⟨b, 0, none⟩) n c) ∧ Ow w' (.slice (some ⟨b, 0, none⟩) n c) n (upd (fun _ => far) s 0) ∧ w.heap.size ≤ b ∧ Below w.heap.size w w' := by
  go_enter Try.func27, Try.ntmps27
  go_wp2_with fail
  have cn : (w.alloc (.cells #[.int .i64 1152921504606846976] 3)).cell? ⟨w.heap.size, 0, none⟩ = some (.int .i64 1152921504606846976) := by rw [blk_cell (heap_alloc_new w _)]; rfl
  refine (repeat_anyU _ 1152921504606846976 w.heap.size n (by omega) cn (by simp)).mono ?_
  rintro e w4 ⟨cap, rfl, O4, b4⟩
  have b1 := below_new w (.cells #[.int .i64 1152921504606846976] 3)
  have B4 := b1.trans (b4.mono b1.size)
  have hsz : (w.alloc (.cells #[.int .i64 1152921504606846976] 3)).heap.size = w.heap.size + 1 := by simp
  rw [hsz] at O4
  have co := O4.cell hs
  have zf := O4.frozen s
  have s1 : (s : Int) < (n : Int) := by omega
  have O5 := O4.set hs 0
  have B5 := B4.setCell (p := ⟨w.heap.size + 1, s, none⟩) (by show w.heap.size ≤ w.heap.size + 1; omega) (.int .i64 0)
  clear cn b4 b1 hsz O4 B4
  go_wp2_with fail
  go_ret
  exact ⟨_, cap, rfl, O5, by omega, B5⟩
end Go.Proofs.Ytchlccendggfpaa.Ro
