/- Walks: turns of a net whose vertices have one round each. -/
import Derived.Test.YtcejjcopchkmeaaRoU
import Derived.Test.YtcejjcopchkmeaaRoT
namespace Go.Proofs.Ytcejjcopchkmeaa.Ro
open Go.RowKit Go.Proofs Go.Maps
set_option linter.unusedVariables false
set_option maxRecDepth 100000
set_option linter.unusedSimpArgs false

set_option maxHeartbeats 6400000 in
theorem turns_ok (w : World) (N : Nat) (T X C : Value) (m : Nat) (t x c : Nat → Int) (hT : Rd w T m t) (hX : Rd w X m x) (hC : Rd w C m c) (g : Good N m t x) (tn : Turns m t x) :
    Calls Try.prog 41 #[.agg #[.int .i64 (N : Int), T, X, C]] w fun e w' => e = .returned (.bool true) ∧ Below w.heap.size w w' := by
  have hmf : ∀ (fn : Fn) (first cap : Array Value) (w : World), (Instr.makeFunc fn first cap).run Try.prog w = .ok (.func fn first cap) w := fun _ _ _ _ => rfl
  have hv : ∀ d, d < m → t d = (tlOf t d : Int) ∧ tlOf t d < N := fun d hd => by
    have := g.tail d hd
    unfold tlOf; omega
  have hxv : ∀ d, d < m → x d = (ab x d : Int) := fun d hd => by
    have := g.next d hd
    unfold ab; omega
  have hN := g.most
  have hm := g.few
  have hT' := hT
  obtain ⟨A1, cap1, rfl, r1⟩ := hT
  obtain ⟨A2, cap2, rfl, r2⟩ := id hX
  go_enter Try.func41, Try.ntmps41
  go_wp2_with fail
  have B2 : Below w.heap.size w (w.alloc (.cells #[.int .i64 (N : Int), .slice A1 m cap1, .slice A2 m cap2, C] 25)) := (Below.refl _ w).alloc (Nat.le_refl _) _
  have X2 : Box (w.alloc (.cells #[.int .i64 (N : Int), .slice A1 m cap1, .slice A2 m cap2, C] 25)) w.heap.size N (.slice A1 m cap1) (.slice A2 m cap2) C := heap_alloc_new _ _
  generalize (w.alloc (.cells #[.int .i64 (N : Int), .slice A1 m cap1, .slice A2 m cap2, C] 25)) = w2 at *
  refine (orbits_turns _ _ N _ _ C m x X2 (hX.below B2 (Nat.le_refl _)) (by omega) g.even (ab x) hxv tn.perm).mono ?_
  rintro e w3 ⟨ov, o, k, rfl, O3, n3, R3, b3⟩
  have B3 := B2.trans (b3.mono B2.size)
  have X3 := X2.below b3 (Nat.le_refl _)
  have n3' : ∀ j, ov.ownBlock = some j → w.heap.size ≤ j := fun j hj => Nat.le_trans B2.size (n3 j hj)
  clear B2 X2 b3 n3
  have pl := blk_lt X3
  have c0 : w3.cell? ⟨w.heap.size, 0, none⟩ = some (.int .i64 (N : Int)) := blk_cell X3 0
  go_wp2_with fail
  have cn : (w3.alloc (.cells #[.int .i64 (-1)] 3)).cell? ⟨w3.heap.size, 0, none⟩ = some (.int .i64 (-1)) := by rw [blk_cell (heap_alloc_new w3 _)]; rfl
  refine (repeat_any _ w3.heap.size N (by omega) cn (by simp)).mono ?_
  rintro e w4 ⟨cap, rfl, M4, b4⟩
  have bb : Below w3.heap.size w3 w4 := ((Below.refl _ w3).alloc (Nat.le_refl _) _).trans (b4.mono (by simp))
  have B4 := B3.trans (bb.mono B3.size)
  have X4 := X3.below bb (Nat.le_refl _)
  have O4 := O3.below bb (Nat.le_refl _)
  have hob : ∀ j, ov.ownBlock = some j → j < w3.heap.size + 1 := fun j hj => by have := O3.lt hj; omega
  have hsz : (w3.alloc (.cells #[.int .i64 (-1)] 3)).heap.size = w3.heap.size + 1 := by simp
  rw [hsz] at M4
  have hbB : w.heap.size < w3.heap.size + 1 := by omega
  have c1 : w4.cell? ⟨w.heap.size, 1, none⟩ = some (.slice A1 m cap1) := blk_cell X4 1
  clear b4 cn bb B3 X3 c0 pl hsz O3
  go_wp2_with fail
  clear c1
  generalize w3.heap.size + 1 = b at *
  obtain ⟨p, hp⟩ : ∃ p, p = w.heap.size := ⟨_, rfl⟩
  rw [← hp] at X4 hbB ⊢
  have hbw : w.heap.size ≤ b := by omega
  have hbp : b ≠ p := by omega
  clear hp
  go_loopw [27] (fun u wr => ∃ (j : Nat) (mi : Nat → Int), u = .int .i64 (j : Int) ∧ j ≤ m ∧ (∀ v, v < N → 0 ≤ mi v → ∃ d, d < j ∧ tlOf t d = v ∧ mi v = o d) ∧ Ow wr (.slice (some ⟨b, 0, none⟩) N cap) N mi ∧ Ow wr ov m o ∧ Box wr p N (.slice A1 m cap1) (.slice A2 m cap2) C ∧ Below w.heap.size w wr) (fun u _ => m - (intOf u).toNat)
  case atStart => exact ⟨0, _, rfl, Nat.zero_le _, fun v _ h => by simp at h, M4, O4, X4, B4⟩
  case round =>
    clear M4 O4 X4 B4
    obtain ⟨j, mi, rfl, hj, hmi, M, O, Xb, B⟩ := hrel
    by_cases hlt : j < m
    · have d1 : (j : Int) < (m : Int) := by omega
      obtain ⟨y1, rfl, hy1, hc1⟩ := r1 (by omega)
      obtain ⟨y2, rfl, hy2, hc2⟩ := r2 (by omega)
      obtain ⟨b2, cap3, rfl, hb2⟩ := O.form (by omega)
      have hne : b2 ≠ b := by have := hob b2 rfl; omega
      have ha := tn.perm.lt j hlt
      have hk := tn.keep j hlt
      have t1 := (hv j hlt).2
      have cr : wr.cell? (y1.add j) = some (.int .i64 (tlOf t j : Int)) := by rw [← (hv j hlt).1]; exact (B.cell (by rw [block_add]; exact hy1)).trans (hc1 j hlt)
      have cr2 : wr.cell? (y1.add (ab x j)) = some (.int .i64 (tlOf t j : Int)) := by rw [← hk, ← (hv _ ha).1]; exact (B.cell (by rw [block_add]; exact hy1)).trans (hc1 _ ha)
      have cr3 : wr.cell? (y2.add j) = some (.int .i64 (ab x j : Int)) := by rw [← hxv j hlt]; exact (B.cell (by rw [block_add]; exact hy2)).trans (hc2 j hlt)
      have p1 : wr.cell? ⟨p, 1, none⟩ = some (.slice (some y1) m cap1) := blk_cell Xb 1
      have p2 : wr.cell? ⟨p, 2, none⟩ = some (.slice (some y2) m cap2) := blk_cell Xb 2
      have q1 := M.cell t1
      have q2 := O.cell hlt
      have q3 := M.frozen (tlOf t j)
      have s1 : (tlOf t j : Int) < (N : Int) := by omega
      have s2 : (ab x j : Int) < (m : Int) := by omega
      have f1 : ((tlOf t j : Int) != (tlOf t j : Int)) = false := by simp
      have M7 : Ow (wr.setCell ⟨b, tlOf t j, none⟩ (.int .i64 (o j))) (.slice (some ⟨b, 0, none⟩) N cap) N (upd mi (tlOf t j) (o j)) := M.set t1 (o j)
      have O7 : Ow (wr.setCell ⟨b, tlOf t j, none⟩ (.int .i64 (o j))) (.slice (some ⟨b2, 0, none⟩) m cap3) m o := O.keep fun k hk => Below.heap_setCell _ _ _ _ (by simp [Value.ownBlock] at hk; subst hk; exact hne)
      have B7 := B.setCell (p := ⟨b, tlOf t j, none⟩) hbw (.int .i64 (o j))
      have X7 : Box (wr.setCell ⟨b, tlOf t j, none⟩ (.int .i64 (o j))) p N (.slice (some y1) m cap1) (.slice (some y2) m cap2) C := (Below.heap_setCell _ _ _ _ (Ne.symm hbp)).trans Xb
      have mi7 : Hid (∀ v, v < N → 0 ≤ upd mi (tlOf t j) (o j) v → ∃ d, d < j + 1 ∧ tlOf t d = v ∧ upd mi (tlOf t j) (o j) v = o d) := Lib.hid fun v hv hp => by
        by_cases e : v = tlOf t j
        · subst e; exact ⟨j, by omega, rfl, upd_same _ _ _⟩
        · rw [upd_ne e] at hp ⊢
          obtain ⟨d, h1, h2, h3⟩ := hmi v hv hp
          exact ⟨d, by omega, h2, h3⟩
      have hcase : (decide (mi (tlOf t j) ≥ 0) = true ∧ (mi (tlOf t j) != o j) = false) ∨ decide (mi (tlOf t j) ≥ 0) = false := by
        by_cases h : 0 ≤ mi (tlOf t j)
        · left
          refine ⟨by simp [h], ?_⟩
          obtain ⟨d, h1, h2, h3⟩ := hmi _ t1 h
          obtain ⟨k, hk⟩ := tn.one d j (by omega) hlt h2
          have := R3.it tn.perm (x := d) (by omega) k
          rw [hk] at this
          simp [h3, this]
        · right; simp; omega
      clear hc1 hc2 M O hmi hk hy1 hy2 hb2 r1 r2
      go_upto_region 8 with fail
      rcases hcase with ⟨e1, e2⟩ | e1
      all_goals
        go_big_quiet (fail)
        go_wp2_with fail
        go_roundw
        case rel => exact ⟨j + 1, _, by simp, by omega, mi7.out, M7, O7, X7, ⟨B7.os, B7.tape, B7.output, B7.size, B7.block⟩⟩
        case measure => simp [intOf]; omega
    · have d1 : ¬ ((j : Int) < (m : Int)) := by omega
      go_wp2
      go_ret
      exact ⟨rfl, B⟩
end Go.Proofs.Ytcejjcopchkmeaa.Ro
