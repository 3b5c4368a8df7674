/- Walks: the reference's dual. -/
import Derived.Test.YtbnghpemlcmogaaRoDm
namespace Go.Proofs.Ytbnghpemlcmogaa.Ro
open Go.RowKit Go.Proofs Go.Maps
set_option linter.unusedVariables false
set_option linter.unusedSimpArgs false

set_option maxHeartbeats 6400000 in
theorem refMake_ok (w : World) (N : Nat) (T X C : Value) (m : Nat) (t x c : Nat → Int) (hT : Rd w T m t) (hX : Rd w X m x) (hC : Rd w C m c) (g : Good N m t x) (pf : Perm (bh x) m) :
    Calls Try.prog 17 #[.agg #[.int .i64 (N : Int), T, X, C]] w
      fun e w' => ∃ T' X' C' o k, e = .returned (.agg #[.int .i64 ((max k 1 : Nat) : Int), T', X', C']) ∧ Rows w' w.heap.size T' X' C' m o (dualX x) c ∧ Orb (bh x) m o k ∧ Below w.heap.size w w' := by
  have hm2 := g.few
  obtain ⟨TA, tp, rfl, -⟩ := id hT
  obtain ⟨XA, xp, rfl, rx⟩ := id hX
  obtain ⟨CA, cp, rfl, -⟩ := id hC
  obtain ⟨ii, hi, hz, hs, hby⟩ := info_parts (P := Try.prog) (e := 3) (z := .int .i64 0) (size := 1) (bytes := 8) (by kernel_rfl)
  go_enter Try.func17, Try.ntmps17
  go_upto_region 1 with fail
  have B0 : Below w.heap.size w (w.alloc (.cells #[.int .i64 (N : Int), .slice TA m tp, .slice XA m xp, .slice CA m cp] 25)) := (Below.refl _ w).alloc (Nat.le_refl _) _
  have X0 : Box (w.alloc (.cells #[.int .i64 (N : Int), .slice TA m tp, .slice XA m xp, .slice CA m cp] 25)) w.heap.size N (.slice TA m tp) (.slice XA m xp) (.slice CA m cp) := heap_alloc_new _ _
  have s0 : (w.alloc (.cells #[.int .i64 (N : Int), .slice TA m tp, .slice XA m xp, .slice CA m cp] 25)).heap.size = w.heap.size + 1 := by simp
  generalize (w.alloc (.cells #[.int .i64 (N : Int), .slice TA m tp, .slice XA m xp, .slice CA m cp] 25)) = w0 at *
  have b1 : Below w0.heap.size w0 (w0.alloc (.cells #[.int .i64 0, .slice none 0 0, .slice none 0 0, .slice none 0 0] 25)) := (Below.refl _ w0).alloc (Nat.le_refl _) _
  have Q1 : Box (w0.alloc (.cells #[.int .i64 0, .slice none 0 0, .slice none 0 0, .slice none 0 0] 25)) w0.heap.size 0 (.slice none 0 0) (.slice none 0 0) (.slice none 0 0) := heap_alloc_new _ _
  have X1 := X0.below b1 (Nat.le_refl _)
  have B1 := B0.trans (b1.mono B0.size)
  rw [s0] at Q1
  clear b1 X0 B0 s0
  generalize (w0.alloc (.cells #[.int .i64 0, .slice none 0 0, .slice none 0 0, .slice none 0 0] 25)) = w1 at *
  clear w0
  obtain ⟨p, hp⟩ : ∃ p, p = w.heap.size := ⟨_, rfl⟩
  rw [← hp] at X1 Q1 ⊢
  have hpw : w.heap.size ≤ p := by omega
  have hwp : p ≤ w.heap.size := by omega
  clear hp
  have pl := blk_lt X1
  have c0 : w1.cell? ⟨p, 0, none⟩ = some (.int .i64 (N : Int)) := blk_cell X1 0
  have c1 : w1.cell? ⟨p, 1, none⟩ = some (.slice TA m tp) := blk_cell X1 1
  have c2 : w1.cell? ⟨p, 2, none⟩ = some (.slice XA m xp) := blk_cell X1 2
  have c3 : w1.cell? ⟨p, 3, none⟩ = some (.slice CA m cp) := blk_cell X1 3
  go_wp2_with fail
  refine (refFaces_ok _ N _ _ _ m t x (hT.below B1 (Nat.le_refl _)) (hX.below B1 (Nat.le_refl _)) (by omega) g.even (fun d hd => (g.next d hd).1) pf).mono ?_
  rintro e w2 ⟨fb, o, k, rfl, F2, nF, O, -, b2⟩
  have X2 := X1.below b2 (Nat.le_refl _)
  have Q2 := Q1.below b2 (Nat.le_refl _)
  have B2 := B1.trans (b2.mono B1.size)
  have nF' : p + 2 ≤ fb := by have := blk_lt Q1; omega
  have lF : fb < w2.heap.size := F2.lt rfl
  obtain ⟨F, hF⟩ : ∃ F : Nat, F = max k 1 := ⟨_, rfl⟩
  rw [← hF]
  have HF := Lib.hid hF
  clear hF b2 X1 Q1 B1 c0 c1 c2 c3 pl nF
  have c2 : w2.cell? ⟨p, 2, none⟩ = some (.slice XA m xp) := blk_cell X2 2
  go_upto_region 3 with (at_make; refine wpList_make_full _ rfl _ _ _ rfl 0 3 ii (.int .i64 0) 1 Try.underlying22 hi hz hs .i64 .i64 (m : Int) (m : Int) m rfl rfl rfl rfl (by rw [hby]; omega) (by unfold maxLen; omega) (Nat.zero_le _) ?_; intro w3 hm3 hg3)
  rw [show (Value.int IntKind.i64 0).cells = #[.int .i64 0] from rfl, Nat.mul_one, toList_madeCells_one] at hm3
  have O3 := Ow.made hm3
  have b3 : Below w2.heap.size w2 w3 := ⟨hg3.os, hg3.tape, hg3.output, hg3.size, fun k hk => hg3.block k hk (by simp)⟩
  have xl2 := blk_lt X2
  have ql2 := blk_lt Q2
  obtain ⟨z, hz'⟩ : ∃ z, z = w2.heap.size := ⟨_, rfl⟩
  rw [← hz'] at O3 lF xl2 ql2 b3 ⊢
  have hzw : z ≤ w2.heap.size := by omega
  have hwz : w2.heap.size ≤ z := by omega
  clear hz' hm3 hg3 c2
  go_wp2_with fail
  go_loopw [6] (fun u wr => ∃ i : Nat, u = .int .i64 (i : Int) ∧ i ≤ m ∧ Ow wr (.slice (some ⟨z, 0, none⟩) m m) m (fun j => if j < i then dualX x j else 0) ∧ Below z w2 wr) (fun u _ => m - (intOf u).toNat)
  case atStart => exact ⟨0, rfl, Nat.zero_le _, O3.congr fun j _ => by simp, b3⟩
  case round =>
    clear O3 b3 w3
    obtain ⟨i, rfl, hi', OX, E⟩ := hrel
    by_cases him : i < m
    · have i1 : (i : Int) < (m : Int) := by omega
      obtain ⟨y, rfl, hy, hc⟩ := rx (by omega)
      have ho := oth_lt him g.even
      have cx : wr.cell? (y.add (oth i)) = some (.int .i64 (dualX x i)) := by
        have h1 := B2.size
        exact (E.cell (by rw [block_add]; omega)).trans ((B2.cell (by rw [block_add]; exact hy)).trans (hc _ ho))
      have c2 : wr.cell? ⟨p, 2, none⟩ = some (.slice (some y) m xp) := blk_cell ((E.block p xl2).trans X2) 2
      have i2 : (oth i : Int) < (m : Int) := by omega
      have xo := xor_one i (by omega)
      have co := OX.cell him
      have zf := OX.frozen i
      have O5 := (OX.set him (dualX x i)).congr (x' := fun j => if j < i + 1 then dualX x j else 0) (fun j hj => by
        by_cases e : j = i
        · subst e; rw [upd_same, if_pos (by omega)]
        · rw [upd_ne e]
          by_cases q : j < i
          · rw [if_pos q, if_pos (by omega)]
          · rw [if_neg q, if_neg (by omega)])
      have E5 := E.setCell (p := ⟨z, i, none⟩) (Nat.le_refl _) (.int .i64 (dualX x i))
      clear OX E hc rx
      go_wp2_with fail
      go_roundw
      case rel => exact ⟨i + 1, by simp, by omega, O5, E5⟩
      case measure => simp [intOf]; omega
    · have i1 : ¬ ((i : Int) < (m : Int)) := by omega
      obtain rfl : m = i := by omega
      have OY := OX.congr (x' := dualX x) fun j hj => if_pos hj
      have Q3 : Box wr (p + 1) 0 (.slice none 0 0) (.slice none 0 0) (.slice none 0 0) := (E.block _ ql2).trans Q2
      have c3 : wr.cell? ⟨p, 3, none⟩ = some (.slice CA m cp) := blk_cell ((E.block p xl2).trans X2) 3
      have B3 := B2.trans (E.mono (by have := B2.size; omega))
      have hC3 := hC.below B3 (Nat.le_refl _)
      have F3 := F2.below E hwz
      clear OX rx
      have bE : Below wr.heap.size wr (wr.alloc (.cells #[] 3)) := (Below.refl _ _).alloc (Nat.le_refl _) _
      have OE : Ow (wr.alloc (.cells #[] 3)) (.slice (some ⟨wr.heap.size, 0, none⟩) 0 0) 0 (fun _ => 0) := Ow.empty wr _
      have sE : (wr.alloc (.cells #[] 3)).heap.size = wr.heap.size + 1 := by simp
      have HE := Lib.hid sE
      have ql3 := blk_lt Q3
      have lY : z < wr.heap.size := OY.lt rfl
      have plr : p < wr.heap.size := by omega
      clear sE
      -- what stands behind the copy of the holds
      have fin : ∀ (w5 : World) (A5 : Option Addr) (c5 : Nat), Ow w5 (.slice A5 m c5) m c → (∀ b, (Value.slice A5 m c5).ownBlock = some b → wr.heap.size ≤ b) → Below wr.heap.size wr w5 →
          Rows (put4 w5 (p + 1) F (.slice (some ⟨fb, 0, none⟩) m m) (.slice (some ⟨z, 0, none⟩) m m) (.slice A5 m c5)) w.heap.size (.slice (some ⟨fb, 0, none⟩) m m) (.slice (some ⟨z, 0, none⟩) m m) (.slice A5 m c5) m o (dualX x) c ∧
          Below w.heap.size w (put4 w5 (p + 1) F (.slice (some ⟨fb, 0, none⟩) m m) (.slice (some ⟨z, 0, none⟩) m m) (.slice A5 m c5)) ∧ Box w5 (p + 1) 0 (.slice none 0 0) (.slice none 0 0) (.slice none 0 0) := fun w5 A5 c5 O5 n5 B5 => by
        have own : ∀ b k, (Value.slice (some ⟨b, 0, none⟩) m m).ownBlock = some k → k = b := fun b k h => by
          have e : some b = some k := h
          injection e with e; exact e.symm
        have RR : Rows w5 (p + 2) (.slice (some ⟨fb, 0, none⟩) m m) (.slice (some ⟨z, 0, none⟩) m m) (.slice A5 m c5) m o (dualX x) c :=
          ⟨F3.below B5 (Nat.le_refl _), OY.below B5 (Nat.le_refl _), O5, fun b hb => by have := own _ _ hb; omega, fun b hb => by have := own _ _ hb; omega, fun b hb => by have := n5 b hb; omega,
            fun b hb hb' => by have := own _ _ hb; have := own _ _ hb'; omega, fun b hb hb' => by have := own _ _ hb; have := n5 _ hb'; omega, fun b hb hb' => by have := own _ _ hb; have := n5 _ hb'; omega⟩
        exact ⟨(RR.keep fun b hb => put4_ne (by have := (RR.lt hb).1; omega)).base (by omega), put4_below (B3.trans (B5.mono B3.size)) (by omega) _ _ _ _, Q3.below B5 (Nat.le_refl _)⟩
      have FIN := Lib.hid fin
      clear fin
      cases CA with
      | none =>
        have hm0 : m = 0 := by
          obtain ⟨A, cap, e, r⟩ := hC3
          injection e with e1 e2 e3
          rcases Nat.eq_zero_or_pos m with q | q
          · exact q
          · obtain ⟨y', e4, _⟩ := r (by omega)
            rw [← e1] at e4; cases e4
        subst hm0
        have P4 : ∀ k, k ≠ p + 1 → (put4 wr (p + 1) F (.slice (some ⟨fb, 0, none⟩) 0 0) (.slice (some ⟨z, 0, none⟩) 0 0) (.slice (some ⟨wr.heap.size, 0, none⟩) 0 0)).heap[k]? = wr.heap[k]? := fun k hk => put4_ne hk
        have sz4 := put4_size wr (p + 1) F (.slice (some ⟨fb, 0, none⟩) 0 0) (.slice (some ⟨z, 0, none⟩) 0 0) (.slice (some ⟨wr.heap.size, 0, none⟩) 0 0)
        have B4 := put4_below B3 (p := p + 1) (by omega) F (.slice (some ⟨fb, 0, none⟩) 0 0) (.slice (some ⟨z, 0, none⟩) 0 0) (.slice (some ⟨wr.heap.size, 0, none⟩) 0 0)
        have Z4 := put4_box Q3 F (.slice (some ⟨fb, 0, none⟩) 0 0) (.slice (some ⟨z, 0, none⟩) 0 0) (.slice (some ⟨wr.heap.size, 0, none⟩) 0 0)
        generalize hw4 : put4 wr (p + 1) F (.slice (some ⟨fb, 0, none⟩) 0 0) (.slice (some ⟨z, 0, none⟩) 0 0) (.slice (some ⟨wr.heap.size, 0, none⟩) 0 0) = w4 at *
        have OE4 : Ow (w4.alloc (.cells #[] 3)) (.slice (some ⟨wr.heap.size, 0, none⟩) 0 0) 0 c := by
          have := Ow.empty w4 c
          rw [sz4] at this
          exact this
        have b4 : Below w4.heap.size w4 (w4.alloc (.cells #[] 3)) := (Below.refl _ _).alloc (Nat.le_refl _) _
        have own : ∀ b k, (Value.slice (some ⟨b, 0, none⟩) 0 0).ownBlock = some k → k = b := fun b k h => by
          have e : some b = some k := h
          injection e with e; exact e.symm
        have R7 : Rows (w4.alloc (.cells #[] 3)) w.heap.size (.slice (some ⟨fb, 0, none⟩) 0 0) (.slice (some ⟨z, 0, none⟩) 0 0) (.slice (some ⟨wr.heap.size, 0, none⟩) 0 0) 0 o (dualX x) c :=
          ⟨(F3.keep fun k hk => P4 k (by have := own _ _ hk; omega)).below b4 (Nat.le_refl _), (OY.keep fun k hk => P4 k (by have := own _ _ hk; omega)).below b4 (Nat.le_refl _), OE4,
            fun b hb => by have := own _ _ hb; omega, fun b hb => by have := own _ _ hb; omega, fun b hb => by have := own _ _ hb; omega,
            fun b hb hb' => by have := own _ _ hb; have := own _ _ hb'; omega, fun b hb hb' => by have := own _ _ hb; have := own _ _ hb'; omega, fun b hb hb' => by have := own _ _ hb; have := own _ _ hb'; omega⟩
        have B7 := B4.trans (b4.mono B4.size)
        have Z7 := Z4.below b4 (Nat.le_refl _)
        have g0 := blk_cell Z7 0
        have g1 := blk_cell Z7 1
        have g2 := blk_cell Z7 2
        have g3 := blk_cell Z7 3
        unfold put4 at hw4
        have HW4 := Lib.hid hw4
        have r0 := blk_cell Q3 0
        have r1 := blk_cell Q3 1
        have r2 := blk_cell Q3 2
        have r3 := blk_cell Q3 3
        have f0 := blk_frozen Q3 0
        have f1 := blk_frozen Q3 1
        have f2 := blk_frozen Q3 2
        have f3 := blk_frozen Q3 3
        clear hC3 F3 OY hw4 P4 Z4 Z7 B4 b4 OE4 sz4
        go_wp2_with fail
        rw [HW4.out]
        exact bodyPost_ret (v := .agg #[.int .i64 (F : Int), .slice (some ⟨fb, 0, none⟩) 0 0, .slice (some ⟨z, 0, none⟩) 0 0, .slice (some ⟨wr.heap.size, 0, none⟩) 0 0]) (by simp [results, Try.results17, go_sem, g0, g1, g2, g3]) rfl ⟨_, _, _, o, k, by rw [HF.out], R7, O, B7⟩
      | some ya =>
        have hya : ∀ n, n < m → (wr.alloc (.cells #[] 3)).cell? (ya.add n) = some (.int .i64 (c n)) := fun n hn => by
          obtain ⟨A, cap, e, r⟩ := hC3
          injection e with e1 e2 e3
          obtain ⟨y', e4, h1, h2⟩ := r (by omega)
          rw [← e1] at e4
          injection e4 with e4
          subst e4
          exact (bE.cell (by rw [block_add]; exact h1)).trans (h2 n hn)
        have HY := Lib.hid hya
        clear hya hC3 F3 OY
        go_wp2_with (at_builtin; refine wpList_clo (o := ⟨some 37, _, _, _, _, _⟩) rfl _ _ rfl (.slice (some ⟨wr.heap.size, 0, none⟩) 0 0) (fun _ => 0) rfl OE ya m cp c rfl HY.out (by omega) ?_; intro v5 w5 O5 g5 l5; obtain ⟨A5, c5, rfl, -⟩ := id O5.rd; have B5 : Below wr.heap.size wr w5 := Below.grown bE g5 (by rw [HE.out]; omega) (fun k hk => by simp [Value.ownBlock] at hk; omega); have n5 : ∀ b, (Value.slice A5 m c5).ownBlock = some b → wr.heap.size ≤ b := (fun b hb => by have := HE.out; rw [hb] at l5; simp [Value.ownBlock] at l5; omega); have R7 := FIN.out w5 A5 c5 O5 n5 B5; have Q5 := R7.2.2; have r0 := blk_cell Q5 0; have r1 := blk_cell Q5 1; have r2 := blk_cell Q5 2; have r3 := blk_cell Q5 3; have f0 := blk_frozen Q5 0; have f1 := blk_frozen Q5 1; have f2 := blk_frozen Q5 2; have f3 := blk_frozen Q5 3; clear O5 g5 l5 n5)
        have g0 : (w5.setCell ⟨p + 1, 0, none⟩ (.int .i64 (F : Int))).cell? ⟨p + 1, 0, none⟩ = some (.int .i64 (F : Int)) := blk_cell (blk_set (i := 0) Q5 _) 0
        have g1 : ((w5.setCell ⟨p + 1, 0, none⟩ (.int .i64 (F : Int))).setCell ⟨p + 1, 1, none⟩ (.slice (some ⟨fb, 0, none⟩) m m)).cell? ⟨p + 1, 1, none⟩ = some (.slice (some ⟨fb, 0, none⟩) m m) := blk_cell (blk_set (i := 1) (blk_set (i := 0) Q5 _) _) 1
        have g2 : (((w5.setCell ⟨p + 1, 0, none⟩ (.int .i64 (F : Int))).setCell ⟨p + 1, 1, none⟩ (.slice (some ⟨fb, 0, none⟩) m m)).setCell ⟨p + 1, 2, none⟩ (.slice (some ⟨z, 0, none⟩) m m)).cell? ⟨p + 1, 2, none⟩ = some (.slice (some ⟨z, 0, none⟩) m m) := blk_cell (blk_set (i := 2) (blk_set (i := 1) (blk_set (i := 0) Q5 _) _) _) 2
        have g3 : ((((w5.setCell ⟨p + 1, 0, none⟩ (.int .i64 (F : Int))).setCell ⟨p + 1, 1, none⟩ (.slice (some ⟨fb, 0, none⟩) m m)).setCell ⟨p + 1, 2, none⟩ (.slice (some ⟨z, 0, none⟩) m m)).setCell ⟨p + 1, 3, none⟩ (.slice A5 m c5)).cell? ⟨p + 1, 3, none⟩ = some (.slice A5 m c5) := blk_cell (blk_set (i := 3) (blk_set (i := 2) (blk_set (i := 1) (blk_set (i := 0) Q5 _) _) _) _) 3
        exact bodyPost_ret (v := .agg #[.int .i64 (F : Int), .slice (some ⟨fb, 0, none⟩) m m, .slice (some ⟨z, 0, none⟩) m m, .slice A5 m c5]) (by simp [results, Try.results17, go_sem, g0, g1, g2, g3]) rfl ⟨_, _, _, o, k, by rw [HF.out], R7.1, O, R7.2.1⟩
end Go.Proofs.Ytbnghpemlcmogaa.Ro
