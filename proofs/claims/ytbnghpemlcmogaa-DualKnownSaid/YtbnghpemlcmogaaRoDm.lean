/- Walks: dual.Make. -/
import Derived.Test.YtbnghpemlcmogaaRoD
import Derived.Test.YtbnghpemlcmogaaRoDu
import Derived.Test.YtbnghpemlcmogaaRoCl
namespace Go.Proofs.Ytbnghpemlcmogaa.Ro
open Go.RowKit Go.Proofs Go.Maps
set_option linter.unusedVariables false
set_option linter.unusedSimpArgs false

set_option maxHeartbeats 6400000 in
theorem make_ok (w : World) (N : Nat) (T X C : Value) (m : Nat) (t x c : Nat → Int) (hT : Rd w T m t) (hX : Rd w X m x) (hC : Rd w C m c) (g : Good N m t x) (pf : Perm (bh x) m) :
    Calls Try.prog 15 #[.agg #[.int .i64 (N : Int), T, X, C]] w
      fun e w' => ∃ T' X' C' o k, e = .returned (.agg #[.int .i64 ((max k 1 : Nat) : Int), T', X', C']) ∧ Rows w' w.heap.size T' X' C' m o (dualX x) c ∧ Orb (bh x) m o k ∧ Below w.heap.size w w' := by
  have hm2 := g.few
  obtain ⟨TA, tp, rfl, -⟩ := id hT
  obtain ⟨XA, xp, rfl, rx⟩ := id hX
  obtain ⟨CA, cp, rfl, -⟩ := id hC
  go_enter Try.func15, Try.ntmps15
  go_upto_region 1 with fail
  have B0 : Below w.heap.size w (w.alloc (.cells #[.int .i64 (N : Int), .slice TA m tp, .slice XA m xp, .slice CA m cp] 25)) := (Below.refl _ w).alloc (Nat.le_refl _) _
  have X0 : Box (w.alloc (.cells #[.int .i64 (N : Int), .slice TA m tp, .slice XA m xp, .slice CA m cp] 25)) w.heap.size N (.slice TA m tp) (.slice XA m xp) (.slice CA m cp) := heap_alloc_new _ _
  have s0 : (w.alloc (.cells #[.int .i64 (N : Int), .slice TA m tp, .slice XA m xp, .slice CA m cp] 25)).heap.size = w.heap.size + 1 := by simp
  generalize (w.alloc (.cells #[.int .i64 (N : Int), .slice TA m tp, .slice XA m xp, .slice CA m cp] 25)) = w0 at *
  have b1 : Below w0.heap.size w0 (w0.alloc (.cells #[.int .i64 0, .slice none 0 0, .slice none 0 0, .slice none 0 0] 25)) := (Below.refl _ w0).alloc (Nat.le_refl _) _
  have Q1 : Box (w0.alloc (.cells #[.int .i64 0, .slice none 0 0, .slice none 0 0, .slice none 0 0] 25)) w0.heap.size 0 (.slice none 0 0) (.slice none 0 0) (.slice none 0 0) := heap_alloc_new _ _
  have X1 := X0.below b1 (Nat.le_refl _)
  have B1 := B0.trans (b1.mono B0.size)
  rw [s0] at Q1
  clear b1 X0 B0 s0
  generalize (w0.alloc (.cells #[.int .i64 0, .slice none 0 0, .slice none 0 0, .slice none 0 0] 25)) = w1 at *
  clear w0
  obtain ⟨p, hp⟩ : ∃ p, p = w.heap.size := ⟨_, rfl⟩
  rw [← hp] at X1 Q1 ⊢
  have hpw : w.heap.size ≤ p := by omega
  have hwp : p ≤ w.heap.size := by omega
  clear hp
  have pl := blk_lt X1
  have c0 : w1.cell? ⟨p, 0, none⟩ = some (.int .i64 (N : Int)) := blk_cell X1 0
  have c1 : w1.cell? ⟨p, 1, none⟩ = some (.slice TA m tp) := blk_cell X1 1
  have c2 : w1.cell? ⟨p, 2, none⟩ = some (.slice XA m xp) := blk_cell X1 2
  have c3 : w1.cell? ⟨p, 3, none⟩ = some (.slice CA m cp) := blk_cell X1 3
  go_wp2_with fail
  refine (faces_ok _ N _ _ _ m t x c (hT.below B1 (Nat.le_refl _)) (hX.below B1 (Nat.le_refl _)) (hC.below B1 (Nat.le_refl _)) g pf).mono ?_
  rintro e w2 ⟨fv, o, k, rfl, F2, nF, O, b2⟩
  obtain ⟨FA, fc, rfl, -⟩ := id F2.rd
  have X2 := X1.below b2 (Nat.le_refl _)
  have Q2 := Q1.below b2 (Nat.le_refl _)
  have B2 := B1.trans (b2.mono B1.size)
  have nF' : ∀ b, (Value.slice FA m fc).ownBlock = some b → p + 2 ≤ b := fun b hb => by have := nF b hb; have := blk_lt Q1; omega
  clear b2 X1 Q1 B1 c0 c1 c2 c3 pl nF
  have c3 : w2.cell? ⟨p, 3, none⟩ = some (.slice CA m cp) := blk_cell X2 3
  go_wp2_with fail
  refine (clone_any _ _ m c (hC.below B2 (Nat.le_refl _)) (by omega)).mono ?_
  rintro e w3 ⟨CB, cq, rfl, C3, nC, b3⟩
  have X3 := X2.below b3 (Nat.le_refl _)
  have Q3 := Q2.below b3 (Nat.le_refl _)
  have F3 := F2.below b3 (Nat.le_refl _)
  have B3 := B2.trans (b3.mono B2.size)
  have lF : ∀ b, (Value.slice FA m fc).ownBlock = some b → b < w2.heap.size := fun b hb => F2.lt hb
  have q2 := blk_lt Q2
  have w23 := b3.size
  have NFC := Lib.hid (And.intro nF' (And.intro lF nC))
  clear b3 X2 Q2 F2 B2 c3 nF' lF nC
  go_upto_region 3 with fail
  obtain ⟨F, hF⟩ : ∃ F : Nat, F = max k 1 := ⟨_, rfl⟩
  rw [← hF]
  have HF := Lib.hid hF
  clear hF
  have Z4 : Box (w3.alloc (.cells #[.int .i64 (F : Int), .slice FA m fc, .slice none 0 0, .slice CB m cq] 25)) w3.heap.size F (.slice FA m fc) (.slice none 0 0) (.slice CB m cq) := heap_alloc_new _ _
  have E4 : Below w3.heap.size w3 (w3.alloc (.cells #[.int .i64 (F : Int), .slice FA m fc, .slice none 0 0, .slice CB m cq] 25)) := (Below.refl _ _).alloc (Nat.le_refl _) _
  have xl3 := blk_lt X3
  have ql3 := blk_lt Q3
  generalize (w3.alloc (.cells #[.int .i64 (F : Int), .slice FA m fc, .slice none 0 0, .slice CB m cq] 25)) = w4 at *
  obtain ⟨z, hz⟩ : ∃ z, z = w3.heap.size := ⟨_, rfl⟩
  rw [← hz] at Z4 E4 xl3 ql3 ⊢
  have hzw : z ≤ w3.heap.size := by omega
  have hwz : w3.heap.size ≤ z := by omega
  clear hz
  go_wp2_with fail
  go_loopw [20] (fun u wr => ∃ (i : Nat) (XV : Value), u = .int .i64 (i : Int) ∧ i ≤ m ∧ Box wr z F (.slice FA m fc) XV (.slice CB m cq) ∧ Ow wr XV i (dualX x) ∧ (∀ b, XV.ownBlock = some b → z < b) ∧ ((i = 0 ∧ XV = .slice none 0 0) ∨ ∃ b c', XV = .slice (some ⟨b, 0, none⟩) i c') ∧ Below z w3 wr) (fun u _ => m - (intOf u).toNat)
  case atStart => exact ⟨0, _, rfl, Nat.zero_le _, Z4, Ow.nil _ _, fun b hb => by simp [Value.ownBlock] at hb, .inl ⟨rfl, rfl⟩, E4⟩
  case round =>
    clear Z4 E4 w4
    obtain ⟨i, XV, rfl, hi, Zb, OX, hx, hform, E⟩ := hrel
    by_cases him : i < m
    · have i1 : (i : Int) < (m : Int) := by omega
      obtain ⟨y, rfl, hy, hc⟩ := rx (by omega)
      have ho := oth_lt him g.even
      have cx : wr.cell? (y.add (oth i)) = some (.int .i64 (dualX x i)) := by
        have h1 := B3.size
        exact (E.cell (by rw [block_add]; omega)).trans ((B3.cell (by rw [block_add]; exact hy)).trans (hc _ ho))
      have c2 : wr.cell? ⟨p, 2, none⟩ = some (.slice (some y) m xp) := blk_cell ((E.block p xl3).trans X3) 2
      have i2 : (oth i : Int) < (m : Int) := by omega
      have i3 : (0 : Int) ≤ (oth i : Int) := by omega
      have xo := xor_one i (by omega)
      have zl := blk_lt Zb
      have zf := blk_frozen Zb 2
      have zc := blk_cell Zb 2
      have Ex := Lib.hid E
      have nz : ¬ (p = z) := by omega
      have OX1 : Ow (wr.alloc (.cells #[.int .i64 (dualX x i)] 3)).drew XV i (dualX x) := (OX.below ((Below.refl _ wr).alloc (Nat.le_refl _) (.cells #[.int .i64 (dualX x i)] 3)) (Nat.le_refl _)).keep fun _ _ => rfl
      have n0 : Hid (∀ n, n < 1 → (wr.alloc (.cells #[.int .i64 (dualX x i)] 3)).drew.cell? ((⟨wr.heap.size, 0, none⟩ : Addr).add n) = some (.int .i64 ((fun _ => dualX x i) n))) := Lib.hid fun n hn => by
        rw [add_head, show n = 0 by omega]
        have := blk_cell (heap_alloc_new wr (.cells #[.int .i64 (dualX x i)] 3)) 0
        exact this
      have E1 : Below z w3 (wr.alloc (.cells #[.int .i64 (dualX x i)] 3)) := E.alloc (by omega) _
      have Z1 : Box (wr.alloc (.cells #[.int .i64 (dualX x i)] 3)) z F (.slice FA m fc) XV (.slice CB m cq) := Zb.below ((Below.refl _ wr).alloc (Nat.le_refl _) _) (Nat.le_refl _)
      have hs : (wr.alloc (.cells #[.int .i64 (dualX x i)] 3)).heap.size = wr.heap.size + 1 := by simp
      have HS := Lib.hid hs
      have HX := Lib.hid hx
      clear hs hx hc E OX rx
      go_upto_region 6 with fail
      rcases hform with ⟨h0, rfl⟩ | ⟨bx, cx', rfl⟩
      · clear h0
        go_region_law
          ((refine step_app (o := ⟨some 32, _, _, _, _, _⟩) (by rfl) _ _ (by rfl) (.slice none 0 0) i (dualX x) (by rfl) OX1 ⟨wr.heap.size, 0, none⟩ 1 1 (fun _ => dualX x i) (by rfl) n0.out (by omega) (by omega) _ rfl ?_; intro b' c' w9 O9 g9 l9 z9; have hb' : z < b' := (by have := HS.out; simp [Value.ownBlock] at l9; omega); have E9 : Below z w3 w9 := Below.grown E1.drew g9 (by have := HS.out; simp; omega) (fun b hb => by have := HX.out b hb; omega); have Z9 : Box w9 z F (.slice FA m fc) (.slice none 0 0) (.slice CB m cq) := (g9.block z (by simp; omega) (fun e => by have := HX.out z e.symm; omega)).trans Z1; have k2 := blk_cell Z9 2; have k3 := blk_frozen Z9 2))
        all_goals
          have O10 : Ow (w9.setCell ⟨z, 2, none⟩ (.slice (some ⟨b', 0, none⟩) (i + 1) c')) (.slice (some ⟨b', 0, none⟩) (i + 1) c') (i + 1) (dualX x) := (O9.congr (x' := dualX x) fun n hn => by
            rcases Nat.lt_or_ge n i with q | q
            · rw [cat_lo q]
            · rw [cat_hi q, show n = i by omega]).keep fun b hb => Below.heap_setCell _ _ _ _ (by
              have e : some b' = some b := hb
              injection e with e; simp; omega)
          have Z10 := blk_set (i := 2) Z9 (.slice (some ⟨b', 0, none⟩) (i + 1) c')
          have E10 := E9.setCell (p := ⟨z, 2, none⟩) (Nat.le_refl _) (.slice (some ⟨b', 0, none⟩) (i + 1) c')
          have Z11 := Lib.hid Z10
          clear O9 g9 l9 z9 Z9 E9 Z10
          go_wp2_with fail
          go_roundw
          case rel => exact ⟨i + 1, _, by simp, by omega, Z11.out, O10, fun b hb => by
              have e : some b' = some b := hb
              injection e with e; omega, .inr ⟨b', c', rfl⟩, E10⟩
          case measure => simp [intOf]; omega
      · go_region_law
          ((refine step_app (o := ⟨some 32, _, _, _, _, _⟩) (by rfl) _ _ (by rfl) (.slice (some ⟨bx, 0, none⟩) i cx') i (dualX x) (by rfl) OX1 ⟨wr.heap.size, 0, none⟩ 1 1 (fun _ => dualX x i) (by rfl) n0.out (by omega) (by omega) _ rfl ?_; intro b' c' w9 O9 g9 l9 z9; have hb' : z < b' := (by have := HS.out; have := HX.out bx rfl; simp [Value.ownBlock] at l9; omega); have E9 : Below z w3 w9 := Below.grown E1.drew g9 (by have := HS.out; simp; omega) (fun b hb => by have := HX.out b hb; omega); have Z9 : Box w9 z F (.slice FA m fc) (.slice (some ⟨bx, 0, none⟩) i cx') (.slice CB m cq) := (g9.block z (by simp; omega) (fun e => by have := HX.out z e.symm; omega)).trans Z1; have k2 := blk_cell Z9 2; have k3 := blk_frozen Z9 2))
        all_goals
          have O10 : Ow (w9.setCell ⟨z, 2, none⟩ (.slice (some ⟨b', 0, none⟩) (i + 1) c')) (.slice (some ⟨b', 0, none⟩) (i + 1) c') (i + 1) (dualX x) := (O9.congr (x' := dualX x) fun n hn => by
            rcases Nat.lt_or_ge n i with q | q
            · rw [cat_lo q]
            · rw [cat_hi q, show n = i by omega]).keep fun b hb => Below.heap_setCell _ _ _ _ (by
              have e : some b' = some b := hb
              injection e with e; simp; omega)
          have Z10 := blk_set (i := 2) Z9 (.slice (some ⟨b', 0, none⟩) (i + 1) c')
          have E10 := E9.setCell (p := ⟨z, 2, none⟩) (Nat.le_refl _) (.slice (some ⟨b', 0, none⟩) (i + 1) c')
          have Z11 := Lib.hid Z10
          clear O9 g9 l9 z9 Z9 E9 Z10
          go_wp2_with fail
          go_roundw
          case rel => exact ⟨i + 1, _, by simp, by omega, Z11.out, O10, fun b hb => by
              have e : some b' = some b := hb
              injection e with e; omega, .inr ⟨b', c', rfl⟩, E10⟩
          case measure => simp [intOf]; omega
    · have i1 : ¬ ((i : Int) < (m : Int)) := by omega
      obtain rfl : m = i := by omega
      have Qb : Box wr (p + 1) 0 (.slice none 0 0) (.slice none 0 0) (.slice none 0 0) := (E.block _ ql3).trans Q3
      clear rx
      rcases hform with ⟨h0, rfl⟩ | ⟨bx, cx', rfl⟩
      · clear h0
        have c0 : wr.cell? ⟨z, 0, none⟩ = some (.int .i64 (F : Int)) := blk_cell Zb 0
        have c1 : wr.cell? ⟨z, 1, none⟩ = some (.slice FA m fc) := blk_cell Zb 1
        have c2 : wr.cell? ⟨z, 2, none⟩ = some (.slice none 0 0) := blk_cell Zb 2
        have c3 : wr.cell? ⟨z, 3, none⟩ = some (.slice CB m cq) := blk_cell Zb 3
        have r0 : wr.cell? ⟨p + 1, 0, none⟩ = some (.int .i64 0) := blk_cell Qb 0
        have r1 : wr.cell? ⟨p + 1, 1, none⟩ = some (.slice none 0 0) := blk_cell Qb 1
        have r2 : wr.cell? ⟨p + 1, 2, none⟩ = some (.slice none 0 0) := blk_cell Qb 2
        have r3 : wr.cell? ⟨p + 1, 3, none⟩ = some (.slice none 0 0) := blk_cell Qb 3
        have f0 := blk_frozen Qb 0
        have f1 := blk_frozen Qb 1
        have f2 := blk_frozen Qb 2
        have f3 := blk_frozen Qb 3
        have RR : Rows wr (p + 2) (.slice FA m fc) (.slice none 0 0) (.slice CB m cq) m o (dualX x) c :=
          ⟨F3.below E hwz, OX, C3.below E hwz, fun b hb => NFC.out.1 b hb, fun b hb => by have := hx b hb; omega, fun b hb => by have := NFC.out.2.2 b hb; omega,
            fun b hb hb' => by have := hx b hb'; have := NFC.out.2.1 b hb; omega, fun b hb hb' => by have := NFC.out.2.2 b hb'; have := NFC.out.2.1 b hb; omega, fun b hb hb' => by have := hx b hb; have := C3.lt hb'; omega⟩
        have R7 := RR.keep (w' := put4 wr (p + 1) F (.slice FA m fc) (.slice none 0 0) (.slice CB m cq)) fun b hb => put4_ne (by have := (RR.lt hb).1; omega)
        have B7 := put4_below (B3.trans (E.mono (by omega))) (p := p + 1) (by omega) F (.slice FA m fc) (.slice none 0 0) (.slice CB m cq)
        unfold put4 at R7 B7
        have g0 : (wr.setCell ⟨p + 1, 0, none⟩ (.int .i64 (F : Int))).cell? ⟨p + 1, 0, none⟩ = some (.int .i64 (F : Int)) := blk_cell (blk_set (i := 0) Qb _) 0
        have g1 : ((wr.setCell ⟨p + 1, 0, none⟩ (.int .i64 (F : Int))).setCell ⟨p + 1, 1, none⟩ (.slice FA m fc)).cell? ⟨p + 1, 1, none⟩ = some (.slice FA m fc) := blk_cell (blk_set (i := 1) (blk_set (i := 0) Qb _) _) 1
        have g2 : (((wr.setCell ⟨p + 1, 0, none⟩ (.int .i64 (F : Int))).setCell ⟨p + 1, 1, none⟩ (.slice FA m fc)).setCell ⟨p + 1, 2, none⟩ (.slice none 0 0)).cell? ⟨p + 1, 2, none⟩ = some (.slice none 0 0) := blk_cell (blk_set (i := 2) (blk_set (i := 1) (blk_set (i := 0) Qb _) _) _) 2
        have g3 : ((((wr.setCell ⟨p + 1, 0, none⟩ (.int .i64 (F : Int))).setCell ⟨p + 1, 1, none⟩ (.slice FA m fc)).setCell ⟨p + 1, 2, none⟩ (.slice none 0 0)).setCell ⟨p + 1, 3, none⟩ (.slice CB m cq)).cell? ⟨p + 1, 3, none⟩ = some (.slice CB m cq) := blk_cell (blk_set (i := 3) (blk_set (i := 2) (blk_set (i := 1) (blk_set (i := 0) Qb _) _) _) _) 3
        clear Zb Qb RR E OX F3 C3
        go_wp2_with fail
        exact bodyPost_ret (v := .agg #[.int .i64 (F : Int), .slice FA m fc, .slice none 0 0, .slice CB m cq]) (by simp [results, Try.results15, go_sem, g0, g1, g2, g3]) rfl ⟨_, _, _, o, k, by rw [HF.out], R7.base (by omega), O, B7⟩
      · have c0 : wr.cell? ⟨z, 0, none⟩ = some (.int .i64 (F : Int)) := blk_cell Zb 0
        have c1 : wr.cell? ⟨z, 1, none⟩ = some (.slice FA m fc) := blk_cell Zb 1
        have c2 : wr.cell? ⟨z, 2, none⟩ = some (.slice (some ⟨bx, 0, none⟩) m cx') := blk_cell Zb 2
        have c3 : wr.cell? ⟨z, 3, none⟩ = some (.slice CB m cq) := blk_cell Zb 3
        have r0 : wr.cell? ⟨p + 1, 0, none⟩ = some (.int .i64 0) := blk_cell Qb 0
        have r1 : wr.cell? ⟨p + 1, 1, none⟩ = some (.slice none 0 0) := blk_cell Qb 1
        have r2 : wr.cell? ⟨p + 1, 2, none⟩ = some (.slice none 0 0) := blk_cell Qb 2
        have r3 : wr.cell? ⟨p + 1, 3, none⟩ = some (.slice none 0 0) := blk_cell Qb 3
        have f0 := blk_frozen Qb 0
        have f1 := blk_frozen Qb 1
        have f2 := blk_frozen Qb 2
        have f3 := blk_frozen Qb 3
        have RR : Rows wr (p + 2) (.slice FA m fc) (.slice (some ⟨bx, 0, none⟩) m cx') (.slice CB m cq) m o (dualX x) c :=
          ⟨F3.below E hwz, OX, C3.below E hwz, fun b hb => NFC.out.1 b hb, fun b hb => by have := hx b hb; omega, fun b hb => by have := NFC.out.2.2 b hb; omega,
            fun b hb hb' => by have := hx b hb'; have := NFC.out.2.1 b hb; omega, fun b hb hb' => by have := NFC.out.2.2 b hb'; have := NFC.out.2.1 b hb; omega, fun b hb hb' => by have := hx b hb; have := C3.lt hb'; omega⟩
        have R7 := RR.keep (w' := put4 wr (p + 1) F (.slice FA m fc) (.slice (some ⟨bx, 0, none⟩) m cx') (.slice CB m cq)) fun b hb => put4_ne (by have := (RR.lt hb).1; omega)
        have B7 := put4_below (B3.trans (E.mono (by omega))) (p := p + 1) (by omega) F (.slice FA m fc) (.slice (some ⟨bx, 0, none⟩) m cx') (.slice CB m cq)
        unfold put4 at R7 B7
        have g0 : (wr.setCell ⟨p + 1, 0, none⟩ (.int .i64 (F : Int))).cell? ⟨p + 1, 0, none⟩ = some (.int .i64 (F : Int)) := blk_cell (blk_set (i := 0) Qb _) 0
        have g1 : ((wr.setCell ⟨p + 1, 0, none⟩ (.int .i64 (F : Int))).setCell ⟨p + 1, 1, none⟩ (.slice FA m fc)).cell? ⟨p + 1, 1, none⟩ = some (.slice FA m fc) := blk_cell (blk_set (i := 1) (blk_set (i := 0) Qb _) _) 1
        have g2 : (((wr.setCell ⟨p + 1, 0, none⟩ (.int .i64 (F : Int))).setCell ⟨p + 1, 1, none⟩ (.slice FA m fc)).setCell ⟨p + 1, 2, none⟩ (.slice (some ⟨bx, 0, none⟩) m cx')).cell? ⟨p + 1, 2, none⟩ = some (.slice (some ⟨bx, 0, none⟩) m cx') := blk_cell (blk_set (i := 2) (blk_set (i := 1) (blk_set (i := 0) Qb _) _) _) 2
        have g3 : ((((wr.setCell ⟨p + 1, 0, none⟩ (.int .i64 (F : Int))).setCell ⟨p + 1, 1, none⟩ (.slice FA m fc)).setCell ⟨p + 1, 2, none⟩ (.slice (some ⟨bx, 0, none⟩) m cx')).setCell ⟨p + 1, 3, none⟩ (.slice CB m cq)).cell? ⟨p + 1, 3, none⟩ = some (.slice CB m cq) := blk_cell (blk_set (i := 3) (blk_set (i := 2) (blk_set (i := 1) (blk_set (i := 0) Qb _) _) _) _) 3
        clear Zb Qb RR E OX F3 C3
        go_wp2_with fail
        exact bodyPost_ret (v := .agg #[.int .i64 (F : Int), .slice FA m fc, .slice (some ⟨bx, 0, none⟩) m cx', .slice CB m cq]) (by simp [results, Try.results15, go_sem, g0, g1, g2, g3]) rfl ⟨_, _, _, o, k, by rw [HF.out], R7.base (by omega), O, B7⟩
end Go.Proofs.Ytbnghpemlcmogaa.Ro
