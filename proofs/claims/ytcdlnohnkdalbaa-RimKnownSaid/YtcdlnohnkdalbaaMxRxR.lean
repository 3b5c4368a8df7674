/- Walks: reach, of the document's chapter 9. -/
import Derived.Test.YtcdlnohnkdalbaaMg1
import Derived.Test.YtcdlnohnkdalbaaMg12
import Derived.Test.YtcdlnohnkdalbaaMg9
import Derived.Test.YtcdlnohnkdalbaaMxPaS
import Derived.Test.YtcdlnohnkdalbaaMxRxA
namespace Go.Proofs.Ytcdlnohnkdalbaa.Ro
open Go.RowKit Go.Proofs Go.Maps
set_option linter.unusedVariables false
set_option maxRecDepth 100000
set_option linter.unusedSimpArgs false

/-- what reach hands back -/
def ReachPost (B0 : Nat) (w : World) (N m : Nat) (t c f : Nat → Int) (s : Nat) (e : Ending) (w' : World) : Prop :=
  ∃ (b1 b2 : Nat) (M : Nat → Bool) (B : Nat → Int), e = .returned (.tuple #[.slice (some ⟨b1, 0, none⟩) N N, .slice (some ⟨b2, 0, none⟩) N N]) ∧ OwB w' (.slice (some ⟨b1, 0, none⟩) N N) N M ∧ Ow w' (.slice (some ⟨b2, 0, none⟩) N N) N B ∧ B0 ≤ b1 ∧ B0 ≤ b2 ∧ Reach N m t c f s M B ∧ Below B0 w w'

set_option maxHeartbeats 12800000 in
theorem reach_any (w : World) (N : Nat) (T X C V : Value) (m s : Nat) (t x c f : Nat → Int) (hT : Rd w T m t) (hX : Rd w X m x) (hC : Rd w C m c) (hV : Rd w V m f) (hs : s < N) (hN : N ≤ 60) (hm : m ≤ 240) (ev : m % 2 = 0) (ht : ∀ d, d < m → 0 ≤ t d ∧ t d < N) :
    Calls Try.prog 37 #[.agg #[.int .i64 (N : Int), T, X, C], .int .i64 (s : Int), V] w (ReachPost w.heap.size w N m t c f s) := by
  obtain ⟨TA, tp, rfl, -⟩ := id hT
  obtain ⟨XA, xp, rfl, -⟩ := id hX
  obtain ⟨CA, cp, rfl, -⟩ := id hC
  obtain ⟨VA, vp, rfl, -⟩ := id hV
  obtain ⟨i1, hi1, hz1, hsz1, hby1⟩ := info_parts (P := Try.prog) (e := 4) (z := .bool false) (size := 1) (bytes := 1) (by kernel_rfl)
  obtain ⟨i2, hi2, hz2, hsz2, hby2⟩ := info_parts (P := Try.prog) (e := 3) (z := .int .i64 0) (size := 1) (bytes := 8) (by kernel_rfl)
  have HT := Lib.hid ht
  clear ht
  go_enter Try.func37, Try.ntmps37
  go_upto_region 1 with fail
  obtain ⟨w1, hw1, N1, B1⟩ := net_enter (N : Int) hT hX hC
  have RV1 := hV.below B1 (Nat.le_refl _)
  rw [hw1]
  clear hw1 hT hX hC hV
  have h01 := B1.size
  obtain ⟨p, hp⟩ : ∃ p, p = w.heap.size := ⟨_, rfl⟩
  rw [← hp] at N1 ⊢
  have hpp := Lib.hid hp
  clear hp
  have c0 := N1.c0
  go_upto_region 2 with (at_make; refine wpList_make_full _ rfl _ _ _ rfl 0 4 i1 (.bool false) 1 Try.underlying47 hi1 hz1 hsz1 .i64 .i64 (N : Int) (N : Int) N rfl rfl rfl rfl (by rw [hby1]; omega) (by unfold maxLen; omega) (Nat.zero_le _) ?_; intro w2 hm2 hg2)
  rw [show (Value.bool false).cells = #[.bool false] from rfl, Nat.mul_one, toList_madeCells_one] at hm2
  have E2 := OwB.made hm2
  have b2 : Below w1.heap.size w1 w2 := ⟨hg2.os, hg2.tape, hg2.output, hg2.size, fun k hk => hg2.block k hk (by simp)⟩
  have lE := E2.lt (k := w1.heap.size) rfl
  clear hm2 hg2 c0 i1 hi1 hz1 hsz1 hby1
  obtain ⟨g1, hg1⟩ : ∃ g, g = w1.heap.size := ⟨_, rfl⟩
  rw [← hg1] at E2 lE h01 b2 ⊢
  have hwg : w1.heap.size ≤ g1 := by omega
  have hgw : g1 ≤ w1.heap.size := by omega
  clear hg1
  have c0 := (N1.below b2 hwg).c0
  go_upto_region 3 with (at_make; refine wpList_make_full _ rfl _ _ _ rfl 0 3 i2 (.int .i64 0) 1 Try.underlying22 hi2 hz2 hsz2 .i64 .i64 (N : Int) (N : Int) N rfl rfl rfl rfl (by rw [hby2]; omega) (by unfold maxLen; omega) (Nat.zero_le _) ?_; intro w3 hm3 hg3)
  rw [show (Value.int IntKind.i64 0).cells = #[.int .i64 0] from rfl, Nat.mul_one, toList_madeCells_one] at hm3
  have O3 := Ow.made hm3
  have b3 : Below w2.heap.size w2 w3 := ⟨hg3.os, hg3.tape, hg3.output, hg3.size, fun k hk => hg3.block k hk (by simp)⟩
  have E3 := E2.below b3 (Nat.le_refl _)
  have B3 := b2.trans (b3.mono (by omega))
  have lO := O3.lt (k := w2.heap.size) rfl
  clear hm3 hg3 b3 b2 c0 i2 hi2 hz2 hsz2 hby2 E2
  obtain ⟨g2, hg2⟩ : ∃ g, g = w2.heap.size := ⟨_, rfl⟩
  rw [← hg2] at O3 lE lO ⊢
  have hg12 : g1 < g2 := lE
  clear hg2 w2
  have s1 : (s : Int) < (N : Int) := by omega
  have ce := E3.cell hs
  have fe := E3.frozen s
  have co := O3.cell hs
  have fo := O3.frozen s
  have ne12 : ¬ (g1 = g2) := by omega
  have ne21 : ¬ (g2 = g1) := by omega
  have E4 := (E3.set hs true).keep (w' := (w3.setCell ⟨g1, s, none⟩ (.bool true)).setCell ⟨g2, s, none⟩ (.int .i64 (-1))) fun k hk => Below.heap_setCell _ _ _ _ (by have hk : some g1 = some k := hk; injection hk with hk; show k ≠ g2; omega)
  have O4 := (O3.keep (w' := w3.setCell ⟨g1, s, none⟩ (.bool true)) fun k hk => Below.heap_setCell _ _ _ _ (by have hk : some g2 = some k := hk; injection hk with hk; show k ≠ g1; omega)).set hs (-1)
  have B4 := (B3.setCell (p := ⟨g1, s, none⟩) (Nat.le_refl _) (.bool true)).setCell (p := ⟨g2, s, none⟩) (by show g1 ≤ g2; omega) (.int .i64 (-1))
  have HS := Lib.hid (And.intro E4 (And.intro O4 B4))
  have hsz : g2 < ((w3.setCell ⟨g1, s, none⟩ (.bool true)).setCell ⟨g2, s, none⟩ (.int .i64 (-1))).heap.size := by simp; omega
  clear E3 O3 B3 E4 O4 B4
  go_upto_region 4 with fail
  obtain ⟨E4, O4, B4⟩ := HS.out
  clear HS ce fe co fo lE lO
  generalize (w3.setCell ⟨g1, s, none⟩ (.bool true)).setCell ⟨g2, s, none⟩ (.int .i64 (-1)) = w4 at *
  clear w3
  have bA := below_new w4 (.cells #[.int .i64 (s : Int)] 3)
  have QA := Ow.lit1 w4 (fun _ => (s : Int)) (s : Int) rfl
  have E5 := E4.below bA (Nat.le_refl _)
  have O5 := O4.below bA (Nat.le_refl _)
  have B5 := B4.trans (bA.mono (by have := B4.size; omega))
  have I0 := Lib.hid (Bf.start (m := m) (t := t) (c := c) (f := f) hs)
  have LQ : Hid (∀ k, (Value.slice (some ⟨w4.heap.size, 0, none⟩) 1 1).ownBlock = some k → g2 < k) := Lib.hid fun k hk => by have hk : some w4.heap.size = some k := hk; injection hk with hk; omega
  go_upto_region 5 with fail
  clear bA E4 O4 B4
  generalize (w4.alloc (.cells #[.int .i64 (s : Int)] 3)) = w5 at *
  obtain ⟨qb, hqb⟩ : ∃ qb, qb = w4.heap.size := ⟨_, rfl⟩
  rw [← hqb] at QA LQ ⊢
  clear hqb hsz w4
  clear ne12 ne21
  have lN := N1.lt
  go_wp2_with fail
  go_loopw [10, 11] (fun u10 u11 wr => ∃ (M : Nat → Bool) (B : Nat → Int) (Q : Nat → Nat) (L i : Nat), u11 = .int .i64 (i : Int) ∧ i ≤ L ∧ L ≤ N ∧ Hid (Bf N m t c f s M B Q L i 0) ∧ OwB wr (.slice (some ⟨g1, 0, none⟩) N N) N M ∧ Ow wr (.slice (some ⟨g2, 0, none⟩) N N) N B ∧ Ow wr u10 L (fun k => (Q k : Int)) ∧ Hid (∀ k, u10.ownBlock = some k → g2 < k) ∧ Below g1 w1 wr) (fun _ u11 _ => N - (intOf u11).toNat)
  case atStart => exact ⟨_, _, _, 1, 0, rfl, by omega, I0.out.few, I0, E5, O5, QA, LQ, B5⟩
  case round =>
    clear I0 E5 O5 QA LQ B5 w5
    obtain ⟨M, B, Q, L, i, rfl, hi, hLN, IB, E, O, QO, LQ, BB⟩ := hrel
    have hL0 := IB.out.pos
    obtain ⟨qb, qc, rfl, lq⟩ := QO.form hL0
    by_cases hlt : i < L
    · have d1 : (i : Int) < (L : Int) := by omega
      obtain ⟨w6, rfl⟩ : ∃ u : World, u = wr := ⟨_, rfl⟩
      go_wp2_with fail
      go_loopw [10, 12] (fun u10 u12 wr => ∃ (M : Nat → Bool) (B : Nat → Int) (Q : Nat → Nat) (L j : Nat), u12 = .int .i64 (j : Int) ∧ j ≤ m ∧ i < L ∧ L ≤ N ∧ Hid (Bf N m t c f s M B Q L i j) ∧ OwB wr (.slice (some ⟨g1, 0, none⟩) N N) N M ∧ Ow wr (.slice (some ⟨g2, 0, none⟩) N N) N B ∧ Ow wr u10 L (fun k => (Q k : Int)) ∧ Hid (∀ k, u10.ownBlock = some k → g2 < k) ∧ Below g1 w1 wr) (fun _ u12 _ => m - (intOf u12).toNat)
      case atStart => exact ⟨M, B, Q, L, 0, rfl, Nat.zero_le _, hlt, hLN, IB, E, O, QO, LQ, BB⟩
      case round =>
        clear IB E O QO LQ BB w6 hi hlt d1 hLN hL0 lq
        obtain ⟨M, B, Q, L, j, rfl, hj, hiL, hLN, IB, E, O, QO, LQ, BB⟩ := hrel
        obtain ⟨qb, qc, rfl, lq⟩ := QO.form (by omega)
        have NW := N1.below BB hwg
        by_cases hlt : j < m
        · have d1 : (j : Int) < (m : Int) := by omega
          have hoth := oth_lt hlt ev
          obtain ⟨z1, z2⟩ := HT.out j hlt
          obtain ⟨z3, z4⟩ := HT.out _ hoth
          obtain ⟨h, hh⟩ : ∃ h : Nat, (h : Int) = t (oth j) := ⟨(t (oth j)).toNat, by omega⟩
          have hth : tlOf t (oth j) = h := by unfold tlOf; omega
          have hhN : h < N := by omega
          have c0 := NW.c0
          have c1 := NW.c1
          have c2 := NW.c2
          have c3 := NW.c3
          go_wp2_with fail
          refine (refHead_ok wr N _ _ _ m t NW.rt j (by omega) hoth).mono ?_
          rintro e w7 ⟨rfl, b7⟩
          rw [← hh]
          have hsz := BB.size
          replace NW := NW.below b7 (Nat.le_refl _)
          replace E := E.below b7 (Nat.le_refl _)
          replace O := O.below b7 (Nat.le_refl _)
          replace QO := QO.below b7 (Nat.le_refl _)
          replace BB := BB.trans (b7.mono (by omega))
          replace lq : qb < w7.heap.size := Nat.lt_of_lt_of_le lq b7.size
          clear c0 c1 c2 c3 b7 hsz
          have c1 := NW.c1
          have c3 := NW.c3
          have RV := RV1.below BB hwg
          obtain ⟨A', q', e', rt'⟩ := NW.rt
          injection e' with j1 j2 j3
          obtain ⟨yt, i4, i5, i6⟩ := rt' (by omega)
          obtain rfl : TA = some yt := j1.trans i4
          have y1 := i6 j hlt
          obtain ⟨A2, q2, e2, rc'⟩ := NW.rc
          injection e2 with k1 k2 k3
          obtain ⟨yc, k4, k5, k6⟩ := rc' (by omega)
          obtain rfl : CA = some yc := k1.trans k4
          have y2 := k6 j hlt
          obtain ⟨A3, q3, e3, rv'⟩ := id RV
          injection e3 with l1 l2 l3
          obtain ⟨yv, l4, l5, l6⟩ := rv' (by omega)
          obtain rfl : VA = some yv := l1.trans l4
          have y3 := l6 j hlt
          have y4 := QO.cell hiL
          have y5 := E.cell hhN
          have d2 : (i : Int) < (L : Int) := by omega
          have d3 : (h : Int) < (N : Int) := by omega
          have htj : tlOf t j = Q i ↔ t j = (Q i : Int) := by unfold tlOf; omega
          have HB := Lib.hid (And.intro E (And.intro O (And.intro QO BB)))
          clear j1 j2 j3 i4 i5 i6 rt' k1 k2 k3 k4 k5 k6 rc' l1 l2 l3 l4 l5 l6 rv' RV NW
          by_cases q1 : t j = (Q i : Int)
          · have p1 : (t j == (Q i : Int)) = true := by simp; exact q1
            by_cases q2 : f j < c j
            · have p2 : decide (f j < c j) = true := by simpa using q2
              cases q3 : M h with
              | true =>
                rw [q3] at y5
                have I2 := Lib.hid (IB.out.skip fun _ _ => by rw [hth]; exact q3)
                clear q1 q2 q3 IB htj hth hh E O QO BB
                go_upto_region 12 with fail
                go_big_quiet (fail)
                go_wp2_with fail
                go_roundw
                case rel => exact ⟨M, B, Q, L, j + 1, by simp, by omega, hiL, hLN, I2, HB.out.1.keep fun _ _ => rfl, HB.out.2.1.keep fun _ _ => rfl, HB.out.2.2.1.keep fun _ _ => rfl, LQ, ⟨HB.out.2.2.2.os, HB.out.2.2.2.tape, HB.out.2.2.2.output, HB.out.2.2.2.size, HB.out.2.2.2.block⟩⟩
                case measure => simp [intOf]; omega
              | false =>
                rw [q3] at y5
                have I2 := IB.out.take hiL hlt (htj.2 q1) q2 (by rw [hth]; exact q3) (by rw [hth]; exact hhN)
                rw [hth] at I2
                have I2 := Lib.hid I2
                clear q1 q2 q3 IB htj hth hh E O QO BB
                go_upto_region 12 with fail
                go_big_quiet (fail)
                obtain ⟨E, O, QO, BB⟩ := HB.out
                have E := E.keep (w' := w7.drewN nq) fun _ _ => rfl
                have O := O.keep (w' := w7.drewN nq) fun _ _ => rfl
                have QO := QO.keep (w' := w7.drewN nq) fun _ _ => rfl
                have BB : Below g1 w1 (w7.drewN nq) := ⟨BB.os, BB.tape, BB.output, BB.size, BB.block⟩
                have lq : qb < (w7.drewN nq).heap.size := lq
                clear HB y1 y2 y3 y4 y5 c1 c3
                generalize w7.drewN nq = w8 at *
                have f1 := E.frozen h
                have f2 := O.frozen h
                have y5 := E.cell hhN
                have y6 := O.cell hhN
                have lqb := LQ.out qb rfl
                have n1 : ¬ (g1 = g2) := by omega
                have n2 : ¬ (g2 = g1) := by omega
                have E9 := (E.set hhN true).keep (w' := (w8.setCell ⟨g1, h, none⟩ (.bool true)).setCell ⟨g2, h, none⟩ (.int .i64 (j : Int))) fun k hk => Below.heap_setCell _ _ _ _ (by have hk : some g1 = some k := hk; injection hk with hk; show k ≠ g2; omega)
                have O9 := (O.keep (w' := w8.setCell ⟨g1, h, none⟩ (.bool true)) fun k hk => Below.heap_setCell _ _ _ _ (by have hk : some g2 = some k := hk; injection hk with hk; show k ≠ g1; omega)).set hhN (j : Int)
                have Q9 := (QO.keep (w' := w8.setCell ⟨g1, h, none⟩ (.bool true)) fun k hk => Below.heap_setCell _ _ _ _ (by have hk : some qb = some k := hk; injection hk with hk; show k ≠ g1; omega)).keep (w' := (w8.setCell ⟨g1, h, none⟩ (.bool true)).setCell ⟨g2, h, none⟩ (.int .i64 (j : Int))) fun k hk => Below.heap_setCell _ _ _ _ (by have hk : some qb = some k := hk; injection hk with hk; show k ≠ g2; omega)
                have B9 := (BB.setCell (p := ⟨g1, h, none⟩) (Nat.le_refl _) (.bool true)).setCell (p := ⟨g2, h, none⟩) (by show g1 ≤ g2; omega) (.int .i64 (j : Int))
                have HB := Lib.hid (And.intro E9 (And.intro O9 (And.intro Q9 B9)))
                clear E O QO BB E9 O9 Q9 B9
                go_upto_region 14 with fail
                obtain ⟨E, O, QO, BB⟩ := HB.out
                clear HB f1 f2 y5 y6 n1 n2 lq
                generalize (w8.setCell ⟨g1, h, none⟩ (.bool true)).setCell ⟨g2, h, none⟩ (.int .i64 (j : Int)) = w9 at *
                clear w8
                have bA := below_new w9 (.cells #[.int .i64 (h : Int)] 3)
                have n0 : ∀ i, i < 1 → (w9.alloc (.cells #[.int .i64 (h : Int)] 3)).cell? ((⟨w9.heap.size, 0, none⟩ : Addr).add i) = some (.int .i64 ((fun _ => (h : Int)) i)) := fun i hi => by
                  rw [add_head, show i = 0 by omega]
                  exact blk_cell (heap_alloc_new w9 _) 0
                have hs9 : (w9.alloc (.cells #[.int .i64 (h : Int)] 3)).heap.size = w9.heap.size + 1 := by simp
                have lO := O.lt (k := g2) rfl
                have hb9 := BB.size
                replace E := E.below bA (Nat.le_refl _)
                replace O := O.below bA (Nat.le_refl _)
                replace QO := QO.below bA (Nat.le_refl _)
                replace BB := BB.trans (bA.mono (by omega))
                clear bA
                go_upto_region 10 with (at_builtin; go_must (refine wpList_app rfl _ _ rfl _ L (fun k => (Q k : Int)) rfl QO ⟨w9.heap.size, 0, none⟩ 1 1 (fun _ => (h : Int)) rfl n0 (by omega) (by omega) ?_); intro b' c' w10 O5 g5 l5)
                have hnb : g2 < b' := by
                  rcases l5 with e | e
                  · have e : some b' = some qb := e
                    injection e with e; omega
                  · rw [hs9] at e; omega
                have E10 := E.keep (w' := w10) fun k hk => g5.block k (E.lt hk) (fun z => by
                  have hk : some g1 = some k := hk
                  injection hk with hk
                  have z : some k = some qb := z
                  injection z with z; omega)
                have O10 := O.keep (w' := w10) fun k hk => g5.block k (O.lt hk) (fun z => by
                  have hk : some g2 = some k := hk
                  injection hk with hk
                  have z : some k = some qb := z
                  injection z with z; omega)
                have B10 := Below.grown BB g5 (by rw [hs9]; omega) (fun k hk => by have hk : some qb = some k := hk; injection hk with hk; omega)
                have Q10 := O5.congr (x' := fun k => ((upd Q L h k : Nat) : Int)) (fun k hk => by
                  rcases Nat.lt_or_ge k L with z | z
                  · rw [cat_lo z]
                    show (Q k : Int) = ((upd Q L h k : Nat) : Int)
                    rw [upd_ne (by omega)]
                  · rw [cat_hi z]
                    show (h : Int) = ((upd Q L h k : Nat) : Int)
                    rw [show k = L by omega, upd_same])
                have LQ2 : Hid (∀ k, (Value.slice (some ⟨b', 0, none⟩) (L + 1) c').ownBlock = some k → g2 < k) := Lib.hid fun k hk => by have hk : some b' = some k := hk; injection hk with hk; omega
                clear n0 hs9 E O QO BB O5 g5 l5
                go_wp2_with fail
                go_roundw
                case rel => exact ⟨_, _, _, L + 1, j + 1, by simp, by omega, by omega, I2.out.few, I2, E10, O10, Q10, LQ2, B10⟩
                case measure => simp [intOf]; omega
            · have p2 : decide (f j < c j) = false := by simp; omega
              have I2 := Lib.hid (IB.out.skip fun _ h => absurd h q2)
              clear q1 q2 IB htj hth hh E O QO BB y5
              go_upto_region 12 with fail
              go_big_quiet (fail)
              go_wp2_with fail
              go_roundw
              case rel => exact ⟨M, B, Q, L, j + 1, by simp, by omega, hiL, hLN, I2, HB.out.1.keep fun _ _ => rfl, HB.out.2.1.keep fun _ _ => rfl, HB.out.2.2.1.keep fun _ _ => rfl, LQ, ⟨HB.out.2.2.2.os, HB.out.2.2.2.tape, HB.out.2.2.2.output, HB.out.2.2.2.size, HB.out.2.2.2.block⟩⟩
              case measure => simp [intOf]; omega
          · have p1 : (t j == (Q i : Int)) = false := by simp; exact q1
            have I2 := Lib.hid (IB.out.skip fun h => absurd (htj.1 h) q1)
            clear q1 IB htj hth hh E O QO BB y5
            go_upto_region 12 with fail
            go_big_quiet (fail)
            go_wp2_with fail
            go_roundw
            case rel => exact ⟨M, B, Q, L, j + 1, by simp, by omega, hiL, hLN, I2, HB.out.1.keep fun _ _ => rfl, HB.out.2.1.keep fun _ _ => rfl, HB.out.2.2.1.keep fun _ _ => rfl, LQ, ⟨HB.out.2.2.2.os, HB.out.2.2.2.tape, HB.out.2.2.2.output, HB.out.2.2.2.size, HB.out.2.2.2.block⟩⟩
            case measure => simp [intOf]; omega
        · have d1 : ¬ ((j : Int) < (m : Int)) := by omega
          obtain rfl : j = m := by omega
          have c1 := NW.c1
          have I2 := Lib.hid IB.out.next
          clear NW
          go_wp2_with fail
          go_roundw
          case rel => exact ⟨M, B, Q, L, i + 1, by simp, by omega, hLN, I2, E, O, QO, LQ, BB⟩
          case measure => simp [intOf]; omega
    · have d1 : ¬ ((i : Int) < (L : Int)) := by omega
      obtain rfl : i = L := by omega
      have RR := IB.out.reach fun d hd => by have := HT.out d hd; unfold tlOf; omega
      have HR := Lib.hid RR
      have hp2 := hpp.out
      have BF : Below w.heap.size w wr := B1.trans (BB.mono (by omega))
      clear IB RR
      go_wp2_with fail
      exact bodyPost_ret (v := .tuple #[.slice (some ⟨g1, 0, none⟩) N N, .slice (some ⟨g2, 0, none⟩) N N]) (by simp [results, Try.results37, go_sem]) rfl ⟨g1, g2, M, B, rfl, E, O, by omega, by omega, HR.out, BF⟩
end Go.Proofs.Ytcdlnohnkdalbaa.Ro
