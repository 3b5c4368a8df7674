/- Walks: From, of the program's chapter 6: arcs none of which is below 0. -/
import Derived.Outline
import Derived.WalkMore
import Derived.StillTailTactics
import Derived.Test.YtcdlnohnkdalbaaMxPaS
namespace Go.Proofs.Ytcdlnohnkdalbaa.Ro
open Go.RowKit Go.Proofs
set_option linter.unusedVariables false
set_option maxRecDepth 100000
set_option linter.unusedSimpArgs false

theorem _root_.Go.Proofs.Ytcdlnohnkdalbaa.Hp.HeapIs.empty {w : World} {g : Nat} {F : Nat → Prop} {f : Int → Option Int} (h : Hp.HeapIs w g F f 0) : ∀ z, f z = none := by
  obtain ⟨v, bm, G, m, h1, h2, h3, h4, h5, rfl⟩ := h
  intro z
  cases e : f z with
  | none => rfl
  | some r => obtain ⟨j, hj, _⟩ := h3.all z r e; omega
theorem _root_.Go.Proofs.Ytcdlnohnkdalbaa.Hp.Least.parts {f : Int → Option Int} {x : Hp.It} (h : Hp.Least f x) : f x.1 = some x.2 ∧ ∀ z r, f z = some r → x.2 ≤ r := by
  refine ⟨h.1, fun z r hz => ?_⟩
  have := h.2 z r hz
  unfold Hp.le at this
  have this : x.2 < r ∨ (x.2 = r ∧ x.1 ≤ z) := this
  omega
/-- what From tells -/
def DistPost (B : Nat) (w : World) (S : ArcsF) (k s n : Nat) (e : Ending) (w' : World) : Prop :=
  ∃ (b c : Nat) (d : Nat → Int) (t : Nat), e = .returned (.slice (some ⟨b, 0, none⟩) n c) ∧ Ow w' (.slice (some ⟨b, 0, none⟩) n c) n d ∧ B ≤ b ∧ Sound S k s n t d ∧ t ≤ 20200 ∧ Fix S k d ∧ Below B w w'

set_option maxRecDepth 100000 in
set_option maxHeartbeats 12800000 in
theorem from_any (w : World) (n k s : Nat) (V : Value) (S : ArcsF) (hV : RdA w V k S) (A : ArcsIn S k n 4294967296) (h0 : ∀ i, i < k → 0 ≤ S.ln i) (hs : s < n) (hn : n ≤ 100) (hk : k ≤ 200) :
    Calls Try.prog 46 #[.int .i64 (n : Int), V, .int .i64 (s : Int)] w (DistPost w.heap.size w S k s n) := by
  obtain ⟨VA, vc, rfl, rv⟩ := id hV
  have HV := Lib.hid rv
  have H0 := Lib.hid h0
  clear rv h0
  obtain ⟨ii, hi, hz, hsz, hby⟩ := info_parts (P := Try.prog) (e := 4) (z := .bool false) (size := 1) (bytes := 1) (by kernel_rfl)
  go_enter Try.func46, Try.ntmps46
  go_wp2_with fail
  refine wp_scope_straight ?_
  go_wp2_with fail
  refine (fine_yes _ n k s _ S hV (by omega) A hs (by omega)).mono ?_
  rintro e w1 ⟨rfl, B1⟩
  go_wp2_with fail
  refine (begin_any _ n s hs (by omega)).mono ?_
  rintro e w2 ⟨D, cD, rfl, O2, hD, b2⟩
  have hDl := O2.lt (k := D) rfl
  have B2 := B1.trans (b2.mono B1.size)
  have hDw : w.heap.size ≤ D := Nat.le_trans B1.size hD
  clear b2 hD
  go_upto_region 5 with (at_make; refine wpList_make_full _ rfl _ _ _ rfl 0 4 ii (.bool false) 1 Try.underlying47 hi hz hsz .i64 .i64 (n : Int) (n : Int) n rfl rfl rfl rfl (by rw [hby]; omega) (by unfold maxLen; omega) (Nat.zero_le _) ?_; intro w3 hm3 hg3)
  rw [show (Value.bool false).cells = #[.bool false] from rfl, Nat.mul_one, toList_madeCells_one] at hm3
  have E3 := OwB.made hm3
  have b3 : Below w2.heap.size w2 w3 := ⟨hg3.os, hg3.tape, hg3.output, hg3.size, fun k hk => hg3.block k hk (by simp)⟩
  have O3 := O2.below b3 (Nat.le_refl _)
  have hEw : w.heap.size ≤ w2.heap.size := B2.size
  have hDE : D ≠ w2.heap.size := by omega
  have B3 := B2.trans (b3.mono B2.size)
  clear hm3 hg3 b3 O2 B2 B1
  generalize w2.heap.size = E at *
  clear w2
  go_wp2_with fail
  refine (Hp.new_any _).mono ?_
  rintro e w4 ⟨g, F, rfl, H4, hF, b4⟩
  have lD := O3.lt (k := D) rfl
  have lE := E3.lt (k := E) rfl
  have P4 : PSt w w4 g D E cD n F (upd (fun _ => far) s 0) (fun _ => false) (fun _ => none) 0 :=
    ⟨O3.below b4 (Nat.le_refl _), E3.below b4 (Nat.le_refl _), H4, hDE, fun q => by have := hF _ q; omega, fun q => by have := hF _ q; omega, fun k q => by have := hF _ q; have := B3.size; omega, hDw, hEw, B3.trans (b4.mono B3.size)⟩
  clear O3 E3 H4 hF b4 lD lE B3 hDl
  go_wp2_with fail
  refine (Hp.put_any _ g F _ 0 (s : Int) 0 P4.heap ⟨by omega, by omega⟩).mono ?_
  rintro e w5 ⟨rfl, N5⟩
  obtain ⟨F5, P5, -⟩ := P4.next N5
  have J0 := Lib.hid (Dij.start (S := S) (k := k) hs)
  clear N5 P4
  go_wp2_with fail
  go_step3
  go_wp2_with fail
  go_loopg [] (opn (fun _ => false) n + 1) (fun q wr => ∃ (d : Nat → Int) (done : Nat → Bool) (f : Int → Option Int) (hn : Nat) (F : Nat → Prop) (t : Nat) (top : Int), q = opn done n + 1 ∧ t + opn done n * k ≤ n * k ∧ Hid (Dij S k s n t d done f top) ∧ PSt w wr g D E cD n F d done f hn)
  case atStart => exact ⟨_, _, _, _, F5, 0, 0, rfl, by have := Nat.mul_le_mul_right k (opn_le (fun _ => false) n); omega, J0, P5⟩
  case round =>
    clear J0 P5
    obtain ⟨d, done, f, hn', F', t, top, hq, ht, J, P⟩ := hrel
    go_wp2_with fail
    refine (Hp.take_any _ g F' f hn' P.heap).mono ?_
    rintro e w6 ⟨x, is, rfl, L, N6⟩
    rcases L with ⟨hpos, rfl, L⟩ | ⟨h0', rfl, hx⟩
    · obtain ⟨hf, hl⟩ := L.parts
      obtain ⟨X, hX, hz1, hz2, hdn, JX⟩ := J.out.take hf hl
      obtain ⟨F6, P6', -⟩ := P.next N6
      have P6 : PSt w w6 g D E cD n F6 d done (upd f x.1 none) (hn' - 1) := P6'
      clear P6'
      obtain ⟨xk, xr⟩ := x
      have hz1 : xk = (X : Int) := hz1
      have hz2 : xr = d X := hz2
      subst hz1 hz2
      have hop := opn_upd hdn hX
      have dX := JX.fin X hX (upd_same _ _ _)
      have JJ := Lib.hid JX
      have sX := JX.sound.size A (by omega) hX dX.1
      clear J P N6 hf hl JX L hpos
      have P7 := P6.alloc (.cells #[.int .i64 (X : Int), .int .i64 (d X)] 87)
      have X7 : (w6.alloc (.cells #[.int .i64 (X : Int), .int .i64 (d X)] 87)).heap[w6.heap.size]? = some (.cells #[.int .i64 (X : Int), .int .i64 (d X)] 87 (0, 0)) := heap_alloc_new _ _
      have lD := P6.dist.lt (k := D) rfl
      have lE := P6.seen.lt (k := E) rfl
      have lF := fun k hk => P6.heap.lt (k := k) hk
      have LF := Lib.hid lF
      have bw6 := P6.below.size
      clear P6 lF
      go_upto_region 8 with fail
      generalize w6.alloc (.cells #[.int .i64 (X : Int), .int .i64 (d X)] 87) = w7 at *
      generalize w6.heap.size = q at *
      clear w6
      have x0 : w7.cell? ⟨q, 0, none⟩ = some (.int .i64 (X : Int)) := blk_cell X7 0
      have sE := P7.seen.cell hX
      have fE := P7.seen.frozen X
      have P8 := P7.setE hX true
      have nE : ¬ (E = q) := by omega
      have nE' : ¬ (q = E) := by omega
      have X8 : (w7.setCell ⟨E, X, none⟩ (.bool true)).heap[q]? = some (.cells #[.int .i64 (X : Int), .int .i64 (d X)] 87 (0, 0)) := (Below.heap_setCell _ _ _ _ nE').trans X7
      have i1 : (X : Int) < (n : Int) := by omega
      clear P7 X7
      go_wp2_with fail
      clear x0 sE fE
      generalize w7.setCell ⟨E, X, none⟩ (.bool true) = w8 at *
      clear w7
      go_loopw [42] (fun u42 wr => ∃ (j : Nat) (d : Nat → Int) (f : Int → Option Int) (hn : Nat) (F : Nat → Prop) (t2 : Nat), u42 = .int .i64 (j : Int) ∧ j ≤ k ∧ t2 ≤ t + j ∧ Hid (DijX S k s n t2 d (upd done X true) f X j) ∧ PSt w wr g D E cD n F d (upd done X true) f hn ∧ ¬ F q ∧ wr.heap[q]? = some (.cells #[.int .i64 (X : Int), .int .i64 (d X)] 87 (0, 0))) (fun u42 _ => k - (intOf u42).toNat)
      case atStart => exact ⟨0, d, _, _, F6, t, rfl, Nat.zero_le _, by omega, JJ, P8, fun h => by have := LF.out _ h; omega, X8⟩
      case round =>
        clear P8 X8 w8 JJ LF sX dX
        obtain ⟨j, d2, f2, hn2, F2, t2, rfl, hj, ht2, JX, P, hFq, Xq⟩ := hrel
        by_cases hlt : j < k
        · have d1 : (j : Int) < (k : Int) := by omega
          obtain ⟨vb, cap, ev, hvb, y1, y2, y3⟩ := hV.arc hlt
          injection ev with e1 e2 e3
          subst e1 e3
          have z1 := (P.below.cell (p := ⟨vb, j * 3, none⟩) hvb).trans y1
          have z2 := (P.below.cell (p := ⟨vb, j * 3 + 1, none⟩) hvb).trans y2
          have z3 := (P.below.cell (p := ⟨vb, j * 3 + 2, none⟩) hvb).trans y3
          have ha := A.fr j hlt
          have hc := A.th j hlt
          have l1 := H0.out j hlt
          have l2 := A.hi j hlt
          have P9 := P.alloc (.cells #[.int .i64 (S.fr j : Int), .int .i64 (S.th j : Int), .int .i64 (S.ln j)] 75)
          have ql := blk_lt Xq
          have X9 : (wr.alloc (.cells #[.int .i64 (S.fr j : Int), .int .i64 (S.th j : Int), .int .i64 (S.ln j)] 75)).heap[q]? = some (.cells #[.int .i64 (X : Int), .int .i64 (d2 X)] 87 (0, 0)) := (Below.heap_alloc _ _ _ ql).trans Xq
          have Y9 : (wr.alloc (.cells #[.int .i64 (S.fr j : Int), .int .i64 (S.th j : Int), .int .i64 (S.ln j)] 75)).heap[wr.heap.size]? = some (.cells #[.int .i64 (S.fr j : Int), .int .i64 (S.th j : Int), .int .i64 (S.ln j)] 75 (0, 0)) := heap_alloc_new _ _
          have hFy : ¬ F2 wr.heap.size := fun h => by have := P.heap.lt h; omega
          have nDy : D ≠ wr.heap.size := by have := P.dist.lt (k := D) rfl; omega
          have bwr := P.below.size
          clear y1 y2 y3 P Xq
          go_upto_region 14 with fail
          clear z1 z2 z3
          generalize wr.alloc (.cells #[.int .i64 (S.fr j : Int), .int .i64 (S.th j : Int), .int .i64 (S.ln j)] 75) = w9 at *
          generalize wr.heap.size = y at *
          have x0 : w9.cell? ⟨q, 0, none⟩ = some (.int .i64 (X : Int)) := blk_cell X9 0
          have a0 : w9.cell? ⟨y, 0, none⟩ = some (.int .i64 (S.fr j : Int)) := blk_cell Y9 0
          have a1 : w9.cell? ⟨y, 1, none⟩ = some (.int .i64 (S.th j : Int)) := blk_cell Y9 1
          have a2 : w9.cell? ⟨y, 2, none⟩ = some (.int .i64 (S.ln j)) := blk_cell Y9 2
          have za := P9.dist.cell ha
          have zc := P9.dist.cell hc
          have zd := P9.seen.cell hc
          have i1 : ((S.fr j : Nat) : Int) < (n : Int) := by omega
          have i2 : ((S.th j : Nat) : Int) < (n : Int) := by omega
          by_cases hfx : S.fr j = X
          · have q1 : (((S.fr j : Nat) : Int) != (X : Int)) = false := by simp; omega
            have dX := JX.out.fin X JX.out.here.1 JX.out.here.2
            have sX := JX.out.sound.size A (by omega) JX.out.here.1 dX.1
            cases hdn2 : upd done X true (S.th j) with
            | true =>
              have JX2 := Lib.hid (JX.out.skip hlt (.inr (JX.out.seen A hlt l1 hfx hdn2)))
              rw [hdn2] at zd
              clear JX hfx hdn2 dX sX l1 l2
              generalize S.fr j = ja at *
              generalize S.th j = jc at *
              generalize S.ln j = jl at *
              go_big_quiet (fail)
              go_wp2_with fail
              go_roundw
              case rel => exact ⟨j + 1, d2, f2, hn2, F2, t2, by simp, by omega, by omega, JX2, P9.drewN nq, hFq, X9⟩
              case measure => simp [intOf]; omega
            | false =>
              rw [hdn2] at zd
              have e5 : d2 (S.fr j) = d2 X := by rw [hfx]
              have t20 : t2 ≤ 20200 := by have : n * k ≤ 100 * 200 := Nat.mul_le_mul hn hk; have : t ≤ n * k := by omega
                                          omega
              by_cases hl : d2 (S.fr j) + S.ln j < d2 (S.th j)
              · have q2 : decide (d2 (S.th j) ≤ d2 X + S.ln j) = false := by simp; omega
                have q3 : ¬ (d2 X + S.ln j ≥ d2 (S.th j)) := by omega
                have JX2 := Lib.hid (JX.out.put A hlt l1 hfx hdn2 hl (by unfold far; omega))
                have nX : S.th j ≠ X := fun e => by rw [e, upd_same] at hdn2; cases hdn2
                have eX : Hid (upd d2 (S.th j) (d2 (S.fr j) + S.ln j) X = d2 X) := Lib.hid (upd_ne (Ne.symm nX))
                have f9 := P9.dist.frozen (S.th j)
                have hkey : Hp.Key ((S.th j : Nat) : Int) := ⟨by omega, by omega⟩
                have nDq : D ≠ q := by have := P9.dist.lt (k := D) rfl; omega
                have hFx : ¬ F2 q := hFq
                rw [e5] at za JX2 eX
                have wq : wrap64 (d2 X + S.ln j) = d2 X + S.ln j := (by unfold wrap64; omega)
                clear JX hfx hdn2 dX e5 hl hFq
                generalize S.fr j = ja at *
                generalize S.ln j = jl at *
                generalize S.th j = jc at *
                go_big_quiet (fail)
                go_wp2_with fail
                have P11 := P9.drewN nq
                have X11 : (w9.drewN nq).heap[q]? = some (.cells #[.int .i64 (X : Int), .int .i64 (d2 X)] 87 (0, 0)) := X9
                have Y11 : (w9.drewN nq).heap[y]? = some (.cells #[.int .i64 (ja : Int), .int .i64 (jc : Int), .int .i64 jl] 75 (0, 0)) := Y9
                have za' : (w9.drewN nq).cell? ⟨D, ja, none⟩ = some (.int .i64 (d2 X)) := za
                have zc' : (w9.drewN nq).cell? ⟨D, jc, none⟩ = some (.int .i64 (d2 jc)) := zc
                have f9' : (w9.drewN nq).frozen? ⟨D, jc, none⟩ = false := f9
                clear P9 X9 Y9 x0 a0 a1 a2 za zc zd f9
                generalize w9.drewN nq = w11 at *
                clear w9
                have a0 : w11.cell? ⟨y, 0, none⟩ = some (.int .i64 (ja : Int)) := blk_cell Y11 0
                have a1 : w11.cell? ⟨y, 1, none⟩ = some (.int .i64 (jc : Int)) := blk_cell Y11 1
                have a2 : w11.cell? ⟨y, 2, none⟩ = some (.int .i64 jl) := blk_cell Y11 2
                refine still_tail 12 (by kernel_rfl) (by kernel_rfl) ?_
                simp only [List.take_succ_cons, List.take_zero, List.drop_succ_cons, List.drop_zero]
                repeat still_step
                with_reducible refine wpStill_nil ?_
                have P12 := (P11.setD hc (d2 X + jl)).drew
                have X12 : (w11.setCell ⟨D, jc, none⟩ (.int .i64 (d2 X + jl))).drew.heap[q]? = some (.cells #[.int .i64 (X : Int), .int .i64 (d2 X)] 87 (0, 0)) := (Below.heap_setCell _ _ _ _ (Ne.symm nDq)).trans X11
                have Y12 : (w11.setCell ⟨D, jc, none⟩ (.int .i64 (d2 X + jl))).drew.heap[y]? = some (.cells #[.int .i64 (ja : Int), .int .i64 (jc : Int), .int .i64 jl] 75 (0, 0)) := (Below.heap_setCell _ _ _ _ (Ne.symm nDy)).trans Y11
                clear P11 X11 Y11
                go_upto_region 16 with fail
                clear za' zc' f9' a0 a1 a2
                generalize (w11.setCell ⟨D, jc, none⟩ (.int .i64 (d2 X + jl))).drew = w12 at *
                have a1 : w12.cell? ⟨y, 1, none⟩ = some (.int .i64 (jc : Int)) := blk_cell Y12 1
                have zc : w12.cell? ⟨D, jc, none⟩ = some (.int .i64 (upd d2 jc (d2 X + jl) jc)) := P12.dist.cell hc
                rw [upd_same] at zc
                refine still_tail 8 (by kernel_rfl) (by kernel_rfl) ?_
                simp only [List.take_succ_cons, List.take_zero, List.drop_succ_cons, List.drop_zero]
                repeat still_step
                with_reducible refine wpStill_nil ?_
                clear a1 zc Y12
                have P13 := P12.drew
                have X13 : w12.drew.heap[q]? = some (.cells #[.int .i64 (X : Int), .int .i64 (d2 X)] 87 (0, 0)) := X12
                clear P12 X12
                generalize w12.drew = w13 at *
                go_wp2_with fail
                refine (Hp.put_any _ g F2 f2 hn2 (jc : Int) (d2 X + jl) P13.heap hkey).mono ?_
                rintro e w14 ⟨rfl, N14⟩
                obtain ⟨F14, P14, T14, hF14⟩ := P13.next N14
                have X14 := (T14.block q (blk_lt X13) hFx).trans X13
                have nF14 : ¬ F14 q := fun z => (hF14 _ z).elim hFx fun z => by have := blk_lt X13; omega
                rw [← eX.out] at X14
                clear P13 X13 N14 T14 hF14
                go_wp2_with fail
                go_roundw
                case rel => exact ⟨j + 1, _, _, _, F14, t2 + 1, by simp, by omega, by omega, JX2, P14, nF14, X14⟩
                case measure => simp [intOf]; omega
              · have q2 : decide (d2 (S.th j) ≤ d2 X + S.ln j) = true := by simp; omega
                have q3 : d2 X + S.ln j ≥ d2 (S.th j) := by omega
                have JX2 := Lib.hid (JX.out.skip hlt (.inr (by omega)))
                have wq : wrap64 (d2 X + S.ln j) = d2 X + S.ln j := (by unfold wrap64; omega)
                have q4 : ¬ (wrap64 (d2 X + S.ln j) < d2 (S.th j)) := by rw [wq]; omega
                rw [e5] at za
                clear JX hfx hdn2 dX e5 hl
                generalize S.fr j = ja at *
                generalize S.th j = jc at *
                generalize S.ln j = jl at *
                go_big_quiet (fail)
                go_wp2_with fail
                go_roundw
                case rel => exact ⟨j + 1, d2, f2, hn2, F2, t2, by simp, by omega, by omega, JX2, P9.drewN nq, hFq, X9⟩
                case measure => simp [intOf]; omega
          · have q1 : (((S.fr j : Nat) : Int) != (X : Int)) = true := by simp; omega
            have JX2 := Lib.hid (JX.out.skip hlt (.inl hfx))
            clear JX hfx l1 l2 zd zc za
            generalize S.fr j = ja at *
            generalize S.th j = jc at *
            generalize S.ln j = jl at *
            go_big_quiet (fail)
            go_wp2_with fail
            go_roundw
            case rel => exact ⟨j + 1, d2, f2, hn2, F2, t2, by simp, by omega, by omega, JX2, P9.drewN nq, hFq, X9⟩
            case measure => simp [intOf]; omega
        · have d1 : ¬ ((j : Int) < (k : Int)) := by omega
          obtain rfl : j = k := by omega
          have JD := Lib.hid JX.out.done_
          clear JX
          go_wp2_with fail
          go_roundg (opn (upd done X true) n + 1)
          case measure => omega
          case rel => exact ⟨d2, _, f2, hn2, F2, t2, _, rfl, by have : (opn (upd done X true) n + 1) * j = opn (upd done X true) n * j + j := Nat.succ_mul _ _; rw [hop] at this; omega, JD, P⟩
    · subst h0' hx
      obtain ⟨F6, P6, -⟩ := P.next N6
      have he := P.heap.empty
      have FX := Lib.hid (J.out.end_ A he)
      have SD := Lib.hid J.out.sound
      have t20 : t ≤ 20200 := by have : n * k ≤ 100 * 200 := Nat.mul_le_mul hn hk; omega
      have P7 := P6.alloc (.cells #[.int .i64 0, .int .i64 0] 87)
      have hFIN := P7.dist
      have hBEL := P7.below
      have bD := P7.bd
      clear J P N6 P6 he P7
      go_wp2_with fail
      go_ret
      exact ⟨D, cD, d, t, rfl, hFIN, bD, SD.out, t20, FX.out, hBEL⟩
end Go.Proofs.Ytcdlnohnkdalbaa.Ro
