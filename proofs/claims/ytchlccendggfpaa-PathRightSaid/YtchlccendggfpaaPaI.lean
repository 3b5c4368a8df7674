/- Walks: back, of the program's chapter 6. -/
import Derived.Test.YtchlccendggfpaaPaH
import Derived.Test.YtchlccendggfpaaPaR2
import Derived.Test.YtchlccendggfpaaPaG
import Derived.Outline
import Derived.WalkMore
import Derived.Deep.RegionHeld3
namespace Go.Proofs.Ytchlccendggfpaa.Ro
open Go.RowKit Go.Proofs
set_option linter.unusedVariables false
set_option linter.unusedSimpArgs false

theorem far_any (w : World) : Calls Try.prog 41 #[] w fun e w' => e = .returned (.agg #[.int .i64 1152921504606846976, .int .i64 1152921504606846976]) ∧ Below w.heap.size w w' := by
  go_enter Try.func41, Try.ntmps41
  go_wp2_with fail
  exact bodyPost_ret (v := .agg #[.int .i64 1152921504606846976, .int .i64 1152921504606846976]) (by simp [results, Try.results41, go_sem]) rfl ⟨rfl, below_new w _⟩

theorem alloc_two (w : World) (o1 o2 : Array Value) (t1 t2 : TypeId) : ((w.alloc (.cells o1 t1)).alloc (.cells o2 t2)).heap[w.heap.size]? = some (.cells o1 t1 (0, 0)) ∧ ((w.alloc (.cells o1 t1)).alloc (.cells o2 t2)).heap[w.heap.size + 1]? = some (.cells o2 t2 (0, 0)) ∧ Below w.heap.size w ((w.alloc (.cells o1 t1)).alloc (.cells o2 t2)) := by
  have h1 := heap_alloc_new w (.cells o1 t1)
  have h2 := heap_alloc_new (w.alloc (.cells o1 t1)) (.cells o2 t2)
  have e : (w.alloc (.cells o1 t1)).heap.size = w.heap.size + 1 := by simp
  exact ⟨(Below.heap_alloc _ _ _ (by rw [e]; omega)).trans h1, by rw [e] at h2; exact h2, ((Below.refl _ w).alloc (Nat.le_refl _) _).alloc (by rw [e]; omega) _⟩
theorem blk_free {w : World} {g : Nat} {cs : Array Value} {t : TypeId} (h : w.heap[g]? = some (.cells cs t (0, 0))) (i : Nat) : w.frozen? ⟨g, i, none⟩ = false := by
  simp [World.frozen?, h]

/-- what back tells -/
def BackPost (w : World) (S : ArcsF) (k t n : Nat) (e : Ending) (w' : World) : Prop :=
  ∃ (b c T : Nat) (g a : Nat → Int), e = .returned (.slice (some ⟨b, 0, none⟩) n c) ∧ OwP w' b n g a ∧ w.heap.size ≤ b ∧ Sound2 S k t n T g a ∧ T ≤ 20200 ∧ Fix2 S k g a ∧ Below w.heap.size w w'

set_option maxRecDepth 100000 in
set_option maxHeartbeats 12800000 in
theorem back_any (w : World) (n k t : Nat) (V : Value) (S : ArcsF) (hV : RdA w V k S) (A : ArcsIn S k n 4294967296) (h0 : ∀ i, i < k → 0 ≤ S.ln i) (ht : t < n) (hn : n ≤ 100) (hk : k ≤ 200) :
    Calls Try.prog 40 #[.int .i64 (n : Int), V, .int .i64 (t : Int)] w (BackPost w S k t n) := by
  obtain ⟨VA, vc, rfl, rv⟩ := id hV
  have HV := Lib.hid rv
  have H0 := Lib.hid h0
  clear rv h0
  go_enter Try.func40, Try.ntmps40
  go_wp2_with fail
  refine (far_any _).mono ?_
  rintro e w1 ⟨rfl, B1⟩
  go_wp2_with fail
  have c0 : (w1.alloc (.cells #[.int .i64 1152921504606846976, .int .i64 1152921504606846976] 65)).cell? ⟨w1.heap.size, 0, none⟩ = some (.int .i64 1152921504606846976) := by rw [blk_cell (heap_alloc_new w1 _)]; rfl
  have c1 : (w1.alloc (.cells #[.int .i64 1152921504606846976, .int .i64 1152921504606846976] 65)).cell? ⟨w1.heap.size, 1, none⟩ = some (.int .i64 1152921504606846976) := by rw [blk_cell (heap_alloc_new w1 _)]; rfl
  refine (repeat_pairs _ 1152921504606846976 w1.heap.size n (by omega) c0 c1 (by simp)).mono ?_
  rintro e w3 ⟨cap, rfl, O3, b3⟩
  have b1 := below_new w1 (.cells #[.int .i64 1152921504606846976, .int .i64 1152921504606846976] 65)
  have B3 := B1.trans ((b1.trans (b3.mono b1.size)).mono B1.size)
  have hsz : w.heap.size ≤ (w1.alloc (.cells #[.int .i64 1152921504606846976, .int .i64 1152921504606846976] 65)).heap.size := Nat.le_trans B1.size b1.size
  clear c0 c1 b1 b3 B1
  generalize (w1.alloc (.cells #[.int .i64 1152921504606846976, .int .i64 1152921504606846976] 65)).heap.size = b at *
  generalize w1.heap.size = z at *
  clear w1
  have co := O3.one ht
  have cp := O3.two ht
  have f0 := O3.frozen (t * 2)
  have f1 := O3.frozen (t * 2 + 1)
  have it : (t : Int) < (n : Int) := by omega
  have O5 : OwP ((w3.setCell ⟨b, t * 2, none⟩ (.int .i64 0)).setCell ⟨b, t * 2 + 1, none⟩ (.int .i64 0)) b n (upd (fun _ => far) t 0) (upd (fun _ => far) t 0) := O3.set ht 0 0
  have B5 := (B3.setCell (p := ⟨b, t * 2, none⟩) hsz (.int .i64 0)).setCell (p := ⟨b, t * 2 + 1, none⟩) hsz (.int .i64 0)
  have HOB := Lib.hid (And.intro O5 B5)
  clear O5 B5 O3 B3
  go_wp2_with fail
  obtain ⟨O5, B5⟩ := HOB.out
  clear HOB co cp f0 f1 it
  generalize (w3.setCell ⟨b, t * 2, none⟩ (.int .i64 0)).setCell ⟨b, t * 2 + 1, none⟩ (.int .i64 0) = w5 at *
  clear w3
  have S0 := Lib.hid (Sound2.start S k t n)
  have U0 := Lib.hid (UpTo2.start S k t n)
  go_loopg [8] n (fun q u8 wr => ∃ (gr : Bool) (r T : Nat) (g a : Nat → Int), u8 = .bool gr ∧ n ≤ q + r ∧ r ≤ n ∧ T ≤ r * k ∧ Hid (gr = true → r < n) ∧ Hid (Sound2 S k t n T g a) ∧ Hid (UpTo2 S k t g a r) ∧ Hid (gr = false → Fix2 S k g a) ∧ OwP wr b n g a ∧ Below w.heap.size w wr)
  case atStart => exact ⟨true, 0, 0, _, _, rfl, by omega, Nat.zero_le _, by omega, Lib.hid (fun _ => by omega), S0, U0, Lib.hid (fun h => by cases h), O5, B5⟩
  case round =>
    clear S0 U0 O5 B5 w5
    obtain ⟨gr, r, T, g, a, rfl, hq, hrn, hT, HG, SD, UD, FX, O, B⟩ := hrel
    cases gr with
    | false =>
      have FXX := Lib.hid (FX.out rfl)
      have t2 : T ≤ 20200 := by have : r * k ≤ 100 * 200 := Nat.mul_le_mul (by omega) hk; omega
      clear FX HG UD
      go_wp2_with fail
      go_ret
      exact ⟨b, cap, T, g, a, rfl, O, hsz, SD.out, t2, FXX.out, B⟩
    | true =>
      have hr := HG.out rfl
      obtain ⟨wo, rfl⟩ : ∃ wo, wo = wr := ⟨_, rfl⟩
      have RD := Lib.hid (Rnd2.start UD.out)
      clear FX HG UD
      go_wp2_with fail
      go_loopw [8, 24] (fun u8 u24 wr => ∃ (gr : Bool) (j T : Nat) (g a : Nat → Int), u8 = .bool gr ∧ u24 = .int .i64 (j : Int) ∧ j ≤ k ∧ T ≤ r * k + j ∧ Hid (Sound2 S k t n T g a) ∧ Hid (Rnd2 S k t g a r j) ∧ Hid (gr = false → ∀ i, i < j → g (S.th i) ≠ far → g (S.fr i) < g (S.th i) + S.ln i ∨ (g (S.fr i) = g (S.th i) + S.ln i ∧ a (S.fr i) ≤ a (S.th i) + 1)) ∧ Hid (gr = true → r + 1 < n) ∧ OwP wr b n g a ∧ Below w.heap.size w wr) (fun _ u24 _ => k - (intOf u24).toNat)
      case atStart => exact ⟨false, 0, T, g, a, rfl, rfl, Nat.zero_le _, by omega, SD, RD, Lib.hid (fun _ i hi => absurd hi (Nat.not_lt_zero i)), Lib.hid (fun h => by cases h), O, B⟩
      case round =>
        clear SD RD O B hT wo
        obtain ⟨gr, j, T, g, a, rfl, rfl, hj, hT, SD, RD, FX, HG, O, B⟩ := hrel
        have t2 : T ≤ 20200 := by
          have : (r + 1) * k ≤ 100 * 200 := Nat.mul_le_mul (by omega) hk
          have e : (r + 1) * k = r * k + k := Nat.succ_mul _ _
          omega
        by_cases hlt : j < k
        · have d1 : (j : Int) < (k : Int) := by omega
          obtain ⟨vb, cap', ev, hvb, y1, y2, y3⟩ := hV.arc hlt
          injection ev with e1 e2 e3
          subst e1 e3
          have z1 := (B.cell (p := ⟨vb, j * 3, none⟩) hvb).trans y1
          have z2 := (B.cell (p := ⟨vb, j * 3 + 1, none⟩) hvb).trans y2
          have z3 := (B.cell (p := ⟨vb, j * 3 + 2, none⟩) hvb).trans y3
          have ha := A.fr j hlt
          have hc := A.th j hlt
          have l1 := H0.out j hlt
          have l2 := A.hi j hlt
          have i1 : ((S.fr j : Nat) : Int) < (n : Int) := by omega
          have i2 : ((S.th j : Nat) : Int) < (n : Int) := by omega
          have v1 := O.one hc
          have v2 := O.two hc
          have lb := O.lt
          clear y1 y2 y3
          go_upto_region 10 with fail
          obtain ⟨hA, hX, BW⟩ := alloc_two wr #[.int .i64 (S.fr j : Int), .int .i64 (S.th j : Int), .int .i64 (S.ln j)] #[.int .i64 (g (S.th j)), .int .i64 (a (S.th j))] 30 65
          have OW := O.below BW (Nat.le_refl _)
          have B6 := B.trans (BW.mono B.size)
          have lb2 : b < wr.heap.size := lb
          have bwr := B.size
          clear BW O B z1 z2 z3 v1 v2
          generalize (wr.alloc (.cells #[.int .i64 (S.fr j : Int), .int .i64 (S.th j : Int), .int .i64 (S.ln j)] 30)).alloc (.cells #[.int .i64 (g (S.th j)), .int .i64 (a (S.th j))] 65) = W at *
          generalize wr.heap.size = y at *
          have lA := blk_lt hA
          have lX := blk_lt hX
          have x0 : W.cell? ⟨y + 1, 0, none⟩ = some (.int .i64 (g (S.th j))) := blk_cell hX 0
          have x1 : W.cell? ⟨y + 1, 1, none⟩ = some (.int .i64 (a (S.th j))) := blk_cell hX 1
          by_cases hf : g (S.th j) = far
          · have ha2 : a (S.th j) = far := by
              rcases SD.out.each _ hc with q | ⟨m, _, _, w⟩
              · exact q.2
              · have h5 := (w.bound A.rev).2
                have : (m : Int) * 4294967296 ≤ T * 4294967296 := by omega
                unfold far at hf
                omega
            rw [hf] at x0
            rw [ha2] at x1
            unfold far at x0 x1
            go_region_held3 (fun w' => w'.cell? ⟨y + 1, 0, none⟩ = some (.int .i64 1152921504606846976) ∧ w'.cell? ⟨y + 1, 1, none⟩ = some (.int .i64 1152921504606846976))
              (first | with_reducible exact k1 | go_keep)
              (((with_reducible refine (far_any _).mono ?_); rintro e W2 ⟨rfl, bW⟩; have k1 : W2.cell? ⟨y + 1, 0, none⟩ = some (.int .i64 1152921504606846976) ∧ W2.cell? ⟨y + 1, 1, none⟩ = some (.int .i64 1152921504606846976) := ⟨(bW.cell (p := ⟨y + 1, 0, none⟩) lX).trans x0, (bW.cell (p := ⟨y + 1, 1, none⟩) lX).trans x1⟩))
            have RD2 := Lib.hid (RD.out.skip A (by omega) hlt (by unfold far; omega) (.inl hf))
            have FX2 : Hid (gr = false → ∀ i, i < j + 1 → g (S.th i) ≠ far → g (S.fr i) < g (S.th i) + S.ln i ∨ (g (S.fr i) = g (S.th i) + S.ln i ∧ a (S.fr i) ≤ a (S.th i) + 1)) := Lib.hid fun hg i hi h1 => by
              rcases Nat.lt_or_ge i j with q | q
              · exact FX.out hg i q h1
              · rw [show i = j by omega] at h1; exact absurd hf h1
            have bW2 : Below W.heap.size W W2 := (⟨rfl, rfl, rfl, Nat.le_refl _, fun _ _ => rfl⟩ : Below W.heap.size W W.drew).trans bW
            have O2 := OW.below bW2 (Nat.le_refl _)
            have B2 := B6.trans (bW2.mono B6.size)
            clear hf ha2 FX RD bW bW2
            go_wp2_with fail
            go_roundw
            case rel => exact ⟨gr, j + 1, T, g, a, rfl, by simp, by omega, by omega, SD, RD2, FX2, HG, O2, B2⟩
            case measure => simp [intOf]; omega
          · have q1 : (g (S.th j) == 1152921504606846976) = false := by simp; exact hf
            have HF := Lib.hid hf
            clear hf
            go_region_held3 (fun w' => w'.cell? ⟨y + 1, 0, none⟩ = some (.int .i64 (g (S.th j))) ∧ w'.cell? ⟨y + 1, 1, none⟩ = some (.int .i64 (a (S.th j))))
              (first | with_reducible exact k1 | go_keep)
              (((with_reducible refine (far_any _).mono ?_); rintro e W2 ⟨rfl, bW⟩; have k1 : W2.cell? ⟨y + 1, 0, none⟩ = some (.int .i64 (g (S.th j))) ∧ W2.cell? ⟨y + 1, 1, none⟩ = some (.int .i64 (a (S.th j))) := ⟨(bW.cell (p := ⟨y + 1, 0, none⟩) lX).trans x0, (bW.cell (p := ⟨y + 1, 1, none⟩) lX).trans x1⟩))
            have bW2 : Below W.heap.size W W2 := (⟨rfl, rfl, rfl, Nat.le_refl _, fun _ _ => rfl⟩ : Below W.heap.size W W.drew).trans bW
            have O2 := OW.below bW2 (Nat.le_refl _)
            have B2 := B6.trans (bW2.mono B6.size)
            have hA2 := (bW2.block y lA).trans hA
            have hX2 := (bW2.block (y + 1) lX).trans hX
            have szg := SD.out.size A (by omega) hc HF.out
            clear bW bW2 OW B6 hA hX x0 x1 lA lX k1
            have A0 : W2.cell? ⟨y, 0, none⟩ = some (.int .i64 (S.fr j : Int)) := blk_cell hA2 0
            have A2 : W2.cell? ⟨y, 2, none⟩ = some (.int .i64 (S.ln j)) := blk_cell hA2 2
            have x0 : W2.cell? ⟨y + 1, 0, none⟩ = some (.int .i64 (g (S.th j))) := blk_cell hX2 0
            have x1 : W2.cell? ⟨y + 1, 1, none⟩ = some (.int .i64 (a (S.th j))) := blk_cell hX2 1
            have fz0 := blk_free hX2 0
            have fz1 := blk_free hX2 1
            have n1 : ¬ (y = y + 1) := by omega
            have n2 : ¬ (b = y + 1) := by omega
            have n3 : ¬ (b = y) := by omega
            have g1 : -90000000000000 ≤ g (S.th j) + S.ln j := by omega
            have g2 : g (S.th j) + S.ln j ≤ 90000000000000 := by omega
            have g3 : 0 ≤ a (S.th j) + 1 := by omega
            have g4 : a (S.th j) + 1 ≤ 30000 := by omega
            go_upto_region 12 with fail
            have hX3 : ((W2.setCell ⟨y + 1, 0, none⟩ (.int .i64 (g (S.th j) + S.ln j))).setCell ⟨y + 1, 1, none⟩ (.int .i64 (a (S.th j) + 1))).heap[y + 1]? = some (.cells #[.int .i64 (g (S.th j) + S.ln j), .int .i64 (a (S.th j) + 1)] 65 (0, 0)) := blk_set2 (blk_set2 hX2 _) _
            have hA3 : ((W2.setCell ⟨y + 1, 0, none⟩ (.int .i64 (g (S.th j) + S.ln j))).setCell ⟨y + 1, 1, none⟩ (.int .i64 (a (S.th j) + 1))).heap[y]? = some (.cells #[.int .i64 (S.fr j : Int), .int .i64 (S.th j : Int), .int .i64 (S.ln j)] 30 (0, 0)) := (Below.heap_setCell _ _ _ _ n1).trans ((Below.heap_setCell _ _ _ _ n1).trans hA2)
            have O3 : OwP ((W2.setCell ⟨y + 1, 0, none⟩ (.int .i64 (g (S.th j) + S.ln j))).setCell ⟨y + 1, 1, none⟩ (.int .i64 (a (S.th j) + 1))) b n g a := O2.keep ((Below.heap_setCell _ _ _ _ n2).trans (Below.heap_setCell _ _ _ _ n2))
            have hy1 : w.heap.size ≤ y + 1 := by omega
            have B3 := (B2.setCell (p := ⟨y + 1, 0, none⟩) hy1 (.int .i64 (g (S.th j) + S.ln j))).setCell (p := ⟨y + 1, 1, none⟩) hy1 (.int .i64 (a (S.th j) + 1))
            clear A0 A2 x0 x1 fz0 fz1 hX2 hA2 O2 B2
            generalize (W2.setCell ⟨y + 1, 0, none⟩ (.int .i64 (g (S.th j) + S.ln j))).setCell ⟨y + 1, 1, none⟩ (.int .i64 (a (S.th j) + 1)) = W3 at *
            have A0 : W3.cell? ⟨y, 0, none⟩ = some (.int .i64 (S.fr j : Int)) := blk_cell hA3 0
            have v1 := O3.one ha
            have v2 := O3.two ha
            go_upto_region 13 with fail
            have lA3 := blk_lt hA3
            have lX3 := blk_lt hX3
            have lb3 := O3.lt
            have b4 := below_new W3 (.cells #[.int .i64 (g (S.fr j)), .int .i64 (a (S.fr j))] 65)
            have hA4 := (b4.block y lA3).trans hA3
            have hX4 := (b4.block (y + 1) lX3).trans hX3
            have hY4 := heap_alloc_new W3 (.cells #[.int .i64 (g (S.fr j)), .int .i64 (a (S.fr j))] 65)
            have O4 := O3.below b4 (Nat.le_refl _)
            have B4 := B3.trans (b4.mono B3.size)
            have n4 : ¬ (b = W3.heap.size) := by omega
            clear A0 v1 v2 b4 hA3 hX3 O3 B3
            generalize W3.alloc (.cells #[.int .i64 (g (S.fr j)), .int .i64 (a (S.fr j))] 65) = W4 at *
            generalize W3.heap.size = q at *
            clear W3
            have A0 : W4.cell? ⟨y, 0, none⟩ = some (.int .i64 (S.fr j : Int)) := blk_cell hA4 0
            have x0 : W4.cell? ⟨y + 1, 0, none⟩ = some (.int .i64 (g (S.th j) + S.ln j)) := blk_cell hX4 0
            have x1 : W4.cell? ⟨y + 1, 1, none⟩ = some (.int .i64 (a (S.th j) + 1)) := blk_cell hX4 1
            have w0 : W4.cell? ⟨q, 0, none⟩ = some (.int .i64 (g (S.fr j))) := blk_cell hY4 0
            have w1 : W4.cell? ⟨q, 1, none⟩ = some (.int .i64 (a (S.fr j))) := blk_cell hY4 1
            by_cases hb : g (S.th j) + S.ln j < g (S.fr j) ∨ (g (S.th j) + S.ln j = g (S.fr j) ∧ a (S.th j) + 1 < a (S.fr j))
            · have SD2 := Lib.hid (SD.out.step A H0.out ht hlt HF.out hb)
              have RD2 := Lib.hid (RD.out.take hlt hb)
              have HG2 : Hid (true = true → r + 1 < n) := Lib.hid fun _ => by
                rcases Nat.lt_or_ge (r + 1) n with q | q
                · exact q
                · have := RD.out.old.fix SD.out A H0.out ht (by omega) j hlt HF.out
                  omega
              have f2 := O4.frozen (S.fr j * 2)
              have f3 := O4.frozen (S.fr j * 2 + 1)
              have v1 := O4.one ha
              have v2 := O4.two ha
              have HOB := Lib.hid (And.intro (O4.set ha (g (S.th j) + S.ln j) (a (S.th j) + 1)) ((B4.setCell (p := ⟨b, S.fr j * 2, none⟩) hsz (.int .i64 (g (S.th j) + S.ln j))).setCell (p := ⟨b, S.fr j * 2 + 1, none⟩) hsz (.int .i64 (a (S.th j) + 1))))
              have HB := Lib.hid hb
              clear O4 B4 SD RD FX HG hb hA4 hX4 hY4
              by_cases hb : g (S.th j) + S.ln j < g (S.fr j)
              · have q2 : decide (g (S.th j) + S.ln j < g (S.fr j)) = true := by simp; exact hb
                go_wp2_with fail
                go_roundw
                case rel => exact ⟨true, j + 1, T + 1, _, _, rfl, by simp, by omega, by omega, SD2, RD2, Lib.hid (fun h => by cases h), HG2, HOB.out.1, HOB.out.2⟩
                case measure => simp [intOf]; omega
              · have q2 : decide (g (S.th j) + S.ln j < g (S.fr j)) = false := by simp; omega
                have he := HB.out.resolve_left hb
                have q3 : (g (S.th j) + S.ln j == g (S.fr j)) = true := by simp; exact he.1
                have q4 : decide (a (S.th j) + 1 < a (S.fr j)) = true := by simp; exact he.2
                have q6 := he.2
                clear he
                go_wp2_with fail
                go_roundw
                case rel => exact ⟨true, j + 1, T + 1, _, _, rfl, by simp, by omega, by omega, SD2, RD2, Lib.hid (fun h => by cases h), HG2, HOB.out.1, HOB.out.2⟩
                case measure => simp [intOf]; omega
            · have q2 : decide (g (S.th j) + S.ln j < g (S.fr j)) = false := by simp; omega
              have q5 : ¬ (g (S.th j) + S.ln j < g (S.fr j)) := by omega
              have RD2 := Lib.hid (RD.out.skip A (by omega) hlt (by unfold far; omega) (.inr (by omega)))
              have FX2 : Hid (gr = false → ∀ i, i < j + 1 → g (S.th i) ≠ far → g (S.fr i) < g (S.th i) + S.ln i ∨ (g (S.fr i) = g (S.th i) + S.ln i ∧ a (S.fr i) ≤ a (S.th i) + 1)) := Lib.hid fun hg i hi h1 => by
                rcases Nat.lt_or_ge i j with q | q
                · exact FX.out hg i q h1
                · rw [show i = j by omega]; omega
              by_cases he : g (S.th j) + S.ln j = g (S.fr j)
              · have q3 : (g (S.th j) + S.ln j == g (S.fr j)) = true := by simp; exact he
                have q4 : decide (a (S.th j) + 1 < a (S.fr j)) = false := by simp; omega
                have q6 : ¬ (a (S.th j) + 1 < a (S.fr j)) := by omega
                have HE := Lib.hid he
                clear he hb FX RD
                go_wp2_with fail
                go_roundw
                case rel => exact ⟨gr, j + 1, T, g, a, rfl, by simp, by omega, by omega, SD, RD2, FX2, HG, O4, B4⟩
                case measure => simp [intOf]; omega
              · have q3 : (g (S.th j) + S.ln j == g (S.fr j)) = false := by simp; exact he
                clear he hb FX RD
                go_wp2_with fail
                go_roundw
                case rel => exact ⟨gr, j + 1, T, g, a, rfl, by simp, by omega, by omega, SD, RD2, FX2, HG, O4, B4⟩
                case measure => simp [intOf]; omega
        · have d1 : ¬ ((j : Int) < (k : Int)) := by omega
          obtain rfl : k = j := by omega
          have UD2 := Lib.hid (RD.out.done SD.out.here)
          have FX2 : Hid (gr = false → Fix2 S k g a) := Lib.hid fun hg i hi h1 => FX.out hg i hi h1
          have hT2 : T ≤ (r + 1) * k := by rw [Nat.succ_mul]; exact hT
          clear FX RD
          go_wp2_with fail
          go_roundg (n - (r + 1))
          case measure => omega
          case rel => exact ⟨gr, r + 1, T, g, a, rfl, by omega, by omega, hT2, HG, SD, UD2, FX2, O, B⟩
end Go.Proofs.Ytchlccendggfpaa.Ro
