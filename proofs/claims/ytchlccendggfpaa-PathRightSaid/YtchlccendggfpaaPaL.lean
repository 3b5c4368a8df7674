/- Walks: Way, of the document's chapter 6. -/
import Derived.Test.YtchlccendggfpaaPaK
import Derived.Test.YtchlccendggfpaaPaN
import Derived.StillTailTactics
namespace Go.Proofs.Ytchlccendggfpaa.Ro
open Go.RowKit Go.Proofs Go.Maps
set_option linter.unusedVariables false
set_option linter.unusedSimpArgs false

/-- k arcs in a block of the call's own -/
def OwT (w : World) (b k : Nat) (x y z : Nat → Int) : Prop := ∃ cur, w.heap[b]? = some (.cells cur 30 (0, 0)) ∧ ∀ j, j < k → cur[j * 3]? = some (.int .i64 (x j)) ∧ cur[j * 3 + 1]? = some (.int .i64 (y j)) ∧ cur[j * 3 + 2]? = some (.int .i64 (z j))
section
variable {w w' : World} {b k B : Nat} {x y z : Nat → Int}
theorem OwT.lt (h : OwT w b k x y z) : b < w.heap.size := by
  obtain ⟨cur, h1, _⟩ := h
  exact blk_lt h1
theorem OwT.keep (h : OwT w b k x y z) (hb : w'.heap[b]? = w.heap[b]?) : OwT w' b k x y z := by
  obtain ⟨cur, h1, h2⟩ := h
  exact ⟨cur, hb.trans h1, h2⟩
theorem OwT.below (h : OwT w b k x y z) (hb : Below B w w') (hB : w.heap.size ≤ B) : OwT w' b k x y z := h.keep (hb.block b (Nat.lt_of_lt_of_le h.lt hB))
theorem OwT.cells (h : OwT w b k x y z) {j : Nat} (hj : j < k) : w.cell? ⟨b, j * 3, none⟩ = some (.int .i64 (x j)) ∧ w.cell? ⟨b, j * 3 + 1, none⟩ = some (.int .i64 (y j)) ∧ w.cell? ⟨b, j * 3 + 2, none⟩ = some (.int .i64 (z j)) := by
  obtain ⟨cur, h1, h2⟩ := h
  rw [blk_cell h1, blk_cell h1, blk_cell h1]; exact h2 j hj
theorem OwT.frozen (h : OwT w b k x y z) (j : Nat) : w.frozen? ⟨b, j, none⟩ = false := by
  obtain ⟨cur, h1, h2⟩ := h
  simp [World.frozen?, h1]
theorem OwT.congr {x' y' z' : Nat → Int} (h : OwT w b k x y z) (e : ∀ j, j < k → x j = x' j ∧ y j = y' j ∧ z j = z' j) : OwT w b k x' y' z' := by
  obtain ⟨cur, h1, h2⟩ := h
  refine ⟨cur, h1, fun j hj => ?_⟩
  obtain ⟨e1, e2, e3⟩ := e j hj
  rw [← e1, ← e2, ← e3]; exact h2 j hj
theorem OwT.set (h : OwT w b k x y z) {i : Nat} (hi : i < k) (p q r : Int) : OwT (((w.setCell ⟨b, i * 3, none⟩ (.int .i64 p)).setCell ⟨b, i * 3 + 1, none⟩ (.int .i64 q)).setCell ⟨b, i * 3 + 2, none⟩ (.int .i64 r)) b k (upd x i p) (upd y i q) (upd z i r) := by
  obtain ⟨cur, h1, h2⟩ := h
  have lt : i * 3 + 2 < cur.size := by
    have := (h2 i hi).2.2
    rcases Nat.lt_or_ge (i * 3 + 2) cur.size with q | q
    · exact q
    · rw [Array.getElem?_eq_none q] at this; cases this
  refine ⟨_, blk_set2 (blk_set2 (blk_set2 h1 _) _) _, fun j hj => ?_⟩
  by_cases e : j = i
  · subst e
    rw [upd_same, upd_same, upd_same]
    refine ⟨?_, ?_, ?_⟩
    · rw [Array.getElem?_setIfInBounds_ne (by omega), Array.getElem?_setIfInBounds_ne (by omega), Array.getElem?_setIfInBounds_self_of_lt (by omega)]
    · rw [Array.getElem?_setIfInBounds_ne (by omega), Array.getElem?_setIfInBounds_self_of_lt (by simp; omega)]
    · rw [Array.getElem?_setIfInBounds_self_of_lt (by simp; omega)]
  · rw [upd_ne e, upd_ne e, upd_ne e]
    obtain ⟨k1, k2, k3⟩ := h2 j hj
    exact ⟨by rw [Array.getElem?_setIfInBounds_ne (by omega), Array.getElem?_setIfInBounds_ne (by omega), Array.getElem?_setIfInBounds_ne (by omega)]; exact k1, by rw [Array.getElem?_setIfInBounds_ne (by omega), Array.getElem?_setIfInBounds_ne (by omega), Array.getElem?_setIfInBounds_ne (by omega)]; exact k2, by rw [Array.getElem?_setIfInBounds_ne (by omega), Array.getElem?_setIfInBounds_ne (by omega), Array.getElem?_setIfInBounds_ne (by omega)]; exact k3⟩
theorem OwT.rdA {c : Nat} {S : ArcsF} (h : OwT w b k (fun j => (S.fr j : Int)) (fun j => (S.th j : Int)) S.ln) : RdA w (.slice (some ⟨b, 0, none⟩) k c) k S :=
  ⟨_, c, rfl, fun _ => ⟨b, rfl, h.lt, fun i hi => h.cells hi⟩⟩
theorem toList_madeCells_three (z : Value) (n : Nat) : (madeCells #[z, z, z] (n * 3)).toList = List.replicate (n * 3) z := by
  apply List.ext_getElem?
  intro j
  by_cases hj : j < n * 3
  · have h2 : j % 3 = 0 ∨ j % 3 = 1 ∨ j % 3 = 2 := by omega
    rcases h2 with h2 | h2 | h2 <;> simp [madeCells, hj, h2]
  · simp [madeCells, hj]
theorem OwT.made (h : w.ownsRow 0 30 3 (.slice (some ⟨b, 0, none⟩) k k) k (List.replicate (k * 3) (.int .i64 0))) : OwT w b k (fun _ => 0) (fun _ => 0) (fun _ => 0) := by
  have hc := fun i (hi : i < k * 3) => h.cellAt i hi
  obtain ⟨_, h1⟩ := h
  rcases h1 with ⟨e, _⟩ | ⟨b', cap', cur, e, _, hg, _⟩
  · simp at e
  · simp only [Value.slice.injEq, Option.some.injEq, Addr.mk.injEq, and_true, true_and] at e
    obtain ⟨rfl, rfl⟩ := e
    refine ⟨cur, hg, fun j hj => ⟨?_, ?_, ?_⟩⟩
    · have := hc (j * 3) (by omega)
      rw [blk_cell hg] at this; rw [this, List.getElem?_replicate, if_pos (by omega)]
    · have := hc (j * 3 + 1) (by omega)
      rw [blk_cell hg] at this; rw [this, List.getElem?_replicate, if_pos (by omega)]
    · have := hc (j * 3 + 2) (by omega)
      rw [blk_cell hg] at this; rw [this, List.getElem?_replicate, if_pos (by omega)]
end

theorem Best.small {S : ArcsF} {k n t v : Nat} {L : Int} {D F : Nat → Int} (b : Best S k t n D F) (A : ArcsIn S k n L) (ht : t < n) (h0 : ∀ i, i < k → 0 ≤ S.ln i) (hv : v < n) (hd : D v ≠ far) : 0 ≤ F v ∧ F v < n := by
  have N : NoNeg S.rev k t := fun v c m c' m' _ w => w.nonneg (S := S.rev) h0
  obtain ⟨m, hm, w⟩ := b.way v hv hd
  obtain ⟨c', m', w', k1, k2⟩ := N.short A.rev ht m m (Nat.le_refl _) _ _ w
  have := b.least v _ _ hv w'
  omega

set_option maxRecDepth 100000 in
set_option maxHeartbeats 25600000 in
theorem refWay_any (w : World) (n k s t : Nat) (V : Value) (S : ArcsF) (hV : RdA w V k S) (A : ArcsIn S k n 4294967296) (h0 : ∀ i, i < k → 0 ≤ S.ln i) (hs : s < n) (ht : t < n) (hn : n ≤ 100) (hk : k ≤ 200) :
    Calls Try.prog 25 #[.int .i64 (n : Int), V, .int .i64 (s : Int), .int .i64 (t : Int)] w (WayPost w S k s t n) := by
  obtain ⟨VA, vc, rfl, rv⟩ := id hV
  have HV := Lib.hid rv
  have H0 := Lib.hid h0
  clear rv h0
  obtain ⟨ii, hi, hz, hsz, hby⟩ := info_parts (P := Try.prog) (e := 30) (z := .agg #[.int .i64 0, .int .i64 0, .int .i64 0]) (size := 3) (bytes := 24) (by kernel_rfl)
  obtain ⟨i2, hi2, hz2, hsz2, hby2⟩ := info_parts (P := Try.prog) (e := 3) (z := .int .i64 0) (size := 1) (bytes := 8) (by kernel_rfl)
  go_enter Try.func25, Try.ntmps25
  go_upto_region 2 with (at_make; refine wpList_make_full _ rfl _ _ _ rfl 0 30 ii (.agg #[.int .i64 0, .int .i64 0, .int .i64 0]) 3 Try.underlying25 hi hz hsz .i64 .i64 (k : Int) (k : Int) k rfl rfl rfl rfl (by rw [hby]; omega) (by unfold maxLen; omega) (Nat.zero_le _) ?_; intro w3 hm3 hg3)
  rw [show (Value.agg #[.int .i64 0, .int .i64 0, .int .i64 0]).cells = #[.int .i64 0, .int .i64 0, .int .i64 0] from rfl, toList_madeCells_three] at hm3
  have O3 := OwT.made hm3
  have B3 : Below w.heap.size w w3 := ⟨hg3.os, hg3.tape, hg3.output, hg3.size, fun k hk => hg3.block k hk (by simp)⟩
  clear hm3 hg3 ii hi hz hsz hby
  generalize hb : w.heap.size = b at *
  have hbw : w.heap.size ≤ b := by omega
  have hwb : b ≤ w.heap.size := by omega
  clear hb
  go_wp2_with fail
  go_loopw [11] (fun u11 wr => ∃ j : Nat, u11 = .int .i64 (j : Int) ∧ j ≤ k ∧ OwT wr b k (fun i => if i < j then (S.th i : Int) else 0) (fun i => if i < j then (S.fr i : Int) else 0) (fun i => if i < j then S.ln i else 0) ∧ Below b w wr) (fun u11 _ => k - (intOf u11).toNat)
  case atStart => exact ⟨0, rfl, Nat.zero_le _, O3.congr fun j _ => by simp, B3⟩
  case round =>
    clear O3 B3 w3
    obtain ⟨j, rfl, hj, O, B⟩ := hrel
    by_cases hlt : j < k
    · have d1 : (j : Int) < (k : Int) := by omega
      obtain ⟨vb, cap', ev, hvb, y1, y2, y3⟩ := hV.arc hlt
      injection ev with e1 e2 e3
      subst e1 e3
      have z1 := (B.cell (p := ⟨vb, j * 3, none⟩) (show vb < b by omega)).trans y1
      have z2 := (B.cell (p := ⟨vb, j * 3 + 1, none⟩) (show vb < b by omega)).trans y2
      have z3 := (B.cell (p := ⟨vb, j * 3 + 2, none⟩) (show vb < b by omega)).trans y3
      obtain ⟨k1, k2, k3⟩ := O.cells hlt
      have f1 := O.frozen (j * 3)
      have f2 := O.frozen (j * 3 + 1)
      have f3 := O.frozen (j * 3 + 2)
      have O5 := (O.set hlt (S.th j : Int) (S.fr j : Int) (S.ln j)).congr (x' := fun i => if i < j + 1 then (S.th i : Int) else 0) (y' := fun i => if i < j + 1 then (S.fr i : Int) else 0) (z' := fun i => if i < j + 1 then S.ln i else 0) (fun i hi => by
        by_cases e : i = j
        · subst e; rw [upd_same, upd_same, upd_same, if_pos (by omega), if_pos (by omega), if_pos (by omega)]; exact ⟨rfl, rfl, rfl⟩
        · rw [upd_ne e, upd_ne e, upd_ne e]
          by_cases q : i < j
          · simp only [if_pos q, if_pos (show i < j + 1 by omega)]; exact ⟨trivial, trivial, trivial⟩
          · simp only [if_neg q, if_neg (show ¬ i < j + 1 by omega)]; exact ⟨trivial, trivial, trivial⟩)
      have B5 := ((B.setCell (p := ⟨b, j * 3, none⟩) (Nat.le_refl _) (.int .i64 (S.th j : Int))).setCell (p := ⟨b, j * 3 + 1, none⟩) (Nat.le_refl _) (.int .i64 (S.fr j : Int))).setCell (p := ⟨b, j * 3 + 2, none⟩) (Nat.le_refl _) (.int .i64 (S.ln j))
      have HOB := Lib.hid (And.intro O5 B5)
      clear y1 y2 y3 O5 B5 O B
      go_upto_region 5 with fail
      refine still_tail 19 (by kernel_rfl) (by kernel_rfl) ?_
      simp only [List.take_succ_cons, List.take_zero, List.drop_succ_cons, List.drop_zero]
      repeat still_step
      with_reducible refine wpStill_nil ?_
      go_wp2_with fail
      go_roundw
      case rel => exact ⟨j + 1, by simp, by omega, HOB.out.1.keep rfl, ⟨HOB.out.2.os, HOB.out.2.tape, HOB.out.2.output, HOB.out.2.size, HOB.out.2.block⟩⟩
      case measure => simp [intOf]; omega
    · have d1 : ¬ ((j : Int) < (k : Int)) := by omega
      obtain rfl : k = j := by omega
      have O4 : OwT wr b k (fun j => (S.rev.fr j : Int)) (fun j => (S.rev.th j : Int)) S.rev.ln := O.congr fun i hi => by
        simp only [if_pos hi]; exact ⟨rfl, rfl, rfl⟩
      have R4 : RdA wr (.slice (some ⟨b, 0, none⟩) k k) k S.rev := O4.rdA
      have BW := B.mono hbw
      clear O O4 B
      go_wp2_with fail
      refine (refFromD_any _ n k t _ S.rev R4 A.rev ht hn hk).mono ?_
      rintro e w4 ⟨bD, D, T, rfl, OD, hbD, SD, hT, hF, b4⟩
      have B4 := BW.trans (b4.mono BW.size)
      have NN : NoNeg S.rev k t := fun v c m c' m' _ w => w.nonneg (S := S.rev) H0.out
      have FD := Lib.hid (hF NN)
      have HS := Lib.hid SD
      clear hF NN SD BW R4 b4
      have cs := OD.cell hs
      have is : (s : Int) < (n : Int) := by omega
      by_cases hf : D s = far
      · have q1 : (D s == 1152921504606846976) = true := by rw [hf]; rfl
        have HN : Hid (∀ c m, ¬ Way S.rev k t s c m) := Lib.hid fun c m w => (FD.out.le HS.out A.rev (by omega) (by unfold far; omega) ht w).1 hf
        clear hf
        go_wp2_with fail
        go_ret2
        exact ⟨B4, .inl ⟨HN.out, rfl⟩⟩
      · have q1 : (D s == 1152921504606846976) = false := by simp; exact hf
        have HF := Lib.hid hf
        clear hf
        go_upto_region 10 with (at_make; refine wpList_make_full _ rfl _ _ _ rfl 0 3 i2 (.int .i64 0) 1 Try.underlying22 hi2 hz2 hsz2 .i64 .i64 (n : Int) (n : Int) n rfl rfl rfl rfl (by rw [hby2]; omega) (by unfold maxLen; omega) (Nat.zero_le _) ?_; intro w5 hm5 hg5)
        rw [show (Value.int IntKind.i64 0).cells = #[.int .i64 0] from rfl, Nat.mul_one, toList_madeCells_one] at hm5
        have O5 := Ow.made hm5
        have B5 : Below w4.heap.size w4 w5 := ⟨hg5.os, hg5.tape, hg5.output, hg5.size, fun k hk => hg5.block k hk (by simp)⟩
        have lD := OD.lt (k := bD) rfl
        clear hm5 hg5 i2 hi2 hz2 hsz2 hby2 q1 cs
        obtain ⟨f, hfe⟩ : ∃ f, f = w4.heap.size := ⟨_, rfl⟩
        rw [← hfe] at O5 ⊢
        have hfw : w4.heap.size ≤ f := by omega
        have hwf : f ≤ w4.heap.size := by omega
        clear hfe
        go_wp2_with fail
        go_loopw [14] (fun u14 wr => ∃ j : Nat, u14 = .int .i64 (j : Int) ∧ j ≤ n ∧ Ow wr (.slice (some ⟨f, 0, none⟩) n n) n (fun i => if i < j then far else 0) ∧ Below w4.heap.size w4 wr) (fun u14 _ => n - (intOf u14).toNat)
        case atStart => exact ⟨0, rfl, Nat.zero_le _, O5.congr fun j _ => by simp, B5⟩
        case round =>
          clear O5 B5 w5
          obtain ⟨j, rfl, hj, O, B⟩ := hrel
          by_cases hlt : j < n
          · have d2 : (j : Int) < (n : Int) := by omega
            have co := O.cell hlt
            have zf := O.frozen j
            have O5 := (O.set hlt far).congr (x' := fun i => if i < j + 1 then far else 0) (fun i hi => by
              by_cases e : i = j
              · subst e; rw [upd_same, if_pos (by omega)]
              · rw [upd_ne e]
                by_cases q : i < j
                · rw [if_pos q, if_pos (by omega)]
                · rw [if_neg q, if_neg (by omega)])
            have B5 := B.setCell (p := ⟨f, j, none⟩) hfw (.int .i64 far)
            have HOB := Lib.hid (And.intro O5 B5)
            clear O B O5 B5
            go_wp2_with fail
            go_roundw
            case rel => exact ⟨j + 1, by simp, by omega, HOB.out.1, HOB.out.2⟩
            case measure => simp [intOf]; omega
          · have d2 : ¬ ((j : Int) < (n : Int)) := by omega
            have O5 := (O.congr (x' := fun _ => far) fun i hi => if_pos (by omega)).set ht 0
            have co := O.cell ht
            have zf := O.frozen t
            have s1 : (t : Int) < (n : Int) := by omega
            have B5 := B.setCell (p := ⟨f, t, none⟩) hfw (.int .i64 0)
            have HOB := Lib.hid (And.intro O5 B5)
            clear O B O5 B5
            go_wp2_with fail
            obtain ⟨O5, B5⟩ := HOB.out
            clear HOB co zf s1 d2 hlt hj
            generalize wr.setCell ⟨f, t, none⟩ (.int .i64 0) = w6 at *
            clear wr
            have Dt : D t = 0 := by
              have h1 := HS.out.here
              have h2 : D t ≠ far := by unfold far; omega
              rcases HS.out.each t ht with q | ⟨m, _, w⟩
              · exact absurd q h2
              · have := w.nonneg (S := S.rev) H0.out; omega
            have S0 := Lib.hid (SoundF.start (S := S) (k := k) (n := n) Dt)
            have U0 := Lib.hid (UpToF.start S k t D Dt)
            clear Dt
            go_loopg [15] n (fun q u15 wr => ∃ (gr : Bool) (r U : Nat) (F : Nat → Int), u15 = .bool gr ∧ n ≤ q + r ∧ r ≤ n ∧ U ≤ r * k ∧ Hid (gr = true → r < n) ∧ Hid (SoundF S k t n U D F) ∧ Hid (UpToF S k t D F r) ∧ Hid (gr = false → FixF S k D F) ∧ Ow wr (.slice (some ⟨f, 0, none⟩) n n) n F ∧ Below w4.heap.size w4 wr)
            case atStart => exact ⟨true, 0, 0, _, rfl, by omega, Nat.zero_le _, by omega, Lib.hid (fun _ => by omega), S0, U0, Lib.hid (fun h => by cases h), O5, B5⟩
            case round =>
              clear S0 U0 O5 B5 w6
              obtain ⟨gr, r, U, F, rfl, hq, hrn, hU, HG, SF, UF, FX, O, B⟩ := hrel
              have u2 : U ≤ 20000 := by have : r * k ≤ 100 * 200 := Nat.mul_le_mul (by omega) hk; omega
              cases gr with
              | false =>
                have FXX := FX.out rfl
                have HB := Lib.hid (FXX.best SF.out (by unfold far; omega) FD.out HS.out A (by omega) (by unfold far; omega) ht H0.out)
                clear FX HG UF FXX SF
                have BW := B4.trans (B.mono B4.size)
                have OD7 := OD.below B (Nat.le_refl _)
                have bDf : bD ≠ f := by omega
                have few0 := HB.out.small A ht H0.out hs HF.out
                have T0 := Lib.hid (Trail.start S k D F s t (fun _ => 0))
                have H00 : Hid (F s + ((0 : Nat) : Int) = F s) := Lib.hid (by simp)
                clear few0
                go_wp2_with fail
                go_loopg [18, 19] (F s).toNat (fun q u18 u19 wx => ∃ (m v : Nat) (p r : Nat → Nat), (F v).toNat ≤ q ∧ u19 = .int .i64 (v : Int) ∧ v < n ∧ Hid (v = p m) ∧ Hid (D v ≠ far) ∧ Hid (Trail S k D F s t m p r) ∧ m ≤ 100 ∧ Hid (F v + m = F s) ∧ Ow wx u18 m (fun j => (r j : Int)) ∧ Hid (∀ c, u18.ownBlock = some c → w.heap.size ≤ c ∧ c ≠ bD ∧ c ≠ f) ∧ Hid ((m = 0 ∧ u18 = .slice none 0 0) ∨ (0 < m ∧ ∃ c cp, u18 = .slice (some ⟨c, 0, none⟩) m cp)) ∧ Ow wx (.slice (some ⟨bD, 0, none⟩) n n) n D ∧ Ow wx (.slice (some ⟨f, 0, none⟩) n n) n F ∧ Below w.heap.size w wx)
                case atStart => exact ⟨0, s, _, _, Nat.le_refl _, rfl, hs, Lib.hid rfl, HF, T0, by omega, H00, Ow.nil _ _, Lib.hid (fun c hc => by cases hc), Lib.hid (.inl ⟨rfl, rfl⟩), OD7, O, BW⟩
                case round =>
                  clear T0 H00 OD7 O BW B
                  obtain ⟨m, v, p, r, hq, rfl, hv, HVM, HDV, HT, hm, HFV, OU, HU, HUU, OD8, O, B⟩ := hrel
                  by_cases hvt : v = t
                  · have d3 : ((v : Int) != (t : Int)) = false := by simp; omega
                    have HE := Lib.hid hvt
                    clear hvt
                    rcases HUU.out with ⟨rfl, rfl⟩ | ⟨hm0, c, cp, rfl⟩
                    · go_wp2_with fail
                      go_ret2
                      exact ⟨B, .inr ⟨D, F, _, 0, p, r, HB.out, HF.out, rfl, HT.out, by rw [← HVM.out]; exact HE.out, .inl ⟨rfl, rfl⟩⟩⟩
                    · obtain ⟨hcc, OS⟩ := OU.own
                      have hcw := (HU.out c rfl).1
                      go_wp2_with fail
                      go_ret2
                      exact ⟨B, .inr ⟨D, F, _, m, p, r, HB.out, HF.out, rfl, HT.out, by rw [← HVM.out]; exact HE.out, .inr ⟨hm0, c, cp, rfl, OS, hcw⟩⟩⟩
                  · have d3 : ((v : Int) != (t : Int)) = true := by simp; omega
                    have HE := Lib.hid hvt
                    obtain ⟨a, PK⟩ := HB.out.pick A hv HDV.out hvt
                    have HP := Lib.hid PK
                    have hak := PK.lt
                    clear hvt PK
                    obtain ⟨wo, rfl⟩ : ∃ wo, wo = wr := ⟨_, rfl⟩
                    go_wp2_with fail
                    generalize u18 = Z at *
                    go_loopw [18, 19, 20] (fun u18 u19 u20 wr => ∃ j : Nat, u18 = Z ∧ u19 = .int .i64 (v : Int) ∧ u20 = .int .i64 (j : Int) ∧ j ≤ a ∧ Below wo.heap.size wo wr) (fun _ _ u20 _ => k - (intOf u20).toNat)
                    case atStart => exact ⟨0, rfl, rfl, rfl, Nat.zero_le _, Below.refl _ _⟩
                    case round =>
                      obtain ⟨j, rfl, rfl, rfl, hj, b4'⟩ := hrel
                      have d2 : (j : Int) < (k : Int) := by omega
                      have hjk : j < k := by omega
                      obtain ⟨vb, cap', ev, hvb, y1, y2, y3⟩ := hV.arc hjk
                      injection ev with e1 e2 e3
                      subst e1 e3
                      have B5 := B.trans (b4'.mono B.size)
                      have O5 := O.below b4' (Nat.le_refl _)
                      have OD5 := OD8.below b4' (Nat.le_refl _)
                      have OU5 := OU.below b4' (Nat.le_refl _)
                      have z1 := (B5.cell (p := ⟨vb, j * 3, none⟩) hvb).trans y1
                      have z2 := (B5.cell (p := ⟨vb, j * 3 + 1, none⟩) hvb).trans y2
                      have z3 := (B5.cell (p := ⟨vb, j * 3 + 2, none⟩) hvb).trans y3
                      clear y1 y2 y3
                      go_upto_region 32 with fail
                      have b6 := below_new wr (.cells #[.int .i64 (S.fr j : Int), .int .i64 (S.th j : Int), .int .i64 (S.ln j)] 30)
                      have hA := heap_alloc_new wr (.cells #[.int .i64 (S.fr j : Int), .int .i64 (S.th j : Int), .int .i64 (S.ln j)] 30)
                      have O6 := O5.below b6 (Nat.le_refl _)
                      have OD6 := OD5.below b6 (Nat.le_refl _)
                      have OU6 := OU5.below b6 (Nat.le_refl _)
                      have B6 := B5.trans (b6.mono B5.size)
                      have b7 := b4'.trans (b6.mono b4'.size)
                      have bwr := B5.size
                      have hyo := b4'.size
                      have lfo := O.lt (k := f) rfl
                      have lDo := OD8.lt (k := bD) rfl
                      clear b4' b6 O5 OD5 OU5 B5 z1 z2 z3
                      generalize wr.alloc (.cells #[.int .i64 (S.fr j : Int), .int .i64 (S.th j : Int), .int .i64 (S.ln j)] 30) = W at *
                      generalize wr.heap.size = y at *
                      clear wr
                      have ha := A.fr j hjk
                      have hc := A.th j hjk
                      have l1 := H0.out j hjk
                      have l2 := A.hi j hjk
                      have A0 : W.cell? ⟨y, 0, none⟩ = some (.int .i64 (S.fr j : Int)) := blk_cell hA 0
                      have A1 : W.cell? ⟨y, 1, none⟩ = some (.int .i64 (S.th j : Int)) := blk_cell hA 1
                      have A2 : W.cell? ⟨y, 2, none⟩ = some (.int .i64 (S.ln j)) := blk_cell hA 2
                      have v1 := OD6.cell hv
                      have v2 := OD6.cell hc
                      have u1 := O6.cell hv
                      have u3 := O6.cell hc
                      have i1 : (v : Int) < (n : Int) := by omega
                      have i3 : ((S.th j : Nat) : Int) < (n : Int) := by omega
                      by_cases hja : j = a
                      · have pk := HP.out
                        rw [← hja] at pk
                        have szd := HS.out.size A.rev (by omega) hc pk.fin
                        have szf := HB.out.small A ht H0.out hc pk.fin
                        have g1 : -90000000000000 ≤ D (S.th j) + S.ln j := by omega
                        have g2 : D (S.th j) + S.ln j ≤ 90000000000000 := by omega
                        have g3 : 0 ≤ F (S.th j) + 1 := by omega
                        have g4 : F (S.th j) + 1 ≤ 30000 := by omega
                        have q1 : (((S.fr j : Nat) : Int) == (v : Int)) = true := by have := pk.fr; simp; omega
                        have q2 : (D (S.th j) != 1152921504606846976) = true := by simp; exact pk.fin
                        have q3 : (D v == D (S.th j) + S.ln j) = true := by simp; exact pk.len
                        have q4 : (F v == F (S.th j) + 1) = true := by simp; exact pk.few
                        have HPK := Lib.hid pk
                        have HJA := Lib.hid hja
                        clear pk hja szd szf
                        go_big_quiet (fail)
                        have O8 : Ow (W.drewN nq) (.slice (some ⟨f, 0, none⟩) n n) n F := O6.keep fun _ _ => rfl
                        have OD9 : Ow (W.drewN nq) (.slice (some ⟨bD, 0, none⟩) n n) n D := OD6.keep fun _ _ => rfl
                        have OU8 : Ow (W.drewN nq) u18 m (fun j => (r j : Int)) := OU6.keep fun _ _ => rfl
                        have B8 : Below w.heap.size w (W.drewN nq) := ⟨B6.os, B6.tape, B6.output, B6.size, B6.block⟩
                        have hA8 : (W.drewN nq).heap[y]? = some (.cells #[.int .i64 (S.fr j : Int), .int .i64 (S.th j : Int), .int .i64 (S.ln j)] 30 (0, 0)) := hA
                        clear A0 A1 A2 v1 v2 u1 u3 hA O6 OD6 OU6 B6 b7 q1 q2 q3 q4
                        generalize W.drewN nq = W8 at *
                        clear W
                        go_upto_region 33 with fail
                        have n0 : (W8.alloc (.cells #[.int .i64 (j : Int)] 3)).cell? ⟨W8.heap.size, 0, none⟩ = some (.int .i64 (j : Int)) := by rw [blk_cell (heap_alloc_new W8 _)]; rfl
                        have Ba : Below W8.heap.size W8 (W8.alloc (.cells #[.int .i64 (j : Int)] 3)) := below_new W8 _
                        have Oa := OU8.below Ba (Nat.le_refl _)
                        have Of := O8.below Ba (Nat.le_refl _)
                        have Od := OD9.below Ba (Nat.le_refl _)
                        have hAa := (Ba.block y (blk_lt hA8)).trans hA8
                        have B9 := B8.trans (Ba.mono B8.size)
                        have sz : (W8.alloc (.cells #[.int .i64 (j : Int)] 3)).heap.size = W8.heap.size + 1 := by simp
                        have lU : ∀ c, u18.ownBlock = some c → c < wo.heap.size := fun c hc => OU.lt hc
                        have LU := Lib.hid lU
                        have bw8 := B8.size
                        have ly8 := blk_lt hA8
                        have lf8 := O8.lt (k := f) rfl
                        have lD8 := OD9.lt (k := bD) rfl
                        have SZ := Lib.hid sz
                        clear lU sz
                        go_upto_region 34 with (at_builtin; go_must (refine wpList_grow rfl _ _ rfl _ m (fun j => (r j : Int)) rfl Oa ⟨W8.heap.size, 0, none⟩ 1 (j : Int) rfl n0 (by omega) ?_); intro b' c' w5 O9 g5 l5)
                        have hnb : w.heap.size ≤ b' ∧ b' ≠ bD ∧ b' ≠ f := by
                          rcases l5 with e | e
                          · exact HU.out b' e.symm
                          · have := SZ.out; omega
                        have B10 := Below.grown B9 g5 B9.size (fun c hc => (HU.out c hc).1)
                        have OF5 : Ow w5 (.slice (some ⟨f, 0, none⟩) n n) n F := Of.keep fun c hc => by
                          have e : some f = some c := hc
                          injection e with e
                          subst e
                          exact g5.block f (Of.lt (k := f) rfl) fun e => (HU.out f e.symm).2.2 rfl
                        have OD5 : Ow w5 (.slice (some ⟨bD, 0, none⟩) n n) n D := Od.keep fun c hc => by
                          have e : some bD = some c := hc
                          injection e with e
                          subst e
                          exact g5.block bD (Od.lt (k := bD) rfl) fun e => (HU.out bD e.symm).2.1 rfl
                        have hA5 : w5.heap[y]? = some (.cells #[.int .i64 (S.fr j : Int), .int .i64 (S.th j : Int), .int .i64 (S.ln j)] 30 (0, 0)) := (g5.block y (blk_lt hAa) fun e => by have := LU.out y e.symm; omega).trans hAa
                        have O10 : Ow w5 (.slice (some ⟨b', 0, none⟩) (m + 1) c') (m + 1) (fun x => ((upd r m j x : Nat) : Int)) := O9.congr fun x hx => by
                          by_cases e : x = m
                          · subst e; rw [upd_same, upd_same]
                          · rw [upd_ne e, upd_ne e]
                        have HT2 := Lib.hid (HT.out.step (by rw [← HVM.out]; exact HPK.out) (by rw [← HVM.out]; exact HE.out))
                        have few := HPK.out.few
                        have fin := HPK.out.fin
                        have fz := HFV.out
                        have szs := HB.out.small A ht H0.out hs HF.out
                        have szf := HB.out.small A ht H0.out hc fin
                        have HFV2 : Hid (F (S.th j) + ((m + 1 : Nat) : Int) = F s) := Lib.hid (by omega)
                        have hm2 : m + 1 ≤ 100 := by omega
                        have hq2 : (F (S.th j)).toNat < gk := by omega
                        have HFIN := Lib.hid fin
                        have a1 : w5.cell? ⟨y, 1, none⟩ = some (.int .i64 (S.th j : Int)) := blk_cell hA5 1
                        have HU2 : Hid (∀ c, (Value.slice (some ⟨b', 0, none⟩) (m + 1) c').ownBlock = some c → w.heap.size ≤ c ∧ c ≠ bD ∧ c ≠ f) := Lib.hid fun c hc => by
                          have e : some b' = some c := hc
                          injection e with e
                          rw [← e]; exact hnb
                        clear fin few fz szs szf n0 Ba Oa Of Od hAa B9 g5 l5 hnb O9 hA8 O8 OD9 OU8 B8 OU B O OD8
                        go_wp2_with fail
                        go_roundg (F (S.th j)).toNat
                        case measure => omega
                        case rel => exact ⟨m + 1, S.th j, _, _, Nat.le_refl _, rfl, hc, Lib.hid (upd_same _ _ _).symm, HFIN, HT2, hm2, HFV2, O10, HU2, Lib.hid (.inr ⟨by omega, b', c', rfl⟩), OD5, OF5, B10⟩
                      · have lst := HP.out.least j (by omega)
                        have LST := Lib.hid lst
                        have j1 : j + 1 ≤ a := by omega
                        clear lst hja
                        by_cases c1 : S.fr j = v
                        · have q1 : (((S.fr j : Nat) : Int) == (v : Int)) = true := by simp; omega
                          by_cases c2 : D (S.th j) = far
                          · have q2 : (D (S.th j) != 1152921504606846976) = false := by simp; exact c2
                            clear c1 c2
                            go_big_quiet (fail)
                            go_wp2_with fail
                            go_roundw
                            case rel => exact ⟨j + 1, rfl, rfl, by simp, j1, ⟨b7.os, b7.tape, b7.output, b7.size, b7.block⟩⟩
                            case measure => simp [intOf]; omega
                          · have q2 : (D (S.th j) != 1152921504606846976) = true := by simp; exact c2
                            have szd := HS.out.size A.rev (by omega) hc c2
                            have szf := HB.out.small A ht H0.out hc c2
                            have g1 : -90000000000000 ≤ D (S.th j) + S.ln j := by omega
                            have g2 : D (S.th j) + S.ln j ≤ 90000000000000 := by omega
                            have g3 : 0 ≤ F (S.th j) + 1 := by omega
                            have g4 : F (S.th j) + 1 ≤ 30000 := by omega
                            clear szd szf
                            by_cases c3 : D v = D (S.th j) + S.ln j
                            · have q3 : (D v == D (S.th j) + S.ln j) = true := by simp; exact c3
                              have q4 : (F v == F (S.th j) + 1) = false := by
                                simp
                                intro z
                                exact LST.out ⟨c1, c2, c3, z⟩
                              clear c1 c2 c3
                              go_big_quiet (fail)
                              go_wp2_with fail
                              go_roundw
                              case rel => exact ⟨j + 1, rfl, rfl, by simp, j1, ⟨b7.os, b7.tape, b7.output, b7.size, b7.block⟩⟩
                              case measure => simp [intOf]; omega
                            · have q3 : (D v == D (S.th j) + S.ln j) = false := by simp; exact c3
                              clear c1 c2 c3
                              go_big_quiet (fail)
                              go_wp2_with fail
                              go_roundw
                              case rel => exact ⟨j + 1, rfl, rfl, by simp, j1, ⟨b7.os, b7.tape, b7.output, b7.size, b7.block⟩⟩
                              case measure => simp [intOf]; omega
                        · have q1 : (((S.fr j : Nat) : Int) == (v : Int)) = false := by simp; omega
                          clear c1
                          go_big_quiet (fail)
                          go_wp2_with fail
                          go_roundw
                          case rel => exact ⟨j + 1, rfl, rfl, by simp, j1, ⟨b7.os, b7.tape, b7.output, b7.size, b7.block⟩⟩
                          case measure => simp [intOf]; omega
              | true =>
                have hr := HG.out rfl
                obtain ⟨wo, rfl⟩ : ∃ wo, wo = wr := ⟨_, rfl⟩
                have RD := Lib.hid (RndF.start UF.out)
                clear FX HG UF
                go_wp2_with fail
                go_loopw [15, 16] (fun u15 u16 wr => ∃ (gr : Bool) (j U : Nat) (F : Nat → Int), u15 = .bool gr ∧ u16 = .int .i64 (j : Int) ∧ j ≤ k ∧ U ≤ r * k + j ∧ Hid (SoundF S k t n U D F) ∧ Hid (RndF S k t D F r j) ∧ Hid (gr = false → ∀ i, i < j → D (S.th i) ≠ far → D (S.fr i) = D (S.th i) + S.ln i → F (S.th i) ≠ far → F (S.fr i) ≤ F (S.th i) + 1) ∧ Hid (gr = true → r + 1 < n) ∧ Ow wr (.slice (some ⟨f, 0, none⟩) n n) n F ∧ Below w4.heap.size w4 wr) (fun _ u16 _ => k - (intOf u16).toNat)
                case atStart => exact ⟨false, 0, U, F, rfl, rfl, Nat.zero_le _, by omega, SF, RD, Lib.hid (fun _ i hi => absurd hi (Nat.not_lt_zero i)), Lib.hid (fun h => by cases h), O, B⟩
                case round =>
                  clear SF RD O B hU wo
                  obtain ⟨gr, j, U, F, rfl, rfl, hj, hU, SF, RD, FX, HG, O, B⟩ := hrel
                  have u2 : U ≤ 20200 := by
                    have : (r + 1) * k ≤ 100 * 200 := Nat.mul_le_mul (by omega) hk
                    have e : (r + 1) * k = r * k + k := Nat.succ_mul _ _
                    omega
                  by_cases hlt : j < k
                  · have d2 : (j : Int) < (k : Int) := by omega
                    obtain ⟨vb, cap', ev, hvb, y1, y2, y3⟩ := hV.arc hlt
                    injection ev with e1 e2 e3
                    subst e1 e3
                    have B6 := B4.trans (B.mono B4.size)
                    have z1 := (B6.cell (p := ⟨vb, j * 3, none⟩) hvb).trans y1
                    have z2 := (B6.cell (p := ⟨vb, j * 3 + 1, none⟩) hvb).trans y2
                    have z3 := (B6.cell (p := ⟨vb, j * 3 + 2, none⟩) hvb).trans y3
                    clear y1 y2 y3 B6
                    go_upto_region 22 with fail
                    have b6 := below_new wr (.cells #[.int .i64 (S.fr j : Int), .int .i64 (S.th j : Int), .int .i64 (S.ln j)] 30)
                    have hA := heap_alloc_new wr (.cells #[.int .i64 (S.fr j : Int), .int .i64 (S.th j : Int), .int .i64 (S.ln j)] 30)
                    have OF := O.below b6 (Nat.le_refl _)
                    have B7 := B.trans (b6.mono B.size)
                    have lf := O.lt (k := f) rfl
                    have bwr := B.size
                    have OD7 := OD.below B7 (Nat.le_refl _)
                    clear b6 O B z1 z2 z3
                    generalize wr.alloc (.cells #[.int .i64 (S.fr j : Int), .int .i64 (S.th j : Int), .int .i64 (S.ln j)] 30) = W at *
                    generalize wr.heap.size = y at *
                    clear wr
                    have ha := A.fr j hlt
                    have hc := A.th j hlt
                    have l1 := H0.out j hlt
                    have l2 := A.hi j hlt
                    have A0 : W.cell? ⟨y, 0, none⟩ = some (.int .i64 (S.fr j : Int)) := blk_cell hA 0
                    have A1 : W.cell? ⟨y, 1, none⟩ = some (.int .i64 (S.th j : Int)) := blk_cell hA 1
                    have A2 : W.cell? ⟨y, 2, none⟩ = some (.int .i64 (S.ln j)) := blk_cell hA 2
                    have v1 := OD7.cell ha
                    have v2 := OD7.cell hc
                    have u1 := OF.cell ha
                    have u2' := OF.cell hc
                    have i1 : ((S.fr j : Nat) : Int) < (n : Int) := by omega
                    have i2 : ((S.th j : Nat) : Int) < (n : Int) := by omega
                    by_cases hall : D (S.th j) ≠ far ∧ D (S.fr j) = D (S.th j) + S.ln j ∧ F (S.th j) ≠ far ∧ F (S.th j) + 1 < F (S.fr j)
                    · have SF2 := Lib.hid (SF.out.step A hlt hall.2.1 hall.2.2.1 hall.2.2.2)
                      have RD2 := Lib.hid (RD.out.take hlt hall.2.2.2)
                      have HG2 : Hid (true = true → r + 1 < n) := Lib.hid fun _ => by
                        rcases Nat.lt_or_ge (r + 1) n with q | q
                        · exact q
                        · have := RD.out.old.fix SF.out A H0.out ht (by omega) FD.out HS.out (by omega) (by unfold far; omega) j hlt hall.1 hall.2.1 hall.2.2.1
                          have := hall.2.2.2
                          omega
                      have szd := HS.out.size A.rev (by omega) hc hall.1
                      have szf : 0 ≤ F (S.th j) ∧ F (S.th j) ≤ 20200 := by
                        rcases SF.out.each _ hc with q | ⟨m, q1, q2, _⟩
                        · exact absurd q hall.2.2.1
                        · omega
                      have q1 : (D (S.th j) != 1152921504606846976) = true := by simp; exact hall.1
                      have q2 : (D (S.fr j) == D (S.th j) + S.ln j) = true := by simp; exact hall.2.1
                      have q3 : (F (S.th j) != 1152921504606846976) = true := by simp; exact hall.2.2.1
                      have q4 : decide (F (S.th j) + 1 < F (S.fr j)) = true := by simp; exact hall.2.2.2
                      have g1 : -90000000000000 ≤ D (S.th j) + S.ln j := by omega
                      have g2 : D (S.th j) + S.ln j ≤ 90000000000000 := by omega
                      have g3 : 0 ≤ F (S.th j) + 1 := by omega
                      have g4 : F (S.th j) + 1 ≤ 30000 := by omega
                      clear hall RD SF FX HG szd
                      go_big_quiet (fail)
                      have OF8 : Ow (W.drewN nq) (.slice (some ⟨f, 0, none⟩) n n) n F := OF.keep fun _ _ => rfl
                      have B8 : Below w4.heap.size w4 (W.drewN nq) := ⟨B7.os, B7.tape, B7.output, B7.size, B7.block⟩
                      have hA8 : (W.drewN nq).heap[y]? = some (.cells #[.int .i64 (S.fr j : Int), .int .i64 (S.th j : Int), .int .i64 (S.ln j)] 30 (0, 0)) := hA
                      clear A0 A1 A2 v1 v2 u1 u2' hA OF B7 OD7 q1 q2 q3 q4 g1 g2
                      generalize W.drewN nq = W8 at *
                      clear W
                      have A0 : W8.cell? ⟨y, 0, none⟩ = some (.int .i64 (S.fr j : Int)) := blk_cell hA8 0
                      have A1 : W8.cell? ⟨y, 1, none⟩ = some (.int .i64 (S.th j : Int)) := blk_cell hA8 1
                      have u1 := OF8.cell ha
                      have u2' := OF8.cell hc
                      have fz := OF8.frozen (S.fr j)
                      have HOB := Lib.hid (And.intro (OF8.set ha (F (S.th j) + 1)) (B8.setCell (p := ⟨f, S.fr j, none⟩) hfw (.int .i64 (F (S.th j) + 1))))
                      clear OF8 B8 hA8
                      go_upto_region 23 with fail
                      refine still_tail 10 (by kernel_rfl) (by kernel_rfl) ?_
                      simp only [List.take_succ_cons, List.take_zero, List.drop_succ_cons, List.drop_zero]
                      repeat still_step
                      with_reducible refine wpStill_nil ?_
                      go_wp2_with fail
                      go_roundw
                      case rel => exact ⟨true, j + 1, U + 1, _, rfl, by simp, by omega, by omega, SF2, RD2, Lib.hid (fun h => by cases h), HG2, HOB.out.1.keep fun _ _ => rfl, ⟨HOB.out.2.os, HOB.out.2.tape, HOB.out.2.output, HOB.out.2.size, HOB.out.2.block⟩⟩
                      case measure => simp [intOf]; omega
                    · have RD2 := Lib.hid (RD.out.skip hlt (by unfold far; omega) hall (fun c m w => (FD.out.le HS.out A.rev (by omega) (by unfold far; omega) ht w).1))
                      have FX2 : Hid (gr = false → ∀ i, i < j + 1 → D (S.th i) ≠ far → D (S.fr i) = D (S.th i) + S.ln i → F (S.th i) ≠ far → F (S.fr i) ≤ F (S.th i) + 1) := Lib.hid fun hg i hi h1 h2 h3 => by
                        rcases Nat.lt_or_ge i j with q | q
                        · exact FX.out hg i q h1 h2 h3
                        · obtain rfl : i = j := by omega
                          have : ¬ (F (S.th i) + 1 < F (S.fr i)) := fun z => hall ⟨h1, h2, h3, z⟩
                          omega
                      clear FX RD
                      by_cases c1 : D (S.th j) = far
                      · have q1 : (D (S.th j) != 1152921504606846976) = false := by simp; exact c1
                        clear c1 hall
                        go_big_quiet (fail)
                        go_wp2_with fail
                        go_roundw
                        case rel => exact ⟨gr, j + 1, U, F, rfl, by simp, by omega, by omega, SF, RD2, FX2, HG, OF.keep fun _ _ => rfl, ⟨B7.os, B7.tape, B7.output, B7.size, B7.block⟩⟩
                        case measure => simp [intOf]; omega
                      · have q1 : (D (S.th j) != 1152921504606846976) = true := by simp; exact c1
                        have szd := HS.out.size A.rev (by omega) hc c1
                        have g1 : -90000000000000 ≤ D (S.th j) + S.ln j := by omega
                        have g2 : D (S.th j) + S.ln j ≤ 90000000000000 := by omega
                        clear szd
                        by_cases c2 : D (S.fr j) = D (S.th j) + S.ln j
                        · have q2 : (D (S.fr j) == D (S.th j) + S.ln j) = true := by simp; exact c2
                          by_cases c3 : F (S.th j) = far
                          · have q3 : (F (S.th j) != 1152921504606846976) = false := by simp; exact c3
                            clear c1 c2 c3 hall
                            go_big_quiet (fail)
                            go_wp2_with fail
                            go_roundw
                            case rel => exact ⟨gr, j + 1, U, F, rfl, by simp, by omega, by omega, SF, RD2, FX2, HG, OF.keep fun _ _ => rfl, ⟨B7.os, B7.tape, B7.output, B7.size, B7.block⟩⟩
                            case measure => simp [intOf]; omega
                          · have q3 : (F (S.th j) != 1152921504606846976) = true := by simp; exact c3
                            have c4 : ¬ (F (S.th j) + 1 < F (S.fr j)) := fun z => hall ⟨c1, c2, c3, z⟩
                            have q4 : decide (F (S.th j) + 1 < F (S.fr j)) = false := by simp; omega
                            have szf : 0 ≤ F (S.th j) ∧ F (S.th j) ≤ 20200 := by
                              rcases SF.out.each _ hc with q | ⟨m, q1, q2, _⟩
                              · exact absurd q c3
                              · omega
                            have g3 : 0 ≤ F (S.th j) + 1 := by omega
                            have g4 : F (S.th j) + 1 ≤ 30000 := by omega
                            clear c1 c2 c3 hall
                            go_big_quiet (fail)
                            go_wp2_with fail
                            go_roundw
                            case rel => exact ⟨gr, j + 1, U, F, rfl, by simp, by omega, by omega, SF, RD2, FX2, HG, OF.keep fun _ _ => rfl, ⟨B7.os, B7.tape, B7.output, B7.size, B7.block⟩⟩
                            case measure => simp [intOf]; omega
                        · have q2 : (D (S.fr j) == D (S.th j) + S.ln j) = false := by simp; exact c2
                          clear c1 c2 hall
                          go_big_quiet (fail)
                          go_wp2_with fail
                          go_roundw
                          case rel => exact ⟨gr, j + 1, U, F, rfl, by simp, by omega, by omega, SF, RD2, FX2, HG, OF.keep fun _ _ => rfl, ⟨B7.os, B7.tape, B7.output, B7.size, B7.block⟩⟩
                          case measure => simp [intOf]; omega
                  · have d2 : ¬ ((j : Int) < (k : Int)) := by omega
                    obtain rfl : k = j := by omega
                    have UD2 := Lib.hid (RD.out.done SF.out.here FD.out HS.out A (by omega) (by unfold far; omega) ht)
                    have FX2 : Hid (gr = false → FixF S k D F) := Lib.hid fun hg i hi h1 => FX.out hg i hi h1
                    have hU2 : U ≤ (r + 1) * k := by rw [Nat.succ_mul]; exact hU
                    clear FX RD
                    go_wp2_with fail
                    go_roundg (n - (r + 1))
                    case measure => omega
                    case rel => exact ⟨gr, r + 1, U, F, rfl, by omega, by omega, hU2, HG, SF, UD2, FX2, O, B⟩
end Go.Proofs.Ytchlccendggfpaa.Ro
