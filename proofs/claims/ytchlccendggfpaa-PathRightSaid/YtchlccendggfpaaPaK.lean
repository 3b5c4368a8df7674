/- Walks: Way, of the program's chapter 6. -/
import Derived.Test.YtchlccendggfpaaPaJ
import Derived.Test.YtchlccendggfpaaPaI
import Derived.Test.YtchlccendggfpaaRoGr
namespace Go.Proofs.Ytchlccendggfpaa.Ro
open Go.RowKit Go.Proofs Go.Maps
set_option linter.unusedVariables false
set_option linter.unusedSimpArgs false

/-- a row of m numbers that was told: none, or in a block of its own -/
def OwV (w : World) (B : Nat) (V : Value) (m : Nat) (x : Nat → Int) : Prop := (m = 0 ∧ V = .slice none 0 0) ∨ (0 < m ∧ ∃ b c, V = .slice (some ⟨b, 0, none⟩) m c ∧ OwS w b m x ∧ B ≤ b)
theorem OwV.rd {w : World} {B m : Nat} {V : Value} {x : Nat → Int} (h : OwV w B V m x) : Rd w V m x := by
  rcases h with ⟨rfl, rfl⟩ | ⟨h0, b, c, rfl, h, _⟩
  · exact ⟨none, 0, rfl, fun q => by omega⟩
  · exact h.rd
/-- what Way tells -/
def WayPost (w : World) (S : ArcsF) (k s t n : Nat) (e : Ending) (w' : World) : Prop :=
  Below w.heap.size w w' ∧ (((∀ c m, ¬ Way S.rev k t s c m) ∧ e = .returned (.tuple #[.slice none 0 0, .bool false])) ∨
    (∃ (D F : Nat → Int) (V : Value) (m : Nat) (p r : Nat → Nat), Best S k t n D F ∧ D s ≠ far ∧ e = .returned (.tuple #[V, .bool true]) ∧ Trail S k D F s t m p r ∧ p m = t ∧ OwV w' w.heap.size V m (fun j => (r j : Int))))

set_option maxRecDepth 100000 in
set_option maxHeartbeats 12800000 in
theorem way_any (w : World) (n k s t : Nat) (V : Value) (S : ArcsF) (hV : RdA w V k S) (A : ArcsIn S k n 4294967296) (h0 : ∀ i, i < k → 0 ≤ S.ln i) (hs : s < n) (ht : t < n) (hn : n ≤ 100) (hk : k ≤ 200) :
    Calls Try.prog 24 #[.int .i64 (n : Int), V, .int .i64 (s : Int), .int .i64 (t : Int)] w (WayPost w S k s t n) := by
  obtain ⟨VA, vc, rfl, rv⟩ := id hV
  have HV := Lib.hid rv
  have H0 := Lib.hid h0
  clear rv h0
  have q1 : decide (n ≤ t) = false := by simp; omega
  have q2 : decide ((t : Int) < 0) = false := by simp
  go_enter Try.func24, Try.ntmps24
  go_wp2_with fail
  refine (fine_yes _ n k s _ S hV (by omega) A hs (by omega)).mono ?_
  rintro e w1 ⟨rfl, B1⟩
  go_wp2_with fail
  refine (contains_below0 _ _ k S (hV.below B1 (Nat.le_refl _)) (by omega) H0.out).mono ?_
  rintro e w2 ⟨rfl, b2⟩
  have B2 := B1.trans (b2.mono B1.size)
  clear B1 b2
  go_wp2_with fail
  refine (back_any _ n k t _ S (hV.below B2 (Nat.le_refl _)) A H0.out ht hn hk).mono ?_
  rintro e w3 ⟨b, c, T, D, F, rfl, O, hb, SD, hT, FX, b3⟩
  have B3 := B2.trans (b3.mono B2.size)
  have hbw : w.heap.size ≤ b := Nat.le_trans B2.size hb
  have BS := FX.best SD A (by omega) (by unfold far; omega) ht
  have HB := Lib.hid BS
  have HS := Lib.hid SD
  clear B2 b3 hb FX SD BS q1 q2
  have lb := O.lt
  have x0 := O.one hs
  have x1 := O.two hs
  have is : (s : Int) < (n : Int) := by omega
  go_upto_region 4 with fail
  by_cases hf : D s = far
  · have ha2 : F s = far := by
      rcases HS.out.each _ hs with q | ⟨m, _, _, w⟩
      · exact q.2
      · have h5 := (w.bound A.rev).2
        have : (m : Int) * 4294967296 ≤ T * 4294967296 := by omega
        unfold far at hf
        omega
    rw [hf] at x0
    rw [ha2] at x1
    have HF := Lib.hid hf
    clear hf ha2
    unfold far at x0 x1
    go_region_held3 (fun w' => w'.cell? ⟨b, s * 2, none⟩ = some (.int .i64 1152921504606846976) ∧ w'.cell? ⟨b, s * 2 + 1, none⟩ = some (.int .i64 1152921504606846976))
      (first | with_reducible exact k1 | go_keep)
      (((with_reducible refine (far_any _).mono ?_); rintro e W2 ⟨rfl, bW⟩; have k1 : W2.cell? ⟨b, s * 2, none⟩ = some (.int .i64 1152921504606846976) ∧ W2.cell? ⟨b, s * 2 + 1, none⟩ = some (.int .i64 1152921504606846976) := ⟨(bW.cell (p := ⟨b, s * 2, none⟩) lb).trans x0, (bW.cell (p := ⟨b, s * 2 + 1, none⟩) lb).trans x1⟩))
    have bW2 : Below w3.heap.size w3 W2 := (⟨rfl, rfl, rfl, Nat.le_refl _, fun _ _ => rfl⟩ : Below w3.heap.size w3 w3.drew).trans bW
    have O2 := O.below bW2 (Nat.le_refl _)
    have B2 := B3.trans (bW2.mono B3.size)
    clear bW bW2 k1 x0 x1 O B3
    go_wp2_with fail
    go_ret2
    exact ⟨B2, .inl ⟨HB.out.none_ s hs HF.out, rfl⟩⟩
  · have q1 : (D s == 1152921504606846976) = false := by simp; exact hf
    have HF := Lib.hid hf
    clear hf
    go_region_held3 (fun w' => w'.cell? ⟨b, s * 2, none⟩ = some (.int .i64 (D s)) ∧ w'.cell? ⟨b, s * 2 + 1, none⟩ = some (.int .i64 (F s)))
      (first | with_reducible exact k1 | go_keep)
      (((with_reducible refine (far_any _).mono ?_); rintro e W2 ⟨rfl, bW⟩; have k1 : W2.cell? ⟨b, s * 2, none⟩ = some (.int .i64 (D s)) ∧ W2.cell? ⟨b, s * 2 + 1, none⟩ = some (.int .i64 (F s)) := ⟨(bW.cell (p := ⟨b, s * 2, none⟩) lb).trans x0, (bW.cell (p := ⟨b, s * 2 + 1, none⟩) lb).trans x1⟩))
    have bW2 : Below w3.heap.size w3 W2 := (⟨rfl, rfl, rfl, Nat.le_refl _, fun _ _ => rfl⟩ : Below w3.heap.size w3 w3.drew).trans bW
    have O2 := O.below bW2 (Nat.le_refl _)
    have B2 := B3.trans (bW2.mono B3.size)
    clear bW bW2 k1 x0 x1 O B3
    clear lb
    have lb := O2.lt
    have bp := HB.out.pos ht H0.out hs HF.out
    have T0 := Lib.hid (Trail.start S k D F s t (fun _ => 0))
    go_wp2_with fail
    go_loopg [11, 12] (F s).toNat (fun q u11 u12 wr => ∃ (m v : Nat) (p r : Nat → Nat), (F v).toNat ≤ q ∧ u12 = .int .i64 (v : Int) ∧ v < n ∧ Hid (v = p m) ∧ Hid (D v ≠ far) ∧ Hid (Trail S k D F s t m p r) ∧ m ≤ 20200 ∧ Hid (F v + m = F s) ∧ Ow wr u11 m (fun j => (r j : Int)) ∧ Hid (∀ c, u11.ownBlock = some c → w.heap.size ≤ c ∧ c ≠ b) ∧ Hid ((m = 0 ∧ u11 = .slice none 0 0) ∨ (0 < m ∧ ∃ c cp, u11 = .slice (some ⟨c, 0, none⟩) m cp)) ∧ OwP wr b n D F ∧ Below w.heap.size w wr)
    case atStart => exact ⟨0, s, _, _, Nat.le_refl _, rfl, hs, Lib.hid rfl, HF, T0, by omega, Lib.hid (by simp), Ow.nil _ _, Lib.hid (fun c hc => by cases hc), Lib.hid (.inl ⟨rfl, rfl⟩), O2, B2⟩
    case round =>
      clear T0 O2 B2 bp lb
      obtain ⟨m, v, p, r, hq, rfl, hv, HVM, HDV, HT, hm, HFV, OU, HU, HUU, O, B⟩ := hrel
      by_cases hvt : v = t
      · have d1 : ((v : Int) != (t : Int)) = false := by simp; omega
        have HE := Lib.hid hvt
        clear hvt
        rcases HUU.out with ⟨rfl, rfl⟩ | ⟨hm0, c, cp, rfl⟩
        · go_wp2_with fail
          refine (clip_nil wr).mono ?_
          rintro e w5 ⟨rfl, rfl⟩
          go_wp2_with fail
          go_ret2
          exact ⟨B, .inr ⟨D, F, _, 0, p, r, HB.out, HF.out, rfl, HT.out, by rw [← HVM.out]; exact HE.out, .inl ⟨rfl, rfl⟩⟩⟩
        · obtain ⟨hcc, OS⟩ := OU.own
          have hcw := (HU.out c rfl).1
          go_wp2_with fail
          refine (clip_any wr c m cp hcc).mono ?_
          rintro e w5 ⟨rfl, rfl⟩
          go_wp2_with fail
          go_ret2
          exact ⟨B, .inr ⟨D, F, _, m, p, r, HB.out, HF.out, rfl, HT.out, by rw [← HVM.out]; exact HE.out, .inr ⟨hm0, c, m, rfl, OS, hcw⟩⟩⟩
      · have d1 : ((v : Int) != (t : Int)) = true := by simp; omega
        have HE := Lib.hid hvt
        obtain ⟨a, PK⟩ := HB.out.pick A hv HDV.out hvt
        have HP := Lib.hid PK
        have hak := PK.lt
        clear hvt PK
        obtain ⟨wo, rfl⟩ : ∃ wo, wo = wr := ⟨_, rfl⟩
        go_wp2_with fail
        generalize u11 = U at *
        go_loopw [11, 12, 49] (fun u11 u12 u49 wr => ∃ j : Nat, u11 = U ∧ u12 = .int .i64 (v : Int) ∧ u49 = .int .i64 (j : Int) ∧ j ≤ a ∧ Below wo.heap.size wo wr) (fun _ _ u49 _ => k - (intOf u49).toNat)
        case atStart => exact ⟨0, rfl, rfl, rfl, Nat.zero_le _, Below.refl _ _⟩
        case round =>
          obtain ⟨j, rfl, rfl, rfl, hj, b4⟩ := hrel
          have d2 : (j : Int) < (k : Int) := by omega
          have hjk : j < k := by omega
          obtain ⟨vb, cap', ev, hvb, y1, y2, y3⟩ := hV.arc hjk
          injection ev with e1 e2 e3
          subst e1 e3
          have B5 := B.trans (b4.mono B.size)
          have O5 := O.below b4 (Nat.le_refl _)
          have OU5 := OU.below b4 (Nat.le_refl _)
          have z1 := (B5.cell (p := ⟨vb, j * 3, none⟩) hvb).trans y1
          have z2 := (B5.cell (p := ⟨vb, j * 3 + 1, none⟩) hvb).trans y2
          have z3 := (B5.cell (p := ⟨vb, j * 3 + 2, none⟩) hvb).trans y3
          clear y1 y2 y3
          go_upto_region 12 with fail
          have b6 := below_new wr (.cells #[.int .i64 (S.fr j : Int), .int .i64 (S.th j : Int), .int .i64 (S.ln j)] 30)
          have hA := heap_alloc_new wr (.cells #[.int .i64 (S.fr j : Int), .int .i64 (S.th j : Int), .int .i64 (S.ln j)] 30)
          have O6 := O5.below b6 (Nat.le_refl _)
          have OU6 := OU5.below b6 (Nat.le_refl _)
          have B6 := B5.trans (b6.mono B5.size)
          have b7 := b4.trans (b6.mono b4.size)
          have bwr := B5.size
          have hyo := b4.size
          have lbo := O.lt
          have lb := O5.lt
          clear b4 b6 O5 OU5 B5 z1 z2 z3
          generalize wr.alloc (.cells #[.int .i64 (S.fr j : Int), .int .i64 (S.th j : Int), .int .i64 (S.ln j)] 30) = W at *
          generalize wr.heap.size = y at *
          clear wr
          have ha := A.fr j hjk
          have hc := A.th j hjk
          have l1 := H0.out j hjk
          have l2 := A.hi j hjk
          have A0 : W.cell? ⟨y, 0, none⟩ = some (.int .i64 (S.fr j : Int)) := blk_cell hA 0
          have A1 : W.cell? ⟨y, 1, none⟩ = some (.int .i64 (S.th j : Int)) := blk_cell hA 1
          have A2 : W.cell? ⟨y, 2, none⟩ = some (.int .i64 (S.ln j)) := blk_cell hA 2
          have v1 := O6.one hv
          have v2 := O6.two hv
          have u1 := O6.one hc
          have u2 := O6.two hc
          have i1 : (v : Int) < (n : Int) := by omega
          have i2 : ((S.th j : Nat) : Int) < (n : Int) := by omega
          have bd : ∀ x, x < n → 0 ≤ D x ∧ D x ≤ 1152921504606846976 ∧ 0 ≤ F x ∧ F x ≤ 1152921504606846976 := fun x hx => by
            rcases HS.out.each x hx with q | ⟨m, q1, q2, w⟩
            · unfold far at q; omega
            · have h1 := w.nonneg (S := S.rev) H0.out
              have h2 := (w.bound A.rev).2
              omega
          obtain ⟨bd1, bd2, bd3, bd4⟩ := bd _ hc
          clear bd
          have g1 : 0 ≤ D (S.th j) + S.ln j := by omega
          have g2 : D (S.th j) + S.ln j ≤ 1152921508901814272 := by omega
          have g3 : 0 ≤ F (S.th j) + 1 := by omega
          have g4 : F (S.th j) + 1 ≤ 1152921504606846977 := by omega
          have l3 : Hid (D (S.th j) = far → D v ≠ D (S.th j) + S.ln j) := Lib.hid fun e => by
            have := HS.out.size A (by omega) hv HDV.out
            unfold far at e
            omega
          by_cases hja : j = a
          · have pk := HP.out
            rw [← hja] at pk
            have q1 : (((S.fr j : Nat) : Int) == (v : Int)) = true := by have := pk.fr; simp; omega
            have e1 : (D v == D (S.th j) + S.ln j) = true := by simp; exact pk.len
            have e2 : (F v == F (S.th j) + 1) = true := by simp; exact pk.few
            have HPK := Lib.hid pk
            have HJA := Lib.hid hja
            clear pk hja
            go_big_quiet (fail)
            have O8 : OwP (W.drewN nq) b n D F := O6.keep rfl
            have OU8 : Ow (W.drewN nq) u11 m (fun j => (r j : Int)) := OU6.keep fun _ _ => rfl
            have B8 : Below w.heap.size w (W.drewN nq) := ⟨B6.os, B6.tape, B6.output, B6.size, B6.block⟩
            have hA8 : (W.drewN nq).heap[y]? = some (.cells #[.int .i64 (S.fr j : Int), .int .i64 (S.th j : Int), .int .i64 (S.ln j)] 30 (0, 0)) := hA
            clear A0 A1 A2 v1 v2 u1 u2 hA O6 OU6 B6 b7 e1 e2 q1
            generalize W.drewN nq = W8 at *
            clear W
            go_upto_region 13 with fail
            have n0 : (W8.alloc (.cells #[.int .i64 (j : Int)] 3)).cell? ⟨W8.heap.size, 0, none⟩ = some (.int .i64 (j : Int)) := by rw [blk_cell (heap_alloc_new W8 _)]; rfl
            have Ba : Below W8.heap.size W8 (W8.alloc (.cells #[.int .i64 (j : Int)] 3)) := below_new W8 _
            have Oa := OU8.below Ba (Nat.le_refl _)
            have OPa := O8.below Ba (Nat.le_refl _)
            have hAa := (Ba.block y (blk_lt hA8)).trans hA8
            have B9 := B8.trans (Ba.mono B8.size)
            have sz : (W8.alloc (.cells #[.int .i64 (j : Int)] 3)).heap.size = W8.heap.size + 1 := by simp
            have lU : ∀ c, u11.ownBlock = some c → c < wo.heap.size := fun c hc => OU.lt hc
            have LU := Lib.hid lU
            have bw8 := B8.size
            have ly8 := blk_lt hA8
            have lb8 := O8.lt
            have SZ := Lib.hid sz
            clear lU sz
            go_upto_region 14 with (at_builtin; go_must (refine wpList_grow rfl _ _ rfl _ m (fun j => (r j : Int)) rfl Oa ⟨W8.heap.size, 0, none⟩ 1 (j : Int) rfl n0 (by omega) ?_); intro b' c' w5 O9 g5 l5)
            have hnb : w.heap.size ≤ b' ∧ b' ≠ b := by
              rcases l5 with e | e
              · exact HU.out b' e.symm
              · have := SZ.out; omega
            have B10 := Below.grown B9 g5 B9.size (fun c hc => (HU.out c hc).1)
            have OP5 : OwP w5 b n D F := OPa.keep (g5.block b OPa.lt fun e => (HU.out b e.symm).2 rfl)
            have hA5 : w5.heap[y]? = some (.cells #[.int .i64 (S.fr j : Int), .int .i64 (S.th j : Int), .int .i64 (S.ln j)] 30 (0, 0)) := (g5.block y (blk_lt hAa) fun e => by have := LU.out y e.symm; omega).trans hAa
            have O10 : Ow w5 (.slice (some ⟨b', 0, none⟩) (m + 1) c') (m + 1) (fun x => ((upd r m j x : Nat) : Int)) := O9.congr fun x hx => by
              by_cases e : x = m
              · subst e; rw [upd_same, upd_same]
              · rw [upd_ne e, upd_ne e]
            have HT2 := Lib.hid (HT.out.step (by rw [← HVM.out]; exact HPK.out) (by rw [← HVM.out]; exact HE.out))
            have few := HPK.out.few
            have fin := HPK.out.fin
            have pz := (HB.out.pos ht H0.out hc fin).2.1
            have fz := HFV.out
            have szs := HS.out.size A (by omega) hs HF.out
            have HFV2 : Hid (F (S.th j) + ((m + 1 : Nat) : Int) = F s) := Lib.hid (by omega)
            have hm2 : m + 1 ≤ 20200 := by omega
            have hq2 : (F (S.th j)).toNat < gk := by omega
            have HFIN := Lib.hid fin
            have a1 : w5.cell? ⟨y, 1, none⟩ = some (.int .i64 (S.th j : Int)) := blk_cell hA5 1
            have HU2 : Hid (∀ c, (Value.slice (some ⟨b', 0, none⟩) (m + 1) c').ownBlock = some c → w.heap.size ≤ c ∧ c ≠ b) := Lib.hid fun c hc => by
              have e : some b' = some c := hc
              injection e with e
              rw [← e]; exact hnb
            clear fin few fz szs n0 Ba Oa OPa hAa B9 g5 l5 hnb O9 hA8 O8 OU8 B8 OU B O
            go_wp2_with fail
            go_roundg (F (S.th j)).toNat
            case measure => omega
            case rel => exact ⟨m + 1, S.th j, _, _, Nat.le_refl _, rfl, hc, Lib.hid (upd_same _ _ _).symm, HFIN, HT2, hm2, HFV2, O10, HU2, Lib.hid (.inr ⟨by omega, b', c', rfl⟩), OP5, B10⟩
          · have lst := HP.out.least j (by omega)
            have LST := Lib.hid lst
            have HJA := Lib.hid hja
            clear lst hja
            by_cases hfv : S.fr j = v
            · have q1 : (((S.fr j : Nat) : Int) == (v : Int)) = true := by simp; omega
              by_cases hl : D v = D (S.th j) + S.ln j
              · have e1 : (D v == D (S.th j) + S.ln j) = true := by simp; exact hl
                have e2 : (F v == F (S.th j) + 1) = false := by
                  simp
                  intro z
                  exact LST.out ⟨hfv, fun q => l3.out q hl, hl, z⟩
                have j1 : j + 1 ≤ a := by have := HJA.out; omega
                clear hl hfv
                go_big_quiet (fail)
                go_wp2_with fail
                go_roundw
                case rel => exact ⟨j + 1, rfl, rfl, by simp, j1, ⟨b7.os, b7.tape, b7.output, b7.size, b7.block⟩⟩
                case measure => simp [intOf]; omega
              · have e1 : (D v == D (S.th j) + S.ln j) = false := by simp; exact hl
                have j1 : j + 1 ≤ a := by have := HJA.out; omega
                clear hl hfv
                go_big_quiet (fail)
                go_wp2_with fail
                go_roundw
                case rel => exact ⟨j + 1, rfl, rfl, by simp, j1, ⟨b7.os, b7.tape, b7.output, b7.size, b7.block⟩⟩
                case measure => simp [intOf]; omega
            · have q1 : (((S.fr j : Nat) : Int) == (v : Int)) = false := by simp; omega
              have j1 : j + 1 ≤ a := by have := HJA.out; omega
              clear hfv
              go_big_quiet (fail)
              go_wp2_with fail
              go_roundw
              case rel => exact ⟨j + 1, rfl, rfl, by simp, j1, ⟨b7.os, b7.tape, b7.output, b7.size, b7.block⟩⟩
              case measure => simp [intOf]; omega
end Go.Proofs.Ytchlccendggfpaa.Ro
