/- Walks: Any, of the program's chapter 6. -/
import Derived.Test.YtchlccendggfpaaPaG
import Derived.Test.YtchlccendggfpaaPaO
import Derived.Test.YtchlccendggfpaaPaV
import Derived.Test.YtchlccendggfpaaRoGr
import Derived.Outline
import Derived.WalkMore
import Derived.StillTailTactics
namespace Go.Proofs.Ytchlccendggfpaa.Ro
open Go.RowKit Go.Proofs Go.Maps
set_option linter.unusedVariables false
set_option linter.unusedSimpArgs false

/-- what Any holds: distances in block D, by which arcs in block E; apart, of the call's own -/
structure ASt (w wr : World) (D cD E cE n : Nat) (d b : Nat → Int) : Prop where
  dist : Ow wr (.slice (some ⟨D, 0, none⟩) n cD) n d
  by_ : Ow wr (.slice (some ⟨E, 0, none⟩) n cE) n b
  de : D ≠ E
  bd : w.heap.size ≤ D
  be : w.heap.size ≤ E
  below : Below w.heap.size w wr
section
variable {w wr w' : World} {D cD E cE n : Nat} {d b : Nat → Int}
theorem ASt.low (h : ASt w wr D cD E cE n d b) (hb : Below wr.heap.size wr w') : ASt w w' D cD E cE n d b :=
  ⟨h.dist.below hb (Nat.le_refl _), h.by_.below hb (Nat.le_refl _), h.de, h.bd, h.be, h.below.trans (hb.mono h.below.size)⟩
theorem ASt.drewN (h : ASt w wr D cD E cE n d b) (m : Nat) : ASt w (wr.drewN m) D cD E cE n d b :=
  ⟨h.dist.keep fun _ _ => rfl, h.by_.keep fun _ _ => rfl, h.de, h.bd, h.be, ⟨h.below.os, h.below.tape, h.below.output, h.below.size, h.below.block⟩⟩
theorem ASt.drew (h : ASt w wr D cD E cE n d b) : ASt w wr.drew D cD E cE n d b :=
  ⟨h.dist.keep fun _ _ => rfl, h.by_.keep fun _ _ => rfl, h.de, h.bd, h.be, ⟨h.below.os, h.below.tape, h.below.output, h.below.size, h.below.block⟩⟩
theorem ASt.setE (h : ASt w wr D cD E cE n d b) {i : Nat} (hi : i < n) (u : Int) : ASt w (wr.setCell ⟨E, i, none⟩ (.int .i64 u)) D cD E cE n d (upd b i u) :=
  ⟨h.dist.keep fun k hk => Below.heap_setCell _ _ _ _ (by have e : some D = some k := hk; injection e with e; subst e; exact h.de), h.by_.set hi u, h.de, h.bd, h.be, h.below.setCell (p := ⟨E, i, none⟩) h.be _⟩
theorem ASt.relax (h : ASt w wr D cD E cE n d b) {d2 : Nat → Int} (ht : Hp.Turn (fun x => x = D) wr w') (O : Ow w' (.slice (some ⟨D, 0, none⟩) n cD) n d2) : ASt w w' D cD E cE n d2 b :=
  ⟨O, h.by_.keep fun k hk => ht.block k (h.by_.lt hk) (by have e : some E = some k := hk; injection e with e; subst e; exact Ne.symm h.de), h.de, h.bd, h.be,
    h.below.trans ⟨ht.os, ht.tape, ht.output, ht.size, fun k hk => ht.block k (Nat.lt_of_lt_of_le hk h.below.size) (by have := h.bd; omega)⟩⟩
end

theorem Pred.arc {S : ArcsF} {k n y : Nat} {L : Int} {d b : Nat → Int} (P : Pred S k n d b) (hy : y < n) (h0 : 0 ≤ b y) : ∃ i : Nat, i < k ∧ b y = (i : Int) ∧ S.fr i = bk S b y := by
  rcases P.each y hy with q | ⟨i, h1, h2, _⟩
  · omega
  · exact ⟨i, h1, h2, by unfold bk; rw [h2]; rfl⟩

/-- what Any tells: the numbers, or a round below 0 -/
def AnyPost (w : World) (S : ArcsF) (k s n : Nat) (e : Ending) (w' : World) : Prop :=
  Below w.heap.size w w' ∧ ((∃ (b c : Nat) (d : Nat → Int) (t : Nat), e = .returned (.tuple #[.slice (some ⟨b, 0, none⟩) n c, .slice none 0 0, .bool true]) ∧ Ow w' (.slice (some ⟨b, 0, none⟩) n c) n d ∧ w.heap.size ≤ b ∧ Sound S k s n t d ∧ t ≤ 20200 ∧ Fix S k d) ∨
    (∃ (b m : Nat) (r : Nat → Nat), e = .returned (.tuple #[.slice none 0 0, .slice (some ⟨b, 0, none⟩) m m, .bool false]) ∧ OwS w' b m (fun j => (r j : Int)) ∧ w.heap.size ≤ b ∧ RoundF S k s n m r))

set_option maxRecDepth 100000 in
set_option maxHeartbeats 12800000 in
theorem any_any (w : World) (n k s : Nat) (V : Value) (S : ArcsF) (hV : RdA w V k S) (A : ArcsIn S k n 4294967296) (hs : s < n) (hn : n ≤ 100) (hk : k ≤ 200) :
    Calls Try.prog 20 #[.int .i64 (n : Int), V, .int .i64 (s : Int)] w (AnyPost w S k s n) := by
  obtain ⟨VA, vc, rfl, rv⟩ := id hV
  have HV := Lib.hid rv
  clear rv
  go_enter Try.func20, Try.ntmps20
  go_wp2_with fail
  refine (fine_yes _ n k s _ S hV (by omega) A hs (by omega)).mono ?_
  rintro e w1 ⟨rfl, B1⟩
  go_wp2_with fail
  refine (begin_any _ n s hs (by omega)).mono ?_
  rintro e w2 ⟨D, cD, rfl, O2, hD, b2⟩
  have hDl := O2.lt (k := D) rfl
  have B2 := B1.trans (b2.mono B1.size)
  have hDw : w.heap.size ≤ D := Nat.le_trans B1.size hD
  clear b2 hD B1
  go_wp2_with fail
  have cn : (w2.alloc (.cells #[.int .i64 (-1)] 3)).cell? ⟨w2.heap.size, 0, none⟩ = some (.int .i64 (-1)) := by rw [blk_cell (heap_alloc_new w2 _)]; rfl
  refine (repeat_anyU _ (-1) w2.heap.size n (by omega) cn (by simp)).mono ?_
  rintro e w4 ⟨cE, rfl, O4, b4⟩
  have b1 := below_new w2 (.cells #[.int .i64 (-1)] 3)
  have b3 := b1.trans (b4.mono b1.size)
  have hsz : (w2.alloc (.cells #[.int .i64 (-1)] 3)).heap.size = w2.heap.size + 1 := by simp
  have P4 : ASt w w4 D cD (w2.alloc (.cells #[.int .i64 (-1)] 3)).heap.size cE n (upd (fun _ => far) s 0) (fun _ => -1) :=
    ⟨O2.below b3 (Nat.le_refl _), O4, by rw [hsz]; omega, hDw, by rw [hsz]; have := B2.size; omega, B2.trans (b3.mono B2.size)⟩
  clear cn b1 b3 b4 hsz O4 O2 B2 hDl
  generalize (w2.alloc (.cells #[.int .i64 (-1)] 3)).heap.size = E at *
  generalize w2.heap.size = e0 at *
  clear w2 w1
  have S0 := Lib.hid (Sound.start S k s n)
  have L0 := Lib.hid (Lev.start S k n (upd (fun _ => far) s 0))
  have Q0 := Lib.hid (Pred.start S k n (upd (fun _ => far) s 0))
  go_wp2_with fail
  go_loopw [6, 7, 10, 26] (fun u6 u7 u10 u26 wr => ∃ (r t : Nat) (d b : Nat → Int) (R : Nat → Nat) (last : Int), u6 = .slice (some ⟨D, 0, none⟩) n cD ∧ u7 = .slice none 0 0 ∧ u10 = .int .i64 last ∧ u26 = .int .i64 (r : Int) ∧ r ≤ n ∧ t ≤ r * k ∧ Hid (Sound S k s n t d) ∧ Hid (Pred S k n d b) ∧ Hid (Lev S k n d b R (r + 1) 0) ∧ Hid (0 < r → Lev S k n d b R r k ∧ ∃ v : Nat, v < n ∧ last = v ∧ R v = r) ∧ ASt w wr D cD E cE n d b) (fun _ _ _ u26 _ => n - (intOf u26).toNat)
  case atStart => exact ⟨0, 0, _, _, _, -1, rfl, rfl, rfl, rfl, Nat.zero_le _, by omega, S0, Q0, L0, Lib.hid (fun h => by omega), P4⟩
  case round =>
    clear S0 L0 Q0 P4 w4
    obtain ⟨r, t, d, b, R, last, rfl, rfl, rfl, rfl, hr, ht, SD, PD, LV, LR, P⟩ := hrel
    by_cases hlt : r < n
    · have d0 : (r : Int) < (n : Int) := by omega
      obtain ⟨wo, rfl⟩ : ∃ wo, wo = wr := ⟨_, rfl⟩
      clear LR
      go_wp2_with fail
      go_loopw [10, 30] (fun u10 u30 wr => ∃ (j t : Nat) (d b : Nat → Int) (R : Nat → Nat) (last : Int), u10 = .int .i64 last ∧ u30 = .int .i64 (j : Int) ∧ j ≤ k ∧ t ≤ r * k + j ∧ Hid (Sound S k s n t d) ∧ Hid (Pred S k n d b) ∧ Hid (Lev S k n d b R (r + 1) j) ∧ Hid ((last = -1 ∧ ∀ i, i < j → d (S.fr i) ≠ far → d (S.th i) ≤ d (S.fr i) + S.ln i) ∨ ∃ v : Nat, v < n ∧ last = v ∧ R v = r + 1) ∧ ASt w wr D cD E cE n d b) (fun _ u30 _ => k - (intOf u30).toNat)
      case atStart => exact ⟨0, t, d, b, R, -1, rfl, rfl, Nat.zero_le _, ht, SD, PD, LV, Lib.hid (.inl ⟨rfl, fun i hi => absurd hi (Nat.not_lt_zero i)⟩), P⟩
      case round =>
        clear SD PD LV P ht wo
        obtain ⟨j, t, d, b, R, last, rfl, rfl, hj, ht, SD, PD, LV, LA, P⟩ := hrel
        have t2 : t ≤ 20200 := by
          have : (r + 1) * k ≤ 100 * 200 := Nat.mul_le_mul (by omega) hk
          have e : (r + 1) * k = r * k + k := Nat.succ_mul _ _
          omega
        by_cases hjk : j < k
        · have d1 : (j : Int) < (k : Int) := by omega
          obtain ⟨vb, cap, ev, hvb, y1, y2, y3⟩ := hV.arc hjk
          injection ev with e1 e2 e3
          subst e1 e3
          have z1 := (P.below.cell (p := ⟨vb, j * 3, none⟩) hvb).trans y1
          have z2 := (P.below.cell (p := ⟨vb, j * 3 + 1, none⟩) hvb).trans y2
          have z3 := (P.below.cell (p := ⟨vb, j * 3 + 2, none⟩) hvb).trans y3
          have ha := A.fr j hjk
          have hc := A.th j hjk
          have l1 := A.lo j hjk
          have l2 := A.hi j hjk
          have ba := SD.out.size A (by omega) ha
          have bd : d (S.fr j) = far ∨ (-1152921504606846976 ≤ d (S.fr j) + S.ln j ∧ d (S.fr j) + S.ln j ≤ 1152921504606846976) := by
            by_cases e : d (S.fr j) = far
            · exact .inl e
            · have := ba e; exact .inr (by omega)
          clear y1 y2 y3 ba
          have P5 := P.low (below_new wr (.cells #[.int .i64 (S.fr j : Int), .int .i64 (S.th j : Int), .int .i64 (S.ln j)] 30))
          have Y5 : (wr.alloc (.cells #[.int .i64 (S.fr j : Int), .int .i64 (S.th j : Int), .int .i64 (S.ln j)] 30)).heap[wr.heap.size]? = some (.cells #[.int .i64 (S.fr j : Int), .int .i64 (S.th j : Int), .int .i64 (S.ln j)] 30 (0, 0)) := heap_alloc_new _ _
          have lD := P.dist.lt (k := D) rfl
          have lE := P.by_.lt (k := E) rfl
          have hEy : E ≠ wr.heap.size := by omega
          have hDy : wr.heap.size ≠ D := by omega
          have HBD := Lib.hid bd
          clear P bd lD lE
          go_upto_region 12 with fail
          generalize wr.alloc (.cells #[.int .i64 (S.fr j : Int), .int .i64 (S.th j : Int), .int .i64 (S.ln j)] 30) = w5 at *
          generalize wr.heap.size = y at *
          have a0 : w5.cell? ⟨y, 0, none⟩ = some (.int .i64 (S.fr j : Int)) := blk_cell Y5 0
          have a1 : w5.cell? ⟨y, 1, none⟩ = some (.int .i64 (S.th j : Int)) := blk_cell Y5 1
          have a2 : w5.cell? ⟨y, 2, none⟩ = some (.int .i64 (S.ln j)) := blk_cell Y5 2
          clear z1 z2 z3
          go_wp2_with fail
          clear a0 a1 a2
          have bd := HBD.out
          clear HBD
          refine (relax_any _ D cD n (S.fr j) (S.th j) (S.ln j) d P5.dist ha hc hn bd).mono ?_
          rintro e w6 ⟨T6, ⟨hf, hl, rfl, O6⟩ | ⟨hno, rfl, O6⟩⟩
          · have P6 := P5.relax T6 O6
            have Y6 := (T6.block y (blk_lt Y5) hDy).trans Y5
            have ne : d (S.fr j) + S.ln j ≠ far := by have := bd.resolve_left hf; have := SD.out.size A (by omega) ha hf; unfold far; omega
            have SD2 := Lib.hid (SD.out.step A hjk hf hl)
            have PD2 := Lib.hid (PD.out.step A hjk hf hl ne)
            have LV2 := Lib.hid (LV.out.take A hjk hf hl (by omega))
            have LA2 : Hid (((S.th j : Nat) : Int) = -1 ∧ (∀ i, i < j + 1 → upd d (S.th j) (d (S.fr j) + S.ln j) (S.fr i) ≠ far → upd d (S.th j) (d (S.fr j) + S.ln j) (S.th i) ≤ upd d (S.th j) (d (S.fr j) + S.ln j) (S.fr i) + S.ln i) ∨ ∃ v : Nat, v < n ∧ ((S.th j : Nat) : Int) = v ∧ upd R (S.th j) (r + 1) v = r + 1) := Lib.hid (.inr ⟨S.th j, hc, rfl, upd_same _ _ _⟩)
            clear hf hl bd ne SD PD LV LA P5 Y5 T6 O6 l1 l2
            have a1 : w6.cell? ⟨y, 1, none⟩ = some (.int .i64 (S.th j : Int)) := blk_cell Y6 1
            have zb := P6.by_.cell hc
            have fb := P6.by_.frozen (S.th j)
            have i2 : ((S.th j : Nat) : Int) < (n : Int) := by omega
            go_wp2_with fail
            have P7 := (P6.setE hc (j : Int)).drew
            clear P6 Y6
            go_region_held3 (fun w' => w'.cell? ⟨y, 1, none⟩ = some (.int .i64 (S.th j : Int))) (first | with_reducible exact a1 | go_keep) (fail)
            all_goals
              go_wp2_with fail
              go_roundw
              case rel => exact ⟨j + 1, t + 1, _, _, _, _, rfl, by simp, by omega, by omega, SD2, PD2, LV2, LA2, P7⟩
              case measure => simp [intOf]; omega
          · have P6 := P5.relax T6 O6
            have LV2 := Lib.hid (LV.out.skip hno)
            have LA2 : Hid ((last = -1 ∧ ∀ i, i < j + 1 → d (S.fr i) ≠ far → d (S.th i) ≤ d (S.fr i) + S.ln i) ∨ ∃ v : Nat, v < n ∧ last = v ∧ R v = r + 1) := Lib.hid (LA.out.imp (fun q => ⟨q.1, fun i hi h1 => by
              rcases Nat.lt_or_ge i j with z | z
              · exact q.2 i z h1
              · rw [show i = j by omega] at h1 ⊢; exact hno.resolve_left h1⟩) id)
            clear hno bd LV LA P5 Y5 T6 O6 l1 l2
            go_wp2_with fail
            go_roundw
            case rel => exact ⟨j + 1, t, d, b, R, last, rfl, by simp, by omega, by omega, SD, PD, LV2, LA2, P6⟩
            case measure => simp [intOf]; omega
        · have d1 : ¬ ((j : Int) < (k : Int)) := by omega
          obtain rfl : j = k := by omega
          rcases LA.out with ⟨q0, q⟩ | ⟨v, hv, q0, q⟩
          · subst q0
            have FX : Hid (Fix S j d) := Lib.hid q
            clear LA q
            go_wp2_with fail
            go_ret3
            have t20 : t ≤ 20200 := by
              have : (r + 1) * j ≤ 100 * 200 := Nat.mul_le_mul (by omega) hk
              have e : (r + 1) * j = r * j + j := Nat.succ_mul _ _
              omega
            exact ⟨P.below, .inl ⟨D, cD, d, t, rfl, P.dist, P.bd, SD.out, t20, FX.out⟩⟩
          · subst q0
            have hR : Hid (0 < r + 1 → Lev S j n d b R (r + 1) j ∧ ∃ v2 : Nat, v2 < n ∧ ((v : Nat) : Int) = v2 ∧ R v2 = r + 1) := Lib.hid fun _ => ⟨LV.out, v, hv, rfl, q⟩
            have LV2 := Lib.hid LV.out.next
            clear LA q
            go_wp2_with fail
            go_roundw
            case rel => exact ⟨r + 1, t, d, b, R, (v : Nat), rfl, rfl, rfl, by simp, by omega, by rw [Nat.succ_mul]; exact ht, SD, PD, LV2, hR, P⟩
            case measure => simp [intOf]; omega
    · obtain rfl : n = r := by omega
      have d0 : ¬ ((n : Int) < (n : Int)) := by omega
      obtain ⟨LV1, v, hv, q0, hRv⟩ := LR.out (by omega)
      subst q0
      obtain ⟨all, hlt2, m, hm, lp⟩ := LV1.round PD.out A hv hRv
      obtain ⟨p, hp0, hpm, hpb, hpf⟩ := first_back m lp.pos lp.back
      have RG := Lib.hid (PD.out.ring SD.out A hlt2 ⟨hp0, hpb, fun j hj => lp.all j (by omega)⟩ (by omega) hpf)
      have ALL := Lib.hid (And.intro all (fun j (hj : j < p) => lp.all j (by omega)))
      have HPB := Lib.hid (And.intro hpb hpf)
      clear LV LR LV1 hRv all lp hpb hpf SD
      go_wp2_with fail
      go_loop [10, 51] (fun u10 u51 => ∃ j y : Nat, u10 = .int .i64 (y : Int) ∧ u51 = .int .i64 (j : Int) ∧ j ≤ n ∧ y < n ∧ Hid (y = iter (bk S b) j v)) (fun _ u51 => n - (intOf u51).toNat)
      case atStart => exact ⟨0, v, rfl, rfl, Nat.zero_le _, hv, Lib.hid rfl⟩
      case round =>
        obtain ⟨j, y, rfl, rfl, hj, hy, HY⟩ := hrel
        by_cases hjn : j < n
        · have d1 : (j : Int) < (n : Int) := by omega
          have h0 := ALL.out.1 j hjn
          rw [← HY.out] at h0
          obtain ⟨i, hi, e1, e2⟩ := PD.out.arc (L := 0) hy h0
          have cE := P.by_.cell hy
          rw [e1] at cE
          obtain ⟨vb, cap, ev, hvb, y1, y2, y3⟩ := hV.arc hi
          injection ev with f1 f2 f3
          subst f1 f3
          have z1 := (P.below.cell (p := ⟨vb, i * 3, none⟩) hvb).trans y1
          have i1 : (y : Int) < (n : Int) := by omega
          have i2 : (i : Int) < (k : Int) := by omega
          have hlt3 := A.fr i hi
          have HY2 : Hid (S.fr i = iter (bk S b) (j + 1) v) := Lib.hid (by rw [e2, HY.out]; rfl)
          clear y1 y2 y3 e1 e2 h0
          go_wp2_with fail
          go_round
          case rel => exact ⟨j + 1, S.fr i, rfl, by simp, by omega, hlt3, HY2⟩
          case measure => simp [intOf]; omega
        · have d1 : ¬ ((j : Int) < (n : Int)) := by omega
          obtain rfl : n = j := by omega
          have ALL2 := Lib.hid ALL.out.2
          have HPB2 := Lib.hid HPB.out
          rw [← HY.out] at RG ALL2 HPB2
          have BW := P.below
          have OE := P.by_
          have hE := P.be
          have hEl := P.by_.lt (k := E) rfl
          clear HY ALL HPB P hlt2
          go_wp2_with fail
          go_loopg [7, 13] p (fun q u7 u13 w2 => ∃ i z : Nat, p ≤ q + i ∧ i < p ∧ z < n ∧ u13 = .int .i64 (z : Int) ∧ Hid (z = iter (bk S b) i y) ∧ Ow w2 u7 i (fun a => b (iter (bk S b) a y)) ∧ Hid (∀ c, u7.ownBlock = some c → w.heap.size ≤ c ∧ c ≠ E) ∧ Ow w2 (.slice (some ⟨E, 0, none⟩) n cE) n b ∧ E < w2.heap.size ∧ Below w.heap.size w w2)
          case atStart => exact ⟨0, y, by omega, by omega, hy, rfl, Lib.hid rfl, Ow.nil _ _, Lib.hid (fun c hc => by cases hc), OE, hEl, BW⟩
          case round =>
            clear OE BW hEl
            obtain ⟨i, z, hq, hi, hz, rfl, HZ, O, HU, OE, hEl, B⟩ := hrel
            have h0 := ALL2.out i hi
            rw [← HZ.out] at h0
            obtain ⟨a, ha, e1, e2⟩ := PD.out.arc (L := 0) hz h0
            have cz := OE.cell hz
            rw [e1] at cz
            have i1 : (z : Int) < (n : Int) := by omega
            obtain ⟨vb, cap, ev, hvb, y1, y2, y3⟩ := hV.arc ha
            injection ev with f1 f2 f3
            subst f1 f3
            have hlt3 := A.fr a ha
            have i2 : (a : Int) < (k : Int) := by omega
            have e3 : Hid (S.fr a = iter (bk S b) (i + 1) y) := Lib.hid (by rw [e2, HZ.out]; rfl)
            have e4 : Hid (b (iter (bk S b) i y) = (a : Int)) := Lib.hid (by rw [← HZ.out]; exact e1)
            clear e1 e2 h0 y2 y3
            go_upto_region 23 with fail
            have n0 : (wr.alloc (.cells #[.int .i64 (a : Int)] 3)).cell? ⟨wr.heap.size, 0, none⟩ = some (.int .i64 (a : Int)) := by rw [blk_cell (heap_alloc_new wr _)]; rfl
            have Ba : Below wr.heap.size wr (wr.alloc (.cells #[.int .i64 (a : Int)] 3)) := below_new wr _
            have Oa := O.below Ba (Nat.le_refl _)
            have OEa := OE.below Ba (Nat.le_refl _)
            have B4 := B.trans (Ba.mono B.size)
            have sz : wr.heap.size ≤ (wr.alloc (.cells #[.int .i64 (a : Int)] 3)).heap.size := Ba.size
            have bwr := B.size
            go_upto_region 24 with (at_builtin; go_must (refine wpList_grow rfl _ _ rfl _ i (fun a => b (iter (bk S b) a y)) rfl Oa ⟨wr.heap.size, 0, none⟩ 1 (a : Int) rfl n0 (by omega) ?_); intro b' c' w5 O5 g5 l5)
            have hbE : w.heap.size ≤ b' ∧ b' ≠ E := by
              rcases l5 with e | e
              · exact HU.out b' e.symm
              · omega
            have B5 := Below.grown B4 g5 B4.size (fun c hc => (HU.out c hc).1)
            have OE5 : Ow w5 (.slice (some ⟨E, 0, none⟩) n cE) n b := OEa.keep fun c hc => g5.block c (OEa.lt hc) (fun e => (HU.out c e.symm).2 (by have e2 : some E = some c := hc; injection e2 with e2; exact e2.symm))
            have hE5 := OE5.lt (k := E) rfl
            have O6 : Ow w5 (.slice (some ⟨b', 0, none⟩) (i + 1) c') (i + 1) (fun a => b (iter (bk S b) a y)) := O5.congr fun c hc => by
              by_cases q : c = i
              · subst q; rw [upd_same]; exact e4.out.symm
              · rw [upd_ne q]
            have hU5 : ∀ c, (Value.slice (some ⟨b', 0, none⟩) (i + 1) c').ownBlock = some c → w.heap.size ≤ c ∧ c ≠ E := fun c hc => by
              have e : some b' = some c := hc
              injection e with e
              rw [← e]; exact hbE
            have cz5 := OE5.cell hz
            rw [show b z = (a : Int) by rw [HZ.out]; exact e4.out] at cz5
            have z1 := (B5.cell (p := ⟨vb, a * 3, none⟩) hvb).trans y1
            clear n0 Ba Oa OEa B4 sz O OE B g5 l5 cz y1 O5 hbE bwr
            have HU5 := Lib.hid hU5
            clear hU5
            by_cases hb : S.fr a = y
            · have q1 : (((S.fr a : Nat) : Int) == (y : Int)) = true := by simp; omega
              have hpi : p = i + 1 := by
                rcases Nat.lt_or_ge (i + 1) p with q | q
                · exact absurd (by rw [← e3.out]; exact hb) (HPB2.out.2 (i + 1) (by omega) q)
                · omega
              have HPI := Lib.hid hpi
              clear hb hpi hq
              go_wp2_with fail
              have li : i + 1 ≤ 1000 := by omega
              refine (reverse_any w5 b' (i + 1) c' _ (by omega) li O6).mono ?_
              rintro e w6 ⟨rfl, T6, O7⟩
              have hb6 := (HU5.out b' rfl).1
              have B6 : Below w.heap.size w w6 := B5.trans ⟨T6.os, T6.tape, T6.output, T6.size, fun c hc => T6.block c (by have := B5.size; omega) (by omega)⟩
              obtain ⟨hcc, OS⟩ := O7.own
              go_wp2_with fail
              refine (clip_any w6 b' (i + 1) c' hcc).mono ?_
              rintro e w7 ⟨rfl, rfl⟩
              go_wp2_with fail
              go_ret3
              have hp := HPI.out
              have RG2 := RG.out
              rw [hp] at RG2
              exact ⟨B6, .inr ⟨b', i + 1, _, rfl, OS.congr fun c hc => by
                have h1 := ALL2.out (i + 1 - 1 - c) (by omega)
                show b (iter (bk S b) (i + 1 - 1 - c) y) = ((b (iter (bk S b) (i + 1 - 1 - c) y)).toNat : Int)
                omega, hb6, RG2⟩⟩
            · have q1 : (((S.fr a : Nat) : Int) == (y : Int)) = false := by simp; omega
              have hpi : i + 1 < p := by
                rcases Nat.lt_or_ge (i + 1) p with q | q
                · exact q
                · exact absurd (by rw [e3.out, show i + 1 = p by omega]; exact HPB2.out.1) hb
              clear hb
              go_wp2_with fail
              go_roundg (p - (i + 1))
              case measure => omega
              case rel => exact ⟨i + 1, S.fr a, by omega, hpi, hlt3, rfl, e3, O6, HU5, OE5, hE5, B5⟩
end Go.Proofs.Ytchlccendggfpaa.Ro
