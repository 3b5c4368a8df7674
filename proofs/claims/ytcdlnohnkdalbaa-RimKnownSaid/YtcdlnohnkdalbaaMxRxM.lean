/- Walks: Most, of the document's chapter 9. -/
import Derived.Test.YtcdlnohnkdalbaaMxRiVa
import Derived.Test.YtcdlnohnkdalbaaMxRxB
import Derived.Test.YtcdlnohnkdalbaaMxRxR
namespace Go.Proofs.Ytcdlnohnkdalbaa.Ro
open Go.RowKit Go.Proofs Go.Maps
set_option linter.unusedVariables false
set_option maxRecDepth 100000
set_option linter.unusedSimpArgs false

/-- what Most hands back of two that are not one -/
def MostPost (B0 : Nat) (w : World) (m : Nat) (t c : Nat → Int) (s T : Int) (e : Ending) (w' : World) : Prop :=
  ∃ (b : Nat) (W : Int) (f : Nat → Int), e = .returned (.tuple #[.slice (some ⟨b, 0, none⟩) m m, .int .i64 W, .int .i64 0]) ∧ Ow w' (.slice (some ⟨b, 0, none⟩) m m) m f ∧ B0 ≤ b ∧ Flows m t f s T W ∧ (∀ d, d < m → f d ≤ c d) ∧
    (∀ (g : Nat → Int) (W' : Int), Flows m t g s T W' → (∀ d, d < m → g d ≤ c d) → W' ≤ W) ∧ Below B0 w w'

theorem flow_bound {m : Nat} {t c f : Nat → Int} {s T : Int} {W : Int} (F : Flows m t f s T W) (ev : m % 2 = 0) (hc : ∀ d, d < m → f d ≤ c d) (hcap : ∀ d, d < m → 0 ≤ c d ∧ c d ≤ 2147483648) {d : Nat} (hd : d < m) : -2147483648 ≤ f d ∧ f d ≤ 2147483648 := by
  have h1 := hc d hd
  have h2 := hc _ (oth_lt hd ev)
  have h3 := F.anti d hd
  have h4 := hcap d hd
  have h5 := hcap _ (oth_lt hd ev)
  omega
theorem flow_value {m : Nat} {t c f : Nat → Int} {s T : Int} {W : Int} (F : Flows m t f s T W) (hne : s ≠ T) : val m t f s = W := by
  rw [F.kept s, if_pos rfl, if_neg hne]; omega
theorem flow_top {m : Nat} {t c f : Nat → Int} {s T : Int} {W : Int} (F : Flows m t f s T W) (hne : s ≠ T) (hm : m ≤ 240) (hc : ∀ d, d < m → f d ≤ c d) (hcap : ∀ d, d < m → 0 ≤ c d ∧ c d ≤ 2147483648) : W ≤ 515396075520 := by
  have h1 := flow_value (c := c) F hne
  have h2 : val m t f s ≤ sm (fun _ => 2147483648) m := sm_le m fun d hd => by
    have := hc d hd
    have := hcap d hd
    split <;> omega
  rw [sm_const] at h2
  omega
theorem min_if (a b : Int) : (if b < a then b else a) = min a b := by split <;> omega
theorem zero_flows (m : Nat) (t : Nat → Int) (s T : Int) : Flows m t (fun _ => 0) s T 0 := ⟨fun _ _ => rfl, fun u => by
  have : val m t (fun _ => 0) u = 0 := by
    unfold val
    rw [sm_congr (g := fun _ => 0) m fun d hd => by split <;> rfl, sm_zero]
  rw [this]
  split <;> split <;> rfl⟩

set_option maxHeartbeats 12800000 in
theorem most_any (w : World) (N : Nat) (T X C : Value) (m s z : Nat) (t x c : Nat → Int) (hT : Rd w T m t) (hX : Rd w X m x) (hC : Rd w C m c) (hs : s < N) (hz : z < N) (hne : s ≠ z) (hN : N ≤ 60) (hm : m ≤ 240) (ev : m % 2 = 0) (ht : ∀ d, d < m → 0 ≤ t d ∧ t d < N) (hcap : ∀ d, d < m → 0 ≤ c d ∧ c d ≤ 2147483648) :
    Calls Try.prog 22 #[.agg #[.int .i64 (N : Int), T, X, C], .int .i64 (s : Int), .int .i64 (z : Int)] w (MostPost w.heap.size w m t c (s : Int) (z : Int)) := by
  obtain ⟨TA, tp, rfl, -⟩ := id hT
  obtain ⟨XA, xp, rfl, -⟩ := id hX
  obtain ⟨CA, cp, rfl, -⟩ := id hC
  obtain ⟨i2, hi2, hz2, hsz2, hby2⟩ := info_parts (P := Try.prog) (e := 3) (z := .int .i64 0) (size := 1) (bytes := 8) (by kernel_rfl)
  have HT := Lib.hid ht
  have HC := Lib.hid hcap
  have hneI : (s : Int) ≠ (z : Int) := by omega
  have HNE := Lib.hid hneI
  clear ht hcap hneI
  go_enter Try.func22, Try.ntmps22
  go_upto_region 1 with fail
  obtain ⟨w1, hw1, N1, B1⟩ := net_enter (N : Int) hT hX hC
  rw [hw1]
  clear hw1 hT hX hC
  have h01 := B1.size
  obtain ⟨p, hp⟩ : ∃ p, p = w.heap.size := ⟨_, rfl⟩
  rw [← hp] at N1 ⊢
  have hpp := Lib.hid hp
  clear hp
  have c0 := N1.c0
  have c1 := N1.c1
  have d1 : decide ((s : Int) < 0) = false := by simp
  have d2 : decide ((z : Int) < 0) = false := by simp
  have d3 : decide ((N : Int) ≤ (s : Int)) = false := by simp; omega
  have d4 : decide ((N : Int) ≤ (z : Int)) = false := by simp; omega
  have d5 : ((s : Int) == (z : Int)) = false := by simp; omega
  have d6 : ¬ (N ≤ s) := by omega
  have d7 : ¬ (N ≤ z) := by omega
  go_upto_region 5 with fail
  go_wp2_with (at_make; refine wpList_make_full _ rfl _ _ _ rfl 0 3 i2 (.int .i64 0) 1 Try.underlying22 hi2 hz2 hsz2 .i64 .i64 (m : Int) (m : Int) m rfl rfl rfl rfl (by rw [hby2]; omega) (by unfold maxLen; omega) (Nat.zero_le _) ?_; intro w2 hm2 hg2)
  rw [show (Value.int IntKind.i64 0).cells = #[.int .i64 0] from rfl, Nat.mul_one, toList_madeCells_one] at hm2
  have F2 := Ow.made hm2
  have b2 : Below w1.heap.size w1 w2 := ⟨hg2.os, hg2.tape, hg2.output, hg2.size, fun k hk => hg2.block k hk (by simp)⟩
  clear hm2 hg2 i2 hi2 hz2 hsz2 hby2 c0 c1 d1 d2 d3 d4 d5 d6 d7
  obtain ⟨g, hg⟩ : ∃ g, g = w1.heap.size := ⟨_, rfl⟩
  rw [← hg] at F2 h01 b2 ⊢
  have hwg : w1.heap.size ≤ g := by omega
  have hgw : g ≤ w1.heap.size := by omega
  clear hg
  have lN := N1.lt
  have Z0 := Lib.hid (zero_flows m t (s : Int) (z : Int))
  have Z1 : Hid (∀ d, d < m → (fun _ => (0 : Int)) d ≤ c d) := Lib.hid fun d hd => (HC.out d hd).1
  generalize (fun _ : Nat => (0 : Int)) = f0 at *
  go_loopg [] 515396075520 (fun q wr => ∃ (W : Int) (f : Nat → Int), (515396075520 - W).toNat ≤ q ∧ 0 ≤ W ∧ Hid (Flows m t f (s : Int) (z : Int) W) ∧ Hid (∀ d, d < m → f d ≤ c d) ∧ Ow wr (.slice (some ⟨g, 0, none⟩) m m) m f ∧ Below g w1 wr)
  case atStart => exact ⟨0, f0, by omega, by omega, Z0, Z1, F2, b2⟩
  case round =>
    clear Z0 Z1 F2 b2 w2 f0
    obtain ⟨W, f, hq, hW, FL, CP, F, BB⟩ := hrel
    have NW := N1.below BB hwg
    have hbs := BB.size
    have c0 := NW.c0
    have c1 := NW.c1
    have c2 := NW.c2
    have c3 := NW.c3
    have lF := F.lt (k := g) rfl
    go_wp2_with fail
    refine (reach_any wr N _ _ _ _ m s t x c f NW.rt NW.rx NW.rc F.rd hs hN hm ev HT.out).mono ?_
    rintro e w3 ⟨b1, b2, M, B, rfl, E, O, hb1, hb2, R, b3⟩
    replace NW := NW.below b3 (Nat.le_refl _)
    replace F := F.below b3 (Nat.le_refl _)
    replace BB := BB.trans (b3.mono (by omega))
    replace hb2 : g < b2 := by omega
    have HR := Lib.hid R
    clear R b3 c0 c1 c2 c3 hb1
    have y1 := E.cell hz
    have i1 : (z : Int) < (N : Int) := by omega
    cases hM : M z with
    | false =>
      rw [hM] at y1
      have HMZ := Lib.hid hM
      clear hM E O
      have c0 := NW.c0
      have c1 := NW.c1
      have c2 := NW.c2
      have c3 := NW.c3
      have hbs := BB.size
      go_wp2_with fail
      refine (value_any w3 (N : Int) _ _ _ _ m t x c f NW.rt NW.rx NW.rc F.rd (s : Int) (fun d hd => by have := flow_bound FL.out ev CP.out HC.out hd; omega) (by omega)).mono ?_
      rintro e w4 ⟨rfl, b4⟩
      rw [flow_value (c := c) FL.out HNE.out]
      have F4 := F.below b4 (Nat.le_refl _)
      have B4 : Below w.heap.size w w4 := B1.trans ((BB.trans (b4.mono (by omega))).mono (by omega))
      clear b4 c0 c1 c2 c3 F BB NW
      go_wp2_with fail
      exact bodyPost_ret (v := .tuple #[.slice (some ⟨g, 0, none⟩) m m, .int .i64 W, .int .i64 0]) (by simp [results, Try.results22, go_sem]) rfl
        ⟨g, W, f, rfl, F4, by omega, FL.out, CP.out, fun g' W' G hg' => HR.out.most ev HT.out hs hz HMZ.out FL.out G CP.out hg', B4⟩
    | true =>
      rw [hM] at y1
      obtain ⟨n, BK⟩ := HR.out.way (fun d hd => by have := HT.out d hd; unfold tlOf; omega) hz hM
      have hn0 : 0 < n := by
        rcases Nat.eq_zero_or_pos n with q | q
        · have := BK.last
          rw [q] at this
          exact absurd this.symm hne
        · exact q
      have HBK := Lib.hid BK
      have HLE := Lib.hid (BK.least)
      have HMO := Lib.hid (BK.more ev (fun d hd => (HT.out d hd).1) FL.out CP.out hn0)
      have HAU := Lib.hid (BK.aug (L := leastUp t c f B z n) ev (fun d hd => (HT.out d hd).1) FL.out.anti (by have := (BK.least n (Nat.le_refl _)).1; omega) CP.out (BK.least n (Nat.le_refl _)).2)
      have EACH : Hid (∀ k, k < n → ∃ d : Nat, d < m ∧ it (ahead t B) k z < N ∧ it (ahead t B) k z ≠ s ∧ B (it (ahead t B) k z) = (d : Int) ∧ t d = ((it (ahead t B) (k + 1) z : Nat) : Int) ∧ leastUp t c f B z (k + 1) = min (leastUp t c f B z k) (c d - f d) ∧ -2147483648 ≤ f d ∧ f d ≤ 2147483648 ∧ 0 ≤ c d ∧ c d ≤ 2147483648) := Lib.hid fun k hk => by
        obtain ⟨e1, e2, d, e3, e4, e5, e6, e7⟩ := BK.each k hk
        have h1 := HT.out d e3
        have h2 := flow_bound FL.out ev CP.out HC.out e3
        have h3 := HC.out d e3
        refine ⟨d, e3, e2, e1, e4, by unfold tlOf at e7; omega, ?_, h2.1, h2.2, h3.1, h3.2⟩
        show min _ (c (B (it (ahead t B) k z)).toNat - f (B (it (ahead t B) k z)).toNat) = _
        rw [e4]; rfl
      have LASTS := Lib.hid BK.last
      have lO := O.lt (k := b2) rfl
      clear BK hM HR E
      have NF : Hid (∀ W', Below w3.heap.size w3 W' → NetAt W' p (N : Int) (.slice TA m tp) (.slice XA m xp) (.slice CA m cp) m t x c ∧ Ow W' (.slice (some ⟨g, 0, none⟩) m m) m f ∧ Ow W' (.slice (some ⟨b2, 0, none⟩) N N) N B) := Lib.hid fun W' b => ⟨NW.below b (Nat.le_refl _), F.below b (Nat.le_refl _), O.below b (Nat.le_refl _)⟩
      have EE := Below.refl w3.heap.size w3
      have hbs := BB.size
      go_wp2_with fail
      go_loopg [12, 13] n (fun q u12 u13 wr => ∃ k : Nat, n ≤ q + k ∧ k ≤ n ∧ u12 = .int .i64 (leastUp t c f B z k) ∧ u13 = .int .i64 ((it (ahead t B) k z : Nat) : Int) ∧ Below w3.heap.size w3 wr)
      case atStart => exact ⟨0, Nat.le_refl _, Nat.zero_le _, rfl, rfl, EE⟩
      case round =>
        clear EE y1
        obtain ⟨k, hkq, hkn, rfl, rfl, EE⟩ := hrel
        by_cases hlt : k < n
        · obtain ⟨d, e1, e2, e3, e4, e5, e6, e7, e8, e9, e10⟩ := EACH.out k hlt
          obtain ⟨NW, F, O⟩ := NF.out _ EE
          have q1 : (((it (ahead t B) k z : Nat) : Int) != (s : Int)) = true := by simp; omega
          have yb := O.cell e2
          rw [e4] at yb
          have i2 : ((it (ahead t B) k z : Nat) : Int) < (N : Int) := by omega
          have i3 : (d : Int) < (m : Int) := by omega
          have yf := F.cell e1
          obtain ⟨A', q', e', rt'⟩ := NW.rt
          injection e' with j1 j2 j3
          obtain ⟨yt, i4, i5, i6⟩ := rt' (by omega)
          obtain rfl : TA = some yt := j1.trans i4
          have y1 := i6 d e1
          rw [e5] at y1
          obtain ⟨A2, q2, e2', rc'⟩ := NW.rc
          injection e2' with k1 k2 k3
          obtain ⟨yc, k4, k5, k6⟩ := rc' (by omega)
          obtain rfl : CA = some yc := k1.trans k4
          have y2 := k6 d e1
          have c1 := NW.c1
          have c3 := NW.c3
          obtain ⟨l1, -⟩ := HLE.out k (by omega)
          have l3 : leastUp t c f B z k ≤ 1152921504606846976 := by
            cases k with
            | zero => exact Int.le_refl _
            | succ k =>
              obtain ⟨d', -, -, -, -, -, z6, z7, z8, z9, z10⟩ := EACH.out k (by omega)
              rw [z6]; omega
          have em : (if c d - f d < leastUp t c f B z k then c d - f d else leastUp t c f B z k) = leastUp t c f B z (k + 1) := (min_if _ _).trans e6.symm
          have HE := Lib.hid EE
          clear j1 j2 j3 i4 i5 i6 rt' k1 k2 k3 k4 k5 k6 rc' NW F O EE e6 e3 e4 e5
          generalize hL1 : leastUp t c f B z (k + 1) = L1 at *
          generalize leastUp t c f B z k = L0 at *
          generalize hV1 : it (ahead t B) (k + 1) z = v1 at *
          have HL1 := Lib.hid hL1
          have HV1 := Lib.hid hV1
          clear hL1 hV1
          generalize it (ahead t B) k z = v0 at *
          generalize f d = fd at *
          generalize c d = cd at *
          go_upto_region 13 with fail
          go_big_quiet (fail)
          go_upto_region 12 with fail
          go_big_quiet (fail)
          go_wp2_with fail
          go_roundg (gk - 1)
          case measure => omega
          case rel => exact ⟨k + 1, by omega, by omega, by rw [HL1.out], by rw [HV1.out], ⟨HE.out.os, HE.out.tape, HE.out.output, HE.out.size, HE.out.block⟩⟩
        · obtain rfl : k = n := by omega
          rw [LASTS.out]
          have q1 : ((s : Int) != (s : Int)) = false := by simp
          obtain ⟨NW, F, O⟩ := NF.out _ EE
          have BB4 := BB.trans (EE.mono (by omega))
          obtain ⟨l1, -⟩ := HLE.out k (Nat.le_refl _)
          have LB : leastUp t c f B z k ≤ 4294967296 := by
            have h2 := (HLE.out k (Nat.le_refl _)).2 0 hn0
            obtain ⟨d', -, -, -, h4, -, -, h7, h8, h9, h10⟩ := EACH.out 0 hn0
            rw [h4, Int.toNat_natCast] at h2
            omega
          have A0 : Hid (augUp t f B z (leastUp t c f B z k) 0 = f) := Lib.hid rfl
          have F0 : Ow wr (.slice (some ⟨g, 0, none⟩) m m) m (augUp t f B z (leastUp t c f B z k) 0) := by rw [A0.out]; exact F
          have HLK := Lib.hid hlt
          clear NF BB EE hlt F hkq NW
          go_wp2_with fail
          go_loopg [14] k (fun q u14 wr => ∃ j : Nat, k ≤ q + j ∧ j ≤ k ∧ u14 = .int .i64 ((it (ahead t B) j z : Nat) : Int) ∧ Ow wr (.slice (some ⟨b2, 0, none⟩) N N) N B ∧ Ow wr (.slice (some ⟨g, 0, none⟩) m m) m (augUp t f B z (leastUp t c f B z k) j) ∧ Below g w1 wr)
          case atStart => exact ⟨0, Nat.le_refl _, Nat.zero_le _, rfl, O, F0, BB4⟩
          case round =>
            clear O F0 BB4
            obtain ⟨j, hjq, hjn, rfl, O, F, BB⟩ := hrel
            by_cases hlt : j < k
            · obtain ⟨d, e1, e2, e3, e4, e5, e6, e7, e8, e9, e10⟩ := EACH.out j hlt
              have NW := N1.below BB hwg
              obtain ⟨u1, -, -, u4⟩ := HAU.out j (by omega)
              have ho := oth_lt e1 ev
              have hno := oth_ne d
              have g1 := u4 d e1
              have g2 := u4 _ ho
              have g3 := u1 d e1
              have g4 := (HC.out _ ho).2
              have estep : augUp t f B z (leastUp t c f B z k) (j + 1) = upd (upd (augUp t f B z (leastUp t c f B z k) j) d (augUp t f B z (leastUp t c f B z k) j d + leastUp t c f B z k)) (oth d) (augUp t f B z (leastUp t c f B z k) j (oth d) - leastUp t c f B z k) := by
                show upd (upd (augUp t f B z (leastUp t c f B z k) j) (B (it (ahead t B) j z)).toNat _) _ _ = _
                rw [e4]; rfl
              have q1 : (((it (ahead t B) j z : Nat) : Int) != (s : Int)) = true := by simp; omega
              have yb := O.cell e2
              rw [e4] at yb
              have i2 : ((it (ahead t B) j z : Nat) : Int) < (N : Int) := by omega
              have i3 : (d : Int) < (m : Int) := by omega
              have i4' : (oth d : Int) < (m : Int) := by omega
              have xo := xor_one d (by omega)
              have yf := F.cell e1
              have yg := F.cell ho
              have zf := F.frozen d
              have zg := F.frozen (oth d)
              have F5 := (F.set e1 (augUp t f B z (leastUp t c f B z k) j d + leastUp t c f B z k)).set ho (augUp t f B z (leastUp t c f B z k) j (oth d) - leastUp t c f B z k)
              rw [← estep] at F5
              have O5 := (O.keep (w' := wr.setCell ⟨g, d, none⟩ (.int .i64 (augUp t f B z (leastUp t c f B z k) j d + leastUp t c f B z k))) fun y hy => Below.heap_setCell _ _ _ _ (by have hy : some b2 = some y := hy; injection hy with hy; show y ≠ g; omega)).keep (w' := (wr.setCell ⟨g, d, none⟩ (.int .i64 (augUp t f B z (leastUp t c f B z k) j d + leastUp t c f B z k))).setCell ⟨g, oth d, none⟩ (.int .i64 (augUp t f B z (leastUp t c f B z k) j (oth d) - leastUp t c f B z k))) fun y hy => Below.heap_setCell _ _ _ _ (by have hy : some b2 = some y := hy; injection hy with hy; show y ≠ g; omega)
              have B5 := (BB.setCell (p := ⟨g, d, none⟩) (Nat.le_refl _) (.int .i64 (augUp t f B z (leastUp t c f B z k) j d + leastUp t c f B z k))).setCell (p := ⟨g, oth d, none⟩) (Nat.le_refl _) (.int .i64 (augUp t f B z (leastUp t c f B z k) j (oth d) - leastUp t c f B z k))
              have HS := Lib.hid (And.intro F5 (And.intro O5 B5))
              have HE5 := Lib.hid (And.intro e3 (And.intro e4 e5))
              clear F O BB F5 O5 B5 e6 e3 e4 estep u1 u4 NW
              generalize hV0 : it (ahead t B) j z = v0 at *
              have HV0 := Lib.hid hV0
              clear hV0
              generalize augUp t f B z (leastUp t c f B z k) j d = fd at *
              generalize augUp t f B z (leastUp t c f B z k) j (oth d) = fo at *
              generalize leastUp t c f B z k = LL at *
              have h5 : -2147483648 ≤ fo := by omega
              have h6 : fo ≤ 2147483648 := by omega
              have h7 : -2147483648 ≤ fd := by omega
              have h8 : fd ≤ 2147483648 := by omega
              clear g1 g2 g3 g4
              have w5 : IntKind.i64.wrap (fd + LL) = fd + LL := by rw [IntKind.wrap_i64]; omega
              have w6 : IntKind.i64.wrap (fo - LL) = fo - LL := by rw [IntKind.wrap_i64]; omega
              have n1 : ¬ (d = oth d) := fun h => hno h.symm
              have n2 : ¬ (oth d = d) := hno
              go_upto_region 16 with fail
              obtain ⟨F, O, BB⟩ := HS.out
              clear HS yf yg zf zg w5 w6 n1 n2 yb
              generalize (wr.setCell ⟨g, d, none⟩ (.int .i64 (fd + LL))).setCell ⟨g, oth d, none⟩ (.int .i64 (fo - LL)) = w5 at *
              have NW := N1.below BB hwg
              have yb := O.cell e2
              rw [HE5.out.2.1] at yb
              obtain ⟨A', q', e', rt'⟩ := NW.rt
              injection e' with j1 j2 j3
              obtain ⟨yt, i4, i5, i6⟩ := rt' (by omega)
              obtain rfl : TA = some yt := j1.trans i4
              have y1 := i6 d e1
              rw [HE5.out.2.2] at y1
              have c1 := NW.c1
              have HB := Lib.hid (And.intro F (And.intro O BB))
              clear F O BB NW j1 j2 j3 i4 i5 i6 rt' e5
              go_big_quiet (fail)
              go_wp2_with fail
              go_roundg (gk - 1)
              case measure => omega
              case rel => exact ⟨j + 1, by omega, by omega, rfl, HB.out.2.1.keep fun _ _ => rfl, HB.out.1.keep fun _ _ => rfl, ⟨HB.out.2.2.os, HB.out.2.2.tape, HB.out.2.2.output, HB.out.2.2.size, HB.out.2.2.block⟩⟩
            · obtain rfl : j = k := by omega
              rw [LASTS.out]
              have q1 : ((s : Int) != (s : Int)) = false := by simp
              have HW := flow_top HMO.out.1 HNE.out hm HMO.out.2 HC.out
              have F3 := Lib.hid HMO.out.1
              have F4 := Lib.hid HMO.out.2
              have hrel2 := Lib.hid (And.intro F BB)
              clear F BB O
              go_wp2_with fail
              go_roundg ((515396075520 - (W + leastUp t c f B z j)).toNat)
              case measure => omega
              case rel => exact ⟨W + leastUp t c f B z j, _, Nat.le_refl _, by omega, F3, F4, hrel2.out.1, hrel2.out.2⟩
end Go.Proofs.Ytcdlnohnkdalbaa.Ro
