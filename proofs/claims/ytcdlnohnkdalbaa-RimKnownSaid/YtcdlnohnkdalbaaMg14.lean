/- Walks: chapter 8 of the reference: ends and heights. Walks: chapter 8 of the reference: Heights and Flow. -/
import Derived.Test.YtcdlnohnkdalbaaMg1
import Derived.Test.YtcdlnohnkdalbaaMg13
import Derived.Test.YtcdlnohnkdalbaaMg4
import Derived.Test.YtcdlnohnkdalbaaMxPaN
import Derived.Test.YtcdlnohnkdalbaaMxRoSr
namespace Go.Proofs.Ytcdlnohnkdalbaa.Ro
open Go.RowKit Go.Proofs Go.Maps
set_option linter.unusedVariables false
set_option maxRecDepth 100000
set_option linter.unusedSimpArgs false

noncomputable def endCode (N : Nat) (s v : Int) : Int := open Classical in if InNet N s v then (if s = v then 9 else 0) else 3

set_option maxHeartbeats 6400000 in
theorem refEnds_ok (w : World) (N : Nat) (T X C : Value) (m : Nat) (t x c : Nat → Int) (hT : Rd w T m t) (hX : Rd w X m x) (hC : Rd w C m c) (hN : N ≤ 60) (s v : Int) (hs : Small s) (hv : Small v) :
    Calls Try.prog 48 #[.agg #[.int .i64 (N : Int), T, X, C], .int .i64 s, .int .i64 v] w fun e w' => e = .returned (.int .i64 (endCode N s v)) ∧ Below w.heap.size w w' := by
  go_enter Try.func48, Try.ntmps48
  go_upto_region 1 with fail
  obtain ⟨w1, hw1, N1, B1⟩ := net_enter (N : Int) hT hX hC
  rw [hw1]
  clear hw1
  have c0 := N1.c0
  clear N1 hT hX hC
  by_cases h : InNet N s v
  · obtain ⟨h1, h2, h3, h4⟩ := id h
    have d1 : decide (s < 0) = false := by simp; omega
    have d2 : decide (v < 0) = false := by simp; omega
    have d3 : decide ((N : Int) ≤ s) = false := by simp; omega
    have d4 : decide ((N : Int) ≤ v) = false := by simp; omega
    by_cases e : s = v
    · have HE : Hid (endCode N s v = 9) := Lib.hid (by unfold endCode; rw [if_pos h, if_pos e])
      subst e
      clear h
      go_wp2_with fail
      all_goals first | (exfalso; omega) | (go_ret; exact ⟨by first | (rw [HE.out]; done) | (rw [HE.out]; rfl), B1⟩)
    · have HE : Hid (endCode N s v = 0) := Lib.hid (by unfold endCode; rw [if_pos h, if_neg e])
      have q : (s == v) = false := by simp; exact e
      clear h
      go_wp2_with fail
      all_goals first | (exfalso; omega) | (go_ret; exact ⟨by first | (rw [HE.out]; done) | (rw [HE.out]; rfl), B1⟩)
  · have HE : Hid (endCode N s v = 3) := Lib.hid (by unfold endCode; rw [if_neg h])
    have hc : s < 0 ∨ (¬ s < 0 ∧ v < 0) ∨ (¬ s < 0 ∧ ¬ v < 0 ∧ (N : Int) ≤ s) ∨ (¬ s < 0 ∧ ¬ v < 0 ∧ ¬ (N : Int) ≤ s ∧ (N : Int) ≤ v) := by
      unfold InNet at h
      omega
    clear h
    rcases hc with d1 | ⟨d1, d2⟩ | ⟨d1, d2, d3⟩ | ⟨d1, d2, d3, d4⟩
    · have d1' : decide (s < 0) = true := by simp; omega
      clear d1
      go_wp2_with fail
      all_goals first | (exfalso; omega) | (go_ret; exact ⟨by first | (rw [HE.out]; done) | (rw [HE.out]; rfl), B1⟩)
    · have d1' : decide (s < 0) = false := by simp; omega
      have d2' : decide (v < 0) = true := by simp; omega
      clear d1 d2
      go_wp2_with fail
      all_goals first | (exfalso; omega) | (go_ret; exact ⟨by first | (rw [HE.out]; done) | (rw [HE.out]; rfl), B1⟩)
    · have d1' : decide (s < 0) = false := by simp; omega
      have d2' : decide (v < 0) = false := by simp; omega
      have d3' : decide ((N : Int) ≤ s) = true := by simp; omega
      clear d1 d2 d3
      go_wp2_with fail
      all_goals first | (exfalso; omega) | (go_ret; exact ⟨by first | (rw [HE.out]; done) | (rw [HE.out]; rfl), B1⟩)
    · have d1' : decide (s < 0) = false := by simp; omega
      have d2' : decide (v < 0) = false := by simp; omega
      have d3' : decide ((N : Int) ≤ s) = false := by simp; omega
      have d4' : decide ((N : Int) ≤ v) = true := by simp; omega
      clear d1 d2 d3 d4
      go_wp2_with fail
      all_goals first | (exfalso; omega) | (go_ret; exact ⟨by first | (rw [HE.out]; done) | (rw [HE.out]; rfl), B1⟩)

/-- what heights tells -/
def RHeightsPost (B : Nat) (w : World) (N m : Nat) (x t c : Nat → Int) (s v : Int) (e : Ending) (w' : World) : Prop :=
  Below B w w' ∧ ((∃ code, RimBad N m x t s v code ∧ e = .returned (.tuple #[.slice none 0 0, .slice none 0 0, .int .i64 0, .int .i64 code])) ∨
    ∃ o K f D b cap b' cap', RimOk N m x t c s v o K f D ∧ e = .returned (.tuple #[.slice (some ⟨b, 0, none⟩) (K + 1) cap, .slice (some ⟨b', 0, none⟩) m cap', .int .i64 (K : Int), .int .i64 0]) ∧
      Ow w' (.slice (some ⟨b, 0, none⟩) (K + 1) cap) (K + 1) D ∧ B ≤ b ∧ Ow w' (.slice (some ⟨b', 0, none⟩) m cap') m o ∧ B ≤ b')

set_option maxHeartbeats 6400000 in
theorem refHeightsIn_ok (w : World) (N : Nat) (T X C : Value) (m : Nat) (t x c : Nat → Int) (hT : Rd w T m t) (hX : Rd w X m x) (hC : Rd w C m c) (g : Good N m t x) (pf : Perm (bh x) m) (hcap : ∀ d, d < m → 0 ≤ c d ∧ c d ≤ 2147483648) (hm : m ≤ 48) (s v : Int) (hs : Small s) (hv : Small v) :
    Calls Try.prog 35 #[.agg #[.int .i64 (N : Int), T, X, C], .int .i64 s, .int .i64 v] w (RHeightsPost w.heap.size w N m x t c s v) := by
  obtain ⟨TA, tp, rfl, -⟩ := id hT
  obtain ⟨XA, xp, rfl, -⟩ := id hX
  obtain ⟨CA, cp, rfl, rc⟩ := id hC
  have hev := g.even
  have hN := g.most
  have HP := Lib.hid hcap
  clear rc hcap
  go_enter Try.func35, Try.ntmps35
  go_wp2_with fail
  obtain ⟨w1, hw1, N1, B1⟩ := net_enter (N : Int) hT hX hC
  rw [hw1]
  have sz1 : w1.heap.size = w.heap.size + 1 := by rw [← hw1]; simp
  clear hw1
  have c0 := N1.c0
  have c1 := N1.c1
  have c2 := N1.c2
  have c3 := N1.c3
  go_wp2_with fail
  refine (refEnds_ok w1 N _ _ _ m t x c N1.rt N1.rx N1.rc hN s v hs hv).mono ?_
  rintro e w2 ⟨rfl, b2⟩
  have N2 := N1.below b2 (Nat.le_refl _)
  have B2 := B1.trans (b2.mono B1.size)
  have hw2 : w.heap.size < w2.heap.size := by have := b2.size; omega
  clear N1 B1 b2 c0 c1 c2 c3 sz1
  have c0 := N2.c0
  have c1 := N2.c1
  have c2 := N2.c2
  have c3 := N2.c3
  by_cases hE : endCode N s v = 0
  · have hin : InNet N s v ∧ s ≠ v := by
      unfold endCode at hE
      split at hE
      · split at hE
        · omega
        · exact ⟨by assumption, by assumption⟩
      · omega
    have q1 : (endCode N s v != 0) = false := by rw [hE]; rfl
    have HI := Lib.hid hin
    clear hE hin
    go_wp2_with fail
    refine (refSplit_ok w2 (N : Int) _ _ _ m t x c N2.rt N2.rx N2.rc (by omega) hev (fun d hd => (g.next d hd).1) pf s v).mono ?_
    rintro e w3 ⟨o, k, O, b3, hsp⟩
    have N3 := N2.below b3 (Nat.le_refl _)
    have B3 := B2.trans (b3.mono B2.size)
    have hw3 : w.heap.size < w3.heap.size := by have := b3.size; omega
    clear N2 B2 c0 c1 c2 c3
    rcases hsp with ⟨hsh, rfl⟩ | ⟨f, e0, l, a, r, b, cap, hsh, hH, rfl, hO, hb⟩
    · have HO := Lib.hid (And.intro O hsh)
      clear O hsh
      go_wp2_with fail
      exact bodyPost_ret (v := .tuple #[.slice none 0 0, .slice none 0 0, .int .i64 0, .int .i64 10]) (by simp [results, Try.results35, go_sem]) rfl ⟨B3, .inl ⟨10, .inr (.inr ⟨HI.out.1, HI.out.2, ⟨o, k, HO.out.1, HO.out.2⟩, rfl⟩), rfl⟩⟩
    · obtain ⟨K, hK⟩ : ∃ K, K = max k 1 := ⟨_, rfl⟩
      rw [← hK] at hO
      have hov : Over m x t s v (halfO x o (K : Int) e0 a r l) K f := ⟨o, k, e0, l, a, r, ⟨O, hsh, hH⟩, hK, rfl⟩
      rw [← hK] at *
      generalize halfO x o (K : Int) e0 a r l = oo at *
      obtain ⟨ov, -, hfK⟩ := hov.ok hm hev HP.out
      have HO := Lib.hid hov
      clear O hsh hH hK hov b3
      go_wp2_with fail
      have lob := hO.lt (k := b) rfl
      have hwb : w.heap.size ≤ b := by omega
      obtain ⟨w4, hw4⟩ : ∃ w4, w4 = w3 := ⟨_, rfl⟩
      go_loopw [16, 17] (fun u16 u17 wr => ∃ j : Nat, u17 = .int .i64 (j : Int) ∧ j ≤ m ∧ OwA wr u16 j (overA oo c) ∧ Hid (∀ c, u16.ownBlock = some c → w3.heap.size ≤ c) ∧ Below w3.heap.size w3 wr) (fun _ u17 _ => m - (intOf u17).toNat)
      case atStart => exact ⟨0, rfl, Nat.zero_le _, OwA.nil _ _, Lib.hid (fun c hc => by cases hc), Below.refl _ _⟩
      case round =>
        clear hw4 w4
        obtain ⟨j, rfl, hj, O, HU, B⟩ := hrel
        by_cases hlt : j < m
        · have d1 : (j : Int) < (m : Int) := by omega
          have hoth := oth_lt hlt hev
          have d2 : (oth j : Int) < (m : Int) := by omega
          have xo := xor_one j (by omega)
          have o1 := ov.lt j hlt
          have o2 := ov.lt (oth j) hoth
          obtain ⟨p, hp⟩ : ∃ p : Nat, (p : Int) = oo j := ⟨(oo j).toNat, by omega⟩
          obtain ⟨q, hq⟩ : ∃ q : Nat, (q : Int) = oo (oth j) := ⟨(oo (oth j)).toNat, by omega⟩
          obtain ⟨CA', cp', ec, rc3⟩ := id N3.rc
          injection ec with e1 e2 e3
          obtain ⟨yc, hyc, lc, kc⟩ := rc3 (by omega)
          obtain rfl : CA = some yc := e1.trans hyc
          have KF : Hid (∀ W, Below w3.heap.size w3 W → W.cell? ⟨w.heap.size, 3, none⟩ = some (.slice (some yc) m cp) ∧ W.cell? ⟨b, j, none⟩ = some (.int .i64 (p : Int)) ∧ W.cell? ⟨b, oth j, none⟩ = some (.int .i64 (q : Int)) ∧ W.cell? (yc.add j) = some (.int .i64 (c j))) := Lib.hid fun W b => by
            have N5 := N3.below b (Nat.le_refl _)
            have O5 := hO.below b (Nat.le_refl _)
            refine ⟨N5.c3, by rw [hp]; exact O5.cell hlt, by rw [hq]; exact O5.cell hoth, (b.cell (by rw [block_add]; exact lc)).trans (kc j hlt)⟩
          have c0 := (KF.out _ B).1
          have c1 := (KF.out _ B).2.1
          have HP := Lib.hid hp
          have HQ := Lib.hid hq
          have BD : Below w3.heap.size w3 wr.drew := B.drew
          have HA := KF.out _ BD
          have bA : Below wr.heap.size wr (wr.alloc (.cells #[.int .i64 (p : Int), .int .i64 (q : Int), .int .i64 (c j)] 75)).drew := (below_new wr _).drew
          have Oa : OwA (wr.alloc (.cells #[.int .i64 (p : Int), .int .i64 (q : Int), .int .i64 (c j)] 75)).drew u16 j (overA oo c) := O.below bA (Nat.le_refl _)
          have Ba := B.trans (bA.mono B.size)
          have bws := B.size
          have n0 : ∀ i, i < 3 → (wr.alloc (.cells #[.int .i64 (p : Int), .int .i64 (q : Int), .int .i64 (c j)] 75)).drew.cell? ((⟨wr.heap.size, 0, none⟩ : Addr).add i) = some (arcCell ⟨fun _ => p, fun _ => q, fun _ => c j⟩ i) := OwA.one wr p q (c j) ⟨fun _ => p, fun _ => q, fun _ => c j⟩ rfl rfl rfl
          have sz2 : (wr.alloc (.cells #[.int .i64 (p : Int), .int .i64 (q : Int), .int .i64 (c j)] 75)).drew.heap.size = wr.heap.size + 1 := by simp
          have HB := KF.out _ Ba
          clear bA hp hq O kc rc3 o1 o2 e1 hyc e2 e3
          go_upto_region 11 with fail
          refine wp_region_noPanic ?_
          refine wp_region_held_drew (S := fun W => W.cell? ⟨w.heap.size, 3, none⟩ = some (.slice (some yc) m cp) ∧ W.cell? ⟨b, j, none⟩ = some (.int .i64 (p : Int)) ∧ W.cell? ⟨b, oth j, none⟩ = some (.int .i64 (q : Int)) ∧ W.cell? (yc.add j) = some (.int .i64 (c j))) (by kernel_rfl) HA (fun hHeld => ?_)
          refine held_takes (by kernel_rfl) (fun _ _ _ _ _ h => h) [0, 1, 2, 3, 4, 5, 6, 7, 8, 9, 10, 11, 12, 13, 14, 15] _ 3 _ _ _ rfl (by kernel_rfl) (by kernel_rfl) hHeld ?_
          simp only [pick, List.drop_succ_cons, List.drop_zero]
          iterate 16 (refine wpTakes_cons (v := ?_) (Or.inl ⟨by rfl, ?_⟩) ?_; rotate_left; (intro w hSw; (try dsimp only at hSw); go_simp <;> with_reducible rfl); (try simp only [Act.put, List.setIfInBounds_toArray, List.set_cons_zero, List.set_cons_succ]))
          refine wpTakes_nil ?_
          refine held_one 16 (fuel := 2) rfl (by kernel_rfl) ?_
          simp only [List.drop_succ_cons, List.drop_zero]
          refine wpOne_cons (fun KK hK => ?_)
          go_simp
          refine hK.out _ _ HB ?_
          clear hK KK
          try simp only [Act.put, List.setIfInBounds_toArray, List.set_cons_zero, List.set_cons_succ]
          refine held_one 17 (fuel := 1) rfl (by kernel_rfl) ?_
          simp only [List.drop_succ_cons, List.drop_zero]
          refine wpOne_cons (fun KK hK => ?_)
          refine step_appA2 rfl _ _ rfl _ j (overA oo c) rfl Oa _ 1 1 ⟨fun _ => p, fun _ => q, fun _ => c j⟩ rfl (.inr ⟨⟨wr.heap.size, 0, none⟩, rfl, n0⟩) (by omega) ?_
          intro V5 w5 O5 g5 l5
          obtain ⟨b', c', rfl, -⟩ := O5.form (by omega)
          have hnb : w3.heap.size ≤ b' := by
            rcases l5 with e | e
            · exact HU.out b' e.symm
            · injection e with e
              have : w3.heap.size ≤ wr.heap.size := bws
              rw [sz2] at e
              have e2 : b' = wr.heap.size + 1 := e
              omega
          have B5 := Below.grown Ba g5 Ba.size (fun c hc => HU.out c hc)
          have O6 : OwA w5 (.slice (some ⟨b', 0, none⟩) (j + 1) c') (j + 1) (overA oo c) := O5.congr fun i hi => by
            by_cases e : i < j
            · show (if i < j then _ else _) = _ ∧ (if i < j then _ else _) = _ ∧ (if i < j then _ else _) = _
              rw [if_pos e, if_pos e, if_pos e]; exact ⟨rfl, rfl, rfl⟩
            · obtain rfl : i = j := by omega
              show (if i < i then _ else _) = _ ∧ (if i < i then _ else _) = _ ∧ (if i < i then _ else _) = _
              rw [if_neg e, if_neg e, if_neg e]
              refine ⟨?_, ?_, rfl⟩
              · show p = (oo i).toNat
                have := HP.out
                omega
              · show q = (oo (oth i)).toNat
                have := HQ.out
                omega
          have HU5 : Hid (∀ k, (Value.slice (some ⟨b', 0, none⟩) (j + 1) c').ownBlock = some k → w3.heap.size ≤ k) := Lib.hid fun k hk => by
            have e : some b' = some k := hk
            injection e with e
            rw [← e]; exact hnb
          refine hK.out _ _ (KF.out _ B5) ?_
          clear hK KK
          refine held_more (S' := fun w' => w' = w5) (fun w' e => by subst e; exact KF.out _ B5) _ _ _ _ ?_
          try simp only [Act.put, List.setIfInBounds_toArray, List.set_cons_zero, List.set_cons_succ]
          refine held_takes (by kernel_rfl) (fun _ _ _ _ _ h => h) [18] _ 0 _ _ _ rfl (by kernel_rfl) (by kernel_rfl) rfl ?_
          simp only [pick, List.drop_succ_cons, List.drop_zero]
          iterate 1 (refine wpTakes_cons (v := ?_) (Or.inl ⟨by rfl, ?_⟩) ?_; rotate_left; (intro w hSw; subst hSw; go_simp <;> with_reducible rfl); (try simp only [Act.put, List.setIfInBounds_toArray, List.set_cons_zero, List.set_cons_succ]))
          refine wpTakes_nil ?_
          refine wpAnyH_done (by kernel_rfl) ?_ _
          refine NoPanic.normal ?_
          clear n0 Oa Ba g5 l5 O5 hnb HA HB hHeld sz2 c0 c1
          go_wp2_with fail
          go_roundw
          case rel => exact ⟨j + 1, by simp, by omega, O6, HU5, B5⟩
          case measure => simp [intOf]; omega
        · have d1 : ¬ ((j : Int) < (m : Int)) := by omega
          obtain rfl : j = m := by omega
          have B4 := B3.trans (B.mono B3.size)
          have O4 := hO.below B (Nat.le_refl _)
          have hs4 := B.size
          have AI := ov.arcs
          have NN : NoNeg (overA oo c) j f := fun v c m c' m' _ w => w.nonneg (S := overA oo _) (fun i hi => (ov.cap i hi).1)
          have CT := refFromD_any wr (K + 1) j f u16 (overA oo c) O.rdA AI (by omega) (by have := ov.most; omega) (by omega)
          rw [show ((K + 1 : Nat) : Int) = (K : Int) + 1 from rfl] at CT
          have CT := Lib.hid CT
          have HN := Lib.hid NN
          clear NN AI hO O
          go_wp2_with fail
          refine CT.out.mono ?_
          clear CT
          rintro e w5 ⟨b5, D, T5, rfl, O5, hb5, SD, hT5, FX, bb5⟩
          have B5 := B4.trans (bb5.mono B4.size)
          have O6 := O4.below bb5 (Nat.le_refl _)
          have HF := Lib.hid (And.intro SD (And.intro hT5 (FX HN.out)))
          clear SD FX bb5
          go_wp2_with fail
          exact bodyPost_ret (v := .tuple #[.slice (some ⟨b5, 0, none⟩) (K + 1) (K + 1), .slice (some ⟨b, 0, none⟩) j cap, .int .i64 (K : Int), .int .i64 0]) (by simp [results, Try.results35, go_sem]) rfl
            ⟨B5, .inr ⟨oo, K, f, D, b5, K + 1, b, cap, ⟨HI.out.1, HI.out.2, HO.out, T5, HF.out.1, HF.out.2.1, HF.out.2.2⟩, rfl, O5, by omega, O6, hwb⟩⟩
  · have hbad : RimBad N m x t s v (endCode N s v) := by
      unfold endCode at hE ⊢
      split
      · split
        · exact .inr (.inl ⟨by assumption, by assumption, rfl⟩)
        · rename_i h1 h2; rw [if_pos h1, if_neg h2] at hE; exact absurd rfl hE
      · exact .inl ⟨by assumption, rfl⟩
    have q1 : (endCode N s v != 0) = true := by simp; exact hE
    have HB := Lib.hid hbad
    clear hE hbad
    generalize endCode N s v = code at *
    go_wp2_with fail
    exact bodyPost_ret (v := .tuple #[.slice none 0 0, .slice none 0 0, .int .i64 0, .int .i64 code]) (by simp [results, Try.results35, go_sem]) rfl ⟨B2, .inl ⟨code, HB.out, rfl⟩⟩
end Go.Proofs.Ytcdlnohnkdalbaa.Ro
namespace Go.Proofs.Ytcdlnohnkdalbaa.Ro
open Go.RowKit Go.Proofs Go.Maps
set_option linter.unusedVariables false
set_option maxRecDepth 100000
set_option linter.unusedSimpArgs false

set_option maxHeartbeats 6400000 in
theorem refHeights8_ok (w : World) (N : Nat) (T X C : Value) (m : Nat) (t x c : Nat → Int) (hT : Rd w T m t) (hX : Rd w X m x) (hC : Rd w C m c) (g : Good N m t x) (pf : Perm (bh x) m) (hcap : ∀ d, d < m → 0 ≤ c d ∧ c d ≤ 2147483648) (hm : m ≤ 48) (s v : Int) (hs : Small s) (hv : Small v) :
    Calls Try.prog 17 #[.agg #[.int .i64 (N : Int), T, X, C], .int .i64 s, .int .i64 v] w (HeightsPost w.heap.size w N m x t c s v) := by
  go_enter Try.func17, Try.ntmps17
  go_wp2_with fail
  obtain ⟨w1, hw1, N1, B1⟩ := net_enter (N : Int) hT hX hC
  rw [hw1]
  clear hw1
  have c0 := N1.c0
  have c1 := N1.c1
  have c2 := N1.c2
  have c3 := N1.c3
  go_wp2_with fail
  refine (refHeightsIn_ok w1 N _ _ _ m t x c N1.rt N1.rx N1.rc g pf hcap hm s v hs hv).mono ?_
  have h1 := B1.size
  rintro e w2 ⟨b2, ⟨code, hb, rfl⟩ | ⟨o, K, f, D, b, cap, b', cap', hok, rfl, OD, hb, OO, hb'⟩⟩
  · have B2 := B1.trans (b2.mono B1.size)
    have HB := Lib.hid hb
    clear c0 c1 c2 c3 hb
    go_wp2_with fail
    exact bodyPost_ret (v := .tuple #[.slice none 0 0, .int .i64 code]) (by simp [results, Try.results17, go_sem]) rfl ⟨B2, .inl ⟨code, HB.out, rfl⟩⟩
  · have B2 := B1.trans (b2.mono B1.size)
    have HB := Lib.hid hok
    clear c0 c1 c2 c3 hok
    go_wp2_with fail
    exact bodyPost_ret (v := .tuple #[.slice (some ⟨b, 0, none⟩) (K + 1) cap, .int .i64 0]) (by simp [results, Try.results17, go_sem]) rfl ⟨B2, .inr ⟨o, K, f, D, b, cap, HB.out, rfl, OD, by omega⟩⟩

set_option maxHeartbeats 6400000 in
theorem refFlow8_ok (w : World) (N : Nat) (T X C : Value) (m : Nat) (t x c : Nat → Int) (hT : Rd w T m t) (hX : Rd w X m x) (hC : Rd w C m c) (g : Good N m t x) (pf : Perm (bh x) m) (hcap : ∀ d, d < m → 0 ≤ c d ∧ c d ≤ 2147483648) (hm : m ≤ 48) (s v : Int) (hs : Small s) (hv : Small v) :
    Calls Try.prog 19 #[.agg #[.int .i64 (N : Int), T, X, C], .int .i64 s, .int .i64 v] w (FlowPost w.heap.size w N m x t c s v) := by
  have hev := g.even
  go_enter Try.func19, Try.ntmps19
  go_wp2_with fail
  obtain ⟨w1, hw1, N1, B1⟩ := net_enter (N : Int) hT hX hC
  rw [hw1]
  clear hw1
  have c0 := N1.c0
  have c1 := N1.c1
  have c2 := N1.c2
  have c3 := N1.c3
  go_wp2_with fail
  refine (refHeightsIn_ok w1 N _ _ _ m t x c N1.rt N1.rx N1.rc g pf hcap hm s v hs hv).mono ?_
  have h1 := B1.size
  rintro e w2 ⟨b2, ⟨code, hb, rfl⟩ | ⟨o, K, f, D, b, cap, b', cap', hok, rfl, OD, hb, OO, hb'⟩⟩
  · have B2 := B1.trans (b2.mono B1.size)
    have HB := Lib.hid hb
    have q1 : (code != 0) = true := by simp; exact hb.ne
    clear c0 c1 c2 c3 hb
    go_wp2_with fail
    exact bodyPost_ret (v := .tuple #[.slice none 0 0, .int .i64 0, .int .i64 code]) (by simp [results, Try.results19, go_sem]) rfl ⟨B2, .inl ⟨code, HB.out, rfl⟩⟩
  · have B2 := B1.trans (b2.mono B1.size)
    obtain ⟨ov, -, hfK⟩ := hok.over.ok hm hev hcap
    have AW := hok.away
    have HB := Lib.hid hok
    have lb := OD.lt (k := b) rfl
    have lb' := OO.lt (k := b') rfl
    have hb1 : w.heap.size ≤ b := by omega
    have hb2 : w.heap.size ≤ b' := by omega
    have HW := Lib.hid AW
    clear c0 c1 c2 c3 hok AW b2 N1 hT hX hC hcap
    go_wp2_with fail
    go_loopw [13, 14] (fun u13 u14 wr => ∃ j : Nat, u14 = .int .i64 (j : Int) ∧ j ≤ m ∧ Ow wr u13 j (fallOf o D) ∧ Hid (∀ c, u13.ownBlock = some c → w2.heap.size ≤ c) ∧ Below w2.heap.size w2 wr ∧ Hid ((j = 0 ∧ u13 = .slice none 0 0) ∨ ∃ c cp, u13 = .slice (some ⟨c, 0, none⟩) j cp)) (fun _ u14 _ => m - (intOf u14).toNat)
    case atStart => exact ⟨0, rfl, Nat.zero_le _, Ow.nil _ _, Lib.hid (fun c hc => by cases hc), Below.refl _ _, Lib.hid (.inl ⟨rfl, rfl⟩)⟩
    case round =>
      obtain ⟨j, rfl, hj, O, HU, B, HUU⟩ := hrel
      by_cases hlt : j < m
      · have d1 : (j : Int) < (m : Int) := by omega
        have hoth := oth_lt hlt hev
        have d2 : (oth j : Int) < (m : Int) := by omega
        have xo := xor_one j (by omega)
        have o1 := ov.lt j hlt
        have o2 := ov.lt (oth j) hoth
        obtain ⟨p, hp⟩ : ∃ p : Nat, (p : Int) = o j := ⟨(o j).toNat, by omega⟩
        obtain ⟨q, hq⟩ : ∃ q : Nat, (q : Int) = o (oth j) := ⟨(o (oth j)).toNat, by omega⟩
        have hpK : p < K + 1 := by omega
        have hqK : q < K + 1 := by omega
        have d3 : (p : Int) < (K : Int) + 1 := by omega
        have d4 : (q : Int) < (K : Int) + 1 := by omega
        obtain ⟨z3, z4⟩ := HW.out.size ov.arcs hpK
        obtain ⟨z5, z6⟩ := HW.out.size ov.arcs hqK
        have HE : Hid (fallOf o D j = D q - D p) := Lib.hid (by unfold fallOf; rw [← hp, ← hq]; simp)
        have KF : Hid (∀ W, Below w2.heap.size w2 W → W.cell? ⟨b', j, none⟩ = some (.int .i64 (p : Int)) ∧ W.cell? ⟨b', oth j, none⟩ = some (.int .i64 (q : Int)) ∧ W.cell? ⟨b, p, none⟩ = some (.int .i64 (D p)) ∧ W.cell? ⟨b, q, none⟩ = some (.int .i64 (D q))) := Lib.hid fun W bb => by
          have OO2 := OO.below bb (Nat.le_refl _)
          have OD2 := OD.below bb (Nat.le_refl _)
          exact ⟨by rw [hp]; exact OO2.cell hlt, by rw [hq]; exact OO2.cell hoth, OD2.cell hpK, OD2.cell hqK⟩
        have wl : IntKind.i64.wrap (D q - D p) = D q - D p := by rw [IntKind.wrap_i64]; omega
        have g1 : -2000000000000000000 ≤ D q - D p := by omega
        have g2 : D q - D p ≤ 2000000000000000000 := by omega
        have BD : Below w2.heap.size w2 wr.drew := B.drew
        have HA := KF.out _ BD
        have bA : Below wr.heap.size wr (wr.alloc (.cells #[.int .i64 (D q - D p)] 3)).drew := (below_new wr _).drew
        have Oa : Ow (wr.alloc (.cells #[.int .i64 (D q - D p)] 3)).drew u13 j (fallOf o D) := O.below bA (Nat.le_refl _)
        have Ba := B.trans (bA.mono B.size)
        have bws := B.size
        have n0 : ∀ i, i < 1 → (wr.alloc (.cells #[.int .i64 (D q - D p)] 3)).drew.cell? ((⟨wr.heap.size, 0, none⟩ : Addr).add i) = some (.int .i64 ((fun _ => D q - D p) i)) := fun i hi => by
          rw [add_head, show i = 0 by omega]
          exact blk_cell (heap_alloc_new wr _) 0
        have sz2 : (wr.alloc (.cells #[.int .i64 (D q - D p)] 3)).drew.heap.size = wr.heap.size + 1 := by simp
        have HB2 := KF.out _ Ba
        have HQQ := Lib.hid (And.intro hp hq)
        clear bA hp hq O o1 o2 hpK hqK
        go_upto_region 8 with fail
        refine wp_region_noPanic ?_
        refine wp_region_held_drew (S := fun W => W.cell? ⟨b', j, none⟩ = some (.int .i64 (p : Int)) ∧ W.cell? ⟨b', oth j, none⟩ = some (.int .i64 (q : Int)) ∧ W.cell? ⟨b, p, none⟩ = some (.int .i64 (D p)) ∧ W.cell? ⟨b, q, none⟩ = some (.int .i64 (D q))) (by kernel_rfl) HA (fun hHeld => ?_)
        refine held_takes (by kernel_rfl) (fun _ _ _ _ _ h => h) [0, 1, 2, 3, 4, 5, 6, 7, 8, 9, 10, 11, 12, 13, 14, 15, 16] _ 3 _ _ _ rfl (by kernel_rfl) (by kernel_rfl) hHeld ?_
        simp only [pick, List.drop_succ_cons, List.drop_zero]
        iterate 17 (refine wpTakes_cons (v := ?_) (Or.inl ⟨by rfl, ?_⟩) ?_; rotate_left; (intro w hSw; (try dsimp only at hSw); go_simp <;> with_reducible rfl); (try simp only [Act.put, List.setIfInBounds_toArray, List.set_cons_zero, List.set_cons_succ]))
        refine wpTakes_nil ?_
        refine held_one 17 (fuel := 2) rfl (by kernel_rfl) ?_
        simp only [List.drop_succ_cons, List.drop_zero]
        refine wpOne_cons (fun KK hK => ?_)
        go_simp
        refine hK.out _ _ HB2 ?_
        clear hK KK
        try simp only [Act.put, List.setIfInBounds_toArray, List.set_cons_zero, List.set_cons_succ]
        refine held_one 18 (fuel := 1) rfl (by kernel_rfl) ?_
        simp only [List.drop_succ_cons, List.drop_zero]
        refine wpOne_cons (fun KK hK => ?_)
        refine step_app rfl _ _ rfl _ j (fallOf o D) rfl Oa ⟨wr.heap.size, 0, none⟩ 1 1 (fun _ => D q - D p) rfl n0 (by omega) (by omega) _ rfl ?_
        intro b5 c5 w5 O5 g5 l5 z5z
        have hnb : w2.heap.size ≤ b5 := by
          rcases l5 with e | e
          · exact HU.out b5 e
          · have : w2.heap.size ≤ wr.heap.size := bws
            rw [sz2] at e
            omega
        have B5 := Below.grown Ba g5 Ba.size (fun c hc => HU.out c hc)
        have O6 : Ow w5 (.slice (some ⟨b5, 0, none⟩) (j + 1) c5) (j + 1) (fallOf o D) := O5.congr fun i hi => by
          by_cases e : i < j
          · rw [cat_lo e]
          · obtain rfl : i = j := by omega
            rw [cat_hi (Nat.le_refl _), HE.out]
        have HU5 : Hid (∀ k, (Value.slice (some ⟨b5, 0, none⟩) (j + 1) c5).ownBlock = some k → w2.heap.size ≤ k) := Lib.hid fun k hk => by
          have e : some b5 = some k := hk
          injection e with e
          rw [← e]; exact hnb
        refine hK.out _ _ (KF.out _ B5) ?_
        clear hK KK
        refine held_more (S' := fun w' => w' = w5) (fun w' e => by subst e; exact KF.out _ B5) _ _ _ _ ?_
        try simp only [Act.put, List.setIfInBounds_toArray, List.set_cons_zero, List.set_cons_succ]
        refine held_takes (by kernel_rfl) (fun _ _ _ _ _ h => h) [19] _ 0 _ _ _ rfl (by kernel_rfl) (by kernel_rfl) rfl ?_
        simp only [pick, List.drop_succ_cons, List.drop_zero]
        iterate 1 (refine wpTakes_cons (v := ?_) (Or.inl ⟨by rfl, ?_⟩) ?_; rotate_left; (intro w hSw; subst hSw; go_simp <;> with_reducible rfl); (try simp only [Act.put, List.setIfInBounds_toArray, List.set_cons_zero, List.set_cons_succ]))
        refine wpTakes_nil ?_
        refine wpAnyH_done (by kernel_rfl) ?_ _
        refine NoPanic.normal ?_
        clear n0 Oa Ba g5 l5 O5 hnb HA HB2 hHeld sz2
        go_wp2_with fail
        go_roundw
        case rel => exact ⟨j + 1, by simp, by omega, O6, HU5, B5, Lib.hid (.inr ⟨b5, c5, rfl⟩)⟩
        case measure => simp [intOf]; omega
      · have d1 : ¬ ((j : Int) < (m : Int)) := by omega
        obtain rfl : j = m := by omega
        have OD5 := OD.below B (Nat.le_refl _)
        have kK := OD5.cell (Nat.lt_succ_self K)
        have d3 : (K : Int) < (K : Int) + 1 := by omega
        rcases HUU.out with ⟨h0, -⟩ | ⟨c5, cp5, rfl⟩
        · exfalso
          obtain ⟨o0, k, e0, l, a, r, P, -, -⟩ := HB.out.over
          have := P.half.lt
          omega
        · have hc5 := HU.out c5 rfl
          clear OD5
          go_upto_region 9 with fail
          go_big_quiet (fail)
          go_wp2_with fail
          have Bx := B2.trans (B.mono B2.size)
          have BF : Below w.heap.size w (wr.drewN nq) := ⟨Bx.os, Bx.tape, Bx.output, Bx.size, Bx.block⟩
          have hh := B2.size
          exact bodyPost_ret (v := .tuple #[.slice (some ⟨c5, 0, none⟩) j cp5, .int .i64 (D K), .int .i64 0]) (by simp [results, Try.results19, go_sem]) rfl ⟨BF, .inr ⟨o, K, f, D, c5, cp5, HB.out, rfl, O.keep fun _ _ => rfl, by omega⟩⟩
end Go.Proofs.Ytcdlnohnkdalbaa.Ro
