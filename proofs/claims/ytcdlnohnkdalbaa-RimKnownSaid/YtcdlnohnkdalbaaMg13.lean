/- Walks: the arcs of a split. Walks: the heights of a split. Plain: what rim tells, and that it is one. -/
import Derived.Test.YtcdlnohnkdalbaaMg1
import Derived.Test.YtcdlnohnkdalbaaMg11
import Derived.Test.YtcdlnohnkdalbaaMg12
import Derived.Test.YtcdlnohnkdalbaaMg4
import Derived.Test.YtcdlnohnkdalbaaMg6
import Derived.Test.YtcdlnohnkdalbaaMxPaM
namespace Go.Proofs.Ytcdlnohnkdalbaa.Ro
open Go.RowKit Go.Proofs Go.Maps
set_option linter.unusedVariables false
set_option maxRecDepth 100000
set_option linter.unusedSimpArgs false

/-- the arcs from each dart's face to its other's -/
def overA (o c : Nat → Int) : ArcsF := ⟨fun d => (o d).toNat, fun d => (o (oth d)).toNat, c⟩

set_option maxHeartbeats 6400000 in
theorem rimArcs_any (w : World) (N fs a b : Int) (T X C O : Value) (m : Nat) (c o : Nat → Int) (hC : Rd w C m c) (hO : Rd w O m o) (h0 : ∀ d, d < m → 0 ≤ o d ∧ o d ≤ 1000) (hm : m ≤ 200) (h2 : m % 2 = 0) :
    Calls Try.prog 47 #[.agg #[.int .i64 N, T, X, C, O, .int .i64 fs, .int .i64 a, .int .i64 b]] w fun e w' => ∃ V, e = .returned V ∧ OwA w' V m (overA o c) ∧ (∀ z, V.ownBlock = some z → w.heap.size ≤ z) ∧ Below w.heap.size w w' := by
  obtain ⟨CA, cp, rfl, rc⟩ := id hC
  obtain ⟨OA, op, rfl, ro⟩ := id hO
  have HC := Lib.hid rc
  have HO := Lib.hid ro
  have H0 := Lib.hid h0
  clear rc ro h0
  go_enter Try.func47, Try.ntmps47
  go_wp2_with fail
  have V1 : SplitAt (w.alloc (.cells #[.int .i64 N, T, X, .slice CA m cp, .slice OA m op, .int .i64 fs, .int .i64 a, .int .i64 b] 57)) w.heap.size (.int .i64 N) T X (.slice CA m cp) (.slice OA m op) (.int .i64 fs) (.int .i64 a) (.int .i64 b) := heap_alloc_new _ _
  have B1 := below_new w (.cells #[.int .i64 N, T, X, .slice CA m cp, .slice OA m op, .int .i64 fs, .int .i64 a, .int .i64 b] 57)
  have sz1 : (w.alloc (.cells #[.int .i64 N, T, X, .slice CA m cp, .slice OA m op, .int .i64 fs, .int .i64 a, .int .i64 b] 57)).heap.size = w.heap.size + 1 := by simp
  generalize (w.alloc (.cells #[.int .i64 N, T, X, .slice CA m cp, .slice OA m op, .int .i64 fs, .int .i64 a, .int .i64 b] 57)) = w1 at *
  obtain ⟨-, -, -, v3, v4, -⟩ := V1.facts
  go_wp2_with fail
  go_loopw [3, 9] (fun u3 u9 wr => ∃ j : Nat, u9 = .int .i64 (j : Int) ∧ j ≤ m ∧ OwA wr u3 j (overA o c) ∧ Hid (∀ c, u3.ownBlock = some c → w1.heap.size ≤ c) ∧ Below w1.heap.size w1 wr) (fun _ u9 _ => m - (intOf u9).toNat)
  case atStart => exact ⟨0, rfl, Nat.zero_le _, OwA.nil _ _, Lib.hid (fun c hc => by cases hc), Below.refl _ _⟩
  case round =>
    obtain ⟨j, rfl, hj, O, HU, B⟩ := hrel
    have V2 := SplitAt.below V1 B (Nat.le_refl _)
    clear v3 v4
    by_cases hlt : j < m
    · have d1 : (j : Int) < (m : Int) := by omega
      have hoth := oth_lt hlt h2
      have d2 : (oth j : Int) < (m : Int) := by omega
      obtain ⟨yc, rfl, lc, kc⟩ := HC.out (by omega)
      obtain ⟨yo, rfl, lo, ko⟩ := HO.out (by omega)
      have cc := (B.cell (by rw [block_add]; omega)).trans ((B1.cell (by rw [block_add]; exact lc)).trans (kc j hlt))
      have co := (B.cell (by rw [block_add]; omega)).trans ((B1.cell (by rw [block_add]; exact lo)).trans (ko j hlt))
      have cq := (B.cell (by rw [block_add]; omega)).trans ((B1.cell (by rw [block_add]; exact lo)).trans (ko (oth j) hoth))
      have xo := xor_one j (by omega)
      obtain ⟨p, hp⟩ : ∃ p : Nat, (p : Int) = o j := ⟨(o j).toNat, by have := H0.out j hlt; omega⟩
      obtain ⟨q, hq⟩ : ∃ q : Nat, (q : Int) = o (oth j) := ⟨(o (oth j)).toNat, by have := H0.out (oth j) hoth; omega⟩
      rw [← hp] at co
      rw [← hq] at cq
      obtain ⟨v0, v1, v2, v3, v4, -⟩ := V2.facts
      have HCC := Lib.hid (kc j hlt)
      have HCP : Hid (w.cell? (yo.add (oth j)) = some (.int .i64 (q : Int))) := Lib.hid (by rw [hq]; exact ko (oth j) hoth)
      have HP := Lib.hid hp
      have HQ := Lib.hid hq
      clear kc ko hp hq
      go_upto_region 5 with fail
      have S0 : wr.cell? ⟨w.heap.size, 1, none⟩ = wr.cell? ⟨w.heap.size, 1, none⟩ := rfl
      have KK : Hid (∀ W, Below w1.heap.size w1 W → w1.heap.size ≤ W.heap.size) := Lib.hid fun W b => b.size
      have V1c := V1
      have KF : Hid (∀ W, Below w1.heap.size w1 W → W.cell? ⟨w.heap.size, 3, none⟩ = some (.slice (some yc) m cp) ∧ W.cell? ⟨w.heap.size, 4, none⟩ = some (.slice (some yo) m op) ∧ W.cell? (yc.add j) = some (.int .i64 (c j)) ∧ W.cell? (yo.add (oth j)) = some (.int .i64 (q : Int))) := Lib.hid fun W b => by
        have V3 := SplitAt.below V1c b (Nat.le_refl _)
        obtain ⟨-, -, -, k3, k4, -⟩ := V3.facts
        exact ⟨k3, k4, (b.cell (by rw [block_add]; omega)).trans ((B1.cell (by rw [block_add]; exact lc)).trans (HCC.out)), (b.cell (by rw [block_add]; omega)).trans ((B1.cell (by rw [block_add]; exact lo)).trans (HCP.out))⟩
      have BD : Below w1.heap.size w1 wr.drew := B.drew
      have OD : OwA wr.drew u3 j (overA o c) := O.keep fun _ _ => rfl
      have HA := KF.out _ BD
      have bA : Below wr.heap.size wr (wr.alloc (.cells #[.int .i64 (p : Int), .int .i64 (q : Int), .int .i64 (c j)] 75)).drew := (below_new wr _).drew
      have Oa : OwA (wr.alloc (.cells #[.int .i64 (p : Int), .int .i64 (q : Int), .int .i64 (c j)] 75)).drew u3 j (overA o c) := O.below bA (Nat.le_refl _)
      have Ba := B.trans (bA.mono B.size)
      clear bA OD
      clear v0 v1 v2 v3 v4 cc co cq V2 B O KK S0 V1c
      have bws := BD.size
      have n0 : ∀ i, i < 3 → (wr.alloc (.cells #[.int .i64 (p : Int), .int .i64 (q : Int), .int .i64 (c j)] 75)).drew.cell? ((⟨wr.heap.size, 0, none⟩ : Addr).add i) = some (arcCell ⟨fun _ => p, fun _ => q, fun _ => c j⟩ i) := OwA.one wr p q (c j) ⟨fun _ => p, fun _ => q, fun _ => c j⟩ rfl rfl rfl
      have sz2 : (wr.alloc (.cells #[.int .i64 (p : Int), .int .i64 (q : Int), .int .i64 (c j)] 75)).drew.heap.size = wr.heap.size + 1 := by simp
      have HB := KF.out _ Ba
      refine wp_region_noPanic ?_
      refine wp_region_held_drew (S := fun W => W.cell? ⟨w.heap.size, 3, none⟩ = some (.slice (some yc) m cp) ∧ W.cell? ⟨w.heap.size, 4, none⟩ = some (.slice (some yo) m op) ∧ W.cell? (yc.add j) = some (.int .i64 (c j)) ∧ W.cell? (yo.add (oth j)) = some (.int .i64 (q : Int))) (by kernel_rfl) HA (fun hHeld => ?_)
      refine held_takes (by kernel_rfl) (fun _ _ _ _ _ h => h) [0, 1, 2, 3, 4, 5, 6, 7, 8, 9, 10, 11, 12, 13, 14] _ 3 _ _ _ rfl (by kernel_rfl) (by kernel_rfl) hHeld ?_
      simp only [pick, List.drop_succ_cons, List.drop_zero]
      iterate 15 (refine wpTakes_cons (v := ?_) (Or.inl ⟨by rfl, ?_⟩) ?_; rotate_left; (intro w hSw; (try dsimp only at hSw); go_simp <;> with_reducible rfl); (try simp only [Act.put, List.setIfInBounds_toArray, List.set_cons_zero, List.set_cons_succ]))
      refine wpTakes_nil ?_
      refine held_one 15 (fuel := 2) rfl (by kernel_rfl) ?_
      simp only [List.drop_succ_cons, List.drop_zero]
      refine wpOne_cons (fun KK hK => ?_)
      go_simp
      refine hK.out _ _ HB ?_
      clear hK KK
      try simp only [Act.put, List.setIfInBounds_toArray, List.set_cons_zero, List.set_cons_succ]
      refine held_one 16 (fuel := 1) rfl (by kernel_rfl) ?_
      simp only [List.drop_succ_cons, List.drop_zero]
      refine wpOne_cons (fun KK hK => ?_)
      refine step_appA2 rfl _ _ rfl _ j (overA o c) rfl Oa _ 1 1 ⟨fun _ => p, fun _ => q, fun _ => c j⟩ rfl (.inr ⟨⟨wr.heap.size, 0, none⟩, rfl, n0⟩) (by omega) ?_
      intro V5 w5 O5 g5 l5
      obtain ⟨b', c', rfl, -⟩ := O5.form (by omega)
      have hnb : w1.heap.size ≤ b' := by
        rcases l5 with e | e
        · exact HU.out b' e.symm
        · injection e with e
          have : w1.heap.size ≤ wr.heap.size := bws
          rw [sz2] at e
          have e2 : b' = wr.heap.size + 1 := e
          omega
      have B5 := Below.grown Ba g5 Ba.size (fun c hc => HU.out c hc)
      have O6 : OwA w5 (.slice (some ⟨b', 0, none⟩) (j + 1) c') (j + 1) (overA o c) := O5.congr fun i hi => by
        by_cases e : i < j
        · show (if i < j then _ else _) = _ ∧ (if i < j then _ else _) = _ ∧ (if i < j then _ else _) = _
          rw [if_pos e, if_pos e, if_pos e]; exact ⟨rfl, rfl, rfl⟩
        · obtain rfl : i = j := by omega
          show (if i < i then _ else _) = _ ∧ (if i < i then _ else _) = _ ∧ (if i < i then _ else _) = _
          rw [if_neg e, if_neg e, if_neg e]
          refine ⟨?_, ?_, rfl⟩
          · show p = (o i).toNat
            have := HP.out
            omega
          · show q = (o (oth i)).toNat
            have := HQ.out
            omega
      have HU5 : Hid (∀ k, (Value.slice (some ⟨b', 0, none⟩) (j + 1) c').ownBlock = some k → w1.heap.size ≤ k) := Lib.hid fun k hk => by
        have e : some b' = some k := hk
        injection e with e
        rw [← e]; exact hnb
      refine hK.out _ _ (KF.out _ B5) ?_
      clear hK KK
      refine held_more (S' := fun w' => w' = w5) (fun w' e => by subst e; exact KF.out _ B5) _ _ _ _ ?_
      try simp only [Act.put, List.setIfInBounds_toArray, List.set_cons_zero, List.set_cons_succ]
      refine held_takes (by kernel_rfl) (fun _ _ _ _ _ h => h) [17] _ 0 _ _ _ rfl (by kernel_rfl) (by kernel_rfl) rfl ?_
      simp only [pick, List.drop_succ_cons, List.drop_zero]
      iterate 1 (refine wpTakes_cons (v := ?_) (Or.inl ⟨by rfl, ?_⟩) ?_; rotate_left; (intro w hSw; subst hSw; go_simp <;> with_reducible rfl); (try simp only [Act.put, List.setIfInBounds_toArray, List.set_cons_zero, List.set_cons_succ]))
      refine wpTakes_nil ?_
      refine wpAnyH_done (by kernel_rfl) ?_ _
      refine NoPanic.normal ?_
      clear n0 Oa Ba g5 l5 O5 hnb HA HB hHeld sz2
      go_wp2_with fail
      go_roundw
      case rel => exact ⟨j + 1, by simp, by omega, O6, HU5, B5⟩
      case measure => simp [intOf]; omega
    · have d1 : ¬ ((j : Int) < (m : Int)) := by omega
      obtain rfl : j = m := by omega
      go_wp2_with fail
      go_ret
      exact ⟨_, rfl, O, fun z hz => by have := HU.out z hz; omega, B1.trans (B.mono B1.size)⟩
end Go.Proofs.Ytcdlnohnkdalbaa.Ro
namespace Go.Proofs.Ytcdlnohnkdalbaa.Ro
open Go.RowKit Go.Proofs Go.Maps
set_option linter.unusedVariables false
set_option maxRecDepth 100000
set_option linter.unusedSimpArgs false

/-- a parting that may be gone over: m darts, fs faces, of each dart the face and what it holds -/
structure OverOk (m fs a : Nat) (o c : Nat → Int) : Prop where
  few : m ≤ 48
  even : m % 2 = 0
  most : fs ≤ 60
  start : a < fs
  lt : ∀ d, d < m → 0 ≤ o d ∧ o d < fs
  cap : ∀ d, d < m → 0 ≤ c d ∧ c d ≤ 2147483648
theorem OverOk.arcs {m fs a : Nat} {o c : Nat → Int} (h : OverOk m fs a o c) : ArcsIn (overA o c) m fs 4294967296 := by
  refine ⟨fun i hi => ?_, fun i hi => ?_, fun i hi => ?_, fun i hi => ?_⟩
  · have := h.lt i hi
    show (o i).toNat < fs
    omega
  · have := h.lt (oth i) (oth_lt hi h.even)
    show (o (oth i)).toNat < fs
    omega
  · have := h.cap i hi
    show -4294967296 ≤ c i
    omega
  · have := h.cap i hi
    show c i ≤ 4294967296
    omega

set_option maxHeartbeats 6400000 in
theorem rimHeights_any (w : World) (N b : Int) (T X C O : Value) (m fs a : Nat) (c o : Nat → Int) (hC : Rd w C m c) (hO : Rd w O m o) (h : OverOk m fs a o c) :
    Calls Try.prog 34 #[.agg #[.int .i64 N, T, X, C, O, .int .i64 (fs : Int), .int .i64 (a : Int), .int .i64 b]] w (DistPost w.heap.size w (overA o c) m a fs) := by
  have hA := h.arcs
  have HA := Lib.hid h
  have h1 := h.few
  have h2 := h.most
  have h3 := h.start
  clear h
  go_enter Try.func34, Try.ntmps34
  go_upto_region 1 with fail
  have V1 : SplitAt (w.alloc (.cells #[.int .i64 N, T, X, C, O, .int .i64 (fs : Int), .int .i64 (a : Int), .int .i64 b] 57)) w.heap.size (.int .i64 N) T X C O (.int .i64 (fs : Int)) (.int .i64 (a : Int)) (.int .i64 b) := heap_alloc_new _ _
  have B1 := below_new w (.cells #[.int .i64 N, T, X, C, O, .int .i64 (fs : Int), .int .i64 (a : Int), .int .i64 b] 57)
  have sz1 : (w.alloc (.cells #[.int .i64 N, T, X, C, O, .int .i64 (fs : Int), .int .i64 (a : Int), .int .i64 b] 57)).heap.size = w.heap.size + 1 := by simp
  generalize (w.alloc (.cells #[.int .i64 N, T, X, C, O, .int .i64 (fs : Int), .int .i64 (a : Int), .int .i64 b] 57)) = w1 at *
  obtain ⟨v0, v1, v2, v3, v4, v5, v6, v7, -⟩ := V1.facts
  have BD : Below w1.heap.size w1 w1.drew := (Below.refl _ w1).drew
  have CT := Lib.hid (rimArcs_any w1.drew N fs a b T X C O m c o ((hC.below B1 (Nat.le_refl _)).below BD (Nat.le_refl _)) ((hO.below B1 (Nat.le_refl _)).below BD (Nat.le_refl _)) (fun d hd => by have := HA.out.lt d hd; omega) (by omega) HA.out.even)
  generalize w.heap.size = q at *
  have hq : q < w1.heap.size := by omega
  have bw1 : Below q w w1 := B1
  refine wp_region_noPanic ?_
  refine wp_region_held_drew (S := fun w' => w'.cell? ⟨q, 0, none⟩ = some (.int .i64 N) ∧ w'.cell? ⟨q, 1, none⟩ = some T ∧ w'.cell? ⟨q, 2, none⟩ = some X ∧ w'.cell? ⟨q, 3, none⟩ = some C ∧ w'.cell? ⟨q, 4, none⟩ = some O ∧ w'.cell? ⟨q, 5, none⟩ = some (.int .i64 (fs : Int)) ∧ w'.cell? ⟨q, 6, none⟩ = some (.int .i64 (a : Int)) ∧ w'.cell? ⟨q, 7, none⟩ = some (.int .i64 b)) (by kernel_rfl) ⟨v0, v1, v2, v3, v4, v5, v6, v7⟩ (fun hHeld => ?_)
  refine held_takes (by kernel_rfl) (fun _ _ _ _ _ h => h) [0, 1, 2, 4, 5] _ 3 _ _ _ rfl (by kernel_rfl) (by kernel_rfl) hHeld ?_
  simp only [pick, List.drop_succ_cons, List.drop_zero]
  iterate 5 (refine wpTakes_cons (v := ?_) (Or.inl ⟨by rfl, ?_⟩) ?_; rotate_left; (intro w hSw; (try dsimp only at hSw); go_simp <;> with_reducible rfl); (try simp only [Act.put, List.setIfInBounds_toArray, List.set_cons_zero, List.set_cons_succ]))
  refine wpTakes_nil ?_
  refine held_one 3 (fuel := 2) rfl (by kernel_rfl) ?_
  simp only [List.drop_succ_cons, List.drop_zero]
  refine wpOne_cons (fun KK hK => ?_)
  go_simp
  refine CT.out.mono ?_
  rintro e w2 ⟨V, rfl, OA, hV, b2⟩
  have k0 := (b2.cell (p := ⟨q, 0, none⟩) hq).trans v0
  have k1 := (b2.cell (p := ⟨q, 1, none⟩) hq).trans v1
  have k2 := (b2.cell (p := ⟨q, 2, none⟩) hq).trans v2
  have k3 := (b2.cell (p := ⟨q, 3, none⟩) hq).trans v3
  have k4 := (b2.cell (p := ⟨q, 4, none⟩) hq).trans v4
  have k5 := (b2.cell (p := ⟨q, 5, none⟩) hq).trans v5
  have k6 := (b2.cell (p := ⟨q, 6, none⟩) hq).trans v6
  have k7 := (b2.cell (p := ⟨q, 7, none⟩) hq).trans v7
  have B2 : Below q w w2 := bw1.trans ((BD.trans b2).mono (by omega))
  have FT := Lib.hid (from_any w2 fs m a V _ OA.rdA hA (fun i hi => (HA.out.cap i hi).1) h3 (by omega) (by omega))
  refine hK.out _ _ ⟨k0, k1, k2, k3, k4, k5, k6, k7⟩ ?_
  clear hK KK
  try simp only [Act.put, List.setIfInBounds_toArray, List.set_cons_zero, List.set_cons_succ]
  refine held_one 6 (fuel := 1) rfl (by kernel_rfl) ?_
  simp only [List.drop_succ_cons, List.drop_zero]
  refine wpOne_cons (fun KK hK => ?_)
  go_simp
  refine FT.out.mono ?_
  rintro e w3 ⟨bb, cc, D, t, rfl, OD, hb, SD, ht, FX, b3⟩
  have hq2 : q < w2.heap.size := Nat.lt_of_lt_of_le hq b2.size
  have B3 : Below q w w3 := B2.trans (b3.mono (Nat.le_of_lt hq2))
  have l0 := (b3.cell (p := ⟨q, 0, none⟩) hq2).trans k0
  have l1 := (b3.cell (p := ⟨q, 1, none⟩) hq2).trans k1
  have l2 := (b3.cell (p := ⟨q, 2, none⟩) hq2).trans k2
  have l3 := (b3.cell (p := ⟨q, 3, none⟩) hq2).trans k3
  have l4 := (b3.cell (p := ⟨q, 4, none⟩) hq2).trans k4
  have l5 := (b3.cell (p := ⟨q, 5, none⟩) hq2).trans k5
  have l6 := (b3.cell (p := ⟨q, 6, none⟩) hq2).trans k6
  have l7 := (b3.cell (p := ⟨q, 7, none⟩) hq2).trans k7
  refine hK.out _ _ ⟨l0, l1, l2, l3, l4, l5, l6, l7⟩ ?_
  clear hK KK
  refine held_more (S' := fun w' => w' = w3) (fun w' e => by subst e; exact ⟨l0, l1, l2, l3, l4, l5, l6, l7⟩) _ _ _ _ ?_
  try simp only [Act.put, List.setIfInBounds_toArray, List.set_cons_zero, List.set_cons_succ]
  refine held_takes (by kernel_rfl) (fun _ _ _ _ _ h => h) [7] _ 0 _ _ _ rfl (by kernel_rfl) (by kernel_rfl) rfl ?_
  simp only [pick, List.drop_succ_cons, List.drop_zero]
  iterate 1 (refine wpTakes_cons (v := ?_) (Or.inl ⟨by rfl, ?_⟩) ?_; rotate_left; (intro w hSw; subst hSw; go_simp <;> with_reducible rfl); (try simp only [Act.put, List.setIfInBounds_toArray, List.set_cons_zero, List.set_cons_succ]))
  refine wpTakes_nil ?_
  refine wpAnyH_done (by kernel_rfl) ?_ _
  refine NoPanic.normal ?_
  have hbb : q ≤ bb := Nat.le_trans (Nat.le_of_lt hq2) hb
  clear l0 l1 l2 l3 l4 l5 l6 l7 k0 k1 k2 k3 k4 k5 k6 k7 v0 v1 v2 v3 v4 v5 v6 v7 CT FT hHeld
  go_wp2_with fail
  go_ret
  exact ⟨bb, cc, D, t, rfl, OD, hbb, SD, ht, FX, B3⟩
end Go.Proofs.Ytcdlnohnkdalbaa.Ro
namespace Go.Proofs.Ytcdlnohnkdalbaa.Ro
open Go.RowKit Go.Proofs Go.Maps
set_option linter.unusedVariables false
set_option maxRecDepth 100000
set_option linter.unusedSimpArgs false

/-- the faces' names of a parted net -/
structure Parted (m : Nat) (x t : Nat → Int) (s v : Int) (o : Nat → Int) (k f e0 l a r : Nat) : Prop where
  orb : Orb (bh x) m o k
  share : Shares m o t (max k 1) s v (f : Int) true
  half : Halved m x t o f s v e0 l a r
/-- two that rim takes -/
def InNet (N : Nat) (s v : Int) : Prop := 0 ≤ s ∧ s < N ∧ 0 ≤ v ∧ v < N
/-- an error, and why -/
def RimBad (N m : Nat) (x t : Nat → Int) (s v : Int) (code : Int) : Prop :=
  (¬ InNet N s v ∧ code = 3) ∨ (InNet N s v ∧ s = v ∧ code = 9) ∨ (InNet N s v ∧ s ≠ v ∧ (∃ o k, Orb (bh x) m o k ∧ Shares m o t (max k 1) s v 0 false) ∧ code = 10)
/-- of each dart the face, once the face f is parted; K: the new face -/
def Over (m : Nat) (x t : Nat → Int) (s v : Int) (o : Nat → Int) (K f : Nat) : Prop := ∃ o0 k e0 l a r, Parted m x t s v o0 k f e0 l a r ∧ K = max k 1 ∧ o = halfO x o0 (K : Int) e0 a r l
/-- how far it is from face f to each face -/
def Away (m : Nat) (c o : Nat → Int) (K f : Nat) (D : Nat → Int) : Prop := ∃ T, Sound (overA o c) m f (K + 1) T D ∧ T ≤ 20200 ∧ Fix (overA o c) m D
structure RimOk (N m : Nat) (x t c : Nat → Int) (s v : Int) (o : Nat → Int) (K f : Nat) (D : Nat → Int) : Prop where
  in_ : InNet N s v
  ne : s ≠ v
  over : Over m x t s v o K f
  away : Away m c o K f D
/-- what runs over a dart -/
def fallOf (o D : Nat → Int) : Nat → Int := fun d => D (o (oth d)).toNat - D (o d).toNat

theorem Over.ok {m K f : Nat} {x t c o : Nat → Int} {s v : Int} (h : Over m x t s v o K f) (hm : m ≤ 48) (h2 : m % 2 = 0) (hc : ∀ d, d < m → 0 ≤ c d ∧ c d ≤ 2147483648) : OverOk m (K + 1) f o c ∧ K < K + 1 ∧ f < K := by
  obtain ⟨o0, k, e0, l, a, r, ⟨O, S, H⟩, rfl, rfl⟩ := h
  obtain ⟨-, g, e, hg, -⟩ := S
  have hk := O.le
  have e : f = g := by omega
  subst e
  refine ⟨⟨hm, h2, by omega, by omega, fun d hd => ?_, hc⟩, by omega, hg⟩
  have := O.lo d hd
  unfold halfO
  split <;> omega
theorem Over.one {m K f K' f' : Nat} {x t o o' : Nat → Int} {s v : Int} (h : Over m x t s v o K f) (h' : Over m x t s v o' K' f') (p : Perm (bh x) m) : K = K' ∧ f = f' ∧ ∀ d, d < m → o d = o' d := by
  obtain ⟨o0, k, e0, l, a, r, ⟨O, S, H⟩, rfl, rfl⟩ := h
  obtain ⟨o1, k1, e1, l1, a1, r1, ⟨O1, S1, H1⟩, rfl, rfl⟩ := h'
  obtain rfl := O.count O1 p
  have e : ∀ d, d < m → o0 d = o1 d := fun d hd => O.same O1 p m d hd hd
  obtain ⟨ef, -⟩ := S.one S1 e
  obtain rfl : f = f' := by omega
  obtain ⟨rfl, rfl, rfl, rfl⟩ := H.one H1 e
  exact ⟨rfl, rfl, fun d hd => halfO_same _ _ _ _ _ e hd⟩
theorem Way.other {S S' : ArcsF} {k s : Nat} (e : ∀ i, i < k → S.fr i = S'.fr i ∧ S.th i = S'.th i ∧ S.ln i = S'.ln i) {v : Nat} {c : Int} {n : Nat} (h : Way S k s v c n) : Way S' k s v c n := by
  induction h with
  | nil => exact .nil
  | snoc hw hi ih =>
    obtain ⟨e1, e2, e3⟩ := e _ hi
    rw [e2, e3]
    exact .snoc (by rw [← e1]; exact ih) hi
theorem Away.other {m K f : Nat} {c o o' D : Nat → Int} (h : Away m c o K f D) (e : ∀ d, d < m → o d = o' d) (h2 : m % 2 = 0) : Away m c o' K f D := by
  obtain ⟨T, S, hT, F⟩ := h
  have q : ∀ i, i < m → (overA o c).fr i = (overA o' c).fr i ∧ (overA o c).th i = (overA o' c).th i ∧ (overA o c).ln i = (overA o' c).ln i := fun i hi =>
    ⟨congrArg Int.toNat (e i hi), congrArg Int.toNat (e (oth i) (oth_lt hi h2)), rfl⟩
  refine ⟨T, ⟨fun v hv => (S.each v hv).elim .inl fun ⟨n, h1, h3⟩ => .inr ⟨n, h1, h3.other q⟩, S.here⟩, hT, fun i hi => ?_⟩
  obtain ⟨e1, e2, e3⟩ := q i hi
  have := F i hi
  rw [e1, e2, e3] at this
  exact this
theorem Away.one {m K f : Nat} {c o D D' : Nat → Int} (h : Away m c o K f D) (h' : Away m c o K f D') (hA : ArcsIn (overA o c) m (K + 1) 4294967296) (hf : f < K + 1) : ∀ j, j < K + 1 → D j = D' j := by
  obtain ⟨T, S, hT, F⟩ := h
  obtain ⟨T', S', hT', F'⟩ := h'
  exact F.one S F' S' hA (by omega) (by unfold far; omega) (by unfold far; omega) hf
theorem RimOk.one {N m K f K' f' : Nat} {x t c o o' D D' : Nat → Int} {s v : Int} (h : RimOk N m x t c s v o K f D) (h' : RimOk N m x t c s v o' K' f' D') (p : Perm (bh x) m) (hm : m ≤ 48) (h2 : m % 2 = 0) (hc : ∀ d, d < m → 0 ≤ c d ∧ c d ≤ 2147483648) :
    K = K' ∧ f = f' ∧ (∀ d, d < m → o d = o' d) ∧ (∀ j, j < K + 1 → D j = D' j) ∧ ∀ d, d < m → fallOf o D d = fallOf o' D' d := by
  obtain ⟨rfl, rfl, e⟩ := h.over.one h'.over p
  obtain ⟨g, -, hf⟩ := h.over.ok hm h2 hc
  have e2 := h.away.one (h'.away.other (fun d hd => (e d hd).symm) h2) g.arcs (by omega)
  refine ⟨rfl, rfl, e, e2, fun d hd => ?_⟩
  have g1 := g.lt d hd
  have g2 := g.lt (oth d) (oth_lt hd h2)
  unfold fallOf
  rw [← e d hd, ← e (oth d) (oth_lt hd h2), e2 _ (by omega), e2 _ (by omega)]
theorem RimBad.one {N m : Nat} {x t : Nat → Int} {s v a b : Int} (h : RimBad N m x t s v a) (h' : RimBad N m x t s v b) : a = b := by
  rcases h with ⟨h1, rfl⟩ | ⟨h1, h2, rfl⟩ | ⟨h1, h2, -, rfl⟩ <;> rcases h' with ⟨k1, rfl⟩ | ⟨k1, k2, rfl⟩ | ⟨k1, k2, -, rfl⟩ <;> first | rfl | contradiction
theorem RimBad.ok {N m K f : Nat} {x t c o D : Nat → Int} {s v a : Int} (h : RimBad N m x t s v a) (h' : RimOk N m x t c s v o K f D) (p : Perm (bh x) m) : False := by
  rcases h with ⟨h1, -⟩ | ⟨h1, h2, -⟩ | ⟨h1, h2, ⟨o1, k1, O1, S1⟩, -⟩
  · exact h1 h'.in_
  · exact h'.ne h2
  · obtain ⟨o0, k, e0, l, a, r, ⟨O, S, H⟩, -, -⟩ := h'.over
    obtain rfl := O.count O1 p
    have := S.one S1 (fun d hd => O.same O1 p m d hd hd)
    exact absurd this.2 (by simp)
theorem RimBad.ne {N m : Nat} {x t : Nat → Int} {s v a : Int} (h : RimBad N m x t s v a) : a ≠ 0 := by
  rcases h with ⟨-, rfl⟩ | ⟨-, -, rfl⟩ | ⟨-, -, -, rfl⟩ <;> decide
/-- a height is no great number -/
theorem Away.size {m K f : Nat} {c o D : Nat → Int} (h : Away m c o K f D) (hA : ArcsIn (overA o c) m (K + 1) 4294967296) {j : Nat} (hj : j < K + 1) : -1000000000000000 ≤ D j ∧ D j ≤ 1152921504606846976 := by
  obtain ⟨T, S, hT, F⟩ := h
  by_cases e : D j = far
  · unfold far at e; omega
  · have := S.size hA (by omega) hj e
    omega

/-- what rim.Flow tells -/
def FlowPost (B : Nat) (w : World) (N m : Nat) (x t c : Nat → Int) (s v : Int) (e : Ending) (w' : World) : Prop :=
  Below B w w' ∧ ((∃ code, RimBad N m x t s v code ∧ e = .returned (.tuple #[.slice none 0 0, .int .i64 0, .int .i64 code])) ∨
    ∃ o K f D b cap, RimOk N m x t c s v o K f D ∧ e = .returned (.tuple #[.slice (some ⟨b, 0, none⟩) m cap, .int .i64 (D K), .int .i64 0]) ∧ Ow w' (.slice (some ⟨b, 0, none⟩) m cap) m (fallOf o D) ∧ B ≤ b)
/-- what rim.Heights tells -/
def HeightsPost (B : Nat) (w : World) (N m : Nat) (x t c : Nat → Int) (s v : Int) (e : Ending) (w' : World) : Prop :=
  Below B w w' ∧ ((∃ code, RimBad N m x t s v code ∧ e = .returned (.tuple #[.slice none 0 0, .int .i64 code])) ∨
    ∃ o K f D b cap, RimOk N m x t c s v o K f D ∧ e = .returned (.tuple #[.slice (some ⟨b, 0, none⟩) (K + 1) cap, .int .i64 0]) ∧ Ow w' (.slice (some ⟨b, 0, none⟩) (K + 1) cap) (K + 1) D ∧ B ≤ b)
end Go.Proofs.Ytcdlnohnkdalbaa.Ro
