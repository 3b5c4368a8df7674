/- Walks: the law PathRight. -/
import Derived.Test.YtchlccendggfpaaPaKn
import Derived.Test.YtchlccendggfpaaPaRt
namespace Go.Proofs.Ytchlccendggfpaa.Ro
open Go.RowKit Go.Proofs Go.Maps
set_option linter.unusedVariables false
set_option linter.unusedSimpArgs false

set_option maxRecDepth 100000 in
set_option maxHeartbeats 12800000 in
theorem right_walk (size : Int) (A : Option Addr) (len cap : Nat) (zs : List Int) (s : Int) (low : Int) (aat : Int) (vv : Int) (A2 : Option Addr) (len2 cap2 : Nat) (zs2 : List Int) (w : World) (hsize : Small size) (hV : Rd w (.slice A len cap) len (fun i => zs.getD i 0)) (hz : ∀ i, i < len → Small (zs.getD i 0)) (hl : len ≤ 9223372036854775807) (hs : Small s) (hlow : Small low) (haat : Small aat) (hvv : Small vv) (hV2 : Rd w (.slice A2 len2 cap2) len2 (fun i => zs2.getD i 0)) (hz2 : ∀ i, i < len2 → Small (zs2.getD i 0)) (hl2 : len2 ≤ 9223372036854775807) :
    Calls Try.prog 5 #[.int .i64 size, .slice A len cap, .int .i64 s, .int .i64 low, .int .i64 aat, .int .i64 vv, .slice A2 len2 cap2] w fun e w' => e = .returned (.bool true) ∧ Below w.heap.size w w' := by
  go_enter Try.func5, Try.ntmps5
  go_wp2_with fail
  refine (known6_ok _).mono ?_
  rintro e w1 ⟨rfl, B1⟩
  by_cases hraw : 60 < len2
  · have r1 : (60 : Int) < (len2 : Int) := by omega
    have r2 : decide ((60 : Int) < (len2 : Int)) = true := by simp; omega
    go_wp2_with fail
    go_ret
    exact ⟨rfl, B1⟩
  have r1 : ¬ ((60 : Int) < (len2 : Int)) := by omega
  have r2 : decide ((60 : Int) < (len2 : Int)) = false := by simp; omega
  have hl60 : len2 ≤ 60 := by omega
  clear hraw
  go_wp2_with fail
  clear r1 r2
  obtain ⟨i2, hi2, hz2', hsz2, hby2⟩ := info_parts (P := Try.prog) (e := 3) (z := .int .i64 0) (size := 1) (bytes := 8) (by kernel_rfl)
  refine (within6_any w1 size 14 hsize (by omega) (by omega)).mono ?_
  rintro e w2 ⟨rfl, rfl⟩
  obtain ⟨n0, hn0, hn1⟩ := within_nat (d := size) (m := 14) (by omega)
  rw [hn0]
  obtain ⟨n, hnn⟩ : ∃ n : Nat, n = n0 + 1 := ⟨_, rfl⟩
  have en : 1 + (n0 : Int) = (n : Int) := by omega
  have n1 : 1 ≤ n := by omega
  have n2 : n ≤ 14 := by omega
  clear hn0 hn1 hnn hsize
  go_wp2_with fail
  clear en
  refine (within6_any w1 low 4 hlow (by omega) (by omega)).mono ?_
  rintro e w2 ⟨rfl, rfl⟩
  obtain ⟨lw, hlw, hlw1⟩ := within_nat (d := low) (m := 4) (by omega)
  rw [hlw]
  clear hlw hlow
  go_wp2_with fail
  refine (arcs_any w1 n len (lw : Int) _ _ (hV.below B1 (Nat.le_refl _)) hz hl (by omega) (by omega) (by omega) (by omega)).mono ?_
  rintro e w3 ⟨V, rfl, OA, hVo, b3⟩
  have B3 := B1.trans (b3.mono B1.size)
  have AI := arcsOf_in (k := min len 50) (n := n) (x := fun i => zs.getD i 0) (low := (lw : Int)) (by omega) (by omega) (by omega)
  have kk : min len 50 ≤ 50 := Nat.min_le_right _ _
  have RV := OA.rdA
  have HVO := Lib.hid hVo
  obtain ⟨VA, vc, rfl, -⟩ := id RV
  clear b3 B1 hVo
  generalize hkk : min len 50 = k at *
  generalize hS : arcsOf n (fun i => zs.getD i 0) (lw : Int) = S at *
  clear hS hkk hz hV OA
  go_wp2_with fail
  refine (within6_any w3 s (n : Int) hs (by omega) (by omega)).mono ?_
  rintro e w4 ⟨rfl, rfl⟩
  obtain ⟨x, hx0, hx1⟩ := within_nat (d := s) (m := (n : Int)) (by omega)
  rw [hx0]
  have hxn : x < n := by omega
  clear hx0 hx1 hs
  go_wp2_with fail
  have HV2 := hV2.below B3 (Nat.le_refl _)
  clear hV2 hz2
  refine (refAny_any w3 n k x _ S RV AI hxn (by omega) (by omega)).mono ?_
  rintro e w5 ⟨b5, ⟨bd, d, t, rfl, Od, hbd, SD, ht, FX⟩ | ⟨rfl, hN⟩⟩
  rotate_left
  · have B5 := B3.trans (b5.mono B3.size)
    have R5 := RV.below b5 (Nat.le_refl _)
    have H5 := HV2.below b5 (Nat.le_refl _)
    have HN := Lib.hid hN
    clear b5 RV B3 HV2 hN
    go_wp2_with (at_make; refine wpList_make_full _ rfl _ _ _ rfl 0 3 i2 (.int .i64 0) 1 Try.underlying22 hi2 hz2' hsz2 .i64 .i64 (n : Int) (n : Int) n rfl rfl rfl rfl (by rw [hby2]; omega) (by unfold maxLen; omega) (Nat.zero_le _) ?_; intro w6 hm6 hg6)
    rw [show (Value.int IntKind.i64 0).cells = #[.int .i64 0] from rfl, Nat.mul_one, toList_madeCells_one] at hm6
    have O6 := Ow.made hm6
    have b6 : Below w5.heap.size w5 w6 := ⟨hg6.os, hg6.tape, hg6.output, hg6.size, fun k hk => hg6.block k hk (by simp)⟩
    have B6 := B5.trans (b6.mono B5.size)
    have R6 := R5.below b6 (Nat.le_refl _)
    have H6 := H5.below b6 (Nat.le_refl _)
    clear hm6 hg6 b6 B5 R5 H5 i2 hi2 hz2' hsz2 hby2
    refine (right_any w6 n k x n _ _ S _ R6 O6.rd AI hxn (by omega) (by omega) (by omega)).mono ?_
    rintro e w7 ⟨b7, ⟨d7, t7, S7, ht7, F7, rfl⟩ | ⟨_, rfl⟩⟩
    · exact absurd (F7.noNeg S7 AI (by omega) (by unfold far; omega) hxn) HN.out
    have B7 := B6.trans (b7.mono B6.size)
    have R7 := R6.below b7 (Nat.le_refl _)
    have H7 := H6.below b7 (Nat.le_refl _)
    clear b7 B6 R6 H6 O6
    go_wp2_with fail
    refine (right_any w7 n k x len2 _ _ S _ R7 H7 AI hxn (by omega) (by omega) (by omega)).mono ?_
    rintro e w8 ⟨b8, ⟨d7, t7, S7, ht7, F7, rfl⟩ | ⟨_, rfl⟩⟩
    · exact absurd (F7.noNeg S7 AI (by omega) (by unfold far; omega) hxn) HN.out
    have B8 := B7.trans (b8.mono B7.size)
    have R8 := R7.below b8 (Nat.le_refl _)
    have H8 := H7.below b8 (Nat.le_refl _)
    clear b8 B7 R7 H7
    go_wp2_with fail
    refine (refRight_any w8 n k x len2 _ _ S _ R8 H8 AI hxn (by omega) (by omega) (by omega)).mono ?_
    rintro e w9 ⟨b9, ⟨d7, t7, S7, ht7, F7, rfl⟩ | ⟨_, rfl⟩⟩
    · exact absurd (F7.noNeg S7 AI (by omega) (by unfold far; omega) hxn) HN.out
    have B9 := B8.trans (b9.mono B8.size)
    clear b9 B8 R8 H8
    go_wp2_with fail
    go_ret
    exact ⟨rfl, B9⟩
  clear i2 hi2 hz2' hsz2 hby2
  have B5 := B3.trans (b5.mono B3.size)
  have R5 := RV.below b5 (Nat.le_refl _)
  have H5 := HV2.below b5 (Nat.le_refl _)
  have HS := Lib.hid SD
  have HF := Lib.hid FX
  have hbw : w.heap.size ≤ bd := by have := B3.size; omega
  have HVB : Hid (∀ vb, 0 < k → VA = some ⟨vb, 0, none⟩ → vb ≠ bd) := Lib.hid fun vb h0 e => by
    obtain ⟨b, cap, ev, hb, _⟩ := RV.arc h0
    injection ev with e1 e2 e3
    rw [e1] at e
    injection e with e
    injection e with e
    omega
  clear b5 RV B3 HV2 SD FX hbd
  obtain ⟨a, ha0, ha1⟩ := within_nat (d := aat) (m := (n : Int)) (by omega)
  obtain ⟨j, hj0, hj1⟩ := within_nat (d := vv) (m := 7) (by omega)
  have han : a < n := by omega
  have OE := Ow.empty w5 (fun _ => 0)
  have bE := below_new w5 (.cells #[] 3)
  have szE : (w5.alloc (.cells #[] 3)).heap.size = w5.heap.size + 1 := by simp
  have Ob := Od.below bE (Nat.le_refl _)
  have hcs : ∀ i, i < n → (w5.alloc (.cells #[] 3)).cell? ((⟨bd, 0, none⟩ : Addr).add i) = some (.int .i64 (d i)) := fun i hi => by rw [add_head]; exact Ob.cell hi
  have SZE := Lib.hid (And.intro szE hcs)
  have lbd := Od.lt (k := bd) rfl
  clear szE hcs
  go_upto_region 12 with (at_builtin; go_must (refine wpList_cop rfl _ _ rfl (.slice (some ⟨w5.heap.size, 0, none⟩) 0 0) (fun _ => 0) rfl OE ⟨bd, 0, none⟩ n n d rfl SZE.out.2 (by omega) (by omega) ?_); intro b' c' w7 O7 g7 l7)
  have hb' : w5.heap.size ≤ b' := by
    rcases l7 with e | e
    · have e : some b' = some w5.heap.size := e
      injection e with e; omega
    · have := SZE.out.1; omega
  have b7 : Below w5.heap.size w5 w7 := Below.grown bE g7 bE.size (fun c hc => by have e : some w5.heap.size = some c := hc; injection e with e; omega)
  have Od7 := Od.below b7 (Nat.le_refl _)
  clear OE bE Ob SZE g7 l7 Od
  have ca : w7.drew.cell? ⟨bd, a, none⟩ = some (.int .i64 (d a)) := Od7.cell han
  have ca' : w7.cell? ⟨bd, a, none⟩ = some (.int .i64 (d a)) := Od7.cell han
  have ce : w7.cell? ⟨b', a, none⟩ = some (.int .i64 (d a)) := O7.cell han
  have fe := O7.frozen a
  have ia : (a : Int) < (n : Int) := by omega
  have ij : (j : Int) < 7 := hj1
  have da : -1000000000000000 ≤ d a ∧ d a ≤ 1152921504606846976 := by
    by_cases e : d a = far
    · unfold far at e; omega
    · have := HS.out.size AI (by omega) han e; omega
  obtain ⟨da1, da2⟩ := da
  have wp1 : IntKind.i64.wrap (d a + 1) = d a + 1 := by rw [IntKind.wrap_i64]; omega
  have wm1 : IntKind.i64.wrap (d a - 1) = d a - 1 := by rw [IntKind.wrap_i64]; omega
  have lb' := O7.lt (k := b') rfl
  have lb7 := Od7.lt (k := bd) rfl
  obtain ⟨u, hu⟩ := seven_cell w7 0 (-1) 1152921504606846976 vv (d a + 1) (d a - 1) (d a) (j := j) (by omega)
  have kj : (w7.alloc (.cells #[.int .i64 0, .int .i64 (-1), .int .i64 1152921504606846976, .int .i64 vv, .int .i64 (d a + 1), .int .i64 (d a - 1), .int .i64 (d a)] 3)).drew.cell? ⟨w7.heap.size, j, none⟩ = some (.int .i64 u) := hu w7
  have bA : Below w7.heap.size w7 (w7.alloc (.cells #[.int .i64 0, .int .i64 (-1), .int .i64 1152921504606846976, .int .i64 vv, .int .i64 (d a + 1), .int .i64 (d a - 1), .int .i64 (d a)] 3)).drew := (below_new w7 _).drew
  have OdA := Od7.below bA (Nat.le_refl _)
  have O7A := O7.below bA (Nat.le_refl _)
  have ka := OdA.cell han
  have ke := O7A.cell han
  have fe2 := O7A.frozen a
  have nb1 : ¬ (b' = w7.heap.size) := by omega
  have nb2 : ¬ (b' = bd) := by omega
  have hsz : (w7.setCell ⟨b', a, none⟩ (.int .i64 u)).heap.size = w7.heap.size := by simp [World.setCell]
  have Ods : Ow (w7.setCell ⟨b', a, none⟩ (.int .i64 u)) (.slice (some ⟨bd, 0, none⟩) n n) n d := Od7.keep (fun c hc => Below.heap_setCell _ _ _ _ (by have e : some bd = some c := hc; injection e with e; subst e; exact Ne.symm nb2))
  have bS := b7.setCell (p := ⟨b', a, none⟩) hb' (.int .i64 u)
  have bA2 : Below (w7.setCell ⟨b', a, none⟩ (.int .i64 u)).heap.size (w7.setCell ⟨b', a, none⟩ (.int .i64 u)) ((w7.setCell ⟨b', a, none⟩ (.int .i64 u)).alloc (.cells #[.int .i64 0, .int .i64 (-1), .int .i64 1152921504606846976, .int .i64 vv, .int .i64 (d a + 1), .int .i64 (d a - 1), .int .i64 (d a)] 3)).drew := (below_new _ _).drew
  have Oda := Ods.below bA2 (Nat.le_refl _)
  have ks1 : ((w7.setCell ⟨b', a, none⟩ (.int .i64 u)).alloc (.cells #[.int .i64 0, .int .i64 (-1), .int .i64 1152921504606846976, .int .i64 vv, .int .i64 (d a + 1), .int .i64 (d a - 1), .int .i64 (d a)] 3)).drew.cell? ⟨bd, a, none⟩ = some (.int .i64 (d a)) := Oda.cell han
  have ks2 : ((w7.setCell ⟨b', a, none⟩ (.int .i64 u)).alloc (.cells #[.int .i64 0, .int .i64 (-1), .int .i64 1152921504606846976, .int .i64 vv, .int .i64 (d a + 1), .int .i64 (d a - 1), .int .i64 (d a)] 3)).drew.cell? ⟨w7.heap.size, j, none⟩ = some (.int .i64 u) := by
    have := hu (w7.setCell ⟨b', a, none⟩ (.int .i64 u))
    rw [hsz] at this
    exact this
  have FIN : ∃ u9 : Int, Ow ((w7.setCell ⟨b', a, none⟩ (.int .i64 u)).alloc (.cells #[.int .i64 0, .int .i64 (-1), .int .i64 1152921504606846976, .int .i64 vv, .int .i64 (d a + 1), .int .i64 (d a - 1), .int .i64 (d a)] 3)).drew (.slice (some ⟨b', 0, none⟩) n c') n (upd d a u9) ∧ Ow ((w7.setCell ⟨b', a, none⟩ (.int .i64 u)).alloc (.cells #[.int .i64 0, .int .i64 (-1), .int .i64 1152921504606846976, .int .i64 vv, .int .i64 (d a + 1), .int .i64 (d a - 1), .int .i64 (d a)] 3)).drew (.slice (some ⟨bd, 0, none⟩) n n) n d ∧ Below w5.heap.size w5 ((w7.setCell ⟨b', a, none⟩ (.int .i64 u)).alloc (.cells #[.int .i64 0, .int .i64 (-1), .int .i64 1152921504606846976, .int .i64 vv, .int .i64 (d a + 1), .int .i64 (d a - 1), .int .i64 (d a)] 3)).drew :=
    ⟨u, (O7.set han u).below bA2 (Nat.le_refl _), Oda, bS.trans (bA2.mono bS.size)⟩
  clear hsz Ods bS bA2 Oda
  have HFIN := Lib.hid FIN
  have tn : (n : Int) ≠ 0 := by omega
  go_cut [] (fun wx => ∃ u : Int, Ow wx (.slice (some ⟨b', 0, none⟩) n c') n (upd d a u) ∧ Ow wx (.slice (some ⟨bd, 0, none⟩) n n) n d ∧ Below w5.heap.size w5 wx)
  case first =>
    clear FIN Od7 O7 OdA O7A bA b7 B5 R5 H5 ca' HS HF
    refine wp_region_noPanic ?_
    refine wp_region_held_drew (S := fun W => W.cell? ⟨bd, a, none⟩ = some (.int .i64 (d a))) (by kernel_rfl) ca (fun hHeld => ?_)
    refine held_takes (by kernel_rfl) (fun _ _ _ _ _ h => h) [0, 1, 2, 4, 5, 6, 7, 12, 13, 14, 19, 20, 21, 26] _ 18 _ _ _ rfl (by kernel_rfl) (by kernel_rfl) hHeld ?_
    simp only [pick, List.drop_succ_cons, List.drop_zero]
    iterate 14 (refine wpTakes_cons (v := ?_) (Or.inl ⟨by rfl, ?_⟩) ?_; rotate_left; (intro w hSw; (try dsimp only at hSw); go_simp <;> with_reducible rfl); (try simp only [Act.put, List.setIfInBounds_toArray, List.set_cons_zero, List.set_cons_succ]))
    refine wpTakes_nil ?_
    refine held_one 3 (fuel := 17) rfl (by kernel_rfl) ?_
    simp only [List.drop_succ_cons, List.drop_zero]
    refine wpOne_cons (fun KK hK => ?_)
    go_simp
    refine (within6_any w7.drew aat (n : Int) haat (by omega) (by omega)).mono ?_
    rintro e wq ⟨rfl, rfl⟩
    rw [ha0]
    refine hK.out _ _ hHeld ?_
    clear hK KK
    try simp only [Act.put, List.setIfInBounds_toArray, List.set_cons_zero, List.set_cons_succ]
    refine held_one 8 (fuel := 16) rfl (by kernel_rfl) ?_
    simp only [List.drop_succ_cons, List.drop_zero]
    refine wpOne_cons (fun KK hK => ?_)
    go_simp
    refine (within6_any w7.drew aat (n : Int) haat (by omega) (by omega)).mono ?_
    rintro e wq ⟨rfl, rfl⟩
    rw [ha0]
    refine hK.out _ _ hHeld ?_
    clear hK KK
    try simp only [Act.put, List.setIfInBounds_toArray, List.set_cons_zero, List.set_cons_succ]
    refine held_takes (by kernel_rfl) (fun _ _ _ _ _ h => h) [9, 10, 11] _ 13 _ _ _ rfl (by kernel_rfl) (by kernel_rfl) hHeld ?_
    simp only [pick, List.drop_succ_cons, List.drop_zero]
    iterate 3 (refine wpTakes_cons (v := ?_) (Or.inl ⟨by rfl, ?_⟩) ?_; rotate_left; (intro w hSw; (try dsimp only at hSw); go_simp <;> with_reducible rfl); (try simp only [Act.put, List.setIfInBounds_toArray, List.set_cons_zero, List.set_cons_succ]))
    refine wpTakes_nil ?_
    refine held_one 15 (fuel := 12) rfl (by kernel_rfl) ?_
    simp only [List.drop_succ_cons, List.drop_zero]
    refine wpOne_cons (fun KK hK => ?_)
    go_simp
    refine (within6_any w7.drew aat (n : Int) haat (by omega) (by omega)).mono ?_
    rintro e wq ⟨rfl, rfl⟩
    rw [ha0]
    refine hK.out _ _ hHeld ?_
    clear hK KK
    try simp only [Act.put, List.setIfInBounds_toArray, List.set_cons_zero, List.set_cons_succ]
    refine held_takes (by kernel_rfl) (fun _ _ _ _ _ h => h) [16, 17, 18] _ 9 _ _ _ rfl (by kernel_rfl) (by kernel_rfl) hHeld ?_
    simp only [pick, List.drop_succ_cons, List.drop_zero]
    iterate 3 (refine wpTakes_cons (v := ?_) (Or.inl ⟨by rfl, ?_⟩) ?_; rotate_left; (intro w hSw; (try dsimp only at hSw); go_simp <;> with_reducible rfl); (try simp only [Act.put, List.setIfInBounds_toArray, List.set_cons_zero, List.set_cons_succ]))
    refine wpTakes_nil ?_
    refine held_one 22 (fuel := 8) rfl (by kernel_rfl) ?_
    simp only [List.drop_succ_cons, List.drop_zero]
    refine wpOne_cons (fun KK hK => ?_)
    go_simp
    refine (within6_any w7.drew aat (n : Int) haat (by omega) (by omega)).mono ?_
    rintro e wq ⟨rfl, rfl⟩
    rw [ha0]
    refine hK.out _ _ hHeld ?_
    clear hK KK
    try simp only [Act.put, List.setIfInBounds_toArray, List.set_cons_zero, List.set_cons_succ]
    refine held_takes (by kernel_rfl) (fun _ _ _ _ _ h => h) [23, 24] _ 6 _ _ _ rfl (by kernel_rfl) (by kernel_rfl) hHeld ?_
    simp only [pick, List.drop_succ_cons, List.drop_zero]
    iterate 2 (refine wpTakes_cons (v := ?_) (Or.inl ⟨by rfl, ?_⟩) ?_; rotate_left; (intro w hSw; (try dsimp only at hSw); go_simp <;> with_reducible rfl); (try simp only [Act.put, List.setIfInBounds_toArray, List.set_cons_zero, List.set_cons_succ]))
    refine wpTakes_nil ?_
    refine held_two 25 27 (fuel := 5) rfl (by kernel_rfl) ?_ ?_
    · simp only [List.drop_succ_cons, List.drop_zero]
      refine wpOne_cons (fun KK hK => ?_)
      go_simp
      refine hK.out _ _ ka ?_
      clear hK KK
      try simp only [Act.put, List.setIfInBounds_toArray, List.set_cons_zero, List.set_cons_succ]
      have hHeld := ka
      refine held_one 27 (fuel := 4) rfl (by kernel_rfl) ?_
      simp only [List.drop_succ_cons, List.drop_zero]
      refine wpOne_cons (fun KK hK => ?_)
      go_simp
      refine (within6_any (w7.alloc (.cells #[.int .i64 0, .int .i64 (-1), .int .i64 1152921504606846976, .int .i64 vv, .int .i64 (d a + 1), .int .i64 (d a - 1), .int .i64 (d a)] 3)).drew vv 7 hvv (by omega) (by omega)).mono ?_
      rintro e wq ⟨rfl, rfl⟩
      rw [hj0]
      refine hK.out _ _ hHeld ?_
      clear hK KK
      try simp only [Act.put, List.setIfInBounds_toArray, List.set_cons_zero, List.set_cons_succ]
      refine held_more (S' := fun W => W.cell? ⟨bd, a, none⟩ = some (.int .i64 (d a)) ∧ W.cell? ⟨w7.heap.size, j, none⟩ = some (.int .i64 u)) (fun W h => h.1) _ _ _ _ ?_
      refine held_takes (by kernel_rfl) (fun _ _ _ _ _ h => h) [28, 29, 30] _ 1 _ _ _ rfl (by kernel_rfl) (by kernel_rfl) ⟨ka, kj⟩ ?_
      simp only [pick, List.drop_succ_cons, List.drop_zero]
      iterate 3 (refine wpTakes_cons (v := ?_) (Or.inl ⟨by rfl, ?_⟩) ?_; rotate_left; (intro w hSw; (try dsimp only at hSw); go_simp <;> with_reducible rfl); (try simp only [Act.put, List.setIfInBounds_toArray, List.set_cons_zero, List.set_cons_succ]))
      refine wpTakes_nil ?_
      refine held_one 31 (fuel := 0) rfl (by kernel_rfl) ?_
      simp only [List.drop_succ_cons, List.drop_zero]
      refine wpOne_cons (fun KK hK => ?_)
      go_simp
      refine hK.out _ _ ⟨ks1, ks2⟩ ?_
      clear hK KK
      try simp only [Act.put, List.setIfInBounds_toArray, List.set_cons_zero, List.set_cons_succ]
      refine wpAnyH_done (by kernel_rfl) ?_ _
      refine NoPanic.normal ?_
      go_wp2_with fail
      go_meet
      obtain ⟨u9, f1, f2, f3⟩ := HFIN.out
      exact ⟨u9, f1, f2, f3⟩
    · simp only [List.drop_succ_cons, List.drop_zero]
      refine wpOne_cons (fun KK hK => ?_)
      go_simp
      refine (within6_any w7.drew vv 7 hvv (by omega) (by omega)).mono ?_
      rintro e wq ⟨rfl, rfl⟩
      rw [hj0]
      refine hK.out _ _ hHeld ?_
      clear hK KK
      try simp only [Act.put, List.setIfInBounds_toArray, List.set_cons_zero, List.set_cons_succ]
      refine held_one 25 (fuel := 4) rfl (by kernel_rfl) ?_
      simp only [List.drop_succ_cons, List.drop_zero]
      refine wpOne_cons (fun KK hK => ?_)
      go_simp
      refine hK.out _ _ ka ?_
      clear hK KK
      try simp only [Act.put, List.setIfInBounds_toArray, List.set_cons_zero, List.set_cons_succ]
      refine held_more (S' := fun W => W.cell? ⟨bd, a, none⟩ = some (.int .i64 (d a)) ∧ W.cell? ⟨w7.heap.size, j, none⟩ = some (.int .i64 u)) (fun W h => h.1) _ _ _ _ ?_
      refine held_takes (by kernel_rfl) (fun _ _ _ _ _ h => h) [28, 29, 30] _ 1 _ _ _ rfl (by kernel_rfl) (by kernel_rfl) ⟨ka, kj⟩ ?_
      simp only [pick, List.drop_succ_cons, List.drop_zero]
      iterate 3 (refine wpTakes_cons (v := ?_) (Or.inl ⟨by rfl, ?_⟩) ?_; rotate_left; (intro w hSw; (try dsimp only at hSw); go_simp <;> with_reducible rfl); (try simp only [Act.put, List.setIfInBounds_toArray, List.set_cons_zero, List.set_cons_succ]))
      refine wpTakes_nil ?_
      refine held_one 31 (fuel := 0) rfl (by kernel_rfl) ?_
      simp only [List.drop_succ_cons, List.drop_zero]
      refine wpOne_cons (fun KK hK => ?_)
      go_simp
      refine hK.out _ _ ⟨ks1, ks2⟩ ?_
      clear hK KK
      try simp only [Act.put, List.setIfInBounds_toArray, List.set_cons_zero, List.set_cons_succ]
      refine wpAnyH_done (by kernel_rfl) ?_ _
      refine NoPanic.normal ?_
      go_wp2_with fail
      go_meet
      obtain ⟨u9, f1, f2, f3⟩ := HFIN.out
      exact ⟨u9, f1, f2, f3⟩
  case rest =>
    obtain ⟨u9, Oe, Od8, b8⟩ := hcut
    clear FIN HFIN ca ca' ce fe kj bA OdA O7A ka ke fe2 ks1 ks2 b7 Od7 O7 wp1 wm1 lb' lb7 hu
    obtain ⟨w8, hw8⟩ : ∃ w8, w8 = wc := ⟨_, rfl⟩
    subst hw8
    have cong : ∀ (m : Nat) (y d' : Nat → Int) (t' : Nat), Sound S k x n t' d' → t' ≤ 20200 → Fix S k d' → sameB n m d' y = sameB n m d y := fun m y d' t' h1 h2 h3 => by
      have e := h3.one h1 HF.out HS.out AI (by omega) (by unfold far; omega) (by unfold far; omega) hxn
      rw [Bool.eq_iff_iff, sameB_true, sameB_true]
      constructor
      · rintro ⟨q1, q2⟩; exact ⟨q1, fun v hv => by rw [← e v hv]; exact q2 v hv⟩
      · rintro ⟨q1, q2⟩; exact ⟨q1, fun v hv => by rw [e v hv]; exact q2 v hv⟩
    have CG := Lib.hid cong
    have NN := Lib.hid (HF.out.noNeg HS.out AI (by omega) (by unfold far; omega) hxn)
    have B8 := B5.trans (b8.mono B5.size)
    have R8 := R5.below b8 (Nat.le_refl _)
    have H8 := H5.below b8 (Nat.le_refl _)
    clear cong b8 B5 R5 H5
    generalize upd d a u9 = y at *
    go_wp2_with fail
    refine (right_any w8 n k x n _ _ S d R8 Od8.rd AI hxn (by omega) (by omega) (by omega)).mono ?_
    rintro e w9 ⟨b9, ⟨d7, t7, S7, ht7, F7, rfl⟩ | ⟨hn, _⟩⟩
    rotate_left
    · exact absurd NN.out hn
    rw [CG.out n d d7 t7 S7 ht7 F7, show sameB n n d d = true from sameB_true.mpr ⟨rfl, fun _ _ => rfl⟩]
    have B9 := B8.trans (b9.mono B8.size)
    have R9 := R8.below b9 (Nat.le_refl _)
    have H9 := H8.below b9 (Nat.le_refl _)
    have Oe9 := Oe.below b9 (Nat.le_refl _)
    have Od9 := Od8.below b9 (Nat.le_refl _)
    clear b9 B8 R8 H8 Oe Od8 S7 F7 ht7
    go_wp2_with fail
    refine (right_any w9 n k x n _ _ S y R9 Oe9.rd AI hxn (by omega) (by omega) (by omega)).mono ?_
    rintro e w10 ⟨b10, ⟨d7, t7, S7, ht7, F7, rfl⟩ | ⟨hn, _⟩⟩
    rotate_left
    · exact absurd NN.out hn
    rw [CG.out n y d7 t7 S7 ht7 F7]
    have B10 := B9.trans (b10.mono B9.size)
    have R10 := R9.below b10 (Nat.le_refl _)
    have H10 := H9.below b10 (Nat.le_refl _)
    have Oe10 := Oe9.below b10 (Nat.le_refl _)
    have Od10 := Od9.below b10 (Nat.le_refl _)
    clear b10 B9 R9 H9 Oe9 Od9 S7 F7 ht7
    obtain ⟨sb, hsb⟩ : ∃ sb, sb = sameB n n d y := ⟨_, rfl⟩
    rw [← hsb]
    have HSB := Lib.hid hsb
    clear hsb
    go_wp2_with fail
    refine (ints6_any w10 _ _ n n d y (by omega) (by omega) Od10.rd Oe10.rd).mono ?_
    rintro e w11 ⟨rfl, b11⟩
    rw [← HSB.out]
    have B11 := B10.trans (b11.mono B10.size)
    have R11 := R10.below b11 (Nat.le_refl _)
    have H11 := H10.below b11 (Nat.le_refl _)
    have Od11 := Od10.below b11 (Nat.le_refl _)
    clear b11 B10 R10 H10 Oe10 Od10 HSB
    have sbb : (sb == sb) = true := by simp
    go_wp2_with fail
    refine (right_any w11 n k x len2 _ _ S _ R11 H11 AI hxn (by omega) (by omega) (by omega)).mono ?_
    rintro e w12 ⟨b12, ⟨d7, t7, S7, ht7, F7, rfl⟩ | ⟨hn, _⟩⟩
    rotate_left
    · exact absurd NN.out hn
    rw [CG.out len2 _ d7 t7 S7 ht7 F7]
    have B12 := B11.trans (b12.mono B11.size)
    have R12 := R11.below b12 (Nat.le_refl _)
    have H12 := H11.below b12 (Nat.le_refl _)
    have Od12 := Od11.below b12 (Nat.le_refl _)
    clear b12 B11 R11 H11 Od11 S7 F7 ht7
    obtain ⟨sr, hsr⟩ : ∃ sr, sr = sameB n len2 d (fun i => zs2.getD i 0) := ⟨_, rfl⟩
    rw [← hsr]
    have HSR := Lib.hid hsr
    clear hsr
    go_wp2_with fail
    refine (refRight_any w12 n k x len2 _ _ S _ R12 H12 AI hxn (by omega) (by omega) (by omega)).mono ?_
    rintro e w13 ⟨b13, ⟨d7, t7, S7, ht7, F7, rfl⟩ | ⟨hn, _⟩⟩
    rotate_left
    · exact absurd NN.out hn
    rw [CG.out len2 _ d7 t7 S7 ht7 F7, ← HSR.out]
    have B13 := B12.trans (b13.mono B12.size)
    have R13 := R12.below b13 (Nat.le_refl _)
    have Od13 := Od12.below b13 (Nat.le_refl _)
    clear b13 B12 R12 H12 Od12 S7 F7 ht7 HSR
    have srr : (sr == sr) = true := by simp
    have n0 := fresh_int w13 0
    have bz := below_new w13 (.cells #[.int .i64 0] 3)
    have Odz := Od13.below bz (Nat.le_refl _)
    have Bz := B13.trans (bz.mono B13.size)
    have Rz := R13.below bz (Nat.le_refl _)
    have wsz := B13.size
    have lbz := Od13.lt (k := bd) rfl
    go_wp2_with (at_builtin; refine wpList_g (by rfl) (fun KK hKK => wp_growI _ _ (by rfl) (.slice (some ⟨bd, 0, none⟩) n n) n d (by rfl) Odz ⟨w13.heap.size, 0, none⟩ 1 0 (by rfl) n0 (by omega) (fun b14 c14 w14 O14 g14 => hKK _ _ ?_)))
    have B14 := Below.grown Bz g14 Bz.size (fun c hc => by have e : some bd = some c := hc; injection e with e; omega)
    have R14 : RdA w14 (.slice VA k vc) k S := by
      refine ⟨VA, vc, rfl, fun h0 => ?_⟩
      obtain ⟨b, cap, ev, hb, _⟩ := Rz.arc h0
      injection ev with e1 e2 e3
      have ne := HVB.out b h0 e1
      refine ⟨b, e1, Nat.lt_of_lt_of_le hb g14.size, fun i hi => ?_⟩
      obtain ⟨b2, cap2, ev2, _, h1, h2, h3⟩ := Rz.arc hi
      injection ev2 with f1 f2 f3
      rw [e1] at f1
      injection f1 with f1
      injection f1 with f1
      subst f1
      have nn : ∀ o, w14.cell? ⟨b, o, none⟩ = (w13.alloc (.cells #[.int .i64 0] 3)).cell? ⟨b, o, none⟩ := fun o => g14.cell_far ⟨b, o, none⟩ hb (fun e => by have e : some b = some bd := e; injection e with e; exact ne e)
      exact ⟨(nn _).trans h1, (nn _).trans h2, (nn _).trans h3⟩
    clear n0 bz Odz Bz Rz g14 R13 Od13 lbz
    refine (right_any w14 n k x (n + 1) _ _ S _ R14 O14.rd AI hxn (by omega) (by omega) (by omega)).mono ?_
    rintro e w15 ⟨b15, ⟨d7, t7, S7, ht7, F7, rfl⟩ | ⟨hn, _⟩⟩
    rotate_left
    · exact absurd NN.out hn
    rw [show sameB n (n + 1) d7 (upd d n 0) = false from sameB_no fun q => by have := q.1; omega]
    have B15 := B14.trans (b15.mono B14.size)
    clear b15 B14 S7 F7 ht7 R14 O14
    go_wp2_with fail
    go_ret
    exact ⟨rfl, B15⟩
end Go.Proofs.Ytchlccendggfpaa.Ro
