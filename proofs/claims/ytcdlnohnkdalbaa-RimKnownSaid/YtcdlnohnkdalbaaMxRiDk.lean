/- Walks: the law RimKnown. -/
import Derived.Deep.DeepCutAuto
import Derived.Deep.RegionHeld3
import Derived.Test.YtcdlnohnkdalbaaMg12
import Derived.Test.YtcdlnohnkdalbaaMg15
import Derived.Test.YtcdlnohnkdalbaaMg9
import Derived.Test.YtcdlnohnkdalbaaMxRiL4
import Derived.Test.YtcdlnohnkdalbaaMxRiR4
import Derived.Test.YtcdlnohnkdalbaaMxRiRg2
namespace Go.Proofs.Ytcdlnohnkdalbaa.Ro
open Go.RowKit Go.Proofs Go.Maps
set_option linter.unusedVariables false
set_option linter.unusedSimpArgs false

/-- what an edge holds -/
def ceOf (len : Nat) (z : Nat → Int) : Nat → Int := fun e => if e < len then z e % 1000 else (e : Int)
theorem Ring4.keep2 {w w' : World} {L q bT bX bC n : Nat} {N : Int} {t x c : Nat → Int} (h : Ring4 w L q bT bX bC N n t x c) (hb : Below w.heap.size w w') : Ring4 w' L q bT bX bC N n t x c :=
  ⟨h.box.below hb (Nat.le_refl _), h.ot.below hb (Nat.le_refl _), h.ox.below hb (Nat.le_refl _), h.oc.below hb (Nat.le_refl _), h.tx, h.tc, h.xc, h.qt, h.qx, h.qc, h.lq, h.lt, h.lx, h.lc⟩
theorem minUp_top {k : Nat} {ce : Nat → Int} (s : Nat) : ∀ n, minUp k ce s n ≤ 1152921504606846976
  | 0 => Int.le_refl _
  | n + 1 => by
    have e : minUp k ce s (n + 1) = min (minUp k ce s n) (ce (cyc k s n)) := rfl
    have := minUp_top (k := k) (ce := ce) s n
    omega
theorem nx_mod {k e : Nat} (hk : 0 < k) (h : e < k) : ((e : Int) + 1).tmod (k : Int) = ((nx k e : Nat) : Int) := by
  rw [Int.tmod_eq_emod_of_nonneg (by omega)]
  unfold nx
  split
  · rename_i q
    rw [show (e : Int) + 1 = (k : Int) by omega, Int.emod_self]; rfl
  · rw [Int.emod_eq_of_lt (by omega) (by omega)]; omega
theorem pv_mod {k e : Nat} (hk : 0 < k) (h : e < k) : ((e : Int) + (k : Int) - 1).tmod (k : Int) = ((pv k e : Nat) : Int) := by
  rw [Int.tmod_eq_emod_of_nonneg (by omega)]
  unfold pv
  split
  · rename_i q
    subst q
    rw [Int.emod_eq_of_lt (by omega) (by omega)]; omega
  · rw [show (e : Int) + (k : Int) - 1 = ((e : Int) - 1) + (k : Int) by omega, Int.add_emod_right, Int.emod_eq_of_lt (by omega) (by omega)]; omega

set_option maxRecDepth 100000 in
set_option maxHeartbeats 12800000 in
theorem known_walk (size a b : Int) (A : Option Addr) (len cap : Nat) (zs : List Int) (w : World) (hsz : Small size) (ha_ : Small a) (hb_ : Small b) (hV : Rd w (.slice A len cap) len (fun i => zs.getD i 0)) (hz : ∀ i, i < len → Small (zs.getD i 0)) (hl : len ≤ 9223372036854775807) :
    Calls Try.prog 9 #[.int .i64 size, .int .i64 a, .int .i64 b, .slice A len cap] w fun e w' => e = .returned (.bool true) ∧ Below w.heap.size w w' := by
  go_enter Try.func9, Try.ntmps9
  go_wp2_with fail
  refine (known8_ok _).mono ?_
  rintro e w1 ⟨rfl, B1⟩
  have RV1 := hV.below B1 (Nat.le_refl _)
  clear hV
  go_wp2_with fail
  refine (within8_any _ _ _ hsz (by omega) (by omega)).mono ?_
  rintro e w' ⟨rfl, rfl⟩
  obtain ⟨k, hk⟩ : ∃ k : Nat, (k : Int) = 3 + size % 9 := ⟨(3 + size % 9).toNat, by omega⟩
  have hk3 : 3 ≤ k := by omega
  have hk11 : k ≤ 11 := by omega
  have wk : IntKind.i64.wrap (3 + size % 9) = (k : Int) := by rw [IntKind.wrap_i64]; omega
  have hk9 : 3 + size % 9 = (k : Int) := hk.symm
  clear hk
  obtain ⟨n, hn⟩ : ∃ n : Nat, n = 2 * k := ⟨_, rfl⟩
  have hn22 : n ≤ 22 := by omega
  have w2k : IntKind.i64.wrap (2 * (k : Int)) = (n : Int) := by rw [IntKind.wrap_i64]; omega
  have HN := Lib.hid hn
  clear hn
  go_upto_region 4 with fail
  obtain ⟨L, hLL⟩ : ∃ L, L = w1.heap.size := ⟨_, rfl⟩
  have E0 : Below L w1 w1.drew := by rw [hLL]; exact (Below.refl _ w1).drew
  have hL0 : L ≤ w1.drew.heap.size := by rw [hLL]; exact Nat.le_refl _
  have hLL2 := Lib.hid hLL
  clear hLL
  go_cut [10] (fun u10 wx => ∃ q bT bX bC : Nat, u10 = .pointer (some ⟨q, 0, none⟩) ∧ Ring4 wx L q bT bX bC (k : Int) n (fun _ => 0) (fun _ => 0) (fun _ => 0) ∧ Below L w1 wx)
  case first =>
    refine wp_region_noPanic ?_
    refine wp_region_held_drew (S := fun _ => True) (by kernel_rfl) trivial (fun hHeld => ?_)
    refine held_takes (by kernel_rfl) (fun _ _ _ _ _ h => h) [0, 1, 2, 4, 5, 7, 8] _ 6 _ _ _ rfl (by kernel_rfl) (by kernel_rfl) trivial ?_
    simp only [pick, List.drop_succ_cons, List.drop_zero]
    iterate 7 (refine wpTakes_cons (v := ?_) (Or.inl ⟨by rfl, ?_⟩) ?_; rotate_left; (intro w hSw; (try dsimp only at hSw); go_simp <;> with_reducible rfl); (try simp only [Act.put, List.setIfInBounds_toArray, List.set_cons_zero, List.set_cons_succ]))
    refine wpTakes_nil ?_
    clear hHeld
    have hL := hL0
    have E := E0
    clear hL0 E0
    generalize w1.drew = v0 at *
    refine held_four 3 6 9 11 (fuel := 5) rfl (by kernel_rfl) ?_ ?_ ?_ ?_
    · simp only [List.drop_succ_cons, List.drop_zero]
      refine wpOne_cons (fun KO hK => ?_)
      refine step_make rfl _ _ rfl n (by omega) (by rfl) (by rfl) ?_
      have bb := below_new v0 (.cells (madeCells #[.int .i64 0] n) 3)
      have RT := Ow.zeros v0 n (by omega)
      replace E := E.trans (bb.mono hL)
      have hs : v0.heap.size < (v0.alloc (.cells (madeCells #[.int .i64 0] n) 3)).heap.size := by simp
      generalize v0.alloc (.cells (madeCells #[.int .i64 0] n) 3) = v1 at *
      obtain ⟨hT, ehT⟩ : ∃ h, h = v0.heap.size := ⟨_, rfl⟩
      rw [← ehT] at RT hs ⊢
      have lT : L ≤ hT := by omega
      have sT : hT < v1.heap.size := hs
      replace hL : L ≤ v1.heap.size := by omega
      clear ehT hs bb
      refine hK.out _ _ trivial ?_
      clear hK KO
      try simp only [Act.put, List.setIfInBounds_toArray, List.set_cons_zero, List.set_cons_succ]
      refine held_three 6 9 11 (fuel := 4) rfl (by kernel_rfl) ?_ ?_ ?_
      · simp only [List.drop_succ_cons, List.drop_zero]
        refine wpOne_cons (fun KO hK => ?_)
        refine step_make rfl _ _ rfl n (by omega) (by rfl) (by rfl) ?_
        have bb := below_new v1 (.cells (madeCells #[.int .i64 0] n) 3)
        have RX := Ow.zeros v1 n (by omega)
        replace E := E.trans (bb.mono hL)
        replace RT := RT.below bb (Nat.le_refl _)
        have hs : v1.heap.size < (v1.alloc (.cells (madeCells #[.int .i64 0] n) 3)).heap.size := by simp
        generalize v1.alloc (.cells (madeCells #[.int .i64 0] n) 3) = v2 at *
        obtain ⟨hX, ehX⟩ : ∃ h, h = v1.heap.size := ⟨_, rfl⟩
        rw [← ehX] at RX hs ⊢
        have lX : L ≤ hX := by omega
        have dTX : hT ≠ hX := by omega
        have sX : hX < v2.heap.size := hs
        replace sT : hT < v2.heap.size := by have := bb.size; omega
        replace hL : L ≤ v2.heap.size := by omega
        clear ehX hs bb
        refine hK.out _ _ trivial ?_
        clear hK KO
        try simp only [Act.put, List.setIfInBounds_toArray, List.set_cons_zero, List.set_cons_succ]
        refine held_two 9 11 (fuel := 3) rfl (by kernel_rfl) ?_ ?_
        · simp only [List.drop_succ_cons, List.drop_zero]
          refine wpOne_cons (fun KO hK => ?_)
          refine step_make rfl _ _ rfl n (by omega) (by rfl) (by rfl) ?_
          have bb := below_new v2 (.cells (madeCells #[.int .i64 0] n) 3)
          have RC := Ow.zeros v2 n (by omega)
          replace E := E.trans (bb.mono hL)
          replace RT := RT.below bb (Nat.le_refl _)
          replace RX := RX.below bb (Nat.le_refl _)
          have hs : v2.heap.size < (v2.alloc (.cells (madeCells #[.int .i64 0] n) 3)).heap.size := by simp
          generalize v2.alloc (.cells (madeCells #[.int .i64 0] n) 3) = v3 at *
          obtain ⟨hC, ehC⟩ : ∃ h, h = v2.heap.size := ⟨_, rfl⟩
          rw [← ehC] at RC hs ⊢
          have lC : L ≤ hC := by omega
          have dTC : hT ≠ hC := by omega
          have dXC : hX ≠ hC := by omega
          have sC : hC < v3.heap.size := hs
          replace sT : hT < v3.heap.size := by have := bb.size; omega
          replace sX : hX < v3.heap.size := by have := bb.size; omega
          replace hL : L ≤ v3.heap.size := by omega
          clear ehC hs bb
          refine hK.out _ _ trivial ?_
          clear hK KO
          try simp only [Act.put, List.setIfInBounds_toArray, List.set_cons_zero, List.set_cons_succ]
          refine held_takes (by kernel_rfl) (fun _ _ _ _ _ h => h) [10] _ 2 _ _ _ rfl (by kernel_rfl) (by kernel_rfl) trivial ?_
          simp only [pick, List.drop_succ_cons, List.drop_zero]
          iterate 1 (refine wpTakes_cons (v := ?_) (Or.inl ⟨by rfl, ?_⟩) ?_; rotate_left; (intro w hSw; go_simp <;> with_reducible rfl); (try simp only [Act.put, List.setIfInBounds_toArray, List.set_cons_zero, List.set_cons_succ]))
          refine wpTakes_nil ?_
          refine held_one 11 (fuel := 1) rfl (by kernel_rfl) ?_
          simp only [List.drop_succ_cons, List.drop_zero]
          refine wpOne_cons (fun KO hK => ?_)
          go_simp
          have bb := below_new v3 (.cells #[.int .i64 0, .slice none 0 0, .slice none 0 0, .slice none 0 0] 25)
          have RP : Box (v3.alloc (.cells #[.int .i64 0, .slice none 0 0, .slice none 0 0, .slice none 0 0] 25)) v3.heap.size 0 (.slice none 0 0) (.slice none 0 0) (.slice none 0 0) := heap_alloc_new _ _
          replace E := E.trans (bb.mono hL)
          replace RT := RT.below bb (Nat.le_refl _)
          replace RX := RX.below bb (Nat.le_refl _)
          replace RC := RC.below bb (Nat.le_refl _)
          have hs : v3.heap.size < (v3.alloc (.cells #[.int .i64 0, .slice none 0 0, .slice none 0 0, .slice none 0 0] 25)).heap.size := by simp
          generalize v3.alloc (.cells #[.int .i64 0, .slice none 0 0, .slice none 0 0, .slice none 0 0] 25) = v4 at *
          obtain ⟨hP, ehP⟩ : ∃ h, h = v3.heap.size := ⟨_, rfl⟩
          rw [← ehP] at RP hs ⊢
          have lP : L ≤ hP := by omega
          have dTP : hT ≠ hP := by omega
          have dXP : hX ≠ hP := by omega
          have dCP : hC ≠ hP := by omega
          have sP : hP < v4.heap.size := hs
          replace sT : hT < v4.heap.size := by have := bb.size; omega
          replace sX : hX < v4.heap.size := by have := bb.size; omega
          replace sC : hC < v4.heap.size := by have := bb.size; omega
          replace hL : L ≤ v4.heap.size := by omega
          clear ehP hs bb
          refine hK.out _ _ trivial ?_
          clear hK KO
          try simp only [Act.put, List.setIfInBounds_toArray, List.set_cons_zero, List.set_cons_succ]
          have r0 : v4.cell? ⟨hP, 0, none⟩ = some (.int .i64 0) := blk_cell RP 0
          have f0 := blk_frozen RP 0
          have r1 : v4.cell? ⟨hP, 1, none⟩ = some (.slice none 0 0) := blk_cell RP 1
          have f1 := blk_frozen RP 1
          have r2 : v4.cell? ⟨hP, 2, none⟩ = some (.slice none 0 0) := blk_cell RP 2
          have f2 := blk_frozen RP 2
          have r3 : v4.cell? ⟨hP, 3, none⟩ = some (.slice none 0 0) := blk_cell RP 3
          have f3 := blk_frozen RP 3
          have RG := Ring4.made (N := (k : Int)) RP RT RX RC (by omega) ⟨lP, lT, lX, lC⟩
          have BG := put4_below E lP (k : Int) (.slice (some ⟨hT, 0, none⟩) n n) (.slice (some ⟨hX, 0, none⟩) n n) (.slice (some ⟨hC, 0, none⟩) n n)
          unfold put4 at RG BG
          refine held_one 12 (fuel := 0) rfl (by kernel_rfl) ?_
          simp only [List.drop_succ_cons, List.drop_zero]
          refine wpOne_cons (fun KO hK => ?_)
          go_simp
          refine hK.out _ _ trivial ?_
          clear hK KO
          try simp only [Act.put, List.setIfInBounds_toArray, List.set_cons_zero, List.set_cons_succ]
          refine wpAnyH_done (by kernel_rfl) ?_ _
          refine NoPanic.normal ?_
          clear r0 r1 r2 r3 f0 f1 f2 f3 RP RT RX RC E
          go_wp2_with fail
          go_meet
          exact ⟨hP, hT, hX, hC, rfl, RG, BG⟩
        · simp only [List.drop_succ_cons, List.drop_zero]
          refine wpOne_cons (fun KO hK => ?_)
          go_simp
          have bb := below_new v2 (.cells #[.int .i64 0, .slice none 0 0, .slice none 0 0, .slice none 0 0] 25)
          have RP : Box (v2.alloc (.cells #[.int .i64 0, .slice none 0 0, .slice none 0 0, .slice none 0 0] 25)) v2.heap.size 0 (.slice none 0 0) (.slice none 0 0) (.slice none 0 0) := heap_alloc_new _ _
          replace E := E.trans (bb.mono hL)
          replace RT := RT.below bb (Nat.le_refl _)
          replace RX := RX.below bb (Nat.le_refl _)
          have hs : v2.heap.size < (v2.alloc (.cells #[.int .i64 0, .slice none 0 0, .slice none 0 0, .slice none 0 0] 25)).heap.size := by simp
          generalize v2.alloc (.cells #[.int .i64 0, .slice none 0 0, .slice none 0 0, .slice none 0 0] 25) = v3 at *
          obtain ⟨hP, ehP⟩ : ∃ h, h = v2.heap.size := ⟨_, rfl⟩
          rw [← ehP] at RP hs ⊢
          have lP : L ≤ hP := by omega
          have dTP : hT ≠ hP := by omega
          have dXP : hX ≠ hP := by omega
          have sP : hP < v3.heap.size := hs
          replace sT : hT < v3.heap.size := by have := bb.size; omega
          replace sX : hX < v3.heap.size := by have := bb.size; omega
          replace hL : L ≤ v3.heap.size := by omega
          clear ehP hs bb
          refine hK.out _ _ trivial ?_
          clear hK KO
          try simp only [Act.put, List.setIfInBounds_toArray, List.set_cons_zero, List.set_cons_succ]
          refine held_one 9 (fuel := 2) rfl (by kernel_rfl) ?_
          simp only [List.drop_succ_cons, List.drop_zero]
          refine wpOne_cons (fun KO hK => ?_)
          refine step_make rfl _ _ rfl n (by omega) (by rfl) (by rfl) ?_
          have bb := below_new v3 (.cells (madeCells #[.int .i64 0] n) 3)
          have RC := Ow.zeros v3 n (by omega)
          replace E := E.trans (bb.mono hL)
          replace RT := RT.below bb (Nat.le_refl _)
          replace RX := RX.below bb (Nat.le_refl _)
          replace RP := RP.below bb (Nat.le_refl _)
          have hs : v3.heap.size < (v3.alloc (.cells (madeCells #[.int .i64 0] n) 3)).heap.size := by simp
          generalize v3.alloc (.cells (madeCells #[.int .i64 0] n) 3) = v4 at *
          obtain ⟨hC, ehC⟩ : ∃ h, h = v3.heap.size := ⟨_, rfl⟩
          rw [← ehC] at RC hs ⊢
          have lC : L ≤ hC := by omega
          have dTC : hT ≠ hC := by omega
          have dXC : hX ≠ hC := by omega
          have dPC : hP ≠ hC := by omega
          have sC : hC < v4.heap.size := hs
          replace sT : hT < v4.heap.size := by have := bb.size; omega
          replace sX : hX < v4.heap.size := by have := bb.size; omega
          replace sP : hP < v4.heap.size := by have := bb.size; omega
          replace hL : L ≤ v4.heap.size := by omega
          clear ehC hs bb
          refine hK.out _ _ trivial ?_
          clear hK KO
          try simp only [Act.put, List.setIfInBounds_toArray, List.set_cons_zero, List.set_cons_succ]
          refine held_takes (by kernel_rfl) (fun _ _ _ _ _ h => h) [10] _ 1 _ _ _ rfl (by kernel_rfl) (by kernel_rfl) trivial ?_
          simp only [pick, List.drop_succ_cons, List.drop_zero]
          iterate 1 (refine wpTakes_cons (v := ?_) (Or.inl ⟨by rfl, ?_⟩) ?_; rotate_left; (intro w hSw; go_simp <;> with_reducible rfl); (try simp only [Act.put, List.setIfInBounds_toArray, List.set_cons_zero, List.set_cons_succ]))
          refine wpTakes_nil ?_
          have r0 : v4.cell? ⟨hP, 0, none⟩ = some (.int .i64 0) := blk_cell RP 0
          have f0 := blk_frozen RP 0
          have r1 : v4.cell? ⟨hP, 1, none⟩ = some (.slice none 0 0) := blk_cell RP 1
          have f1 := blk_frozen RP 1
          have r2 : v4.cell? ⟨hP, 2, none⟩ = some (.slice none 0 0) := blk_cell RP 2
          have f2 := blk_frozen RP 2
          have r3 : v4.cell? ⟨hP, 3, none⟩ = some (.slice none 0 0) := blk_cell RP 3
          have f3 := blk_frozen RP 3
          have RG := Ring4.made (N := (k : Int)) RP RT RX RC (by omega) ⟨lP, lT, lX, lC⟩
          have BG := put4_below E lP (k : Int) (.slice (some ⟨hT, 0, none⟩) n n) (.slice (some ⟨hX, 0, none⟩) n n) (.slice (some ⟨hC, 0, none⟩) n n)
          unfold put4 at RG BG
          refine held_one 12 (fuel := 0) rfl (by kernel_rfl) ?_
          simp only [List.drop_succ_cons, List.drop_zero]
          refine wpOne_cons (fun KO hK => ?_)
          go_simp
          refine hK.out _ _ trivial ?_
          clear hK KO
          try simp only [Act.put, List.setIfInBounds_toArray, List.set_cons_zero, List.set_cons_succ]
          refine wpAnyH_done (by kernel_rfl) ?_ _
          refine NoPanic.normal ?_
          clear r0 r1 r2 r3 f0 f1 f2 f3 RP RT RX RC E
          go_wp2_with fail
          go_meet
          exact ⟨hP, hT, hX, hC, rfl, RG, BG⟩
      · simp only [List.drop_succ_cons, List.drop_zero]
        refine wpOne_cons (fun KO hK => ?_)
        refine step_make rfl _ _ rfl n (by omega) (by rfl) (by rfl) ?_
        have bb := below_new v1 (.cells (madeCells #[.int .i64 0] n) 3)
        have RC := Ow.zeros v1 n (by omega)
        replace E := E.trans (bb.mono hL)
        replace RT := RT.below bb (Nat.le_refl _)
        have hs : v1.heap.size < (v1.alloc (.cells (madeCells #[.int .i64 0] n) 3)).heap.size := by simp
        generalize v1.alloc (.cells (madeCells #[.int .i64 0] n) 3) = v2 at *
        obtain ⟨hC, ehC⟩ : ∃ h, h = v1.heap.size := ⟨_, rfl⟩
        rw [← ehC] at RC hs ⊢
        have lC : L ≤ hC := by omega
        have dTC : hT ≠ hC := by omega
        have sC : hC < v2.heap.size := hs
        replace sT : hT < v2.heap.size := by have := bb.size; omega
        replace hL : L ≤ v2.heap.size := by omega
        clear ehC hs bb
        refine hK.out _ _ trivial ?_
        clear hK KO
        try simp only [Act.put, List.setIfInBounds_toArray, List.set_cons_zero, List.set_cons_succ]
        refine held_two 6 11 (fuel := 3) rfl (by kernel_rfl) ?_ ?_
        · simp only [List.drop_succ_cons, List.drop_zero]
          refine wpOne_cons (fun KO hK => ?_)
          refine step_make rfl _ _ rfl n (by omega) (by rfl) (by rfl) ?_
          have bb := below_new v2 (.cells (madeCells #[.int .i64 0] n) 3)
          have RX := Ow.zeros v2 n (by omega)
          replace E := E.trans (bb.mono hL)
          replace RT := RT.below bb (Nat.le_refl _)
          replace RC := RC.below bb (Nat.le_refl _)
          have hs : v2.heap.size < (v2.alloc (.cells (madeCells #[.int .i64 0] n) 3)).heap.size := by simp
          generalize v2.alloc (.cells (madeCells #[.int .i64 0] n) 3) = v3 at *
          obtain ⟨hX, ehX⟩ : ∃ h, h = v2.heap.size := ⟨_, rfl⟩
          rw [← ehX] at RX hs ⊢
          have lX : L ≤ hX := by omega
          have dTX : hT ≠ hX := by omega
          have dCX : hC ≠ hX := by omega
          have sX : hX < v3.heap.size := hs
          replace sT : hT < v3.heap.size := by have := bb.size; omega
          replace sC : hC < v3.heap.size := by have := bb.size; omega
          replace hL : L ≤ v3.heap.size := by omega
          clear ehX hs bb
          refine hK.out _ _ trivial ?_
          clear hK KO
          try simp only [Act.put, List.setIfInBounds_toArray, List.set_cons_zero, List.set_cons_succ]
          refine held_takes (by kernel_rfl) (fun _ _ _ _ _ h => h) [10] _ 2 _ _ _ rfl (by kernel_rfl) (by kernel_rfl) trivial ?_
          simp only [pick, List.drop_succ_cons, List.drop_zero]
          iterate 1 (refine wpTakes_cons (v := ?_) (Or.inl ⟨by rfl, ?_⟩) ?_; rotate_left; (intro w hSw; go_simp <;> with_reducible rfl); (try simp only [Act.put, List.setIfInBounds_toArray, List.set_cons_zero, List.set_cons_succ]))
          refine wpTakes_nil ?_
          refine held_one 11 (fuel := 1) rfl (by kernel_rfl) ?_
          simp only [List.drop_succ_cons, List.drop_zero]
          refine wpOne_cons (fun KO hK => ?_)
          go_simp
          have bb := below_new v3 (.cells #[.int .i64 0, .slice none 0 0, .slice none 0 0, .slice none 0 0] 25)
          have RP : Box (v3.alloc (.cells #[.int .i64 0, .slice none 0 0, .slice none 0 0, .slice none 0 0] 25)) v3.heap.size 0 (.slice none 0 0) (.slice none 0 0) (.slice none 0 0) := heap_alloc_new _ _
          replace E := E.trans (bb.mono hL)
          replace RT := RT.below bb (Nat.le_refl _)
          replace RC := RC.below bb (Nat.le_refl _)
          replace RX := RX.below bb (Nat.le_refl _)
          have hs : v3.heap.size < (v3.alloc (.cells #[.int .i64 0, .slice none 0 0, .slice none 0 0, .slice none 0 0] 25)).heap.size := by simp
          generalize v3.alloc (.cells #[.int .i64 0, .slice none 0 0, .slice none 0 0, .slice none 0 0] 25) = v4 at *
          obtain ⟨hP, ehP⟩ : ∃ h, h = v3.heap.size := ⟨_, rfl⟩
          rw [← ehP] at RP hs ⊢
          have lP : L ≤ hP := by omega
          have dTP : hT ≠ hP := by omega
          have dCP : hC ≠ hP := by omega
          have dXP : hX ≠ hP := by omega
          have sP : hP < v4.heap.size := hs
          replace sT : hT < v4.heap.size := by have := bb.size; omega
          replace sC : hC < v4.heap.size := by have := bb.size; omega
          replace sX : hX < v4.heap.size := by have := bb.size; omega
          replace hL : L ≤ v4.heap.size := by omega
          clear ehP hs bb
          refine hK.out _ _ trivial ?_
          clear hK KO
          try simp only [Act.put, List.setIfInBounds_toArray, List.set_cons_zero, List.set_cons_succ]
          have r0 : v4.cell? ⟨hP, 0, none⟩ = some (.int .i64 0) := blk_cell RP 0
          have f0 := blk_frozen RP 0
          have r1 : v4.cell? ⟨hP, 1, none⟩ = some (.slice none 0 0) := blk_cell RP 1
          have f1 := blk_frozen RP 1
          have r2 : v4.cell? ⟨hP, 2, none⟩ = some (.slice none 0 0) := blk_cell RP 2
          have f2 := blk_frozen RP 2
          have r3 : v4.cell? ⟨hP, 3, none⟩ = some (.slice none 0 0) := blk_cell RP 3
          have f3 := blk_frozen RP 3
          have RG := Ring4.made (N := (k : Int)) RP RT RX RC (by omega) ⟨lP, lT, lX, lC⟩
          have BG := put4_below E lP (k : Int) (.slice (some ⟨hT, 0, none⟩) n n) (.slice (some ⟨hX, 0, none⟩) n n) (.slice (some ⟨hC, 0, none⟩) n n)
          unfold put4 at RG BG
          refine held_one 12 (fuel := 0) rfl (by kernel_rfl) ?_
          simp only [List.drop_succ_cons, List.drop_zero]
          refine wpOne_cons (fun KO hK => ?_)
          go_simp
          refine hK.out _ _ trivial ?_
          clear hK KO
          try simp only [Act.put, List.setIfInBounds_toArray, List.set_cons_zero, List.set_cons_succ]
          refine wpAnyH_done (by kernel_rfl) ?_ _
          refine NoPanic.normal ?_
          clear r0 r1 r2 r3 f0 f1 f2 f3 RP RT RX RC E
          go_wp2_with fail
          go_meet
          exact ⟨hP, hT, hX, hC, rfl, RG, BG⟩
        · simp only [List.drop_succ_cons, List.drop_zero]
          refine wpOne_cons (fun KO hK => ?_)
          go_simp
          have bb := below_new v2 (.cells #[.int .i64 0, .slice none 0 0, .slice none 0 0, .slice none 0 0] 25)
          have RP : Box (v2.alloc (.cells #[.int .i64 0, .slice none 0 0, .slice none 0 0, .slice none 0 0] 25)) v2.heap.size 0 (.slice none 0 0) (.slice none 0 0) (.slice none 0 0) := heap_alloc_new _ _
          replace E := E.trans (bb.mono hL)
          replace RT := RT.below bb (Nat.le_refl _)
          replace RC := RC.below bb (Nat.le_refl _)
          have hs : v2.heap.size < (v2.alloc (.cells #[.int .i64 0, .slice none 0 0, .slice none 0 0, .slice none 0 0] 25)).heap.size := by simp
          generalize v2.alloc (.cells #[.int .i64 0, .slice none 0 0, .slice none 0 0, .slice none 0 0] 25) = v3 at *
          obtain ⟨hP, ehP⟩ : ∃ h, h = v2.heap.size := ⟨_, rfl⟩
          rw [← ehP] at RP hs ⊢
          have lP : L ≤ hP := by omega
          have dTP : hT ≠ hP := by omega
          have dCP : hC ≠ hP := by omega
          have sP : hP < v3.heap.size := hs
          replace sT : hT < v3.heap.size := by have := bb.size; omega
          replace sC : hC < v3.heap.size := by have := bb.size; omega
          replace hL : L ≤ v3.heap.size := by omega
          clear ehP hs bb
          refine hK.out _ _ trivial ?_
          clear hK KO
          try simp only [Act.put, List.setIfInBounds_toArray, List.set_cons_zero, List.set_cons_succ]
          refine held_one 6 (fuel := 2) rfl (by kernel_rfl) ?_
          simp only [List.drop_succ_cons, List.drop_zero]
          refine wpOne_cons (fun KO hK => ?_)
          refine step_make rfl _ _ rfl n (by omega) (by rfl) (by rfl) ?_
          have bb := below_new v3 (.cells (madeCells #[.int .i64 0] n) 3)
          have RX := Ow.zeros v3 n (by omega)
          replace E := E.trans (bb.mono hL)
          replace RT := RT.below bb (Nat.le_refl _)
          replace RC := RC.below bb (Nat.le_refl _)
          replace RP := RP.below bb (Nat.le_refl _)
          have hs : v3.heap.size < (v3.alloc (.cells (madeCells #[.int .i64 0] n) 3)).heap.size := by simp
          generalize v3.alloc (.cells (madeCells #[.int .i64 0] n) 3) = v4 at *
          obtain ⟨hX, ehX⟩ : ∃ h, h = v3.heap.size := ⟨_, rfl⟩
          rw [← ehX] at RX hs ⊢
          have lX : L ≤ hX := by omega
          have dTX : hT ≠ hX := by omega
          have dCX : hC ≠ hX := by omega
          have dPX : hP ≠ hX := by omega
          have sX : hX < v4.heap.size := hs
          replace sT : hT < v4.heap.size := by have := bb.size; omega
          replace sC : hC < v4.heap.size := by have := bb.size; omega
          replace sP : hP < v4.heap.size := by have := bb.size; omega
          replace hL : L ≤ v4.heap.size := by omega
          clear ehX hs bb
          refine hK.out _ _ trivial ?_
          clear hK KO
          try simp only [Act.put, List.setIfInBounds_toArray, List.set_cons_zero, List.set_cons_succ]
          refine held_takes (by kernel_rfl) (fun _ _ _ _ _ h => h) [10] _ 1 _ _ _ rfl (by kernel_rfl) (by kernel_rfl) trivial ?_
          simp only [pick, List.drop_succ_cons, List.drop_zero]
          iterate 1 (refine wpTakes_cons (v := ?_) (Or.inl ⟨by rfl, ?_⟩) ?_; rotate_left; (intro w hSw; go_simp <;> with_reducible rfl); (try simp only [Act.put, List.setIfInBounds_toArray, List.set_cons_zero, List.set_cons_succ]))
          refine wpTakes_nil ?_
          have r0 : v4.cell? ⟨hP, 0, none⟩ = some (.int .i64 0) := blk_cell RP 0
          have f0 := blk_frozen RP 0
          have r1 : v4.cell? ⟨hP, 1, none⟩ = some (.slice none 0 0) := blk_cell RP 1
          have f1 := blk_frozen RP 1
          have r2 : v4.cell? ⟨hP, 2, none⟩ = some (.slice none 0 0) := blk_cell RP 2
          have f2 := blk_frozen RP 2
          have r3 : v4.cell? ⟨hP, 3, none⟩ = some (.slice none 0 0) := blk_cell RP 3
          have f3 := blk_frozen RP 3
          have RG := Ring4.made (N := (k : Int)) RP RT RX RC (by omega) ⟨lP, lT, lX, lC⟩
          have BG := put4_below E lP (k : Int) (.slice (some ⟨hT, 0, none⟩) n n) (.slice (some ⟨hX, 0, none⟩) n n) (.slice (some ⟨hC, 0, none⟩) n n)
          unfold put4 at RG BG
          refine held_one 12 (fuel := 0) rfl (by kernel_rfl) ?_
          simp only [List.drop_succ_cons, List.drop_zero]
          refine wpOne_cons (fun KO hK => ?_)
          go_simp
          refine hK.out _ _ trivial ?_
          clear hK KO
          try simp only [Act.put, List.setIfInBounds_toArray, List.set_cons_zero, List.set_cons_succ]
          refine wpAnyH_done (by kernel_rfl) ?_ _
          refine NoPanic.normal ?_
          clear r0 r1 r2 r3 f0 f1 f2 f3 RP RT RX RC E
          go_wp2_with fail
          go_meet
          exact ⟨hP, hT, hX, hC, rfl, RG, BG⟩
      · simp only [List.drop_succ_cons, List.drop_zero]
        refine wpOne_cons (fun KO hK => ?_)
        go_simp
        have bb := below_new v1 (.cells #[.int .i64 0, .slice none 0 0, .slice none 0 0, .slice none 0 0] 25)
        have RP : Box (v1.alloc (.cells #[.int .i64 0, .slice none 0 0, .slice none 0 0, .slice none 0 0] 25)) v1.heap.size 0 (.slice none 0 0) (.slice none 0 0) (.slice none 0 0) := heap_alloc_new _ _
        replace E := E.trans (bb.mono hL)
        replace RT := RT.below bb (Nat.le_refl _)
        have hs : v1.heap.size < (v1.alloc (.cells #[.int .i64 0, .slice none 0 0, .slice none 0 0, .slice none 0 0] 25)).heap.size := by simp
        generalize v1.alloc (.cells #[.int .i64 0, .slice none 0 0, .slice none 0 0, .slice none 0 0] 25) = v2 at *
        obtain ⟨hP, ehP⟩ : ∃ h, h = v1.heap.size := ⟨_, rfl⟩
        rw [← ehP] at RP hs ⊢
        have lP : L ≤ hP := by omega
        have dTP : hT ≠ hP := by omega
        have sP : hP < v2.heap.size := hs
        replace sT : hT < v2.heap.size := by have := bb.size; omega
        replace hL : L ≤ v2.heap.size := by omega
        clear ehP hs bb
        refine hK.out _ _ trivial ?_
        clear hK KO
        try simp only [Act.put, List.setIfInBounds_toArray, List.set_cons_zero, List.set_cons_succ]
        refine held_two 6 9 (fuel := 3) rfl (by kernel_rfl) ?_ ?_
        · simp only [List.drop_succ_cons, List.drop_zero]
          refine wpOne_cons (fun KO hK => ?_)
          refine step_make rfl _ _ rfl n (by omega) (by rfl) (by rfl) ?_
          have bb := below_new v2 (.cells (madeCells #[.int .i64 0] n) 3)
          have RX := Ow.zeros v2 n (by omega)
          replace E := E.trans (bb.mono hL)
          replace RT := RT.below bb (Nat.le_refl _)
          replace RP := RP.below bb (Nat.le_refl _)
          have hs : v2.heap.size < (v2.alloc (.cells (madeCells #[.int .i64 0] n) 3)).heap.size := by simp
          generalize v2.alloc (.cells (madeCells #[.int .i64 0] n) 3) = v3 at *
          obtain ⟨hX, ehX⟩ : ∃ h, h = v2.heap.size := ⟨_, rfl⟩
          rw [← ehX] at RX hs ⊢
          have lX : L ≤ hX := by omega
          have dTX : hT ≠ hX := by omega
          have dPX : hP ≠ hX := by omega
          have sX : hX < v3.heap.size := hs
          replace sT : hT < v3.heap.size := by have := bb.size; omega
          replace sP : hP < v3.heap.size := by have := bb.size; omega
          replace hL : L ≤ v3.heap.size := by omega
          clear ehX hs bb
          refine hK.out _ _ trivial ?_
          clear hK KO
          try simp only [Act.put, List.setIfInBounds_toArray, List.set_cons_zero, List.set_cons_succ]
          refine held_one 9 (fuel := 2) rfl (by kernel_rfl) ?_
          simp only [List.drop_succ_cons, List.drop_zero]
          refine wpOne_cons (fun KO hK => ?_)
          refine step_make rfl _ _ rfl n (by omega) (by rfl) (by rfl) ?_
          have bb := below_new v3 (.cells (madeCells #[.int .i64 0] n) 3)
          have RC := Ow.zeros v3 n (by omega)
          replace E := E.trans (bb.mono hL)
          replace RT := RT.below bb (Nat.le_refl _)
          replace RP := RP.below bb (Nat.le_refl _)
          replace RX := RX.below bb (Nat.le_refl _)
          have hs : v3.heap.size < (v3.alloc (.cells (madeCells #[.int .i64 0] n) 3)).heap.size := by simp
          generalize v3.alloc (.cells (madeCells #[.int .i64 0] n) 3) = v4 at *
          obtain ⟨hC, ehC⟩ : ∃ h, h = v3.heap.size := ⟨_, rfl⟩
          rw [← ehC] at RC hs ⊢
          have lC : L ≤ hC := by omega
          have dTC : hT ≠ hC := by omega
          have dPC : hP ≠ hC := by omega
          have dXC : hX ≠ hC := by omega
          have sC : hC < v4.heap.size := hs
          replace sT : hT < v4.heap.size := by have := bb.size; omega
          replace sP : hP < v4.heap.size := by have := bb.size; omega
          replace sX : hX < v4.heap.size := by have := bb.size; omega
          replace hL : L ≤ v4.heap.size := by omega
          clear ehC hs bb
          refine hK.out _ _ trivial ?_
          clear hK KO
          try simp only [Act.put, List.setIfInBounds_toArray, List.set_cons_zero, List.set_cons_succ]
          refine held_takes (by kernel_rfl) (fun _ _ _ _ _ h => h) [10] _ 1 _ _ _ rfl (by kernel_rfl) (by kernel_rfl) trivial ?_
          simp only [pick, List.drop_succ_cons, List.drop_zero]
          iterate 1 (refine wpTakes_cons (v := ?_) (Or.inl ⟨by rfl, ?_⟩) ?_; rotate_left; (intro w hSw; go_simp <;> with_reducible rfl); (try simp only [Act.put, List.setIfInBounds_toArray, List.set_cons_zero, List.set_cons_succ]))
          refine wpTakes_nil ?_
          have r0 : v4.cell? ⟨hP, 0, none⟩ = some (.int .i64 0) := blk_cell RP 0
          have f0 := blk_frozen RP 0
          have r1 : v4.cell? ⟨hP, 1, none⟩ = some (.slice none 0 0) := blk_cell RP 1
          have f1 := blk_frozen RP 1
          have r2 : v4.cell? ⟨hP, 2, none⟩ = some (.slice none 0 0) := blk_cell RP 2
          have f2 := blk_frozen RP 2
          have r3 : v4.cell? ⟨hP, 3, none⟩ = some (.slice none 0 0) := blk_cell RP 3
          have f3 := blk_frozen RP 3
          have RG := Ring4.made (N := (k : Int)) RP RT RX RC (by omega) ⟨lP, lT, lX, lC⟩
          have BG := put4_below E lP (k : Int) (.slice (some ⟨hT, 0, none⟩) n n) (.slice (some ⟨hX, 0, none⟩) n n) (.slice (some ⟨hC, 0, none⟩) n n)
          unfold put4 at RG BG
          refine held_one 12 (fuel := 0) rfl (by kernel_rfl) ?_
          simp only [List.drop_succ_cons, List.drop_zero]
          refine wpOne_cons (fun KO hK => ?_)
          go_simp
          refine hK.out _ _ trivial ?_
          clear hK KO
          try simp only [Act.put, List.setIfInBounds_toArray, List.set_cons_zero, List.set_cons_succ]
          refine wpAnyH_done (by kernel_rfl) ?_ _
          refine NoPanic.normal ?_
          clear r0 r1 r2 r3 f0 f1 f2 f3 RP RT RX RC E
          go_wp2_with fail
          go_meet
          exact ⟨hP, hT, hX, hC, rfl, RG, BG⟩
        · simp only [List.drop_succ_cons, List.drop_zero]
          refine wpOne_cons (fun KO hK => ?_)
          refine step_make rfl _ _ rfl n (by omega) (by rfl) (by rfl) ?_
          have bb := below_new v2 (.cells (madeCells #[.int .i64 0] n) 3)
          have RC := Ow.zeros v2 n (by omega)
          replace E := E.trans (bb.mono hL)
          replace RT := RT.below bb (Nat.le_refl _)
          replace RP := RP.below bb (Nat.le_refl _)
          have hs : v2.heap.size < (v2.alloc (.cells (madeCells #[.int .i64 0] n) 3)).heap.size := by simp
          generalize v2.alloc (.cells (madeCells #[.int .i64 0] n) 3) = v3 at *
          obtain ⟨hC, ehC⟩ : ∃ h, h = v2.heap.size := ⟨_, rfl⟩
          rw [← ehC] at RC hs ⊢
          have lC : L ≤ hC := by omega
          have dTC : hT ≠ hC := by omega
          have dPC : hP ≠ hC := by omega
          have sC : hC < v3.heap.size := hs
          replace sT : hT < v3.heap.size := by have := bb.size; omega
          replace sP : hP < v3.heap.size := by have := bb.size; omega
          replace hL : L ≤ v3.heap.size := by omega
          clear ehC hs bb
          refine hK.out _ _ trivial ?_
          clear hK KO
          try simp only [Act.put, List.setIfInBounds_toArray, List.set_cons_zero, List.set_cons_succ]
          refine held_one 6 (fuel := 2) rfl (by kernel_rfl) ?_
          simp only [List.drop_succ_cons, List.drop_zero]
          refine wpOne_cons (fun KO hK => ?_)
          refine step_make rfl _ _ rfl n (by omega) (by rfl) (by rfl) ?_
          have bb := below_new v3 (.cells (madeCells #[.int .i64 0] n) 3)
          have RX := Ow.zeros v3 n (by omega)
          replace E := E.trans (bb.mono hL)
          replace RT := RT.below bb (Nat.le_refl _)
          replace RP := RP.below bb (Nat.le_refl _)
          replace RC := RC.below bb (Nat.le_refl _)
          have hs : v3.heap.size < (v3.alloc (.cells (madeCells #[.int .i64 0] n) 3)).heap.size := by simp
          generalize v3.alloc (.cells (madeCells #[.int .i64 0] n) 3) = v4 at *
          obtain ⟨hX, ehX⟩ : ∃ h, h = v3.heap.size := ⟨_, rfl⟩
          rw [← ehX] at RX hs ⊢
          have lX : L ≤ hX := by omega
          have dTX : hT ≠ hX := by omega
          have dPX : hP ≠ hX := by omega
          have dCX : hC ≠ hX := by omega
          have sX : hX < v4.heap.size := hs
          replace sT : hT < v4.heap.size := by have := bb.size; omega
          replace sP : hP < v4.heap.size := by have := bb.size; omega
          replace sC : hC < v4.heap.size := by have := bb.size; omega
          replace hL : L ≤ v4.heap.size := by omega
          clear ehX hs bb
          refine hK.out _ _ trivial ?_
          clear hK KO
          try simp only [Act.put, List.setIfInBounds_toArray, List.set_cons_zero, List.set_cons_succ]
          refine held_takes (by kernel_rfl) (fun _ _ _ _ _ h => h) [10] _ 1 _ _ _ rfl (by kernel_rfl) (by kernel_rfl) trivial ?_
          simp only [pick, List.drop_succ_cons, List.drop_zero]
          iterate 1 (refine wpTakes_cons (v := ?_) (Or.inl ⟨by rfl, ?_⟩) ?_; rotate_left; (intro w hSw; go_simp <;> with_reducible rfl); (try simp only [Act.put, List.setIfInBounds_toArray, List.set_cons_zero, List.set_cons_succ]))
          refine wpTakes_nil ?_
          have r0 : v4.cell? ⟨hP, 0, none⟩ = some (.int .i64 0) := blk_cell RP 0
          have f0 := blk_frozen RP 0
          have r1 : v4.cell? ⟨hP, 1, none⟩ = some (.slice none 0 0) := blk_cell RP 1
          have f1 := blk_frozen RP 1
          have r2 : v4.cell? ⟨hP, 2, none⟩ = some (.slice none 0 0) := blk_cell RP 2
          have f2 := blk_frozen RP 2
          have r3 : v4.cell? ⟨hP, 3, none⟩ = some (.slice none 0 0) := blk_cell RP 3
          have f3 := blk_frozen RP 3
          have RG := Ring4.made (N := (k : Int)) RP RT RX RC (by omega) ⟨lP, lT, lX, lC⟩
          have BG := put4_below E lP (k : Int) (.slice (some ⟨hT, 0, none⟩) n n) (.slice (some ⟨hX, 0, none⟩) n n) (.slice (some ⟨hC, 0, none⟩) n n)
          unfold put4 at RG BG
          refine held_one 12 (fuel := 0) rfl (by kernel_rfl) ?_
          simp only [List.drop_succ_cons, List.drop_zero]
          refine wpOne_cons (fun KO hK => ?_)
          go_simp
          refine hK.out _ _ trivial ?_
          clear hK KO
          try simp only [Act.put, List.setIfInBounds_toArray, List.set_cons_zero, List.set_cons_succ]
          refine wpAnyH_done (by kernel_rfl) ?_ _
          refine NoPanic.normal ?_
          clear r0 r1 r2 r3 f0 f1 f2 f3 RP RT RX RC E
          go_wp2_with fail
          go_meet
          exact ⟨hP, hT, hX, hC, rfl, RG, BG⟩
    · simp only [List.drop_succ_cons, List.drop_zero]
      refine wpOne_cons (fun KO hK => ?_)
      refine step_make rfl _ _ rfl n (by omega) (by rfl) (by rfl) ?_
      have bb := below_new v0 (.cells (madeCells #[.int .i64 0] n) 3)
      have RX := Ow.zeros v0 n (by omega)
      replace E := E.trans (bb.mono hL)
      have hs : v0.heap.size < (v0.alloc (.cells (madeCells #[.int .i64 0] n) 3)).heap.size := by simp
      generalize v0.alloc (.cells (madeCells #[.int .i64 0] n) 3) = v1 at *
      obtain ⟨hX, ehX⟩ : ∃ h, h = v0.heap.size := ⟨_, rfl⟩
      rw [← ehX] at RX hs ⊢
      have lX : L ≤ hX := by omega
      have sX : hX < v1.heap.size := hs
      replace hL : L ≤ v1.heap.size := by omega
      clear ehX hs bb
      refine hK.out _ _ trivial ?_
      clear hK KO
      try simp only [Act.put, List.setIfInBounds_toArray, List.set_cons_zero, List.set_cons_succ]
      refine held_three 3 9 11 (fuel := 4) rfl (by kernel_rfl) ?_ ?_ ?_
      · simp only [List.drop_succ_cons, List.drop_zero]
        refine wpOne_cons (fun KO hK => ?_)
        refine step_make rfl _ _ rfl n (by omega) (by rfl) (by rfl) ?_
        have bb := below_new v1 (.cells (madeCells #[.int .i64 0] n) 3)
        have RT := Ow.zeros v1 n (by omega)
        replace E := E.trans (bb.mono hL)
        replace RX := RX.below bb (Nat.le_refl _)
        have hs : v1.heap.size < (v1.alloc (.cells (madeCells #[.int .i64 0] n) 3)).heap.size := by simp
        generalize v1.alloc (.cells (madeCells #[.int .i64 0] n) 3) = v2 at *
        obtain ⟨hT, ehT⟩ : ∃ h, h = v1.heap.size := ⟨_, rfl⟩
        rw [← ehT] at RT hs ⊢
        have lT : L ≤ hT := by omega
        have dXT : hX ≠ hT := by omega
        have sT : hT < v2.heap.size := hs
        replace sX : hX < v2.heap.size := by have := bb.size; omega
        replace hL : L ≤ v2.heap.size := by omega
        clear ehT hs bb
        refine hK.out _ _ trivial ?_
        clear hK KO
        try simp only [Act.put, List.setIfInBounds_toArray, List.set_cons_zero, List.set_cons_succ]
        refine held_two 9 11 (fuel := 3) rfl (by kernel_rfl) ?_ ?_
        · simp only [List.drop_succ_cons, List.drop_zero]
          refine wpOne_cons (fun KO hK => ?_)
          refine step_make rfl _ _ rfl n (by omega) (by rfl) (by rfl) ?_
          have bb := below_new v2 (.cells (madeCells #[.int .i64 0] n) 3)
          have RC := Ow.zeros v2 n (by omega)
          replace E := E.trans (bb.mono hL)
          replace RX := RX.below bb (Nat.le_refl _)
          replace RT := RT.below bb (Nat.le_refl _)
          have hs : v2.heap.size < (v2.alloc (.cells (madeCells #[.int .i64 0] n) 3)).heap.size := by simp
          generalize v2.alloc (.cells (madeCells #[.int .i64 0] n) 3) = v3 at *
          obtain ⟨hC, ehC⟩ : ∃ h, h = v2.heap.size := ⟨_, rfl⟩
          rw [← ehC] at RC hs ⊢
          have lC : L ≤ hC := by omega
          have dXC : hX ≠ hC := by omega
          have dTC : hT ≠ hC := by omega
          have sC : hC < v3.heap.size := hs
          replace sX : hX < v3.heap.size := by have := bb.size; omega
          replace sT : hT < v3.heap.size := by have := bb.size; omega
          replace hL : L ≤ v3.heap.size := by omega
          clear ehC hs bb
          refine hK.out _ _ trivial ?_
          clear hK KO
          try simp only [Act.put, List.setIfInBounds_toArray, List.set_cons_zero, List.set_cons_succ]
          refine held_takes (by kernel_rfl) (fun _ _ _ _ _ h => h) [10] _ 2 _ _ _ rfl (by kernel_rfl) (by kernel_rfl) trivial ?_
          simp only [pick, List.drop_succ_cons, List.drop_zero]
          iterate 1 (refine wpTakes_cons (v := ?_) (Or.inl ⟨by rfl, ?_⟩) ?_; rotate_left; (intro w hSw; go_simp <;> with_reducible rfl); (try simp only [Act.put, List.setIfInBounds_toArray, List.set_cons_zero, List.set_cons_succ]))
          refine wpTakes_nil ?_
          refine held_one 11 (fuel := 1) rfl (by kernel_rfl) ?_
          simp only [List.drop_succ_cons, List.drop_zero]
          refine wpOne_cons (fun KO hK => ?_)
          go_simp
          have bb := below_new v3 (.cells #[.int .i64 0, .slice none 0 0, .slice none 0 0, .slice none 0 0] 25)
          have RP : Box (v3.alloc (.cells #[.int .i64 0, .slice none 0 0, .slice none 0 0, .slice none 0 0] 25)) v3.heap.size 0 (.slice none 0 0) (.slice none 0 0) (.slice none 0 0) := heap_alloc_new _ _
          replace E := E.trans (bb.mono hL)
          replace RX := RX.below bb (Nat.le_refl _)
          replace RT := RT.below bb (Nat.le_refl _)
          replace RC := RC.below bb (Nat.le_refl _)
          have hs : v3.heap.size < (v3.alloc (.cells #[.int .i64 0, .slice none 0 0, .slice none 0 0, .slice none 0 0] 25)).heap.size := by simp
          generalize v3.alloc (.cells #[.int .i64 0, .slice none 0 0, .slice none 0 0, .slice none 0 0] 25) = v4 at *
          obtain ⟨hP, ehP⟩ : ∃ h, h = v3.heap.size := ⟨_, rfl⟩
          rw [← ehP] at RP hs ⊢
          have lP : L ≤ hP := by omega
          have dXP : hX ≠ hP := by omega
          have dTP : hT ≠ hP := by omega
          have dCP : hC ≠ hP := by omega
          have sP : hP < v4.heap.size := hs
          replace sX : hX < v4.heap.size := by have := bb.size; omega
          replace sT : hT < v4.heap.size := by have := bb.size; omega
          replace sC : hC < v4.heap.size := by have := bb.size; omega
          replace hL : L ≤ v4.heap.size := by omega
          clear ehP hs bb
          refine hK.out _ _ trivial ?_
          clear hK KO
          try simp only [Act.put, List.setIfInBounds_toArray, List.set_cons_zero, List.set_cons_succ]
          have r0 : v4.cell? ⟨hP, 0, none⟩ = some (.int .i64 0) := blk_cell RP 0
          have f0 := blk_frozen RP 0
          have r1 : v4.cell? ⟨hP, 1, none⟩ = some (.slice none 0 0) := blk_cell RP 1
          have f1 := blk_frozen RP 1
          have r2 : v4.cell? ⟨hP, 2, none⟩ = some (.slice none 0 0) := blk_cell RP 2
          have f2 := blk_frozen RP 2
          have r3 : v4.cell? ⟨hP, 3, none⟩ = some (.slice none 0 0) := blk_cell RP 3
          have f3 := blk_frozen RP 3
          have RG := Ring4.made (N := (k : Int)) RP RT RX RC (by omega) ⟨lP, lT, lX, lC⟩
          have BG := put4_below E lP (k : Int) (.slice (some ⟨hT, 0, none⟩) n n) (.slice (some ⟨hX, 0, none⟩) n n) (.slice (some ⟨hC, 0, none⟩) n n)
          unfold put4 at RG BG
          refine held_one 12 (fuel := 0) rfl (by kernel_rfl) ?_
          simp only [List.drop_succ_cons, List.drop_zero]
          refine wpOne_cons (fun KO hK => ?_)
          go_simp
          refine hK.out _ _ trivial ?_
          clear hK KO
          try simp only [Act.put, List.setIfInBounds_toArray, List.set_cons_zero, List.set_cons_succ]
          refine wpAnyH_done (by kernel_rfl) ?_ _
          refine NoPanic.normal ?_
          clear r0 r1 r2 r3 f0 f1 f2 f3 RP RT RX RC E
          go_wp2_with fail
          go_meet
          exact ⟨hP, hT, hX, hC, rfl, RG, BG⟩
        · simp only [List.drop_succ_cons, List.drop_zero]
          refine wpOne_cons (fun KO hK => ?_)
          go_simp
          have bb := below_new v2 (.cells #[.int .i64 0, .slice none 0 0, .slice none 0 0, .slice none 0 0] 25)
          have RP : Box (v2.alloc (.cells #[.int .i64 0, .slice none 0 0, .slice none 0 0, .slice none 0 0] 25)) v2.heap.size 0 (.slice none 0 0) (.slice none 0 0) (.slice none 0 0) := heap_alloc_new _ _
          replace E := E.trans (bb.mono hL)
          replace RX := RX.below bb (Nat.le_refl _)
          replace RT := RT.below bb (Nat.le_refl _)
          have hs : v2.heap.size < (v2.alloc (.cells #[.int .i64 0, .slice none 0 0, .slice none 0 0, .slice none 0 0] 25)).heap.size := by simp
          generalize v2.alloc (.cells #[.int .i64 0, .slice none 0 0, .slice none 0 0, .slice none 0 0] 25) = v3 at *
          obtain ⟨hP, ehP⟩ : ∃ h, h = v2.heap.size := ⟨_, rfl⟩
          rw [← ehP] at RP hs ⊢
          have lP : L ≤ hP := by omega
          have dXP : hX ≠ hP := by omega
          have dTP : hT ≠ hP := by omega
          have sP : hP < v3.heap.size := hs
          replace sX : hX < v3.heap.size := by have := bb.size; omega
          replace sT : hT < v3.heap.size := by have := bb.size; omega
          replace hL : L ≤ v3.heap.size := by omega
          clear ehP hs bb
          refine hK.out _ _ trivial ?_
          clear hK KO
          try simp only [Act.put, List.setIfInBounds_toArray, List.set_cons_zero, List.set_cons_succ]
          refine held_one 9 (fuel := 2) rfl (by kernel_rfl) ?_
          simp only [List.drop_succ_cons, List.drop_zero]
          refine wpOne_cons (fun KO hK => ?_)
          refine step_make rfl _ _ rfl n (by omega) (by rfl) (by rfl) ?_
          have bb := below_new v3 (.cells (madeCells #[.int .i64 0] n) 3)
          have RC := Ow.zeros v3 n (by omega)
          replace E := E.trans (bb.mono hL)
          replace RX := RX.below bb (Nat.le_refl _)
          replace RT := RT.below bb (Nat.le_refl _)
          replace RP := RP.below bb (Nat.le_refl _)
          have hs : v3.heap.size < (v3.alloc (.cells (madeCells #[.int .i64 0] n) 3)).heap.size := by simp
          generalize v3.alloc (.cells (madeCells #[.int .i64 0] n) 3) = v4 at *
          obtain ⟨hC, ehC⟩ : ∃ h, h = v3.heap.size := ⟨_, rfl⟩
          rw [← ehC] at RC hs ⊢
          have lC : L ≤ hC := by omega
          have dXC : hX ≠ hC := by omega
          have dTC : hT ≠ hC := by omega
          have dPC : hP ≠ hC := by omega
          have sC : hC < v4.heap.size := hs
          replace sX : hX < v4.heap.size := by have := bb.size; omega
          replace sT : hT < v4.heap.size := by have := bb.size; omega
          replace sP : hP < v4.heap.size := by have := bb.size; omega
          replace hL : L ≤ v4.heap.size := by omega
          clear ehC hs bb
          refine hK.out _ _ trivial ?_
          clear hK KO
          try simp only [Act.put, List.setIfInBounds_toArray, List.set_cons_zero, List.set_cons_succ]
          refine held_takes (by kernel_rfl) (fun _ _ _ _ _ h => h) [10] _ 1 _ _ _ rfl (by kernel_rfl) (by kernel_rfl) trivial ?_
          simp only [pick, List.drop_succ_cons, List.drop_zero]
          iterate 1 (refine wpTakes_cons (v := ?_) (Or.inl ⟨by rfl, ?_⟩) ?_; rotate_left; (intro w hSw; go_simp <;> with_reducible rfl); (try simp only [Act.put, List.setIfInBounds_toArray, List.set_cons_zero, List.set_cons_succ]))
          refine wpTakes_nil ?_
          have r0 : v4.cell? ⟨hP, 0, none⟩ = some (.int .i64 0) := blk_cell RP 0
          have f0 := blk_frozen RP 0
          have r1 : v4.cell? ⟨hP, 1, none⟩ = some (.slice none 0 0) := blk_cell RP 1
          have f1 := blk_frozen RP 1
          have r2 : v4.cell? ⟨hP, 2, none⟩ = some (.slice none 0 0) := blk_cell RP 2
          have f2 := blk_frozen RP 2
          have r3 : v4.cell? ⟨hP, 3, none⟩ = some (.slice none 0 0) := blk_cell RP 3
          have f3 := blk_frozen RP 3
          have RG := Ring4.made (N := (k : Int)) RP RT RX RC (by omega) ⟨lP, lT, lX, lC⟩
          have BG := put4_below E lP (k : Int) (.slice (some ⟨hT, 0, none⟩) n n) (.slice (some ⟨hX, 0, none⟩) n n) (.slice (some ⟨hC, 0, none⟩) n n)
          unfold put4 at RG BG
          refine held_one 12 (fuel := 0) rfl (by kernel_rfl) ?_
          simp only [List.drop_succ_cons, List.drop_zero]
          refine wpOne_cons (fun KO hK => ?_)
          go_simp
          refine hK.out _ _ trivial ?_
          clear hK KO
          try simp only [Act.put, List.setIfInBounds_toArray, List.set_cons_zero, List.set_cons_succ]
          refine wpAnyH_done (by kernel_rfl) ?_ _
          refine NoPanic.normal ?_
          clear r0 r1 r2 r3 f0 f1 f2 f3 RP RT RX RC E
          go_wp2_with fail
          go_meet
          exact ⟨hP, hT, hX, hC, rfl, RG, BG⟩
      · simp only [List.drop_succ_cons, List.drop_zero]
        refine wpOne_cons (fun KO hK => ?_)
        refine step_make rfl _ _ rfl n (by omega) (by rfl) (by rfl) ?_
        have bb := below_new v1 (.cells (madeCells #[.int .i64 0] n) 3)
        have RC := Ow.zeros v1 n (by omega)
        replace E := E.trans (bb.mono hL)
        replace RX := RX.below bb (Nat.le_refl _)
        have hs : v1.heap.size < (v1.alloc (.cells (madeCells #[.int .i64 0] n) 3)).heap.size := by simp
        generalize v1.alloc (.cells (madeCells #[.int .i64 0] n) 3) = v2 at *
        obtain ⟨hC, ehC⟩ : ∃ h, h = v1.heap.size := ⟨_, rfl⟩
        rw [← ehC] at RC hs ⊢
        have lC : L ≤ hC := by omega
        have dXC : hX ≠ hC := by omega
        have sC : hC < v2.heap.size := hs
        replace sX : hX < v2.heap.size := by have := bb.size; omega
        replace hL : L ≤ v2.heap.size := by omega
        clear ehC hs bb
        refine hK.out _ _ trivial ?_
        clear hK KO
        try simp only [Act.put, List.setIfInBounds_toArray, List.set_cons_zero, List.set_cons_succ]
        refine held_two 3 11 (fuel := 3) rfl (by kernel_rfl) ?_ ?_
        · simp only [List.drop_succ_cons, List.drop_zero]
          refine wpOne_cons (fun KO hK => ?_)
          refine step_make rfl _ _ rfl n (by omega) (by rfl) (by rfl) ?_
          have bb := below_new v2 (.cells (madeCells #[.int .i64 0] n) 3)
          have RT := Ow.zeros v2 n (by omega)
          replace E := E.trans (bb.mono hL)
          replace RX := RX.below bb (Nat.le_refl _)
          replace RC := RC.below bb (Nat.le_refl _)
          have hs : v2.heap.size < (v2.alloc (.cells (madeCells #[.int .i64 0] n) 3)).heap.size := by simp
          generalize v2.alloc (.cells (madeCells #[.int .i64 0] n) 3) = v3 at *
          obtain ⟨hT, ehT⟩ : ∃ h, h = v2.heap.size := ⟨_, rfl⟩
          rw [← ehT] at RT hs ⊢
          have lT : L ≤ hT := by omega
          have dXT : hX ≠ hT := by omega
          have dCT : hC ≠ hT := by omega
          have sT : hT < v3.heap.size := hs
          replace sX : hX < v3.heap.size := by have := bb.size; omega
          replace sC : hC < v3.heap.size := by have := bb.size; omega
          replace hL : L ≤ v3.heap.size := by omega
          clear ehT hs bb
          refine hK.out _ _ trivial ?_
          clear hK KO
          try simp only [Act.put, List.setIfInBounds_toArray, List.set_cons_zero, List.set_cons_succ]
          refine held_takes (by kernel_rfl) (fun _ _ _ _ _ h => h) [10] _ 2 _ _ _ rfl (by kernel_rfl) (by kernel_rfl) trivial ?_
          simp only [pick, List.drop_succ_cons, List.drop_zero]
          iterate 1 (refine wpTakes_cons (v := ?_) (Or.inl ⟨by rfl, ?_⟩) ?_; rotate_left; (intro w hSw; go_simp <;> with_reducible rfl); (try simp only [Act.put, List.setIfInBounds_toArray, List.set_cons_zero, List.set_cons_succ]))
          refine wpTakes_nil ?_
          refine held_one 11 (fuel := 1) rfl (by kernel_rfl) ?_
          simp only [List.drop_succ_cons, List.drop_zero]
          refine wpOne_cons (fun KO hK => ?_)
          go_simp
          have bb := below_new v3 (.cells #[.int .i64 0, .slice none 0 0, .slice none 0 0, .slice none 0 0] 25)
          have RP : Box (v3.alloc (.cells #[.int .i64 0, .slice none 0 0, .slice none 0 0, .slice none 0 0] 25)) v3.heap.size 0 (.slice none 0 0) (.slice none 0 0) (.slice none 0 0) := heap_alloc_new _ _
          replace E := E.trans (bb.mono hL)
          replace RX := RX.below bb (Nat.le_refl _)
          replace RC := RC.below bb (Nat.le_refl _)
          replace RT := RT.below bb (Nat.le_refl _)
          have hs : v3.heap.size < (v3.alloc (.cells #[.int .i64 0, .slice none 0 0, .slice none 0 0, .slice none 0 0] 25)).heap.size := by simp
          generalize v3.alloc (.cells #[.int .i64 0, .slice none 0 0, .slice none 0 0, .slice none 0 0] 25) = v4 at *
          obtain ⟨hP, ehP⟩ : ∃ h, h = v3.heap.size := ⟨_, rfl⟩
          rw [← ehP] at RP hs ⊢
          have lP : L ≤ hP := by omega
          have dXP : hX ≠ hP := by omega
          have dCP : hC ≠ hP := by omega
          have dTP : hT ≠ hP := by omega
          have sP : hP < v4.heap.size := hs
          replace sX : hX < v4.heap.size := by have := bb.size; omega
          replace sC : hC < v4.heap.size := by have := bb.size; omega
          replace sT : hT < v4.heap.size := by have := bb.size; omega
          replace hL : L ≤ v4.heap.size := by omega
          clear ehP hs bb
          refine hK.out _ _ trivial ?_
          clear hK KO
          try simp only [Act.put, List.setIfInBounds_toArray, List.set_cons_zero, List.set_cons_succ]
          have r0 : v4.cell? ⟨hP, 0, none⟩ = some (.int .i64 0) := blk_cell RP 0
          have f0 := blk_frozen RP 0
          have r1 : v4.cell? ⟨hP, 1, none⟩ = some (.slice none 0 0) := blk_cell RP 1
          have f1 := blk_frozen RP 1
          have r2 : v4.cell? ⟨hP, 2, none⟩ = some (.slice none 0 0) := blk_cell RP 2
          have f2 := blk_frozen RP 2
          have r3 : v4.cell? ⟨hP, 3, none⟩ = some (.slice none 0 0) := blk_cell RP 3
          have f3 := blk_frozen RP 3
          have RG := Ring4.made (N := (k : Int)) RP RT RX RC (by omega) ⟨lP, lT, lX, lC⟩
          have BG := put4_below E lP (k : Int) (.slice (some ⟨hT, 0, none⟩) n n) (.slice (some ⟨hX, 0, none⟩) n n) (.slice (some ⟨hC, 0, none⟩) n n)
          unfold put4 at RG BG
          refine held_one 12 (fuel := 0) rfl (by kernel_rfl) ?_
          simp only [List.drop_succ_cons, List.drop_zero]
          refine wpOne_cons (fun KO hK => ?_)
          go_simp
          refine hK.out _ _ trivial ?_
          clear hK KO
          try simp only [Act.put, List.setIfInBounds_toArray, List.set_cons_zero, List.set_cons_succ]
          refine wpAnyH_done (by kernel_rfl) ?_ _
          refine NoPanic.normal ?_
          clear r0 r1 r2 r3 f0 f1 f2 f3 RP RT RX RC E
          go_wp2_with fail
          go_meet
          exact ⟨hP, hT, hX, hC, rfl, RG, BG⟩
        · simp only [List.drop_succ_cons, List.drop_zero]
          refine wpOne_cons (fun KO hK => ?_)
          go_simp
          have bb := below_new v2 (.cells #[.int .i64 0, .slice none 0 0, .slice none 0 0, .slice none 0 0] 25)
          have RP : Box (v2.alloc (.cells #[.int .i64 0, .slice none 0 0, .slice none 0 0, .slice none 0 0] 25)) v2.heap.size 0 (.slice none 0 0) (.slice none 0 0) (.slice none 0 0) := heap_alloc_new _ _
          replace E := E.trans (bb.mono hL)
          replace RX := RX.below bb (Nat.le_refl _)
          replace RC := RC.below bb (Nat.le_refl _)
          have hs : v2.heap.size < (v2.alloc (.cells #[.int .i64 0, .slice none 0 0, .slice none 0 0, .slice none 0 0] 25)).heap.size := by simp
          generalize v2.alloc (.cells #[.int .i64 0, .slice none 0 0, .slice none 0 0, .slice none 0 0] 25) = v3 at *
          obtain ⟨hP, ehP⟩ : ∃ h, h = v2.heap.size := ⟨_, rfl⟩
          rw [← ehP] at RP hs ⊢
          have lP : L ≤ hP := by omega
          have dXP : hX ≠ hP := by omega
          have dCP : hC ≠ hP := by omega
          have sP : hP < v3.heap.size := hs
          replace sX : hX < v3.heap.size := by have := bb.size; omega
          replace sC : hC < v3.heap.size := by have := bb.size; omega
          replace hL : L ≤ v3.heap.size := by omega
          clear ehP hs bb
          refine hK.out _ _ trivial ?_
          clear hK KO
          try simp only [Act.put, List.setIfInBounds_toArray, List.set_cons_zero, List.set_cons_succ]
          refine held_one 3 (fuel := 2) rfl (by kernel_rfl) ?_
          simp only [List.drop_succ_cons, List.drop_zero]
          refine wpOne_cons (fun KO hK => ?_)
          refine step_make rfl _ _ rfl n (by omega) (by rfl) (by rfl) ?_
          have bb := below_new v3 (.cells (madeCells #[.int .i64 0] n) 3)
          have RT := Ow.zeros v3 n (by omega)
          replace E := E.trans (bb.mono hL)
          replace RX := RX.below bb (Nat.le_refl _)
          replace RC := RC.below bb (Nat.le_refl _)
          replace RP := RP.below bb (Nat.le_refl _)
          have hs : v3.heap.size < (v3.alloc (.cells (madeCells #[.int .i64 0] n) 3)).heap.size := by simp
          generalize v3.alloc (.cells (madeCells #[.int .i64 0] n) 3) = v4 at *
          obtain ⟨hT, ehT⟩ : ∃ h, h = v3.heap.size := ⟨_, rfl⟩
          rw [← ehT] at RT hs ⊢
          have lT : L ≤ hT := by omega
          have dXT : hX ≠ hT := by omega
          have dCT : hC ≠ hT := by omega
          have dPT : hP ≠ hT := by omega
          have sT : hT < v4.heap.size := hs
          replace sX : hX < v4.heap.size := by have := bb.size; omega
          replace sC : hC < v4.heap.size := by have := bb.size; omega
          replace sP : hP < v4.heap.size := by have := bb.size; omega
          replace hL : L ≤ v4.heap.size := by omega
          clear ehT hs bb
          refine hK.out _ _ trivial ?_
          clear hK KO
          try simp only [Act.put, List.setIfInBounds_toArray, List.set_cons_zero, List.set_cons_succ]
          refine held_takes (by kernel_rfl) (fun _ _ _ _ _ h => h) [10] _ 1 _ _ _ rfl (by kernel_rfl) (by kernel_rfl) trivial ?_
          simp only [pick, List.drop_succ_cons, List.drop_zero]
          iterate 1 (refine wpTakes_cons (v := ?_) (Or.inl ⟨by rfl, ?_⟩) ?_; rotate_left; (intro w hSw; go_simp <;> with_reducible rfl); (try simp only [Act.put, List.setIfInBounds_toArray, List.set_cons_zero, List.set_cons_succ]))
          refine wpTakes_nil ?_
          have r0 : v4.cell? ⟨hP, 0, none⟩ = some (.int .i64 0) := blk_cell RP 0
          have f0 := blk_frozen RP 0
          have r1 : v4.cell? ⟨hP, 1, none⟩ = some (.slice none 0 0) := blk_cell RP 1
          have f1 := blk_frozen RP 1
          have r2 : v4.cell? ⟨hP, 2, none⟩ = some (.slice none 0 0) := blk_cell RP 2
          have f2 := blk_frozen RP 2
          have r3 : v4.cell? ⟨hP, 3, none⟩ = some (.slice none 0 0) := blk_cell RP 3
          have f3 := blk_frozen RP 3
          have RG := Ring4.made (N := (k : Int)) RP RT RX RC (by omega) ⟨lP, lT, lX, lC⟩
          have BG := put4_below E lP (k : Int) (.slice (some ⟨hT, 0, none⟩) n n) (.slice (some ⟨hX, 0, none⟩) n n) (.slice (some ⟨hC, 0, none⟩) n n)
          unfold put4 at RG BG
          refine held_one 12 (fuel := 0) rfl (by kernel_rfl) ?_
          simp only [List.drop_succ_cons, List.drop_zero]
          refine wpOne_cons (fun KO hK => ?_)
          go_simp
          refine hK.out _ _ trivial ?_
          clear hK KO
          try simp only [Act.put, List.setIfInBounds_toArray, List.set_cons_zero, List.set_cons_succ]
          refine wpAnyH_done (by kernel_rfl) ?_ _
          refine NoPanic.normal ?_
          clear r0 r1 r2 r3 f0 f1 f2 f3 RP RT RX RC E
          go_wp2_with fail
          go_meet
          exact ⟨hP, hT, hX, hC, rfl, RG, BG⟩
      · simp only [List.drop_succ_cons, List.drop_zero]
        refine wpOne_cons (fun KO hK => ?_)
        go_simp
        have bb := below_new v1 (.cells #[.int .i64 0, .slice none 0 0, .slice none 0 0, .slice none 0 0] 25)
        have RP : Box (v1.alloc (.cells #[.int .i64 0, .slice none 0 0, .slice none 0 0, .slice none 0 0] 25)) v1.heap.size 0 (.slice none 0 0) (.slice none 0 0) (.slice none 0 0) := heap_alloc_new _ _
        replace E := E.trans (bb.mono hL)
        replace RX := RX.below bb (Nat.le_refl _)
        have hs : v1.heap.size < (v1.alloc (.cells #[.int .i64 0, .slice none 0 0, .slice none 0 0, .slice none 0 0] 25)).heap.size := by simp
        generalize v1.alloc (.cells #[.int .i64 0, .slice none 0 0, .slice none 0 0, .slice none 0 0] 25) = v2 at *
        obtain ⟨hP, ehP⟩ : ∃ h, h = v1.heap.size := ⟨_, rfl⟩
        rw [← ehP] at RP hs ⊢
        have lP : L ≤ hP := by omega
        have dXP : hX ≠ hP := by omega
        have sP : hP < v2.heap.size := hs
        replace sX : hX < v2.heap.size := by have := bb.size; omega
        replace hL : L ≤ v2.heap.size := by omega
        clear ehP hs bb
        refine hK.out _ _ trivial ?_
        clear hK KO
        try simp only [Act.put, List.setIfInBounds_toArray, List.set_cons_zero, List.set_cons_succ]
        refine held_two 3 9 (fuel := 3) rfl (by kernel_rfl) ?_ ?_
        · simp only [List.drop_succ_cons, List.drop_zero]
          refine wpOne_cons (fun KO hK => ?_)
          refine step_make rfl _ _ rfl n (by omega) (by rfl) (by rfl) ?_
          have bb := below_new v2 (.cells (madeCells #[.int .i64 0] n) 3)
          have RT := Ow.zeros v2 n (by omega)
          replace E := E.trans (bb.mono hL)
          replace RX := RX.below bb (Nat.le_refl _)
          replace RP := RP.below bb (Nat.le_refl _)
          have hs : v2.heap.size < (v2.alloc (.cells (madeCells #[.int .i64 0] n) 3)).heap.size := by simp
          generalize v2.alloc (.cells (madeCells #[.int .i64 0] n) 3) = v3 at *
          obtain ⟨hT, ehT⟩ : ∃ h, h = v2.heap.size := ⟨_, rfl⟩
          rw [← ehT] at RT hs ⊢
          have lT : L ≤ hT := by omega
          have dXT : hX ≠ hT := by omega
          have dPT : hP ≠ hT := by omega
          have sT : hT < v3.heap.size := hs
          replace sX : hX < v3.heap.size := by have := bb.size; omega
          replace sP : hP < v3.heap.size := by have := bb.size; omega
          replace hL : L ≤ v3.heap.size := by omega
          clear ehT hs bb
          refine hK.out _ _ trivial ?_
          clear hK KO
          try simp only [Act.put, List.setIfInBounds_toArray, List.set_cons_zero, List.set_cons_succ]
          refine held_one 9 (fuel := 2) rfl (by kernel_rfl) ?_
          simp only [List.drop_succ_cons, List.drop_zero]
          refine wpOne_cons (fun KO hK => ?_)
          refine step_make rfl _ _ rfl n (by omega) (by rfl) (by rfl) ?_
          have bb := below_new v3 (.cells (madeCells #[.int .i64 0] n) 3)
          have RC := Ow.zeros v3 n (by omega)
          replace E := E.trans (bb.mono hL)
          replace RX := RX.below bb (Nat.le_refl _)
          replace RP := RP.below bb (Nat.le_refl _)
          replace RT := RT.below bb (Nat.le_refl _)
          have hs : v3.heap.size < (v3.alloc (.cells (madeCells #[.int .i64 0] n) 3)).heap.size := by simp
          generalize v3.alloc (.cells (madeCells #[.int .i64 0] n) 3) = v4 at *
          obtain ⟨hC, ehC⟩ : ∃ h, h = v3.heap.size := ⟨_, rfl⟩
          rw [← ehC] at RC hs ⊢
          have lC : L ≤ hC := by omega
          have dXC : hX ≠ hC := by omega
          have dPC : hP ≠ hC := by omega
          have dTC : hT ≠ hC := by omega
          have sC : hC < v4.heap.size := hs
          replace sX : hX < v4.heap.size := by have := bb.size; omega
          replace sP : hP < v4.heap.size := by have := bb.size; omega
          replace sT : hT < v4.heap.size := by have := bb.size; omega
          replace hL : L ≤ v4.heap.size := by omega
          clear ehC hs bb
          refine hK.out _ _ trivial ?_
          clear hK KO
          try simp only [Act.put, List.setIfInBounds_toArray, List.set_cons_zero, List.set_cons_succ]
          refine held_takes (by kernel_rfl) (fun _ _ _ _ _ h => h) [10] _ 1 _ _ _ rfl (by kernel_rfl) (by kernel_rfl) trivial ?_
          simp only [pick, List.drop_succ_cons, List.drop_zero]
          iterate 1 (refine wpTakes_cons (v := ?_) (Or.inl ⟨by rfl, ?_⟩) ?_; rotate_left; (intro w hSw; go_simp <;> with_reducible rfl); (try simp only [Act.put, List.setIfInBounds_toArray, List.set_cons_zero, List.set_cons_succ]))
          refine wpTakes_nil ?_
          have r0 : v4.cell? ⟨hP, 0, none⟩ = some (.int .i64 0) := blk_cell RP 0
          have f0 := blk_frozen RP 0
          have r1 : v4.cell? ⟨hP, 1, none⟩ = some (.slice none 0 0) := blk_cell RP 1
          have f1 := blk_frozen RP 1
          have r2 : v4.cell? ⟨hP, 2, none⟩ = some (.slice none 0 0) := blk_cell RP 2
          have f2 := blk_frozen RP 2
          have r3 : v4.cell? ⟨hP, 3, none⟩ = some (.slice none 0 0) := blk_cell RP 3
          have f3 := blk_frozen RP 3
          have RG := Ring4.made (N := (k : Int)) RP RT RX RC (by omega) ⟨lP, lT, lX, lC⟩
          have BG := put4_below E lP (k : Int) (.slice (some ⟨hT, 0, none⟩) n n) (.slice (some ⟨hX, 0, none⟩) n n) (.slice (some ⟨hC, 0, none⟩) n n)
          unfold put4 at RG BG
          refine held_one 12 (fuel := 0) rfl (by kernel_rfl) ?_
          simp only [List.drop_succ_cons, List.drop_zero]
          refine wpOne_cons (fun KO hK => ?_)
          go_simp
          refine hK.out _ _ trivial ?_
          clear hK KO
          try simp only [Act.put, List.setIfInBounds_toArray, List.set_cons_zero, List.set_cons_succ]
          refine wpAnyH_done (by kernel_rfl) ?_ _
          refine NoPanic.normal ?_
          clear r0 r1 r2 r3 f0 f1 f2 f3 RP RT RX RC E
          go_wp2_with fail
          go_meet
          exact ⟨hP, hT, hX, hC, rfl, RG, BG⟩
        · simp only [List.drop_succ_cons, List.drop_zero]
          refine wpOne_cons (fun KO hK => ?_)
          refine step_make rfl _ _ rfl n (by omega) (by rfl) (by rfl) ?_
          have bb := below_new v2 (.cells (madeCells #[.int .i64 0] n) 3)
          have RC := Ow.zeros v2 n (by omega)
          replace E := E.trans (bb.mono hL)
          replace RX := RX.below bb (Nat.le_refl _)
          replace RP := RP.below bb (Nat.le_refl _)
          have hs : v2.heap.size < (v2.alloc (.cells (madeCells #[.int .i64 0] n) 3)).heap.size := by simp
          generalize v2.alloc (.cells (madeCells #[.int .i64 0] n) 3) = v3 at *
          obtain ⟨hC, ehC⟩ : ∃ h, h = v2.heap.size := ⟨_, rfl⟩
          rw [← ehC] at RC hs ⊢
          have lC : L ≤ hC := by omega
          have dXC : hX ≠ hC := by omega
          have dPC : hP ≠ hC := by omega
          have sC : hC < v3.heap.size := hs
          replace sX : hX < v3.heap.size := by have := bb.size; omega
          replace sP : hP < v3.heap.size := by have := bb.size; omega
          replace hL : L ≤ v3.heap.size := by omega
          clear ehC hs bb
          refine hK.out _ _ trivial ?_
          clear hK KO
          try simp only [Act.put, List.setIfInBounds_toArray, List.set_cons_zero, List.set_cons_succ]
          refine held_one 3 (fuel := 2) rfl (by kernel_rfl) ?_
          simp only [List.drop_succ_cons, List.drop_zero]
          refine wpOne_cons (fun KO hK => ?_)
          refine step_make rfl _ _ rfl n (by omega) (by rfl) (by rfl) ?_
          have bb := below_new v3 (.cells (madeCells #[.int .i64 0] n) 3)
          have RT := Ow.zeros v3 n (by omega)
          replace E := E.trans (bb.mono hL)
          replace RX := RX.below bb (Nat.le_refl _)
          replace RP := RP.below bb (Nat.le_refl _)
          replace RC := RC.below bb (Nat.le_refl _)
          have hs : v3.heap.size < (v3.alloc (.cells (madeCells #[.int .i64 0] n) 3)).heap.size := by simp
          generalize v3.alloc (.cells (madeCells #[.int .i64 0] n) 3) = v4 at *
          obtain ⟨hT, ehT⟩ : ∃ h, h = v3.heap.size := ⟨_, rfl⟩
          rw [← ehT] at RT hs ⊢
          have lT : L ≤ hT := by omega
          have dXT : hX ≠ hT := by omega
          have dPT : hP ≠ hT := by omega
          have dCT : hC ≠ hT := by omega
          have sT : hT < v4.heap.size := hs
          replace sX : hX < v4.heap.size := by have := bb.size; omega
          replace sP : hP < v4.heap.size := by have := bb.size; omega
          replace sC : hC < v4.heap.size := by have := bb.size; omega
          replace hL : L ≤ v4.heap.size := by omega
          clear ehT hs bb
          refine hK.out _ _ trivial ?_
          clear hK KO
          try simp only [Act.put, List.setIfInBounds_toArray, List.set_cons_zero, List.set_cons_succ]
          refine held_takes (by kernel_rfl) (fun _ _ _ _ _ h => h) [10] _ 1 _ _ _ rfl (by kernel_rfl) (by kernel_rfl) trivial ?_
          simp only [pick, List.drop_succ_cons, List.drop_zero]
          iterate 1 (refine wpTakes_cons (v := ?_) (Or.inl ⟨by rfl, ?_⟩) ?_; rotate_left; (intro w hSw; go_simp <;> with_reducible rfl); (try simp only [Act.put, List.setIfInBounds_toArray, List.set_cons_zero, List.set_cons_succ]))
          refine wpTakes_nil ?_
          have r0 : v4.cell? ⟨hP, 0, none⟩ = some (.int .i64 0) := blk_cell RP 0
          have f0 := blk_frozen RP 0
          have r1 : v4.cell? ⟨hP, 1, none⟩ = some (.slice none 0 0) := blk_cell RP 1
          have f1 := blk_frozen RP 1
          have r2 : v4.cell? ⟨hP, 2, none⟩ = some (.slice none 0 0) := blk_cell RP 2
          have f2 := blk_frozen RP 2
          have r3 : v4.cell? ⟨hP, 3, none⟩ = some (.slice none 0 0) := blk_cell RP 3
          have f3 := blk_frozen RP 3
          have RG := Ring4.made (N := (k : Int)) RP RT RX RC (by omega) ⟨lP, lT, lX, lC⟩
          have BG := put4_below E lP (k : Int) (.slice (some ⟨hT, 0, none⟩) n n) (.slice (some ⟨hX, 0, none⟩) n n) (.slice (some ⟨hC, 0, none⟩) n n)
          unfold put4 at RG BG
          refine held_one 12 (fuel := 0) rfl (by kernel_rfl) ?_
          simp only [List.drop_succ_cons, List.drop_zero]
          refine wpOne_cons (fun KO hK => ?_)
          go_simp
          refine hK.out _ _ trivial ?_
          clear hK KO
          try simp only [Act.put, List.setIfInBounds_toArray, List.set_cons_zero, List.set_cons_succ]
          refine wpAnyH_done (by kernel_rfl) ?_ _
          refine NoPanic.normal ?_
          clear r0 r1 r2 r3 f0 f1 f2 f3 RP RT RX RC E
          go_wp2_with fail
          go_meet
          exact ⟨hP, hT, hX, hC, rfl, RG, BG⟩
    · simp only [List.drop_succ_cons, List.drop_zero]
      refine wpOne_cons (fun KO hK => ?_)
      refine step_make rfl _ _ rfl n (by omega) (by rfl) (by rfl) ?_
      have bb := below_new v0 (.cells (madeCells #[.int .i64 0] n) 3)
      have RC := Ow.zeros v0 n (by omega)
      replace E := E.trans (bb.mono hL)
      have hs : v0.heap.size < (v0.alloc (.cells (madeCells #[.int .i64 0] n) 3)).heap.size := by simp
      generalize v0.alloc (.cells (madeCells #[.int .i64 0] n) 3) = v1 at *
      obtain ⟨hC, ehC⟩ : ∃ h, h = v0.heap.size := ⟨_, rfl⟩
      rw [← ehC] at RC hs ⊢
      have lC : L ≤ hC := by omega
      have sC : hC < v1.heap.size := hs
      replace hL : L ≤ v1.heap.size := by omega
      clear ehC hs bb
      refine hK.out _ _ trivial ?_
      clear hK KO
      try simp only [Act.put, List.setIfInBounds_toArray, List.set_cons_zero, List.set_cons_succ]
      refine held_three 3 6 11 (fuel := 4) rfl (by kernel_rfl) ?_ ?_ ?_
      · simp only [List.drop_succ_cons, List.drop_zero]
        refine wpOne_cons (fun KO hK => ?_)
        refine step_make rfl _ _ rfl n (by omega) (by rfl) (by rfl) ?_
        have bb := below_new v1 (.cells (madeCells #[.int .i64 0] n) 3)
        have RT := Ow.zeros v1 n (by omega)
        replace E := E.trans (bb.mono hL)
        replace RC := RC.below bb (Nat.le_refl _)
        have hs : v1.heap.size < (v1.alloc (.cells (madeCells #[.int .i64 0] n) 3)).heap.size := by simp
        generalize v1.alloc (.cells (madeCells #[.int .i64 0] n) 3) = v2 at *
        obtain ⟨hT, ehT⟩ : ∃ h, h = v1.heap.size := ⟨_, rfl⟩
        rw [← ehT] at RT hs ⊢
        have lT : L ≤ hT := by omega
        have dCT : hC ≠ hT := by omega
        have sT : hT < v2.heap.size := hs
        replace sC : hC < v2.heap.size := by have := bb.size; omega
        replace hL : L ≤ v2.heap.size := by omega
        clear ehT hs bb
        refine hK.out _ _ trivial ?_
        clear hK KO
        try simp only [Act.put, List.setIfInBounds_toArray, List.set_cons_zero, List.set_cons_succ]
        refine held_two 6 11 (fuel := 3) rfl (by kernel_rfl) ?_ ?_
        · simp only [List.drop_succ_cons, List.drop_zero]
          refine wpOne_cons (fun KO hK => ?_)
          refine step_make rfl _ _ rfl n (by omega) (by rfl) (by rfl) ?_
          have bb := below_new v2 (.cells (madeCells #[.int .i64 0] n) 3)
          have RX := Ow.zeros v2 n (by omega)
          replace E := E.trans (bb.mono hL)
          replace RC := RC.below bb (Nat.le_refl _)
          replace RT := RT.below bb (Nat.le_refl _)
          have hs : v2.heap.size < (v2.alloc (.cells (madeCells #[.int .i64 0] n) 3)).heap.size := by simp
          generalize v2.alloc (.cells (madeCells #[.int .i64 0] n) 3) = v3 at *
          obtain ⟨hX, ehX⟩ : ∃ h, h = v2.heap.size := ⟨_, rfl⟩
          rw [← ehX] at RX hs ⊢
          have lX : L ≤ hX := by omega
          have dCX : hC ≠ hX := by omega
          have dTX : hT ≠ hX := by omega
          have sX : hX < v3.heap.size := hs
          replace sC : hC < v3.heap.size := by have := bb.size; omega
          replace sT : hT < v3.heap.size := by have := bb.size; omega
          replace hL : L ≤ v3.heap.size := by omega
          clear ehX hs bb
          refine hK.out _ _ trivial ?_
          clear hK KO
          try simp only [Act.put, List.setIfInBounds_toArray, List.set_cons_zero, List.set_cons_succ]
          refine held_takes (by kernel_rfl) (fun _ _ _ _ _ h => h) [10] _ 2 _ _ _ rfl (by kernel_rfl) (by kernel_rfl) trivial ?_
          simp only [pick, List.drop_succ_cons, List.drop_zero]
          iterate 1 (refine wpTakes_cons (v := ?_) (Or.inl ⟨by rfl, ?_⟩) ?_; rotate_left; (intro w hSw; go_simp <;> with_reducible rfl); (try simp only [Act.put, List.setIfInBounds_toArray, List.set_cons_zero, List.set_cons_succ]))
          refine wpTakes_nil ?_
          refine held_one 11 (fuel := 1) rfl (by kernel_rfl) ?_
          simp only [List.drop_succ_cons, List.drop_zero]
          refine wpOne_cons (fun KO hK => ?_)
          go_simp
          have bb := below_new v3 (.cells #[.int .i64 0, .slice none 0 0, .slice none 0 0, .slice none 0 0] 25)
          have RP : Box (v3.alloc (.cells #[.int .i64 0, .slice none 0 0, .slice none 0 0, .slice none 0 0] 25)) v3.heap.size 0 (.slice none 0 0) (.slice none 0 0) (.slice none 0 0) := heap_alloc_new _ _
          replace E := E.trans (bb.mono hL)
          replace RC := RC.below bb (Nat.le_refl _)
          replace RT := RT.below bb (Nat.le_refl _)
          replace RX := RX.below bb (Nat.le_refl _)
          have hs : v3.heap.size < (v3.alloc (.cells #[.int .i64 0, .slice none 0 0, .slice none 0 0, .slice none 0 0] 25)).heap.size := by simp
          generalize v3.alloc (.cells #[.int .i64 0, .slice none 0 0, .slice none 0 0, .slice none 0 0] 25) = v4 at *
          obtain ⟨hP, ehP⟩ : ∃ h, h = v3.heap.size := ⟨_, rfl⟩
          rw [← ehP] at RP hs ⊢
          have lP : L ≤ hP := by omega
          have dCP : hC ≠ hP := by omega
          have dTP : hT ≠ hP := by omega
          have dXP : hX ≠ hP := by omega
          have sP : hP < v4.heap.size := hs
          replace sC : hC < v4.heap.size := by have := bb.size; omega
          replace sT : hT < v4.heap.size := by have := bb.size; omega
          replace sX : hX < v4.heap.size := by have := bb.size; omega
          replace hL : L ≤ v4.heap.size := by omega
          clear ehP hs bb
          refine hK.out _ _ trivial ?_
          clear hK KO
          try simp only [Act.put, List.setIfInBounds_toArray, List.set_cons_zero, List.set_cons_succ]
          have r0 : v4.cell? ⟨hP, 0, none⟩ = some (.int .i64 0) := blk_cell RP 0
          have f0 := blk_frozen RP 0
          have r1 : v4.cell? ⟨hP, 1, none⟩ = some (.slice none 0 0) := blk_cell RP 1
          have f1 := blk_frozen RP 1
          have r2 : v4.cell? ⟨hP, 2, none⟩ = some (.slice none 0 0) := blk_cell RP 2
          have f2 := blk_frozen RP 2
          have r3 : v4.cell? ⟨hP, 3, none⟩ = some (.slice none 0 0) := blk_cell RP 3
          have f3 := blk_frozen RP 3
          have RG := Ring4.made (N := (k : Int)) RP RT RX RC (by omega) ⟨lP, lT, lX, lC⟩
          have BG := put4_below E lP (k : Int) (.slice (some ⟨hT, 0, none⟩) n n) (.slice (some ⟨hX, 0, none⟩) n n) (.slice (some ⟨hC, 0, none⟩) n n)
          unfold put4 at RG BG
          refine held_one 12 (fuel := 0) rfl (by kernel_rfl) ?_
          simp only [List.drop_succ_cons, List.drop_zero]
          refine wpOne_cons (fun KO hK => ?_)
          go_simp
          refine hK.out _ _ trivial ?_
          clear hK KO
          try simp only [Act.put, List.setIfInBounds_toArray, List.set_cons_zero, List.set_cons_succ]
          refine wpAnyH_done (by kernel_rfl) ?_ _
          refine NoPanic.normal ?_
          clear r0 r1 r2 r3 f0 f1 f2 f3 RP RT RX RC E
          go_wp2_with fail
          go_meet
          exact ⟨hP, hT, hX, hC, rfl, RG, BG⟩
        · simp only [List.drop_succ_cons, List.drop_zero]
          refine wpOne_cons (fun KO hK => ?_)
          go_simp
          have bb := below_new v2 (.cells #[.int .i64 0, .slice none 0 0, .slice none 0 0, .slice none 0 0] 25)
          have RP : Box (v2.alloc (.cells #[.int .i64 0, .slice none 0 0, .slice none 0 0, .slice none 0 0] 25)) v2.heap.size 0 (.slice none 0 0) (.slice none 0 0) (.slice none 0 0) := heap_alloc_new _ _
          replace E := E.trans (bb.mono hL)
          replace RC := RC.below bb (Nat.le_refl _)
          replace RT := RT.below bb (Nat.le_refl _)
          have hs : v2.heap.size < (v2.alloc (.cells #[.int .i64 0, .slice none 0 0, .slice none 0 0, .slice none 0 0] 25)).heap.size := by simp
          generalize v2.alloc (.cells #[.int .i64 0, .slice none 0 0, .slice none 0 0, .slice none 0 0] 25) = v3 at *
          obtain ⟨hP, ehP⟩ : ∃ h, h = v2.heap.size := ⟨_, rfl⟩
          rw [← ehP] at RP hs ⊢
          have lP : L ≤ hP := by omega
          have dCP : hC ≠ hP := by omega
          have dTP : hT ≠ hP := by omega
          have sP : hP < v3.heap.size := hs
          replace sC : hC < v3.heap.size := by have := bb.size; omega
          replace sT : hT < v3.heap.size := by have := bb.size; omega
          replace hL : L ≤ v3.heap.size := by omega
          clear ehP hs bb
          refine hK.out _ _ trivial ?_
          clear hK KO
          try simp only [Act.put, List.setIfInBounds_toArray, List.set_cons_zero, List.set_cons_succ]
          refine held_one 6 (fuel := 2) rfl (by kernel_rfl) ?_
          simp only [List.drop_succ_cons, List.drop_zero]
          refine wpOne_cons (fun KO hK => ?_)
          refine step_make rfl _ _ rfl n (by omega) (by rfl) (by rfl) ?_
          have bb := below_new v3 (.cells (madeCells #[.int .i64 0] n) 3)
          have RX := Ow.zeros v3 n (by omega)
          replace E := E.trans (bb.mono hL)
          replace RC := RC.below bb (Nat.le_refl _)
          replace RT := RT.below bb (Nat.le_refl _)
          replace RP := RP.below bb (Nat.le_refl _)
          have hs : v3.heap.size < (v3.alloc (.cells (madeCells #[.int .i64 0] n) 3)).heap.size := by simp
          generalize v3.alloc (.cells (madeCells #[.int .i64 0] n) 3) = v4 at *
          obtain ⟨hX, ehX⟩ : ∃ h, h = v3.heap.size := ⟨_, rfl⟩
          rw [← ehX] at RX hs ⊢
          have lX : L ≤ hX := by omega
          have dCX : hC ≠ hX := by omega
          have dTX : hT ≠ hX := by omega
          have dPX : hP ≠ hX := by omega
          have sX : hX < v4.heap.size := hs
          replace sC : hC < v4.heap.size := by have := bb.size; omega
          replace sT : hT < v4.heap.size := by have := bb.size; omega
          replace sP : hP < v4.heap.size := by have := bb.size; omega
          replace hL : L ≤ v4.heap.size := by omega
          clear ehX hs bb
          refine hK.out _ _ trivial ?_
          clear hK KO
          try simp only [Act.put, List.setIfInBounds_toArray, List.set_cons_zero, List.set_cons_succ]
          refine held_takes (by kernel_rfl) (fun _ _ _ _ _ h => h) [10] _ 1 _ _ _ rfl (by kernel_rfl) (by kernel_rfl) trivial ?_
          simp only [pick, List.drop_succ_cons, List.drop_zero]
          iterate 1 (refine wpTakes_cons (v := ?_) (Or.inl ⟨by rfl, ?_⟩) ?_; rotate_left; (intro w hSw; go_simp <;> with_reducible rfl); (try simp only [Act.put, List.setIfInBounds_toArray, List.set_cons_zero, List.set_cons_succ]))
          refine wpTakes_nil ?_
          have r0 : v4.cell? ⟨hP, 0, none⟩ = some (.int .i64 0) := blk_cell RP 0
          have f0 := blk_frozen RP 0
          have r1 : v4.cell? ⟨hP, 1, none⟩ = some (.slice none 0 0) := blk_cell RP 1
          have f1 := blk_frozen RP 1
          have r2 : v4.cell? ⟨hP, 2, none⟩ = some (.slice none 0 0) := blk_cell RP 2
          have f2 := blk_frozen RP 2
          have r3 : v4.cell? ⟨hP, 3, none⟩ = some (.slice none 0 0) := blk_cell RP 3
          have f3 := blk_frozen RP 3
          have RG := Ring4.made (N := (k : Int)) RP RT RX RC (by omega) ⟨lP, lT, lX, lC⟩
          have BG := put4_below E lP (k : Int) (.slice (some ⟨hT, 0, none⟩) n n) (.slice (some ⟨hX, 0, none⟩) n n) (.slice (some ⟨hC, 0, none⟩) n n)
          unfold put4 at RG BG
          refine held_one 12 (fuel := 0) rfl (by kernel_rfl) ?_
          simp only [List.drop_succ_cons, List.drop_zero]
          refine wpOne_cons (fun KO hK => ?_)
          go_simp
          refine hK.out _ _ trivial ?_
          clear hK KO
          try simp only [Act.put, List.setIfInBounds_toArray, List.set_cons_zero, List.set_cons_succ]
          refine wpAnyH_done (by kernel_rfl) ?_ _
          refine NoPanic.normal ?_
          clear r0 r1 r2 r3 f0 f1 f2 f3 RP RT RX RC E
          go_wp2_with fail
          go_meet
          exact ⟨hP, hT, hX, hC, rfl, RG, BG⟩
      · simp only [List.drop_succ_cons, List.drop_zero]
        refine wpOne_cons (fun KO hK => ?_)
        refine step_make rfl _ _ rfl n (by omega) (by rfl) (by rfl) ?_
        have bb := below_new v1 (.cells (madeCells #[.int .i64 0] n) 3)
        have RX := Ow.zeros v1 n (by omega)
        replace E := E.trans (bb.mono hL)
        replace RC := RC.below bb (Nat.le_refl _)
        have hs : v1.heap.size < (v1.alloc (.cells (madeCells #[.int .i64 0] n) 3)).heap.size := by simp
        generalize v1.alloc (.cells (madeCells #[.int .i64 0] n) 3) = v2 at *
        obtain ⟨hX, ehX⟩ : ∃ h, h = v1.heap.size := ⟨_, rfl⟩
        rw [← ehX] at RX hs ⊢
        have lX : L ≤ hX := by omega
        have dCX : hC ≠ hX := by omega
        have sX : hX < v2.heap.size := hs
        replace sC : hC < v2.heap.size := by have := bb.size; omega
        replace hL : L ≤ v2.heap.size := by omega
        clear ehX hs bb
        refine hK.out _ _ trivial ?_
        clear hK KO
        try simp only [Act.put, List.setIfInBounds_toArray, List.set_cons_zero, List.set_cons_succ]
        refine held_two 3 11 (fuel := 3) rfl (by kernel_rfl) ?_ ?_
        · simp only [List.drop_succ_cons, List.drop_zero]
          refine wpOne_cons (fun KO hK => ?_)
          refine step_make rfl _ _ rfl n (by omega) (by rfl) (by rfl) ?_
          have bb := below_new v2 (.cells (madeCells #[.int .i64 0] n) 3)
          have RT := Ow.zeros v2 n (by omega)
          replace E := E.trans (bb.mono hL)
          replace RC := RC.below bb (Nat.le_refl _)
          replace RX := RX.below bb (Nat.le_refl _)
          have hs : v2.heap.size < (v2.alloc (.cells (madeCells #[.int .i64 0] n) 3)).heap.size := by simp
          generalize v2.alloc (.cells (madeCells #[.int .i64 0] n) 3) = v3 at *
          obtain ⟨hT, ehT⟩ : ∃ h, h = v2.heap.size := ⟨_, rfl⟩
          rw [← ehT] at RT hs ⊢
          have lT : L ≤ hT := by omega
          have dCT : hC ≠ hT := by omega
          have dXT : hX ≠ hT := by omega
          have sT : hT < v3.heap.size := hs
          replace sC : hC < v3.heap.size := by have := bb.size; omega
          replace sX : hX < v3.heap.size := by have := bb.size; omega
          replace hL : L ≤ v3.heap.size := by omega
          clear ehT hs bb
          refine hK.out _ _ trivial ?_
          clear hK KO
          try simp only [Act.put, List.setIfInBounds_toArray, List.set_cons_zero, List.set_cons_succ]
          refine held_takes (by kernel_rfl) (fun _ _ _ _ _ h => h) [10] _ 2 _ _ _ rfl (by kernel_rfl) (by kernel_rfl) trivial ?_
          simp only [pick, List.drop_succ_cons, List.drop_zero]
          iterate 1 (refine wpTakes_cons (v := ?_) (Or.inl ⟨by rfl, ?_⟩) ?_; rotate_left; (intro w hSw; go_simp <;> with_reducible rfl); (try simp only [Act.put, List.setIfInBounds_toArray, List.set_cons_zero, List.set_cons_succ]))
          refine wpTakes_nil ?_
          refine held_one 11 (fuel := 1) rfl (by kernel_rfl) ?_
          simp only [List.drop_succ_cons, List.drop_zero]
          refine wpOne_cons (fun KO hK => ?_)
          go_simp
          have bb := below_new v3 (.cells #[.int .i64 0, .slice none 0 0, .slice none 0 0, .slice none 0 0] 25)
          have RP : Box (v3.alloc (.cells #[.int .i64 0, .slice none 0 0, .slice none 0 0, .slice none 0 0] 25)) v3.heap.size 0 (.slice none 0 0) (.slice none 0 0) (.slice none 0 0) := heap_alloc_new _ _
          replace E := E.trans (bb.mono hL)
          replace RC := RC.below bb (Nat.le_refl _)
          replace RX := RX.below bb (Nat.le_refl _)
          replace RT := RT.below bb (Nat.le_refl _)
          have hs : v3.heap.size < (v3.alloc (.cells #[.int .i64 0, .slice none 0 0, .slice none 0 0, .slice none 0 0] 25)).heap.size := by simp
          generalize v3.alloc (.cells #[.int .i64 0, .slice none 0 0, .slice none 0 0, .slice none 0 0] 25) = v4 at *
          obtain ⟨hP, ehP⟩ : ∃ h, h = v3.heap.size := ⟨_, rfl⟩
          rw [← ehP] at RP hs ⊢
          have lP : L ≤ hP := by omega
          have dCP : hC ≠ hP := by omega
          have dXP : hX ≠ hP := by omega
          have dTP : hT ≠ hP := by omega
          have sP : hP < v4.heap.size := hs
          replace sC : hC < v4.heap.size := by have := bb.size; omega
          replace sX : hX < v4.heap.size := by have := bb.size; omega
          replace sT : hT < v4.heap.size := by have := bb.size; omega
          replace hL : L ≤ v4.heap.size := by omega
          clear ehP hs bb
          refine hK.out _ _ trivial ?_
          clear hK KO
          try simp only [Act.put, List.setIfInBounds_toArray, List.set_cons_zero, List.set_cons_succ]
          have r0 : v4.cell? ⟨hP, 0, none⟩ = some (.int .i64 0) := blk_cell RP 0
          have f0 := blk_frozen RP 0
          have r1 : v4.cell? ⟨hP, 1, none⟩ = some (.slice none 0 0) := blk_cell RP 1
          have f1 := blk_frozen RP 1
          have r2 : v4.cell? ⟨hP, 2, none⟩ = some (.slice none 0 0) := blk_cell RP 2
          have f2 := blk_frozen RP 2
          have r3 : v4.cell? ⟨hP, 3, none⟩ = some (.slice none 0 0) := blk_cell RP 3
          have f3 := blk_frozen RP 3
          have RG := Ring4.made (N := (k : Int)) RP RT RX RC (by omega) ⟨lP, lT, lX, lC⟩
          have BG := put4_below E lP (k : Int) (.slice (some ⟨hT, 0, none⟩) n n) (.slice (some ⟨hX, 0, none⟩) n n) (.slice (some ⟨hC, 0, none⟩) n n)
          unfold put4 at RG BG
          refine held_one 12 (fuel := 0) rfl (by kernel_rfl) ?_
          simp only [List.drop_succ_cons, List.drop_zero]
          refine wpOne_cons (fun KO hK => ?_)
          go_simp
          refine hK.out _ _ trivial ?_
          clear hK KO
          try simp only [Act.put, List.setIfInBounds_toArray, List.set_cons_zero, List.set_cons_succ]
          refine wpAnyH_done (by kernel_rfl) ?_ _
          refine NoPanic.normal ?_
          clear r0 r1 r2 r3 f0 f1 f2 f3 RP RT RX RC E
          go_wp2_with fail
          go_meet
          exact ⟨hP, hT, hX, hC, rfl, RG, BG⟩
        · simp only [List.drop_succ_cons, List.drop_zero]
          refine wpOne_cons (fun KO hK => ?_)
          go_simp
          have bb := below_new v2 (.cells #[.int .i64 0, .slice none 0 0, .slice none 0 0, .slice none 0 0] 25)
          have RP : Box (v2.alloc (.cells #[.int .i64 0, .slice none 0 0, .slice none 0 0, .slice none 0 0] 25)) v2.heap.size 0 (.slice none 0 0) (.slice none 0 0) (.slice none 0 0) := heap_alloc_new _ _
          replace E := E.trans (bb.mono hL)
          replace RC := RC.below bb (Nat.le_refl _)
          replace RX := RX.below bb (Nat.le_refl _)
          have hs : v2.heap.size < (v2.alloc (.cells #[.int .i64 0, .slice none 0 0, .slice none 0 0, .slice none 0 0] 25)).heap.size := by simp
          generalize v2.alloc (.cells #[.int .i64 0, .slice none 0 0, .slice none 0 0, .slice none 0 0] 25) = v3 at *
          obtain ⟨hP, ehP⟩ : ∃ h, h = v2.heap.size := ⟨_, rfl⟩
          rw [← ehP] at RP hs ⊢
          have lP : L ≤ hP := by omega
          have dCP : hC ≠ hP := by omega
          have dXP : hX ≠ hP := by omega
          have sP : hP < v3.heap.size := hs
          replace sC : hC < v3.heap.size := by have := bb.size; omega
          replace sX : hX < v3.heap.size := by have := bb.size; omega
          replace hL : L ≤ v3.heap.size := by omega
          clear ehP hs bb
          refine hK.out _ _ trivial ?_
          clear hK KO
          try simp only [Act.put, List.setIfInBounds_toArray, List.set_cons_zero, List.set_cons_succ]
          refine held_one 3 (fuel := 2) rfl (by kernel_rfl) ?_
          simp only [List.drop_succ_cons, List.drop_zero]
          refine wpOne_cons (fun KO hK => ?_)
          refine step_make rfl _ _ rfl n (by omega) (by rfl) (by rfl) ?_
          have bb := below_new v3 (.cells (madeCells #[.int .i64 0] n) 3)
          have RT := Ow.zeros v3 n (by omega)
          replace E := E.trans (bb.mono hL)
          replace RC := RC.below bb (Nat.le_refl _)
          replace RX := RX.below bb (Nat.le_refl _)
          replace RP := RP.below bb (Nat.le_refl _)
          have hs : v3.heap.size < (v3.alloc (.cells (madeCells #[.int .i64 0] n) 3)).heap.size := by simp
          generalize v3.alloc (.cells (madeCells #[.int .i64 0] n) 3) = v4 at *
          obtain ⟨hT, ehT⟩ : ∃ h, h = v3.heap.size := ⟨_, rfl⟩
          rw [← ehT] at RT hs ⊢
          have lT : L ≤ hT := by omega
          have dCT : hC ≠ hT := by omega
          have dXT : hX ≠ hT := by omega
          have dPT : hP ≠ hT := by omega
          have sT : hT < v4.heap.size := hs
          replace sC : hC < v4.heap.size := by have := bb.size; omega
          replace sX : hX < v4.heap.size := by have := bb.size; omega
          replace sP : hP < v4.heap.size := by have := bb.size; omega
          replace hL : L ≤ v4.heap.size := by omega
          clear ehT hs bb
          refine hK.out _ _ trivial ?_
          clear hK KO
          try simp only [Act.put, List.setIfInBounds_toArray, List.set_cons_zero, List.set_cons_succ]
          refine held_takes (by kernel_rfl) (fun _ _ _ _ _ h => h) [10] _ 1 _ _ _ rfl (by kernel_rfl) (by kernel_rfl) trivial ?_
          simp only [pick, List.drop_succ_cons, List.drop_zero]
          iterate 1 (refine wpTakes_cons (v := ?_) (Or.inl ⟨by rfl, ?_⟩) ?_; rotate_left; (intro w hSw; go_simp <;> with_reducible rfl); (try simp only [Act.put, List.setIfInBounds_toArray, List.set_cons_zero, List.set_cons_succ]))
          refine wpTakes_nil ?_
          have r0 : v4.cell? ⟨hP, 0, none⟩ = some (.int .i64 0) := blk_cell RP 0
          have f0 := blk_frozen RP 0
          have r1 : v4.cell? ⟨hP, 1, none⟩ = some (.slice none 0 0) := blk_cell RP 1
          have f1 := blk_frozen RP 1
          have r2 : v4.cell? ⟨hP, 2, none⟩ = some (.slice none 0 0) := blk_cell RP 2
          have f2 := blk_frozen RP 2
          have r3 : v4.cell? ⟨hP, 3, none⟩ = some (.slice none 0 0) := blk_cell RP 3
          have f3 := blk_frozen RP 3
          have RG := Ring4.made (N := (k : Int)) RP RT RX RC (by omega) ⟨lP, lT, lX, lC⟩
          have BG := put4_below E lP (k : Int) (.slice (some ⟨hT, 0, none⟩) n n) (.slice (some ⟨hX, 0, none⟩) n n) (.slice (some ⟨hC, 0, none⟩) n n)
          unfold put4 at RG BG
          refine held_one 12 (fuel := 0) rfl (by kernel_rfl) ?_
          simp only [List.drop_succ_cons, List.drop_zero]
          refine wpOne_cons (fun KO hK => ?_)
          go_simp
          refine hK.out _ _ trivial ?_
          clear hK KO
          try simp only [Act.put, List.setIfInBounds_toArray, List.set_cons_zero, List.set_cons_succ]
          refine wpAnyH_done (by kernel_rfl) ?_ _
          refine NoPanic.normal ?_
          clear r0 r1 r2 r3 f0 f1 f2 f3 RP RT RX RC E
          go_wp2_with fail
          go_meet
          exact ⟨hP, hT, hX, hC, rfl, RG, BG⟩
      · simp only [List.drop_succ_cons, List.drop_zero]
        refine wpOne_cons (fun KO hK => ?_)
        go_simp
        have bb := below_new v1 (.cells #[.int .i64 0, .slice none 0 0, .slice none 0 0, .slice none 0 0] 25)
        have RP : Box (v1.alloc (.cells #[.int .i64 0, .slice none 0 0, .slice none 0 0, .slice none 0 0] 25)) v1.heap.size 0 (.slice none 0 0) (.slice none 0 0) (.slice none 0 0) := heap_alloc_new _ _
        replace E := E.trans (bb.mono hL)
        replace RC := RC.below bb (Nat.le_refl _)
        have hs : v1.heap.size < (v1.alloc (.cells #[.int .i64 0, .slice none 0 0, .slice none 0 0, .slice none 0 0] 25)).heap.size := by simp
        generalize v1.alloc (.cells #[.int .i64 0, .slice none 0 0, .slice none 0 0, .slice none 0 0] 25) = v2 at *
        obtain ⟨hP, ehP⟩ : ∃ h, h = v1.heap.size := ⟨_, rfl⟩
        rw [← ehP] at RP hs ⊢
        have lP : L ≤ hP := by omega
        have dCP : hC ≠ hP := by omega
        have sP : hP < v2.heap.size := hs
        replace sC : hC < v2.heap.size := by have := bb.size; omega
        replace hL : L ≤ v2.heap.size := by omega
        clear ehP hs bb
        refine hK.out _ _ trivial ?_
        clear hK KO
        try simp only [Act.put, List.setIfInBounds_toArray, List.set_cons_zero, List.set_cons_succ]
        refine held_two 3 6 (fuel := 3) rfl (by kernel_rfl) ?_ ?_
        · simp only [List.drop_succ_cons, List.drop_zero]
          refine wpOne_cons (fun KO hK => ?_)
          refine step_make rfl _ _ rfl n (by omega) (by rfl) (by rfl) ?_
          have bb := below_new v2 (.cells (madeCells #[.int .i64 0] n) 3)
          have RT := Ow.zeros v2 n (by omega)
          replace E := E.trans (bb.mono hL)
          replace RC := RC.below bb (Nat.le_refl _)
          replace RP := RP.below bb (Nat.le_refl _)
          have hs : v2.heap.size < (v2.alloc (.cells (madeCells #[.int .i64 0] n) 3)).heap.size := by simp
          generalize v2.alloc (.cells (madeCells #[.int .i64 0] n) 3) = v3 at *
          obtain ⟨hT, ehT⟩ : ∃ h, h = v2.heap.size := ⟨_, rfl⟩
          rw [← ehT] at RT hs ⊢
          have lT : L ≤ hT := by omega
          have dCT : hC ≠ hT := by omega
          have dPT : hP ≠ hT := by omega
          have sT : hT < v3.heap.size := hs
          replace sC : hC < v3.heap.size := by have := bb.size; omega
          replace sP : hP < v3.heap.size := by have := bb.size; omega
          replace hL : L ≤ v3.heap.size := by omega
          clear ehT hs bb
          refine hK.out _ _ trivial ?_
          clear hK KO
          try simp only [Act.put, List.setIfInBounds_toArray, List.set_cons_zero, List.set_cons_succ]
          refine held_one 6 (fuel := 2) rfl (by kernel_rfl) ?_
          simp only [List.drop_succ_cons, List.drop_zero]
          refine wpOne_cons (fun KO hK => ?_)
          refine step_make rfl _ _ rfl n (by omega) (by rfl) (by rfl) ?_
          have bb := below_new v3 (.cells (madeCells #[.int .i64 0] n) 3)
          have RX := Ow.zeros v3 n (by omega)
          replace E := E.trans (bb.mono hL)
          replace RC := RC.below bb (Nat.le_refl _)
          replace RP := RP.below bb (Nat.le_refl _)
          replace RT := RT.below bb (Nat.le_refl _)
          have hs : v3.heap.size < (v3.alloc (.cells (madeCells #[.int .i64 0] n) 3)).heap.size := by simp
          generalize v3.alloc (.cells (madeCells #[.int .i64 0] n) 3) = v4 at *
          obtain ⟨hX, ehX⟩ : ∃ h, h = v3.heap.size := ⟨_, rfl⟩
          rw [← ehX] at RX hs ⊢
          have lX : L ≤ hX := by omega
          have dCX : hC ≠ hX := by omega
          have dPX : hP ≠ hX := by omega
          have dTX : hT ≠ hX := by omega
          have sX : hX < v4.heap.size := hs
          replace sC : hC < v4.heap.size := by have := bb.size; omega
          replace sP : hP < v4.heap.size := by have := bb.size; omega
          replace sT : hT < v4.heap.size := by have := bb.size; omega
          replace hL : L ≤ v4.heap.size := by omega
          clear ehX hs bb
          refine hK.out _ _ trivial ?_
          clear hK KO
          try simp only [Act.put, List.setIfInBounds_toArray, List.set_cons_zero, List.set_cons_succ]
          refine held_takes (by kernel_rfl) (fun _ _ _ _ _ h => h) [10] _ 1 _ _ _ rfl (by kernel_rfl) (by kernel_rfl) trivial ?_
          simp only [pick, List.drop_succ_cons, List.drop_zero]
          iterate 1 (refine wpTakes_cons (v := ?_) (Or.inl ⟨by rfl, ?_⟩) ?_; rotate_left; (intro w hSw; go_simp <;> with_reducible rfl); (try simp only [Act.put, List.setIfInBounds_toArray, List.set_cons_zero, List.set_cons_succ]))
          refine wpTakes_nil ?_
          have r0 : v4.cell? ⟨hP, 0, none⟩ = some (.int .i64 0) := blk_cell RP 0
          have f0 := blk_frozen RP 0
          have r1 : v4.cell? ⟨hP, 1, none⟩ = some (.slice none 0 0) := blk_cell RP 1
          have f1 := blk_frozen RP 1
          have r2 : v4.cell? ⟨hP, 2, none⟩ = some (.slice none 0 0) := blk_cell RP 2
          have f2 := blk_frozen RP 2
          have r3 : v4.cell? ⟨hP, 3, none⟩ = some (.slice none 0 0) := blk_cell RP 3
          have f3 := blk_frozen RP 3
          have RG := Ring4.made (N := (k : Int)) RP RT RX RC (by omega) ⟨lP, lT, lX, lC⟩
          have BG := put4_below E lP (k : Int) (.slice (some ⟨hT, 0, none⟩) n n) (.slice (some ⟨hX, 0, none⟩) n n) (.slice (some ⟨hC, 0, none⟩) n n)
          unfold put4 at RG BG
          refine held_one 12 (fuel := 0) rfl (by kernel_rfl) ?_
          simp only [List.drop_succ_cons, List.drop_zero]
          refine wpOne_cons (fun KO hK => ?_)
          go_simp
          refine hK.out _ _ trivial ?_
          clear hK KO
          try simp only [Act.put, List.setIfInBounds_toArray, List.set_cons_zero, List.set_cons_succ]
          refine wpAnyH_done (by kernel_rfl) ?_ _
          refine NoPanic.normal ?_
          clear r0 r1 r2 r3 f0 f1 f2 f3 RP RT RX RC E
          go_wp2_with fail
          go_meet
          exact ⟨hP, hT, hX, hC, rfl, RG, BG⟩
        · simp only [List.drop_succ_cons, List.drop_zero]
          refine wpOne_cons (fun KO hK => ?_)
          refine step_make rfl _ _ rfl n (by omega) (by rfl) (by rfl) ?_
          have bb := below_new v2 (.cells (madeCells #[.int .i64 0] n) 3)
          have RX := Ow.zeros v2 n (by omega)
          replace E := E.trans (bb.mono hL)
          replace RC := RC.below bb (Nat.le_refl _)
          replace RP := RP.below bb (Nat.le_refl _)
          have hs : v2.heap.size < (v2.alloc (.cells (madeCells #[.int .i64 0] n) 3)).heap.size := by simp
          generalize v2.alloc (.cells (madeCells #[.int .i64 0] n) 3) = v3 at *
          obtain ⟨hX, ehX⟩ : ∃ h, h = v2.heap.size := ⟨_, rfl⟩
          rw [← ehX] at RX hs ⊢
          have lX : L ≤ hX := by omega
          have dCX : hC ≠ hX := by omega
          have dPX : hP ≠ hX := by omega
          have sX : hX < v3.heap.size := hs
          replace sC : hC < v3.heap.size := by have := bb.size; omega
          replace sP : hP < v3.heap.size := by have := bb.size; omega
          replace hL : L ≤ v3.heap.size := by omega
          clear ehX hs bb
          refine hK.out _ _ trivial ?_
          clear hK KO
          try simp only [Act.put, List.setIfInBounds_toArray, List.set_cons_zero, List.set_cons_succ]
          refine held_one 3 (fuel := 2) rfl (by kernel_rfl) ?_
          simp only [List.drop_succ_cons, List.drop_zero]
          refine wpOne_cons (fun KO hK => ?_)
          refine step_make rfl _ _ rfl n (by omega) (by rfl) (by rfl) ?_
          have bb := below_new v3 (.cells (madeCells #[.int .i64 0] n) 3)
          have RT := Ow.zeros v3 n (by omega)
          replace E := E.trans (bb.mono hL)
          replace RC := RC.below bb (Nat.le_refl _)
          replace RP := RP.below bb (Nat.le_refl _)
          replace RX := RX.below bb (Nat.le_refl _)
          have hs : v3.heap.size < (v3.alloc (.cells (madeCells #[.int .i64 0] n) 3)).heap.size := by simp
          generalize v3.alloc (.cells (madeCells #[.int .i64 0] n) 3) = v4 at *
          obtain ⟨hT, ehT⟩ : ∃ h, h = v3.heap.size := ⟨_, rfl⟩
          rw [← ehT] at RT hs ⊢
          have lT : L ≤ hT := by omega
          have dCT : hC ≠ hT := by omega
          have dPT : hP ≠ hT := by omega
          have dXT : hX ≠ hT := by omega
          have sT : hT < v4.heap.size := hs
          replace sC : hC < v4.heap.size := by have := bb.size; omega
          replace sP : hP < v4.heap.size := by have := bb.size; omega
          replace sX : hX < v4.heap.size := by have := bb.size; omega
          replace hL : L ≤ v4.heap.size := by omega
          clear ehT hs bb
          refine hK.out _ _ trivial ?_
          clear hK KO
          try simp only [Act.put, List.setIfInBounds_toArray, List.set_cons_zero, List.set_cons_succ]
          refine held_takes (by kernel_rfl) (fun _ _ _ _ _ h => h) [10] _ 1 _ _ _ rfl (by kernel_rfl) (by kernel_rfl) trivial ?_
          simp only [pick, List.drop_succ_cons, List.drop_zero]
          iterate 1 (refine wpTakes_cons (v := ?_) (Or.inl ⟨by rfl, ?_⟩) ?_; rotate_left; (intro w hSw; go_simp <;> with_reducible rfl); (try simp only [Act.put, List.setIfInBounds_toArray, List.set_cons_zero, List.set_cons_succ]))
          refine wpTakes_nil ?_
          have r0 : v4.cell? ⟨hP, 0, none⟩ = some (.int .i64 0) := blk_cell RP 0
          have f0 := blk_frozen RP 0
          have r1 : v4.cell? ⟨hP, 1, none⟩ = some (.slice none 0 0) := blk_cell RP 1
          have f1 := blk_frozen RP 1
          have r2 : v4.cell? ⟨hP, 2, none⟩ = some (.slice none 0 0) := blk_cell RP 2
          have f2 := blk_frozen RP 2
          have r3 : v4.cell? ⟨hP, 3, none⟩ = some (.slice none 0 0) := blk_cell RP 3
          have f3 := blk_frozen RP 3
          have RG := Ring4.made (N := (k : Int)) RP RT RX RC (by omega) ⟨lP, lT, lX, lC⟩
          have BG := put4_below E lP (k : Int) (.slice (some ⟨hT, 0, none⟩) n n) (.slice (some ⟨hX, 0, none⟩) n n) (.slice (some ⟨hC, 0, none⟩) n n)
          unfold put4 at RG BG
          refine held_one 12 (fuel := 0) rfl (by kernel_rfl) ?_
          simp only [List.drop_succ_cons, List.drop_zero]
          refine wpOne_cons (fun KO hK => ?_)
          go_simp
          refine hK.out _ _ trivial ?_
          clear hK KO
          try simp only [Act.put, List.setIfInBounds_toArray, List.set_cons_zero, List.set_cons_succ]
          refine wpAnyH_done (by kernel_rfl) ?_ _
          refine NoPanic.normal ?_
          clear r0 r1 r2 r3 f0 f1 f2 f3 RP RT RX RC E
          go_wp2_with fail
          go_meet
          exact ⟨hP, hT, hX, hC, rfl, RG, BG⟩
    · simp only [List.drop_succ_cons, List.drop_zero]
      refine wpOne_cons (fun KO hK => ?_)
      go_simp
      have bb := below_new v0 (.cells #[.int .i64 0, .slice none 0 0, .slice none 0 0, .slice none 0 0] 25)
      have RP : Box (v0.alloc (.cells #[.int .i64 0, .slice none 0 0, .slice none 0 0, .slice none 0 0] 25)) v0.heap.size 0 (.slice none 0 0) (.slice none 0 0) (.slice none 0 0) := heap_alloc_new _ _
      replace E := E.trans (bb.mono hL)
      have hs : v0.heap.size < (v0.alloc (.cells #[.int .i64 0, .slice none 0 0, .slice none 0 0, .slice none 0 0] 25)).heap.size := by simp
      generalize v0.alloc (.cells #[.int .i64 0, .slice none 0 0, .slice none 0 0, .slice none 0 0] 25) = v1 at *
      obtain ⟨hP, ehP⟩ : ∃ h, h = v0.heap.size := ⟨_, rfl⟩
      rw [← ehP] at RP hs ⊢
      have lP : L ≤ hP := by omega
      have sP : hP < v1.heap.size := hs
      replace hL : L ≤ v1.heap.size := by omega
      clear ehP hs bb
      refine hK.out _ _ trivial ?_
      clear hK KO
      try simp only [Act.put, List.setIfInBounds_toArray, List.set_cons_zero, List.set_cons_succ]
      refine held_three 3 6 9 (fuel := 4) rfl (by kernel_rfl) ?_ ?_ ?_
      · simp only [List.drop_succ_cons, List.drop_zero]
        refine wpOne_cons (fun KO hK => ?_)
        refine step_make rfl _ _ rfl n (by omega) (by rfl) (by rfl) ?_
        have bb := below_new v1 (.cells (madeCells #[.int .i64 0] n) 3)
        have RT := Ow.zeros v1 n (by omega)
        replace E := E.trans (bb.mono hL)
        replace RP := RP.below bb (Nat.le_refl _)
        have hs : v1.heap.size < (v1.alloc (.cells (madeCells #[.int .i64 0] n) 3)).heap.size := by simp
        generalize v1.alloc (.cells (madeCells #[.int .i64 0] n) 3) = v2 at *
        obtain ⟨hT, ehT⟩ : ∃ h, h = v1.heap.size := ⟨_, rfl⟩
        rw [← ehT] at RT hs ⊢
        have lT : L ≤ hT := by omega
        have dPT : hP ≠ hT := by omega
        have sT : hT < v2.heap.size := hs
        replace sP : hP < v2.heap.size := by have := bb.size; omega
        replace hL : L ≤ v2.heap.size := by omega
        clear ehT hs bb
        refine hK.out _ _ trivial ?_
        clear hK KO
        try simp only [Act.put, List.setIfInBounds_toArray, List.set_cons_zero, List.set_cons_succ]
        refine held_two 6 9 (fuel := 3) rfl (by kernel_rfl) ?_ ?_
        · simp only [List.drop_succ_cons, List.drop_zero]
          refine wpOne_cons (fun KO hK => ?_)
          refine step_make rfl _ _ rfl n (by omega) (by rfl) (by rfl) ?_
          have bb := below_new v2 (.cells (madeCells #[.int .i64 0] n) 3)
          have RX := Ow.zeros v2 n (by omega)
          replace E := E.trans (bb.mono hL)
          replace RP := RP.below bb (Nat.le_refl _)
          replace RT := RT.below bb (Nat.le_refl _)
          have hs : v2.heap.size < (v2.alloc (.cells (madeCells #[.int .i64 0] n) 3)).heap.size := by simp
          generalize v2.alloc (.cells (madeCells #[.int .i64 0] n) 3) = v3 at *
          obtain ⟨hX, ehX⟩ : ∃ h, h = v2.heap.size := ⟨_, rfl⟩
          rw [← ehX] at RX hs ⊢
          have lX : L ≤ hX := by omega
          have dPX : hP ≠ hX := by omega
          have dTX : hT ≠ hX := by omega
          have sX : hX < v3.heap.size := hs
          replace sP : hP < v3.heap.size := by have := bb.size; omega
          replace sT : hT < v3.heap.size := by have := bb.size; omega
          replace hL : L ≤ v3.heap.size := by omega
          clear ehX hs bb
          refine hK.out _ _ trivial ?_
          clear hK KO
          try simp only [Act.put, List.setIfInBounds_toArray, List.set_cons_zero, List.set_cons_succ]
          refine held_one 9 (fuel := 2) rfl (by kernel_rfl) ?_
          simp only [List.drop_succ_cons, List.drop_zero]
          refine wpOne_cons (fun KO hK => ?_)
          refine step_make rfl _ _ rfl n (by omega) (by rfl) (by rfl) ?_
          have bb := below_new v3 (.cells (madeCells #[.int .i64 0] n) 3)
          have RC := Ow.zeros v3 n (by omega)
          replace E := E.trans (bb.mono hL)
          replace RP := RP.below bb (Nat.le_refl _)
          replace RT := RT.below bb (Nat.le_refl _)
          replace RX := RX.below bb (Nat.le_refl _)
          have hs : v3.heap.size < (v3.alloc (.cells (madeCells #[.int .i64 0] n) 3)).heap.size := by simp
          generalize v3.alloc (.cells (madeCells #[.int .i64 0] n) 3) = v4 at *
          obtain ⟨hC, ehC⟩ : ∃ h, h = v3.heap.size := ⟨_, rfl⟩
          rw [← ehC] at RC hs ⊢
          have lC : L ≤ hC := by omega
          have dPC : hP ≠ hC := by omega
          have dTC : hT ≠ hC := by omega
          have dXC : hX ≠ hC := by omega
          have sC : hC < v4.heap.size := hs
          replace sP : hP < v4.heap.size := by have := bb.size; omega
          replace sT : hT < v4.heap.size := by have := bb.size; omega
          replace sX : hX < v4.heap.size := by have := bb.size; omega
          replace hL : L ≤ v4.heap.size := by omega
          clear ehC hs bb
          refine hK.out _ _ trivial ?_
          clear hK KO
          try simp only [Act.put, List.setIfInBounds_toArray, List.set_cons_zero, List.set_cons_succ]
          refine held_takes (by kernel_rfl) (fun _ _ _ _ _ h => h) [10] _ 1 _ _ _ rfl (by kernel_rfl) (by kernel_rfl) trivial ?_
          simp only [pick, List.drop_succ_cons, List.drop_zero]
          iterate 1 (refine wpTakes_cons (v := ?_) (Or.inl ⟨by rfl, ?_⟩) ?_; rotate_left; (intro w hSw; go_simp <;> with_reducible rfl); (try simp only [Act.put, List.setIfInBounds_toArray, List.set_cons_zero, List.set_cons_succ]))
          refine wpTakes_nil ?_
          have r0 : v4.cell? ⟨hP, 0, none⟩ = some (.int .i64 0) := blk_cell RP 0
          have f0 := blk_frozen RP 0
          have r1 : v4.cell? ⟨hP, 1, none⟩ = some (.slice none 0 0) := blk_cell RP 1
          have f1 := blk_frozen RP 1
          have r2 : v4.cell? ⟨hP, 2, none⟩ = some (.slice none 0 0) := blk_cell RP 2
          have f2 := blk_frozen RP 2
          have r3 : v4.cell? ⟨hP, 3, none⟩ = some (.slice none 0 0) := blk_cell RP 3
          have f3 := blk_frozen RP 3
          have RG := Ring4.made (N := (k : Int)) RP RT RX RC (by omega) ⟨lP, lT, lX, lC⟩
          have BG := put4_below E lP (k : Int) (.slice (some ⟨hT, 0, none⟩) n n) (.slice (some ⟨hX, 0, none⟩) n n) (.slice (some ⟨hC, 0, none⟩) n n)
          unfold put4 at RG BG
          refine held_one 12 (fuel := 0) rfl (by kernel_rfl) ?_
          simp only [List.drop_succ_cons, List.drop_zero]
          refine wpOne_cons (fun KO hK => ?_)
          go_simp
          refine hK.out _ _ trivial ?_
          clear hK KO
          try simp only [Act.put, List.setIfInBounds_toArray, List.set_cons_zero, List.set_cons_succ]
          refine wpAnyH_done (by kernel_rfl) ?_ _
          refine NoPanic.normal ?_
          clear r0 r1 r2 r3 f0 f1 f2 f3 RP RT RX RC E
          go_wp2_with fail
          go_meet
          exact ⟨hP, hT, hX, hC, rfl, RG, BG⟩
        · simp only [List.drop_succ_cons, List.drop_zero]
          refine wpOne_cons (fun KO hK => ?_)
          refine step_make rfl _ _ rfl n (by omega) (by rfl) (by rfl) ?_
          have bb := below_new v2 (.cells (madeCells #[.int .i64 0] n) 3)
          have RC := Ow.zeros v2 n (by omega)
          replace E := E.trans (bb.mono hL)
          replace RP := RP.below bb (Nat.le_refl _)
          replace RT := RT.below bb (Nat.le_refl _)
          have hs : v2.heap.size < (v2.alloc (.cells (madeCells #[.int .i64 0] n) 3)).heap.size := by simp
          generalize v2.alloc (.cells (madeCells #[.int .i64 0] n) 3) = v3 at *
          obtain ⟨hC, ehC⟩ : ∃ h, h = v2.heap.size := ⟨_, rfl⟩
          rw [← ehC] at RC hs ⊢
          have lC : L ≤ hC := by omega
          have dPC : hP ≠ hC := by omega
          have dTC : hT ≠ hC := by omega
          have sC : hC < v3.heap.size := hs
          replace sP : hP < v3.heap.size := by have := bb.size; omega
          replace sT : hT < v3.heap.size := by have := bb.size; omega
          replace hL : L ≤ v3.heap.size := by omega
          clear ehC hs bb
          refine hK.out _ _ trivial ?_
          clear hK KO
          try simp only [Act.put, List.setIfInBounds_toArray, List.set_cons_zero, List.set_cons_succ]
          refine held_one 6 (fuel := 2) rfl (by kernel_rfl) ?_
          simp only [List.drop_succ_cons, List.drop_zero]
          refine wpOne_cons (fun KO hK => ?_)
          refine step_make rfl _ _ rfl n (by omega) (by rfl) (by rfl) ?_
          have bb := below_new v3 (.cells (madeCells #[.int .i64 0] n) 3)
          have RX := Ow.zeros v3 n (by omega)
          replace E := E.trans (bb.mono hL)
          replace RP := RP.below bb (Nat.le_refl _)
          replace RT := RT.below bb (Nat.le_refl _)
          replace RC := RC.below bb (Nat.le_refl _)
          have hs : v3.heap.size < (v3.alloc (.cells (madeCells #[.int .i64 0] n) 3)).heap.size := by simp
          generalize v3.alloc (.cells (madeCells #[.int .i64 0] n) 3) = v4 at *
          obtain ⟨hX, ehX⟩ : ∃ h, h = v3.heap.size := ⟨_, rfl⟩
          rw [← ehX] at RX hs ⊢
          have lX : L ≤ hX := by omega
          have dPX : hP ≠ hX := by omega
          have dTX : hT ≠ hX := by omega
          have dCX : hC ≠ hX := by omega
          have sX : hX < v4.heap.size := hs
          replace sP : hP < v4.heap.size := by have := bb.size; omega
          replace sT : hT < v4.heap.size := by have := bb.size; omega
          replace sC : hC < v4.heap.size := by have := bb.size; omega
          replace hL : L ≤ v4.heap.size := by omega
          clear ehX hs bb
          refine hK.out _ _ trivial ?_
          clear hK KO
          try simp only [Act.put, List.setIfInBounds_toArray, List.set_cons_zero, List.set_cons_succ]
          refine held_takes (by kernel_rfl) (fun _ _ _ _ _ h => h) [10] _ 1 _ _ _ rfl (by kernel_rfl) (by kernel_rfl) trivial ?_
          simp only [pick, List.drop_succ_cons, List.drop_zero]
          iterate 1 (refine wpTakes_cons (v := ?_) (Or.inl ⟨by rfl, ?_⟩) ?_; rotate_left; (intro w hSw; go_simp <;> with_reducible rfl); (try simp only [Act.put, List.setIfInBounds_toArray, List.set_cons_zero, List.set_cons_succ]))
          refine wpTakes_nil ?_
          have r0 : v4.cell? ⟨hP, 0, none⟩ = some (.int .i64 0) := blk_cell RP 0
          have f0 := blk_frozen RP 0
          have r1 : v4.cell? ⟨hP, 1, none⟩ = some (.slice none 0 0) := blk_cell RP 1
          have f1 := blk_frozen RP 1
          have r2 : v4.cell? ⟨hP, 2, none⟩ = some (.slice none 0 0) := blk_cell RP 2
          have f2 := blk_frozen RP 2
          have r3 : v4.cell? ⟨hP, 3, none⟩ = some (.slice none 0 0) := blk_cell RP 3
          have f3 := blk_frozen RP 3
          have RG := Ring4.made (N := (k : Int)) RP RT RX RC (by omega) ⟨lP, lT, lX, lC⟩
          have BG := put4_below E lP (k : Int) (.slice (some ⟨hT, 0, none⟩) n n) (.slice (some ⟨hX, 0, none⟩) n n) (.slice (some ⟨hC, 0, none⟩) n n)
          unfold put4 at RG BG
          refine held_one 12 (fuel := 0) rfl (by kernel_rfl) ?_
          simp only [List.drop_succ_cons, List.drop_zero]
          refine wpOne_cons (fun KO hK => ?_)
          go_simp
          refine hK.out _ _ trivial ?_
          clear hK KO
          try simp only [Act.put, List.setIfInBounds_toArray, List.set_cons_zero, List.set_cons_succ]
          refine wpAnyH_done (by kernel_rfl) ?_ _
          refine NoPanic.normal ?_
          clear r0 r1 r2 r3 f0 f1 f2 f3 RP RT RX RC E
          go_wp2_with fail
          go_meet
          exact ⟨hP, hT, hX, hC, rfl, RG, BG⟩
      · simp only [List.drop_succ_cons, List.drop_zero]
        refine wpOne_cons (fun KO hK => ?_)
        refine step_make rfl _ _ rfl n (by omega) (by rfl) (by rfl) ?_
        have bb := below_new v1 (.cells (madeCells #[.int .i64 0] n) 3)
        have RX := Ow.zeros v1 n (by omega)
        replace E := E.trans (bb.mono hL)
        replace RP := RP.below bb (Nat.le_refl _)
        have hs : v1.heap.size < (v1.alloc (.cells (madeCells #[.int .i64 0] n) 3)).heap.size := by simp
        generalize v1.alloc (.cells (madeCells #[.int .i64 0] n) 3) = v2 at *
        obtain ⟨hX, ehX⟩ : ∃ h, h = v1.heap.size := ⟨_, rfl⟩
        rw [← ehX] at RX hs ⊢
        have lX : L ≤ hX := by omega
        have dPX : hP ≠ hX := by omega
        have sX : hX < v2.heap.size := hs
        replace sP : hP < v2.heap.size := by have := bb.size; omega
        replace hL : L ≤ v2.heap.size := by omega
        clear ehX hs bb
        refine hK.out _ _ trivial ?_
        clear hK KO
        try simp only [Act.put, List.setIfInBounds_toArray, List.set_cons_zero, List.set_cons_succ]
        refine held_two 3 9 (fuel := 3) rfl (by kernel_rfl) ?_ ?_
        · simp only [List.drop_succ_cons, List.drop_zero]
          refine wpOne_cons (fun KO hK => ?_)
          refine step_make rfl _ _ rfl n (by omega) (by rfl) (by rfl) ?_
          have bb := below_new v2 (.cells (madeCells #[.int .i64 0] n) 3)
          have RT := Ow.zeros v2 n (by omega)
          replace E := E.trans (bb.mono hL)
          replace RP := RP.below bb (Nat.le_refl _)
          replace RX := RX.below bb (Nat.le_refl _)
          have hs : v2.heap.size < (v2.alloc (.cells (madeCells #[.int .i64 0] n) 3)).heap.size := by simp
          generalize v2.alloc (.cells (madeCells #[.int .i64 0] n) 3) = v3 at *
          obtain ⟨hT, ehT⟩ : ∃ h, h = v2.heap.size := ⟨_, rfl⟩
          rw [← ehT] at RT hs ⊢
          have lT : L ≤ hT := by omega
          have dPT : hP ≠ hT := by omega
          have dXT : hX ≠ hT := by omega
          have sT : hT < v3.heap.size := hs
          replace sP : hP < v3.heap.size := by have := bb.size; omega
          replace sX : hX < v3.heap.size := by have := bb.size; omega
          replace hL : L ≤ v3.heap.size := by omega
          clear ehT hs bb
          refine hK.out _ _ trivial ?_
          clear hK KO
          try simp only [Act.put, List.setIfInBounds_toArray, List.set_cons_zero, List.set_cons_succ]
          refine held_one 9 (fuel := 2) rfl (by kernel_rfl) ?_
          simp only [List.drop_succ_cons, List.drop_zero]
          refine wpOne_cons (fun KO hK => ?_)
          refine step_make rfl _ _ rfl n (by omega) (by rfl) (by rfl) ?_
          have bb := below_new v3 (.cells (madeCells #[.int .i64 0] n) 3)
          have RC := Ow.zeros v3 n (by omega)
          replace E := E.trans (bb.mono hL)
          replace RP := RP.below bb (Nat.le_refl _)
          replace RX := RX.below bb (Nat.le_refl _)
          replace RT := RT.below bb (Nat.le_refl _)
          have hs : v3.heap.size < (v3.alloc (.cells (madeCells #[.int .i64 0] n) 3)).heap.size := by simp
          generalize v3.alloc (.cells (madeCells #[.int .i64 0] n) 3) = v4 at *
          obtain ⟨hC, ehC⟩ : ∃ h, h = v3.heap.size := ⟨_, rfl⟩
          rw [← ehC] at RC hs ⊢
          have lC : L ≤ hC := by omega
          have dPC : hP ≠ hC := by omega
          have dXC : hX ≠ hC := by omega
          have dTC : hT ≠ hC := by omega
          have sC : hC < v4.heap.size := hs
          replace sP : hP < v4.heap.size := by have := bb.size; omega
          replace sX : hX < v4.heap.size := by have := bb.size; omega
          replace sT : hT < v4.heap.size := by have := bb.size; omega
          replace hL : L ≤ v4.heap.size := by omega
          clear ehC hs bb
          refine hK.out _ _ trivial ?_
          clear hK KO
          try simp only [Act.put, List.setIfInBounds_toArray, List.set_cons_zero, List.set_cons_succ]
          refine held_takes (by kernel_rfl) (fun _ _ _ _ _ h => h) [10] _ 1 _ _ _ rfl (by kernel_rfl) (by kernel_rfl) trivial ?_
          simp only [pick, List.drop_succ_cons, List.drop_zero]
          iterate 1 (refine wpTakes_cons (v := ?_) (Or.inl ⟨by rfl, ?_⟩) ?_; rotate_left; (intro w hSw; go_simp <;> with_reducible rfl); (try simp only [Act.put, List.setIfInBounds_toArray, List.set_cons_zero, List.set_cons_succ]))
          refine wpTakes_nil ?_
          have r0 : v4.cell? ⟨hP, 0, none⟩ = some (.int .i64 0) := blk_cell RP 0
          have f0 := blk_frozen RP 0
          have r1 : v4.cell? ⟨hP, 1, none⟩ = some (.slice none 0 0) := blk_cell RP 1
          have f1 := blk_frozen RP 1
          have r2 : v4.cell? ⟨hP, 2, none⟩ = some (.slice none 0 0) := blk_cell RP 2
          have f2 := blk_frozen RP 2
          have r3 : v4.cell? ⟨hP, 3, none⟩ = some (.slice none 0 0) := blk_cell RP 3
          have f3 := blk_frozen RP 3
          have RG := Ring4.made (N := (k : Int)) RP RT RX RC (by omega) ⟨lP, lT, lX, lC⟩
          have BG := put4_below E lP (k : Int) (.slice (some ⟨hT, 0, none⟩) n n) (.slice (some ⟨hX, 0, none⟩) n n) (.slice (some ⟨hC, 0, none⟩) n n)
          unfold put4 at RG BG
          refine held_one 12 (fuel := 0) rfl (by kernel_rfl) ?_
          simp only [List.drop_succ_cons, List.drop_zero]
          refine wpOne_cons (fun KO hK => ?_)
          go_simp
          refine hK.out _ _ trivial ?_
          clear hK KO
          try simp only [Act.put, List.setIfInBounds_toArray, List.set_cons_zero, List.set_cons_succ]
          refine wpAnyH_done (by kernel_rfl) ?_ _
          refine NoPanic.normal ?_
          clear r0 r1 r2 r3 f0 f1 f2 f3 RP RT RX RC E
          go_wp2_with fail
          go_meet
          exact ⟨hP, hT, hX, hC, rfl, RG, BG⟩
        · simp only [List.drop_succ_cons, List.drop_zero]
          refine wpOne_cons (fun KO hK => ?_)
          refine step_make rfl _ _ rfl n (by omega) (by rfl) (by rfl) ?_
          have bb := below_new v2 (.cells (madeCells #[.int .i64 0] n) 3)
          have RC := Ow.zeros v2 n (by omega)
          replace E := E.trans (bb.mono hL)
          replace RP := RP.below bb (Nat.le_refl _)
          replace RX := RX.below bb (Nat.le_refl _)
          have hs : v2.heap.size < (v2.alloc (.cells (madeCells #[.int .i64 0] n) 3)).heap.size := by simp
          generalize v2.alloc (.cells (madeCells #[.int .i64 0] n) 3) = v3 at *
          obtain ⟨hC, ehC⟩ : ∃ h, h = v2.heap.size := ⟨_, rfl⟩
          rw [← ehC] at RC hs ⊢
          have lC : L ≤ hC := by omega
          have dPC : hP ≠ hC := by omega
          have dXC : hX ≠ hC := by omega
          have sC : hC < v3.heap.size := hs
          replace sP : hP < v3.heap.size := by have := bb.size; omega
          replace sX : hX < v3.heap.size := by have := bb.size; omega
          replace hL : L ≤ v3.heap.size := by omega
          clear ehC hs bb
          refine hK.out _ _ trivial ?_
          clear hK KO
          try simp only [Act.put, List.setIfInBounds_toArray, List.set_cons_zero, List.set_cons_succ]
          refine held_one 3 (fuel := 2) rfl (by kernel_rfl) ?_
          simp only [List.drop_succ_cons, List.drop_zero]
          refine wpOne_cons (fun KO hK => ?_)
          refine step_make rfl _ _ rfl n (by omega) (by rfl) (by rfl) ?_
          have bb := below_new v3 (.cells (madeCells #[.int .i64 0] n) 3)
          have RT := Ow.zeros v3 n (by omega)
          replace E := E.trans (bb.mono hL)
          replace RP := RP.below bb (Nat.le_refl _)
          replace RX := RX.below bb (Nat.le_refl _)
          replace RC := RC.below bb (Nat.le_refl _)
          have hs : v3.heap.size < (v3.alloc (.cells (madeCells #[.int .i64 0] n) 3)).heap.size := by simp
          generalize v3.alloc (.cells (madeCells #[.int .i64 0] n) 3) = v4 at *
          obtain ⟨hT, ehT⟩ : ∃ h, h = v3.heap.size := ⟨_, rfl⟩
          rw [← ehT] at RT hs ⊢
          have lT : L ≤ hT := by omega
          have dPT : hP ≠ hT := by omega
          have dXT : hX ≠ hT := by omega
          have dCT : hC ≠ hT := by omega
          have sT : hT < v4.heap.size := hs
          replace sP : hP < v4.heap.size := by have := bb.size; omega
          replace sX : hX < v4.heap.size := by have := bb.size; omega
          replace sC : hC < v4.heap.size := by have := bb.size; omega
          replace hL : L ≤ v4.heap.size := by omega
          clear ehT hs bb
          refine hK.out _ _ trivial ?_
          clear hK KO
          try simp only [Act.put, List.setIfInBounds_toArray, List.set_cons_zero, List.set_cons_succ]
          refine held_takes (by kernel_rfl) (fun _ _ _ _ _ h => h) [10] _ 1 _ _ _ rfl (by kernel_rfl) (by kernel_rfl) trivial ?_
          simp only [pick, List.drop_succ_cons, List.drop_zero]
          iterate 1 (refine wpTakes_cons (v := ?_) (Or.inl ⟨by rfl, ?_⟩) ?_; rotate_left; (intro w hSw; go_simp <;> with_reducible rfl); (try simp only [Act.put, List.setIfInBounds_toArray, List.set_cons_zero, List.set_cons_succ]))
          refine wpTakes_nil ?_
          have r0 : v4.cell? ⟨hP, 0, none⟩ = some (.int .i64 0) := blk_cell RP 0
          have f0 := blk_frozen RP 0
          have r1 : v4.cell? ⟨hP, 1, none⟩ = some (.slice none 0 0) := blk_cell RP 1
          have f1 := blk_frozen RP 1
          have r2 : v4.cell? ⟨hP, 2, none⟩ = some (.slice none 0 0) := blk_cell RP 2
          have f2 := blk_frozen RP 2
          have r3 : v4.cell? ⟨hP, 3, none⟩ = some (.slice none 0 0) := blk_cell RP 3
          have f3 := blk_frozen RP 3
          have RG := Ring4.made (N := (k : Int)) RP RT RX RC (by omega) ⟨lP, lT, lX, lC⟩
          have BG := put4_below E lP (k : Int) (.slice (some ⟨hT, 0, none⟩) n n) (.slice (some ⟨hX, 0, none⟩) n n) (.slice (some ⟨hC, 0, none⟩) n n)
          unfold put4 at RG BG
          refine held_one 12 (fuel := 0) rfl (by kernel_rfl) ?_
          simp only [List.drop_succ_cons, List.drop_zero]
          refine wpOne_cons (fun KO hK => ?_)
          go_simp
          refine hK.out _ _ trivial ?_
          clear hK KO
          try simp only [Act.put, List.setIfInBounds_toArray, List.set_cons_zero, List.set_cons_succ]
          refine wpAnyH_done (by kernel_rfl) ?_ _
          refine NoPanic.normal ?_
          clear r0 r1 r2 r3 f0 f1 f2 f3 RP RT RX RC E
          go_wp2_with fail
          go_meet
          exact ⟨hP, hT, hX, hC, rfl, RG, BG⟩
      · simp only [List.drop_succ_cons, List.drop_zero]
        refine wpOne_cons (fun KO hK => ?_)
        refine step_make rfl _ _ rfl n (by omega) (by rfl) (by rfl) ?_
        have bb := below_new v1 (.cells (madeCells #[.int .i64 0] n) 3)
        have RC := Ow.zeros v1 n (by omega)
        replace E := E.trans (bb.mono hL)
        replace RP := RP.below bb (Nat.le_refl _)
        have hs : v1.heap.size < (v1.alloc (.cells (madeCells #[.int .i64 0] n) 3)).heap.size := by simp
        generalize v1.alloc (.cells (madeCells #[.int .i64 0] n) 3) = v2 at *
        obtain ⟨hC, ehC⟩ : ∃ h, h = v1.heap.size := ⟨_, rfl⟩
        rw [← ehC] at RC hs ⊢
        have lC : L ≤ hC := by omega
        have dPC : hP ≠ hC := by omega
        have sC : hC < v2.heap.size := hs
        replace sP : hP < v2.heap.size := by have := bb.size; omega
        replace hL : L ≤ v2.heap.size := by omega
        clear ehC hs bb
        refine hK.out _ _ trivial ?_
        clear hK KO
        try simp only [Act.put, List.setIfInBounds_toArray, List.set_cons_zero, List.set_cons_succ]
        refine held_two 3 6 (fuel := 3) rfl (by kernel_rfl) ?_ ?_
        · simp only [List.drop_succ_cons, List.drop_zero]
          refine wpOne_cons (fun KO hK => ?_)
          refine step_make rfl _ _ rfl n (by omega) (by rfl) (by rfl) ?_
          have bb := below_new v2 (.cells (madeCells #[.int .i64 0] n) 3)
          have RT := Ow.zeros v2 n (by omega)
          replace E := E.trans (bb.mono hL)
          replace RP := RP.below bb (Nat.le_refl _)
          replace RC := RC.below bb (Nat.le_refl _)
          have hs : v2.heap.size < (v2.alloc (.cells (madeCells #[.int .i64 0] n) 3)).heap.size := by simp
          generalize v2.alloc (.cells (madeCells #[.int .i64 0] n) 3) = v3 at *
          obtain ⟨hT, ehT⟩ : ∃ h, h = v2.heap.size := ⟨_, rfl⟩
          rw [← ehT] at RT hs ⊢
          have lT : L ≤ hT := by omega
          have dPT : hP ≠ hT := by omega
          have dCT : hC ≠ hT := by omega
          have sT : hT < v3.heap.size := hs
          replace sP : hP < v3.heap.size := by have := bb.size; omega
          replace sC : hC < v3.heap.size := by have := bb.size; omega
          replace hL : L ≤ v3.heap.size := by omega
          clear ehT hs bb
          refine hK.out _ _ trivial ?_
          clear hK KO
          try simp only [Act.put, List.setIfInBounds_toArray, List.set_cons_zero, List.set_cons_succ]
          refine held_one 6 (fuel := 2) rfl (by kernel_rfl) ?_
          simp only [List.drop_succ_cons, List.drop_zero]
          refine wpOne_cons (fun KO hK => ?_)
          refine step_make rfl _ _ rfl n (by omega) (by rfl) (by rfl) ?_
          have bb := below_new v3 (.cells (madeCells #[.int .i64 0] n) 3)
          have RX := Ow.zeros v3 n (by omega)
          replace E := E.trans (bb.mono hL)
          replace RP := RP.below bb (Nat.le_refl _)
          replace RC := RC.below bb (Nat.le_refl _)
          replace RT := RT.below bb (Nat.le_refl _)
          have hs : v3.heap.size < (v3.alloc (.cells (madeCells #[.int .i64 0] n) 3)).heap.size := by simp
          generalize v3.alloc (.cells (madeCells #[.int .i64 0] n) 3) = v4 at *
          obtain ⟨hX, ehX⟩ : ∃ h, h = v3.heap.size := ⟨_, rfl⟩
          rw [← ehX] at RX hs ⊢
          have lX : L ≤ hX := by omega
          have dPX : hP ≠ hX := by omega
          have dCX : hC ≠ hX := by omega
          have dTX : hT ≠ hX := by omega
          have sX : hX < v4.heap.size := hs
          replace sP : hP < v4.heap.size := by have := bb.size; omega
          replace sC : hC < v4.heap.size := by have := bb.size; omega
          replace sT : hT < v4.heap.size := by have := bb.size; omega
          replace hL : L ≤ v4.heap.size := by omega
          clear ehX hs bb
          refine hK.out _ _ trivial ?_
          clear hK KO
          try simp only [Act.put, List.setIfInBounds_toArray, List.set_cons_zero, List.set_cons_succ]
          refine held_takes (by kernel_rfl) (fun _ _ _ _ _ h => h) [10] _ 1 _ _ _ rfl (by kernel_rfl) (by kernel_rfl) trivial ?_
          simp only [pick, List.drop_succ_cons, List.drop_zero]
          iterate 1 (refine wpTakes_cons (v := ?_) (Or.inl ⟨by rfl, ?_⟩) ?_; rotate_left; (intro w hSw; go_simp <;> with_reducible rfl); (try simp only [Act.put, List.setIfInBounds_toArray, List.set_cons_zero, List.set_cons_succ]))
          refine wpTakes_nil ?_
          have r0 : v4.cell? ⟨hP, 0, none⟩ = some (.int .i64 0) := blk_cell RP 0
          have f0 := blk_frozen RP 0
          have r1 : v4.cell? ⟨hP, 1, none⟩ = some (.slice none 0 0) := blk_cell RP 1
          have f1 := blk_frozen RP 1
          have r2 : v4.cell? ⟨hP, 2, none⟩ = some (.slice none 0 0) := blk_cell RP 2
          have f2 := blk_frozen RP 2
          have r3 : v4.cell? ⟨hP, 3, none⟩ = some (.slice none 0 0) := blk_cell RP 3
          have f3 := blk_frozen RP 3
          have RG := Ring4.made (N := (k : Int)) RP RT RX RC (by omega) ⟨lP, lT, lX, lC⟩
          have BG := put4_below E lP (k : Int) (.slice (some ⟨hT, 0, none⟩) n n) (.slice (some ⟨hX, 0, none⟩) n n) (.slice (some ⟨hC, 0, none⟩) n n)
          unfold put4 at RG BG
          refine held_one 12 (fuel := 0) rfl (by kernel_rfl) ?_
          simp only [List.drop_succ_cons, List.drop_zero]
          refine wpOne_cons (fun KO hK => ?_)
          go_simp
          refine hK.out _ _ trivial ?_
          clear hK KO
          try simp only [Act.put, List.setIfInBounds_toArray, List.set_cons_zero, List.set_cons_succ]
          refine wpAnyH_done (by kernel_rfl) ?_ _
          refine NoPanic.normal ?_
          clear r0 r1 r2 r3 f0 f1 f2 f3 RP RT RX RC E
          go_wp2_with fail
          go_meet
          exact ⟨hP, hT, hX, hC, rfl, RG, BG⟩
        · simp only [List.drop_succ_cons, List.drop_zero]
          refine wpOne_cons (fun KO hK => ?_)
          refine step_make rfl _ _ rfl n (by omega) (by rfl) (by rfl) ?_
          have bb := below_new v2 (.cells (madeCells #[.int .i64 0] n) 3)
          have RX := Ow.zeros v2 n (by omega)
          replace E := E.trans (bb.mono hL)
          replace RP := RP.below bb (Nat.le_refl _)
          replace RC := RC.below bb (Nat.le_refl _)
          have hs : v2.heap.size < (v2.alloc (.cells (madeCells #[.int .i64 0] n) 3)).heap.size := by simp
          generalize v2.alloc (.cells (madeCells #[.int .i64 0] n) 3) = v3 at *
          obtain ⟨hX, ehX⟩ : ∃ h, h = v2.heap.size := ⟨_, rfl⟩
          rw [← ehX] at RX hs ⊢
          have lX : L ≤ hX := by omega
          have dPX : hP ≠ hX := by omega
          have dCX : hC ≠ hX := by omega
          have sX : hX < v3.heap.size := hs
          replace sP : hP < v3.heap.size := by have := bb.size; omega
          replace sC : hC < v3.heap.size := by have := bb.size; omega
          replace hL : L ≤ v3.heap.size := by omega
          clear ehX hs bb
          refine hK.out _ _ trivial ?_
          clear hK KO
          try simp only [Act.put, List.setIfInBounds_toArray, List.set_cons_zero, List.set_cons_succ]
          refine held_one 3 (fuel := 2) rfl (by kernel_rfl) ?_
          simp only [List.drop_succ_cons, List.drop_zero]
          refine wpOne_cons (fun KO hK => ?_)
          refine step_make rfl _ _ rfl n (by omega) (by rfl) (by rfl) ?_
          have bb := below_new v3 (.cells (madeCells #[.int .i64 0] n) 3)
          have RT := Ow.zeros v3 n (by omega)
          replace E := E.trans (bb.mono hL)
          replace RP := RP.below bb (Nat.le_refl _)
          replace RC := RC.below bb (Nat.le_refl _)
          replace RX := RX.below bb (Nat.le_refl _)
          have hs : v3.heap.size < (v3.alloc (.cells (madeCells #[.int .i64 0] n) 3)).heap.size := by simp
          generalize v3.alloc (.cells (madeCells #[.int .i64 0] n) 3) = v4 at *
          obtain ⟨hT, ehT⟩ : ∃ h, h = v3.heap.size := ⟨_, rfl⟩
          rw [← ehT] at RT hs ⊢
          have lT : L ≤ hT := by omega
          have dPT : hP ≠ hT := by omega
          have dCT : hC ≠ hT := by omega
          have dXT : hX ≠ hT := by omega
          have sT : hT < v4.heap.size := hs
          replace sP : hP < v4.heap.size := by have := bb.size; omega
          replace sC : hC < v4.heap.size := by have := bb.size; omega
          replace sX : hX < v4.heap.size := by have := bb.size; omega
          replace hL : L ≤ v4.heap.size := by omega
          clear ehT hs bb
          refine hK.out _ _ trivial ?_
          clear hK KO
          try simp only [Act.put, List.setIfInBounds_toArray, List.set_cons_zero, List.set_cons_succ]
          refine held_takes (by kernel_rfl) (fun _ _ _ _ _ h => h) [10] _ 1 _ _ _ rfl (by kernel_rfl) (by kernel_rfl) trivial ?_
          simp only [pick, List.drop_succ_cons, List.drop_zero]
          iterate 1 (refine wpTakes_cons (v := ?_) (Or.inl ⟨by rfl, ?_⟩) ?_; rotate_left; (intro w hSw; go_simp <;> with_reducible rfl); (try simp only [Act.put, List.setIfInBounds_toArray, List.set_cons_zero, List.set_cons_succ]))
          refine wpTakes_nil ?_
          have r0 : v4.cell? ⟨hP, 0, none⟩ = some (.int .i64 0) := blk_cell RP 0
          have f0 := blk_frozen RP 0
          have r1 : v4.cell? ⟨hP, 1, none⟩ = some (.slice none 0 0) := blk_cell RP 1
          have f1 := blk_frozen RP 1
          have r2 : v4.cell? ⟨hP, 2, none⟩ = some (.slice none 0 0) := blk_cell RP 2
          have f2 := blk_frozen RP 2
          have r3 : v4.cell? ⟨hP, 3, none⟩ = some (.slice none 0 0) := blk_cell RP 3
          have f3 := blk_frozen RP 3
          have RG := Ring4.made (N := (k : Int)) RP RT RX RC (by omega) ⟨lP, lT, lX, lC⟩
          have BG := put4_below E lP (k : Int) (.slice (some ⟨hT, 0, none⟩) n n) (.slice (some ⟨hX, 0, none⟩) n n) (.slice (some ⟨hC, 0, none⟩) n n)
          unfold put4 at RG BG
          refine held_one 12 (fuel := 0) rfl (by kernel_rfl) ?_
          simp only [List.drop_succ_cons, List.drop_zero]
          refine wpOne_cons (fun KO hK => ?_)
          go_simp
          refine hK.out _ _ trivial ?_
          clear hK KO
          try simp only [Act.put, List.setIfInBounds_toArray, List.set_cons_zero, List.set_cons_succ]
          refine wpAnyH_done (by kernel_rfl) ?_ _
          refine NoPanic.normal ?_
          clear r0 r1 r2 r3 f0 f1 f2 f3 RP RT RX RC E
          go_wp2_with fail
          go_meet
          exact ⟨hP, hT, hX, hC, rfl, RG, BG⟩
  case rest =>
    obtain ⟨q, bT, bX, bC, rfl, RG, BB⟩ := hcut
    clear E0 hL0
    have hLw : w1.heap.size ≤ L := by have := hLL2.out; omega
    have hw1L : L ≤ w1.heap.size := by have := hLL2.out; omega
    have hw1L2 : w.heap.size ≤ L := by have := hLL2.out; have := B1.size; omega
    obtain ⟨ce, hce⟩ : ∃ ce, ce = ceOf len (fun i => zs.getD i 0) := ⟨_, rfl⟩
    have HCE := Lib.hid hce
    clear hce
    have R0 : Ring4 wc L q bT bX bC (k : Int) n (fun d => if d < 2 * 0 then rgT k d else 0) (fun _ => 0) (fun d => if d < 2 * 0 then rgC ce d else 0) := RG.congr (fun _ _ => by simp) (fun _ _ => rfl) (fun _ _ => by simp)
    clear RG
    go_wp2_with fail
    go_loopw [11] (fun u11 wr => ∃ e : Nat, u11 = .int .i64 (e : Int) ∧ e ≤ k ∧ Ring4 wr L q bT bX bC (k : Int) n (fun d => if d < 2 * e then rgT k d else 0) (fun _ => 0) (fun d => if d < 2 * e then rgC ce d else 0) ∧ Below L w1 wr) (fun u11 _ => k - (intOf u11).toNat)
    case atStart => exact ⟨0, rfl, Nat.zero_le _, R0, BB⟩
    case round =>
      clear R0 BB wc
      obtain ⟨e, rfl, he, RG, BB⟩ := hrel
      by_cases hlt : e < k
      · have j1 : (e : Int) < (k : Int) := by omega
        obtain ⟨d0, hd0⟩ : ∃ d0, d0 = 2 * e := ⟨_, rfl⟩
        obtain ⟨d1, hd1⟩ : ∃ d1, d1 = 2 * e + 1 := ⟨_, rfl⟩
        have hn := HN.out
        have n0 : d0 < n := by omega
        have n1 : d1 < n := by omega
        have i0 : (d0 : Int) < (n : Int) := by omega
        have i1 : (d1 : Int) < (n : Int) := by omega
        have w0 : IntKind.i64.wrap (2 * (e : Int)) = (d0 : Int) := by rw [IntKind.wrap_i64]; omega
        have wd1 : IntKind.i64.wrap ((d0 : Int) + 1) = (d1 : Int) := by rw [IntKind.wrap_i64]; omega
        have tm := nx_mod (show 0 < k by omega) hlt
        obtain ⟨v1, hv1⟩ : ∃ v1, v1 = nx k e := ⟨_, rfl⟩
        rw [← hv1] at tm
        have hvk : v1 < k := by rw [hv1]; exact nx_lt (by omega) hlt
        have kz : ((k : Int) == 0) = false := by simp; omega
        have wv : IntKind.i64.wrap (v1 : Int) = (v1 : Int) := by rw [IntKind.wrap_i64]; omega
        have we1 : IntKind.i64.wrap ((e : Int) + 1) = (e : Int) + 1 := by rw [IntKind.wrap_i64]; omega
        have kz2 : ¬ (k = 0) := by omega
        have kz3 : ¬ ((k : Int) = 0) := by omega
        have c1 := RG.at_.c1
        have c3 := RG.at_.c3
        have y0 := RG.ot.cell n0
        have y1 := RG.ot.cell n1
        have f0 := RG.ot.frozen d0
        have f1 := RG.ot.frozen d1
        have ne01 : ¬ (d0 = d1) := by omega
        have ne10 : ¬ (d1 = d0) := by omega
        have R1 := ((RG.setT n0 (e : Int)).setT n1 (v1 : Int)).congr (t' := fun d => if d < 2 * (e + 1) then rgT k d else 0) (fun d hd => by
          by_cases q1 : d = d1
          · rw [q1, upd_same, if_pos (by omega), hd1, (rg_odd (ce := fun _ => 0) k e).1, hv1]
          · rw [upd_ne q1]
            by_cases q0 : d = d0
            · rw [q0, upd_same, if_pos (by omega), hd0, (rg_even (ce := fun _ => 0) k e).1]
            · rw [upd_ne q0]
              by_cases z : d < 2 * e
              · rw [if_pos z, if_pos (by omega)]
              · rw [if_neg z, if_neg (by omega)]) (fun _ _ => rfl) (fun _ _ => rfl)
        have B1' := (BB.setCell (p := ⟨bT, d0, none⟩) RG.lt (.int .i64 (e : Int))).setCell (p := ⟨bT, d1, none⟩) RG.lt (.int .i64 (v1 : Int))
        have HS1 := Lib.hid (RG.setT n0 (e : Int))
        have HS := Lib.hid (And.intro R1 B1')
        have HD := Lib.hid (And.intro hd0 (And.intro hd1 hv1))
        clear RG BB R1 B1' hn hd0 hd1 hv1 c3
        have cS0 := c1
        have cS1 := HS1.out.at_.c1
        have cS2 := HS.out.1.at_.c1
        go_upto_region 8 with fail
        go_region_held3 (fun W => W.cell? ⟨q, 1, none⟩ = some (.slice (some ⟨bT, 0, none⟩) n n)) (first | with_reducible exact cS0 | with_reducible exact cS1 | with_reducible exact cS2 | exact cS1 | exact cS2 | go_keep) (fail)
        obtain ⟨RG, BB⟩ := HS.out
        have RG : Ring4 ((wr.setCell ⟨bT, d0, none⟩ (.int .i64 (e : Int))).setCell ⟨bT, d1, none⟩ (.int .i64 (v1 : Int))).drew L q bT bX bC (k : Int) n (fun d => if d < 2 * (e + 1) then rgT k d else 0) (fun _ => 0) (fun d => if d < 2 * e then rgC ce d else 0) := RG.keep fun _ _ => rfl
        have BB : Below L w1 ((wr.setCell ⟨bT, d0, none⟩ (.int .i64 (e : Int))).setCell ⟨bT, d1, none⟩ (.int .i64 (v1 : Int))).drew := BB.drew
        clear HS HS1 cS0 cS1 cS2 c1 y0 y1 f0 f1 tm wv
        go_upto_region 9 with fail
        generalize ((wr.setCell ⟨bT, d0, none⟩ (.int .i64 (e : Int))).setCell ⟨bT, d1, none⟩ (.int .i64 (v1 : Int))).drew = w5 at *
        obtain ⟨cv, hcv⟩ : ∃ cv, cv = ce e := ⟨_, rfl⟩
        have hn := HN.out
        have hD0 := HD.out.1
        have hD1 := HD.out.2.1
        have RV := RV1.below BB hLw
        have R2 := ((RG.setC n0 cv).setC n1 cv).congr (c' := fun d => if d < 2 * (e + 1) then rgC ce d else 0) (fun _ _ => rfl) (fun _ _ => rfl) (fun j hj => by
          by_cases q1 : j = d1
          · rw [q1, upd_same, if_pos (by omega), hD1, (rg_odd (ce := ce) k e).2.2, hcv]
          · rw [upd_ne q1]
            by_cases q0 : j = d0
            · rw [q0, upd_same, if_pos (by omega), hD0, (rg_even (ce := ce) k e).2.2, hcv]
            · rw [upd_ne q0]
              by_cases z : j < 2 * e
              · rw [if_pos z, if_pos (by omega)]
              · rw [if_neg z, if_neg (by omega)])
        have B2 := (BB.setCell (p := ⟨bC, d0, none⟩) RG.lc (.int .i64 cv)).setCell (p := ⟨bC, d1, none⟩) RG.lc (.int .i64 cv)
        have HS1 := Lib.hid (RG.setC n0 cv)
        have HS := Lib.hid (And.intro R2 B2)
        have c3 := RG.at_.c3
        have y0 := RG.oc.cell n0
        have y1 := RG.oc.cell n1
        have f0 := RG.oc.frozen d0
        have f1 := RG.oc.frozen d1
        have cS0 : (w5.drew).cell? ⟨q, 3, none⟩ = some (.slice (some ⟨bC, 0, none⟩) n n) := c3
        have cS1 := HS1.out.at_.c3
        have cS2 := HS.out.1.at_.c3
        have HCV := Lib.hid hcv
        clear R2 B2 RG BB hcv hn hD0 hD1
        have lenc : (e < len ∧ cv = (fun i => zs.getD i 0) e % 1000) ∨ (¬ e < len ∧ cv = (e : Int)) := by
          have h1 := HCV.out
          rw [HCE.out] at h1
          unfold ceOf at h1
          by_cases z : e < len
          · rw [if_pos z] at h1; exact .inl ⟨z, h1⟩
          · rw [if_neg z] at h1; exact .inr ⟨z, h1⟩
        rcases lenc with ⟨zl, zc⟩ | ⟨zl, zc⟩
        · have z1 : (e : Int) < (len : Int) := by omega
          obtain ⟨A3, q3, e3, rv'⟩ := id RV
          injection e3 with l1 l2 l3
          obtain ⟨yv, l4, l5, l6⟩ := rv' (by omega)
          obtain rfl : A = some yv := l1.trans l4
          have yz : w5.cell? (yv.add e) = some (.int .i64 (zs.getD e 0)) := l6 e zl
          have hsm := hz e zl
          have WI := Lib.hid (within8_any w5 (zs.getD e 0) 1000 hsm (by omega) (by omega))
          have zc2 : zs.getD e 0 % 1000 = cv := zc.symm
          have ZC := Lib.hid zc2
          clear zc2
          clear l1 l2 l3 l4 l5 l6 rv' RV zc
          generalize zs.getD e 0 = ze at *
          go_wp2_with fail
          refine WI.out.mono ?_
          rintro e' w' ⟨rfl, rfl⟩
          rw [ZC.out]
          clear WI ZC yz
          go_upto_region 12 with fail
          go_region_held3 (fun W => W.cell? ⟨q, 3, none⟩ = some (.slice (some ⟨bC, 0, none⟩) n n)) (first | with_reducible exact cS0 | with_reducible exact cS1 | with_reducible exact cS2 | exact cS1 | exact cS2 | go_keep) (fail)
          go_wp2_with fail
          go_roundw
          case rel => exact ⟨e + 1, by simp, by omega, HS.out.1.keep fun _ _ => rfl, ⟨HS.out.2.os, HS.out.2.tape, HS.out.2.output, HS.out.2.size, HS.out.2.block⟩⟩
          case measure => simp [intOf]; omega
        · have z1 : ¬ ((e : Int) < (len : Int)) := by omega
          subst zc
          clear RV
          go_upto_region 12 with fail
          go_region_held3 (fun W => W.cell? ⟨q, 3, none⟩ = some (.slice (some ⟨bC, 0, none⟩) n n)) (first | with_reducible exact cS0 | with_reducible exact cS1 | with_reducible exact cS2 | exact cS1 | exact cS2 | go_keep) (fail)
          go_wp2_with fail
          go_roundw
          case rel => exact ⟨e + 1, by simp, by omega, HS.out.1.keep fun _ _ => rfl, ⟨HS.out.2.os, HS.out.2.tape, HS.out.2.output, HS.out.2.size, HS.out.2.block⟩⟩
          case measure => simp [intOf]; omega
      · have hn := HN.out
        have R5 := RG.congr (t' := rgT k) (x' := fun _ => 0) (c' := rgC ce) (fun d hd => if_pos (by omega)) (fun _ _ => rfl) (fun d hd => if_pos (by omega))
        have j1 : ¬ ((e : Int) < (k : Int)) := by omega
        have I0 : Hid (∀ v', v' < 0 → (fun _ : Nat => (0 : Int)) (2 * v') = ((2 * pv k v' + 1 : Nat) : Int) ∧ (fun _ : Nat => (0 : Int)) (2 * pv k v' + 1) = ((2 * v' : Nat) : Int)) := Lib.hid fun v' h => by omega
        clear RG hn
        generalize (fun _ : Nat => (0 : Int)) = X0 at *
        obtain ⟨w6, rfl⟩ : ∃ u : World, u = wr := ⟨_, rfl⟩
        go_wp2_with fail
        go_loopw [13] (fun u13 wr => ∃ (v : Nat) (X : Nat → Int), u13 = .int .i64 (v : Int) ∧ v ≤ k ∧ Hid (∀ v', v' < v → X (2 * v') = ((2 * pv k v' + 1 : Nat) : Int) ∧ X (2 * pv k v' + 1) = ((2 * v' : Nat) : Int)) ∧ Ring4 wr L q bT bX bC (k : Int) n (rgT k) X (rgC ce) ∧ Below L w1 wr) (fun u13 _ => k - (intOf u13).toNat)
        case atStart => exact ⟨0, X0, rfl, Nat.zero_le _, I0, R5, BB⟩
        case round =>
          clear R5 BB I0
          obtain ⟨v, X, rfl, hv, IX, RG, BB⟩ := hrel
          by_cases hlt2 : v < k
          · have z1 : (v : Int) < (k : Int) := by omega
            have hn := HN.out
            obtain ⟨p1, hp1⟩ : ∃ p1, p1 = pv k v := ⟨_, rfl⟩
            have hpk : p1 < k := by rw [hp1]; exact pv_lt (by omega) hlt2
            obtain ⟨d0, hd0⟩ : ∃ d0, d0 = 2 * v := ⟨_, rfl⟩
            obtain ⟨p2, hp2⟩ : ∃ p2, p2 = 2 * p1 := ⟨_, rfl⟩
            obtain ⟨d1, hd1⟩ : ∃ d1, d1 = 2 * p1 + 1 := ⟨_, rfl⟩
            have n0 : d0 < n := by omega
            have n1 : d1 < n := by omega
            have i0 : (d0 : Int) < (n : Int) := by omega
            have i1 : (d1 : Int) < (n : Int) := by omega
            have tm := pv_mod (show 0 < k by omega) hlt2
            rw [← hp1] at tm
            have w0 : IntKind.i64.wrap (2 * (v : Int)) = (d0 : Int) := by rw [IntKind.wrap_i64]; omega
            have wa : IntKind.i64.wrap ((v : Int) + (k : Int)) = (v : Int) + (k : Int) := by rw [IntKind.wrap_i64]; omega
            have ws : IntKind.i64.wrap ((v : Int) + (k : Int) - 1) = (v : Int) + (k : Int) - 1 := by rw [IntKind.wrap_i64]; omega
            have wp : IntKind.i64.wrap (p1 : Int) = (p1 : Int) := by rw [IntKind.wrap_i64]; omega
            have w2 : IntKind.i64.wrap (2 * (p1 : Int)) = (p2 : Int) := by rw [IntKind.wrap_i64]; omega
            have w3 : IntKind.i64.wrap ((p2 : Int) + 1) = (d1 : Int) := by rw [IntKind.wrap_i64]; omega
            have kz : ((k : Int) == 0) = false := by simp; omega
            have kz2 : ¬ (k = 0) := by omega
            have kz3 : ¬ ((k : Int) = 0) := by omega
            have ne01 : ¬ (d0 = d1) := by omega
            have ne10 : ¬ (d1 = d0) := by omega
            have R1 := (RG.setX n0 (d1 : Int)).setX n1 (d0 : Int)
            have I1 : Hid (∀ v', v' < v + 1 → upd (upd X d0 (d1 : Int)) d1 (d0 : Int) (2 * v') = ((2 * pv k v' + 1 : Nat) : Int) ∧ upd (upd X d0 (d1 : Int)) d1 (d0 : Int) (2 * pv k v' + 1) = ((2 * v' : Nat) : Int)) := Lib.hid fun v' h => by
              rcases Nat.lt_or_ge v' v with z | z
              · have hne : pv k v' ≠ pv k v := fun h => by
                  have := congrArg (nx k) h
                  rw [nx_pv (by omega) (by omega), nx_pv (by omega) hlt2] at this
                  omega
                rw [upd_ne (by omega), upd_ne (by omega), upd_ne (by omega), upd_ne (by omega)]
                exact IX.out v' z
              · obtain rfl : v' = v := by omega
                rw [upd_ne (by omega), ← hp1, ← hd1, ← hd0, upd_same, upd_same]
                exact ⟨rfl, rfl⟩
            have B1' := (BB.setCell (p := ⟨bX, d0, none⟩) RG.lx (.int .i64 (d1 : Int))).setCell (p := ⟨bX, d1, none⟩) RG.lx (.int .i64 (d0 : Int))
            have HS1 := Lib.hid (RG.setX n0 (d1 : Int))
            have HS := Lib.hid (And.intro R1 B1')
            have c2 := RG.at_.c2
            have y0 := RG.ox.cell n0
            have y1 := RG.ox.cell n1
            have f0 := RG.ox.frozen d0
            have f1 := RG.ox.frozen d1
            clear RG BB R1 B1' hn hd0 hd1 hp2 hp1 IX
            go_upto_region 16 with fail
            go_big_quiet (fail)
            clear tm w0 wa ws wp w2 w3 kz kz2 kz3
            have cS0 := c2
            have cS1 := HS1.out.at_.c2
            have cS2 := HS.out.1.at_.c2
            go_upto_region 17 with fail
            go_region_held3 (fun W => W.cell? ⟨q, 2, none⟩ = some (.slice (some ⟨bX, 0, none⟩) n n)) (first | with_reducible exact cS0 | with_reducible exact cS1 | with_reducible exact cS2 | exact cS1 | exact cS2 | go_keep) (fail)
            go_wp2_with fail
            go_roundw
            case rel => exact ⟨v + 1, _, by simp, by omega, I1, HS.out.1.keep fun _ _ => rfl, ⟨HS.out.2.os, HS.out.2.tape, HS.out.2.output, HS.out.2.size, HS.out.2.block⟩⟩
            case measure => simp [intOf]; omega
          · have z1 : ¬ ((v : Int) < (k : Int)) := by omega
            have hn := HN.out
            have R6 := RG.congr (t' := rgT k) (x' := rgX k) (c' := rgC ce) (fun _ _ => rfl) (fun j hj => by
              have hj2 : j < 2 * k := by omega
              revert hj2
              revert j
              intro j _ hj2
              exact half_cases (P := fun j => X j = rgX k j) (fun e he => by rw [(rg_even (ce := fun _ => 0) k e).2.1]; exact (IX.out e (by omega)).1) (fun e he => by
                rw [(rg_odd (ce := fun _ => 0) k e).2.1]
                have := (IX.out (nx k e) (by have := nx_lt (show 0 < k by omega) he; omega)).2
                rwa [pv_nx he] at this) j hj2) (fun _ _ => rfl)
            clear RG IX
            obtain ⟨w7, rfl⟩ : ∃ u : World, u = wr := ⟨_, rfl⟩
            go_wp2_with fail
            refine (within8_any _ _ _ ha_ (by omega) (by omega)).mono ?_
            rintro e' w' ⟨rfl, rfl⟩
            obtain ⟨s, ha, hs⟩ := small_within (d := a) (m := k) (by omega)
            rw [ha]
            go_wp2_with fail
            refine (within8_any _ _ _ hb_ (by omega) (by omega)).mono ?_
            rintro e' w' ⟨rfl, rfl⟩
            obtain ⟨z, hb, hzk⟩ := small_within (d := b) (m := k) (by omega)
            rw [hb]
            have hcb : ∀ e, e < k → 0 ≤ ce e ∧ ce e ≤ 2147483648 := fun e he => by
              rw [HCE.out]
              unfold ceOf
              split
              · have := Int.emod_nonneg ((fun i => zs.getD i 0) e) (show (1000 : Int) ≠ 0 by omega)
                have := Int.emod_lt_of_pos ((fun i => zs.getD i 0) e) (show (0 : Int) < 1000 by omega)
                omega
              · omega
            have CB := Lib.hid hcb
            have pl : Plane k n (rgT k) (rgX k) (rgC ce) := by rw [HN.out]; exact (ring_grown hk3 hk11 hcb).plane
            have ss : Small (s : Int) := small_of (by omega) (by omega)
            have sz : Small (z : Int) := small_of (by omega) (by omega)
            have NW := R6.at_
            have c0 := NW.c0
            have c1 := NW.c1
            have c2 := NW.c2
            have c3 := NW.c3
            clear ha hb hcb hn
            go_wp2_with fail
            refine (rimFlow_ok _ k _ _ _ n (rgT k) (rgX k) (rgC ce) NW.rt NW.rx NW.rc pl (by omega) (s : Int) (z : Int) ss sz).mono ?_
            intro e' w8 hh
            obtain ⟨V8, n8, y8, u8, code8, rfl, -, bb, IS8⟩ := hh.row
            have R8 := R6.keep2 bb
            have B8 : Below w.heap.size w w8 := B1.trans ((BB.mono hw1L2).trans (bb.mono (by have := BB.size; omega)))
            clear hh c0 c1 c2 c3 NW pl R6 BB bb
            by_cases hsz2 : s = z
            · have q1 : ((s : Int) == (z : Int)) = true := by simp; omega
              have hcode : code8 = 9 := by
                rcases IS8 with ⟨-, -, h⟩ | ⟨o, K, f, D, -, -, -, -, h⟩
                · rcases h with ⟨h1, -⟩ | ⟨-, -, h⟩ | ⟨-, h, -⟩
                  · exact absurd (show InNet k (s : Int) (z : Int) from ⟨by omega, by omega, by omega, by omega⟩) h1
                  · exact h
                  · exact absurd (by omega) h
                · exact absurd (by omega) h.ne
              subst hcode
              clear IS8 R8
              go_wp2_with fail
              go_ret
              exact ⟨by simp, B8⟩
            · have q1 : ((s : Int) == (z : Int)) = false := by simp; omega
              obtain ⟨rfl, hu8⟩ : code8 = 0 ∧ u8 = minUp k ce s (pos k s z) + minUp k ce z (pos k z s) := by
                have h := IS8
                rw [HN.out] at h
                exact ring_runs hk3 hk11 CB.out hs hzk hsz2 h
              have HU := Lib.hid hu8
              have R6 := Lib.hid R8
              clear IS8 R8 hu8
              go_wp2_with fail
              go_loopg [21, 23] (pos k s z) (fun qg uo ui wr => ∃ j : Nat, pos k s z ≤ qg + j ∧ j ≤ pos k s z ∧ uo = .int .i64 (minUp k ce s j) ∧ ui = .int .i64 ((cyc k s j : Nat) : Int) ∧ wr = w8)
              case atStart => exact ⟨0, by omega, Nat.zero_le _, rfl, by rw [show cyc k s 0 = s by unfold cyc; rw [if_pos (by omega)]; rfl], rfl⟩
              case round =>
                obtain ⟨j, hjq, hjn, rfl, rfl, hww⟩ := hrel
                subst hww
                by_cases hlt3 : j < pos k s z
                · have hjk : j < k := by have := (cyc_pos hs hzk).2; omega
                  have hcl : cyc k s j < k := by unfold cyc; split <;> omega
                  have hnz : cyc k s j ≠ z := by
                    intro h
                    unfold cyc at h
                    unfold pos at hlt3
                    split at h <;> split at hlt3 <;> omega
                  have qq : (((cyc k s j : Nat) : Int) != (z : Int)) = true := by simp; omega
                  have hstep : nx k (cyc k s j) = cyc k s (j + 1) := by
                    have := (cyc_pos hs hzk).2
                    unfold nx cyc
                    split <;> split <;> split <;> omega
                  have tm := nx_mod (show 0 < k by omega) hcl
                  rw [hstep] at tm
                  have hn := HN.out
                  have y0 := R6.out.oc.cell (show 2 * cyc k s j < n by omega)
                  rw [(rg_even (ce := ce) k _).2.2] at y0
                  obtain ⟨z0, z1⟩ := CB.out _ hcl
                  have l0 : 0 ≤ minUp k ce s j := le_minUp s (by omega) _ fun i _ => (CB.out _ (by unfold cyc; split <;> omega)).1
                  have l1 : minUp k ce s j ≤ 1152921504606846976 := minUp_top s j
                  have em : (if ce (cyc k s j) < minUp k ce s j then ce (cyc k s j) else minUp k ce s j) = minUp k ce s (j + 1) := min_if _ _
                  have hnx : cyc k s (j + 1) < k := by rw [← hstep]; exact nx_lt (by omega) hcl
                  obtain ⟨d0, hd0⟩ : ∃ d0, d0 = 2 * cyc k s j := ⟨_, rfl⟩
                  rw [← hd0] at y0
                  have i0 : (d0 : Int) < (n : Int) := by omega
                  have w0 : IntKind.i64.wrap (2 * ((cyc k s j : Nat) : Int)) = (d0 : Int) := by rw [IntKind.wrap_i64]; omega
                  have we : IntKind.i64.wrap (((cyc k s j : Nat) : Int) + 1) = ((cyc k s j : Nat) : Int) + 1 := by rw [IntKind.wrap_i64]; omega
                  have wv : IntKind.i64.wrap ((cyc k s (j + 1) : Nat) : Int) = ((cyc k s (j + 1) : Nat) : Int) := by rw [IntKind.wrap_i64]; omega
                  have kz : ((k : Int) == 0) = false := by simp; omega
                  have kz2 : ¬ (k = 0) := by omega
                  have kz3 : ¬ ((k : Int) = 0) := by omega
                  have c3 := R6.out.at_.c3
                  clear hn hd0 hstep hnz
                  generalize hL1 : minUp k ce s (j + 1) = L1 at *
                  generalize minUp k ce s j = L0 at *
                  generalize hV1 : cyc k s (j + 1) = u1 at *
                  generalize cyc k s j = u0 at *
                  generalize ce u0 = c0' at *
                  have HL1 := Lib.hid hL1
                  have HV1 := Lib.hid hV1
                  clear hL1 hV1
                  go_wp2_with fail
                  go_roundg (gk - 1)
                  case measure => omega
                  case rel => exact ⟨j + 1, by omega, by omega, by rw [HL1.out], by rw [HV1.out], rfl⟩
                · obtain rfl : j = pos k s z := by omega
                  rw [(cyc_pos hs hzk).1]
                  obtain ⟨w8, rfl⟩ : ∃ u : World, u = wr := ⟨_, rfl⟩
                  have qq : ((z : Int) != (z : Int)) = false := by simp
                  go_wp2_with fail
                  go_loopg [22, 24] (pos k z s) (fun qg uo ui wr => ∃ j : Nat, pos k z s ≤ qg + j ∧ j ≤ pos k z s ∧ uo = .int .i64 (minUp k ce z j) ∧ ui = .int .i64 ((cyc k z j : Nat) : Int) ∧ wr = w8)
                  case atStart => exact ⟨0, by omega, Nat.zero_le _, rfl, by rw [show cyc k z 0 = z by unfold cyc; rw [if_pos (by omega)]; rfl], rfl⟩
                  case round =>
                    obtain ⟨j, hjq, hjn, rfl, rfl, hww⟩ := hrel
                    subst hww
                    by_cases hlt3 : j < pos k z s
                    · have hjk : j < k := by have := (cyc_pos hzk hs).2; omega
                      have hcl : cyc k z j < k := by unfold cyc; split <;> omega
                      have hnz : cyc k z j ≠ s := by
                        intro h
                        unfold cyc at h
                        unfold pos at hlt3
                        split at h <;> split at hlt3 <;> omega
                      have qq : (((cyc k z j : Nat) : Int) != (s : Int)) = true := by simp; omega
                      have hstep : nx k (cyc k z j) = cyc k z (j + 1) := by
                        have := (cyc_pos hzk hs).2
                        unfold nx cyc
                        split <;> split <;> split <;> omega
                      have tm := nx_mod (show 0 < k by omega) hcl
                      rw [hstep] at tm
                      have hn := HN.out
                      have y0 := R6.out.oc.cell (show 2 * cyc k z j < n by omega)
                      rw [(rg_even (ce := ce) k _).2.2] at y0
                      obtain ⟨z0, z1⟩ := CB.out _ hcl
                      have l0 : 0 ≤ minUp k ce z j := le_minUp z (by omega) _ fun i _ => (CB.out _ (by unfold cyc; split <;> omega)).1
                      have l1 : minUp k ce z j ≤ 1152921504606846976 := minUp_top z j
                      have em : (if ce (cyc k z j) < minUp k ce z j then ce (cyc k z j) else minUp k ce z j) = minUp k ce z (j + 1) := min_if _ _
                      have hnx : cyc k z (j + 1) < k := by rw [← hstep]; exact nx_lt (by omega) hcl
                      obtain ⟨d0, hd0⟩ : ∃ d0, d0 = 2 * cyc k z j := ⟨_, rfl⟩
                      rw [← hd0] at y0
                      have i0 : (d0 : Int) < (n : Int) := by omega
                      have w0 : IntKind.i64.wrap (2 * ((cyc k z j : Nat) : Int)) = (d0 : Int) := by rw [IntKind.wrap_i64]; omega
                      have we : IntKind.i64.wrap (((cyc k z j : Nat) : Int) + 1) = ((cyc k z j : Nat) : Int) + 1 := by rw [IntKind.wrap_i64]; omega
                      have wv : IntKind.i64.wrap ((cyc k z (j + 1) : Nat) : Int) = ((cyc k z (j + 1) : Nat) : Int) := by rw [IntKind.wrap_i64]; omega
                      have kz : ((k : Int) == 0) = false := by simp; omega
                      have kz2 : ¬ (k = 0) := by omega
                      have kz3 : ¬ ((k : Int) = 0) := by omega
                      have c3 := R6.out.at_.c3
                      clear hn hd0 hstep hnz
                      generalize hL1 : minUp k ce z (j + 1) = L1 at *
                      generalize minUp k ce z j = L0 at *
                      generalize hV1 : cyc k z (j + 1) = u1 at *
                      generalize cyc k z j = u0 at *
                      generalize ce u0 = c0' at *
                      have HL1 := Lib.hid hL1
                      have HV1 := Lib.hid hV1
                      clear hL1 hV1
                      go_wp2_with fail
                      go_roundg (gk - 1)
                      case measure => omega
                      case rel => exact ⟨j + 1, by omega, by omega, by rw [HL1.out], by rw [HV1.out], rfl⟩
                    · obtain rfl : j = pos k z s := by omega
                      rw [(cyc_pos hzk hs).1]
                      have m1 : 0 ≤ minUp k ce s (pos k s z) := le_minUp s (by omega) _ fun i hi => (CB.out _ (by have := (cyc_pos hs hzk).2; unfold cyc; split <;> omega)).1
                      have m2 : 0 ≤ minUp k ce z (pos k z s) := le_minUp z (by omega) _ fun i hi => (CB.out _ (by have := (cyc_pos hzk hs).2; unfold cyc; split <;> omega)).1
                      have m3 : minUp k ce s (pos k s z) ≤ 1152921504606846976 := minUp_top s _
                      have m4 : minUp k ce z (pos k z s) ≤ 1152921504606846976 := minUp_top z _
                      have wlf : IntKind.i64.wrap (minUp k ce s (pos k s z) + minUp k ce z (pos k z s)) = minUp k ce s (pos k s z) + minUp k ce z (pos k z s) := by rw [IntKind.wrap_i64]; omega
                      have q9 : (u8 == minUp k ce s (pos k s z) + minUp k ce z (pos k z s)) = true := by rw [HU.out]; simp
                      have qq : ((s : Int) != (s : Int)) = false := by simp
                      go_wp2_with fail
                      go_ret
                      exact ⟨by first | rfl | simp [q9], B8⟩
end Go.Proofs.Ytcdlnohnkdalbaa.Ro
