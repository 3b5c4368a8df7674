/- Walks: Turn, of the document's chapter 2. -/
import Derived.Test.YtcejjcopchkmeaaMq2
import Derived.Test.YtcejjcopchkmeaaRoTq
import Derived.Test.YtcejjcopchkmeaaRoNt
namespace Go.Proofs.Ytcejjcopchkmeaa.Ro
open Go.RowKit Go.Proofs Go.Maps
set_option linter.unusedVariables false
set_option maxRecDepth 100000
set_option linter.unusedSimpArgs false

/-- places told by a permutation, of the first i darts -/
def turnZ (x : Nat → Int) : Nat → Nat → Int
  | 0 => fun _ => 0
  | i + 1 => upd (turnZ x i) (ab x i) (i : Int)
theorem turnZ_at {x : Nat → Int} {m : Nat} (p : Perm (ab x) m) {d : Nat} : ∀ i, i ≤ m → d < i → turnZ x i (ab x d) = d
  | 0, _, h => by omega
  | i + 1, hi, h => by
    show upd (turnZ x i) (ab x i) (i : Int) (ab x d) = d
    by_cases e : d = i
    · subst e; rw [upd_same]
    · rw [upd_ne (fun q => e (p.inj d i (by omega) (by omega) q))]
      exact turnZ_at p i (by omega) (by omega)
theorem turnZ_up {x : Nat → Int} {m : Nat} (p : Perm (ab x) m) : ∀ j, j < m → turnZ x m j = turnUp x m j := fun j hj => by
  obtain ⟨d, hd, rfl⟩ := p.onto2 hj
  rw [turnZ_at p m (Nat.le_refl _) hd, turnUp_at p m (Nat.le_refl _) hd]

set_option maxHeartbeats 6400000 in
theorem refTurn_ok (w : World) (N : Int) (T X C : Value) (m : Nat) (t x c : Nat → Int) (hT : Rd w T m t) (hX : Rd w X m x) (hC : Rd w C m c) (hm : m ≤ 240) (pa : Perm (ab x) m) (hx : ∀ d, d < m → 0 ≤ x d ∧ x d < m) :
    Calls Try.prog 28 #[.agg #[.int .i64 N, T, X, C]] w fun e w' => ∃ T' X' C', e = .returned (.agg #[.int .i64 N, T', X', C']) ∧ Rd w' T' m t ∧ Rd w' X' m (turnUp x m) ∧ Rd w' C' m c ∧ Below w.heap.size w w' := by
  obtain ⟨ii, hi, hz, hs, hby⟩ := info_parts (P := Try.prog) (e := 3) (z := .int .i64 0) (size := 1) (bytes := 8) (by kernel_rfl)
  obtain ⟨TA, tp, rfl, -⟩ := id hT
  obtain ⟨XA, xp, rfl, -⟩ := id hX
  obtain ⟨CA, cp, rfl, -⟩ := id hC
  have HXX := Lib.hid hx
  clear hx
  go_enter Try.func28, Try.ntmps28
  go_upto_region 1 with fail
  obtain ⟨w0, hw0, N0, B0⟩ := net_enter N hT hX hC
  have s0 : w0.heap.size = w.heap.size + 1 := by rw [← hw0]; simp
  rw [hw0]
  clear hw0
  have QQ : Box (w0.alloc (.cells #[.int .i64 0, .slice none 0 0, .slice none 0 0, .slice none 0 0] 25)) w0.heap.size 0 (.slice none 0 0) (.slice none 0 0) (.slice none 0 0) := heap_alloc_new _ _
  have b1 := below_new w0 (.cells #[.int .i64 0, .slice none 0 0, .slice none 0 0, .slice none 0 0] 25)
  have s1 : (w0.alloc (.cells #[.int .i64 0, .slice none 0 0, .slice none 0 0, .slice none 0 0] 25)).heap.size = w0.heap.size + 1 := by simp
  rw [s0] at QQ
  generalize (w0.alloc (.cells #[.int .i64 0, .slice none 0 0, .slice none 0 0, .slice none 0 0] 25)) = w1 at *
  have N1 := N0.below b1 (Nat.le_refl _)
  have B1 := B0.trans (b1.mono B0.size)
  clear N0 B0 b1 hT hX hC
  obtain ⟨p, hp⟩ : ∃ p, p = w.heap.size := ⟨_, rfl⟩
  obtain ⟨r, hr⟩ : ∃ r, r = w.heap.size + 1 := ⟨_, rfl⟩
  rw [← hr] at QQ
  rw [← hp] at N1
  have hgl : w1.heap.size = r + 1 := by omega
  have hrp : r = p + 1 := by omega
  have hrw : w.heap.size ≤ r := by omega
  rw [← hp] at s0
  have HPP := Lib.hid (And.intro hp hr)
  rw [show w.heap.size + 1 = r from hr.symm, show w.heap.size = p from hp.symm]
  have hpr : p < r := by omega
  have SS := Lib.hid hgl
  clear hp hr s0 s1 hgl hrp
  have c2 := N1.c2
  go_upto_region 2 with (at_make; refine wpList_make_full _ rfl _ _ _ rfl 0 3 ii (.int .i64 0) 1 Try.underlying22 hi hz hs .i64 .i64 (m : Int) (m : Int) m rfl rfl rfl rfl (by rw [hby]; omega) (by unfold maxLen; omega) (Nat.zero_le _) ?_; intro w3 hm3 hg3)
  rw [show (Value.int IntKind.i64 0).cells = #[.int .i64 0] from rfl, Nat.mul_one, toList_madeCells_one] at hm3
  have O3 := Ow.made hm3
  have b3 : Below w1.heap.size w1 w3 := ⟨hg3.os, hg3.tape, hg3.output, hg3.size, fun k hk => hg3.block k hk (by simp)⟩
  clear hm3 hg3 ii hi hz hs hby c2
  obtain ⟨b, hb⟩ : ∃ b, b = w1.heap.size := ⟨_, rfl⟩
  rw [← hb] at O3 b3 ⊢
  have hbr : r < b := by have := SS.out; omega
  have hb1 : w1.heap.size ≤ b := by omega
  have hb2 : b ≤ w1.heap.size := by omega
  clear hb SS
  have lN := N1.lt
  go_wp2_with fail
  go_loopw [4] (fun u4 wr => ∃ j : Nat, u4 = .int .i64 (j : Int) ∧ j ≤ m ∧ Ow wr (.slice (some ⟨b, 0, none⟩) m m) m (turnZ x j) ∧ Below b w1 wr) (fun u4 _ => m - (intOf u4).toNat)
  case atStart => exact ⟨0, rfl, Nat.zero_le _, O3, b3⟩
  case round =>
    clear O3 b3 w3
    obtain ⟨j, rfl, hj, O, B⟩ := hrel
    have NW := N1.below B (by omega)
    by_cases hlt : j < m
    · have d1 : (j : Int) < (m : Int) := by omega
      have c2 := NW.c2
      obtain ⟨A', q', e', rx⟩ := NW.rx
      injection e' with i1 i2 i3
      obtain ⟨y, i4, i5, i6⟩ := rx (by omega)
      obtain rfl : XA = some y := i1.trans i4
      have y1 := i6 j hlt
      obtain ⟨z1, z2⟩ := HXX.out j hlt
      obtain ⟨q, hq⟩ : ∃ q : Nat, (q : Int) = x j := ⟨(x j).toNat, by omega⟩
      have hab : ab x j = q := by unfold ab; omega
      rw [← hq] at y1 z1 z2
      have hql : q < m := by omega
      have co := O.cell hql
      have fz := O.frozen q
      have O2 := (O.set hql (j : Int)).congr (x' := turnZ x (j + 1)) (fun i _ => by show upd (turnZ x j) q (j : Int) i = upd (turnZ x j) (ab x j) (j : Int) i; rw [hab])
      have B2 := B.setCell (p := ⟨b, q, none⟩) (Nat.le_refl _) (.int .i64 (j : Int))
      have HS := Lib.hid (And.intro O2 B2)
      clear O B O2 B2 i6 rx i4 i5 i1 i2 i3 hq hab NW
      go_wp2_with fail
      go_roundw
      case rel => exact ⟨j + 1, by simp, by omega, HS.out.1, HS.out.2⟩
      case measure => simp [intOf]; omega
    · have d1 : ¬ ((j : Int) < (m : Int)) := by omega
      obtain rfl : j = m := by omega
      obtain ⟨m, rfl⟩ : ∃ m', m' = j := ⟨_, rfl⟩
      have OX0 : Ow wr (.slice (some ⟨b, 0, none⟩) m m) m (turnUp x m) := O.congr (turnZ_up pa)
      have Q1 : Box wr r 0 (.slice none 0 0) (.slice none 0 0) (.slice none 0 0) := (B.block r (by omega)).trans QQ
      have EW0 := B1.trans (B.mono (by omega))
      clear O N1 B1 QQ
      obtain ⟨wl, hwl⟩ : ∃ wl, wl = wr := ⟨_, rfl⟩
      subst hwl
      have lp : p < wl.heap.size := NW.lt
      have lr : r < wl.heap.size := blk_lt Q1
      have c0 := NW.c0
      have c1 := NW.c1
      have c3 := NW.c3
      have lb : b < wl.heap.size := OX0.lt (k := b) rfl
      have KH : Hid (∀ W : World, W.heap[p]? = wl.heap[p]? → W.cell? ⟨p, 0, none⟩ = some (.int .i64 N) ∧ W.cell? ⟨p, 1, none⟩ = some (.slice TA m tp) ∧ W.cell? ⟨p, 3, none⟩ = some (.slice CA m cp)) := Lib.hid fun W e => ⟨(World.cell?_of_block e).trans c0, (World.cell?_of_block e).trans c1, (World.cell?_of_block e).trans c3⟩
      have KF : Hid (∀ W, Below wl.heap.size wl W → W.cell? ⟨p, 0, none⟩ = some (.int .i64 N) ∧ W.cell? ⟨p, 1, none⟩ = some (.slice TA m tp) ∧ W.cell? ⟨p, 3, none⟩ = some (.slice CA m cp)) := Lib.hid fun W e => KH.out W (e.block p lp)
      have HTs : Hid (∀ W, Below wl.heap.size wl W → SrcI W TA m t) := Lib.hid fun W e => (NW.rt.below e (Nat.le_refl _)).srcI
      have HCs : Hid (∀ W, Below wl.heap.size wl W → SrcI W CA m c) := Lib.hid fun W e => (NW.rc.below e (Nat.le_refl _)).srcI
      have OX := OX0
      have QQ := Q1
      have EW := EW0
      have E : Below wl.heap.size wl wl.drew := (Below.refl _ wl).drew
      have HA := KF.out _ E
      clear NW OX0 Q1 EW0 B d1 c0 c1 c3 hj
      go_upto_region 6 with fail
      refine wp_region_noPanic ?_
      refine wp_region_held_drew (S := fun W => W.cell? ⟨p, 0, none⟩ = some (.int .i64 N) ∧ W.cell? ⟨p, 1, none⟩ = some (.slice TA m tp) ∧ W.cell? ⟨p, 3, none⟩ = some (.slice CA m cp)) (by kernel_rfl) HA (fun hHeld => ?_)
      refine held_takes (by kernel_rfl) (fun _ _ _ _ _ h => h) [0, 1, 3, 4, 6, 8, 9] _ 6 _ _ _ rfl (by kernel_rfl) (by kernel_rfl) hHeld ?_
      simp only [pick, List.drop_succ_cons, List.drop_zero]
      iterate 7 (refine wpTakes_cons (v := ?_) (Or.inl ⟨by rfl, ?_⟩) ?_; rotate_left; (intro w hSw; (try dsimp only at hSw); go_simp <;> with_reducible rfl); (try simp only [Act.put, List.setIfInBounds_toArray, List.set_cons_zero, List.set_cons_succ]))
      refine wpTakes_nil ?_
      clear hHeld HA
      generalize wl.drew = v0 at *
      refine held_two 2 7 (fuel := 5) rfl (by kernel_rfl) ?_ ?_
      · simp only [List.drop_succ_cons, List.drop_zero]
        refine wpOne_cons (fun KO hK => ?_)
        go_simp
        have bb := below_new v0 (.cells #[] 3)
        have OA := Ow.empty v0 (fun _ => 0)
        have E' := E.trans (bb.mono E.size)
        generalize hW : v0.alloc (.cells #[] 3) = v1 at *
        clear hW bb
        obtain ⟨hA, ehA⟩ : ∃ h, h = v0.heap.size := ⟨_, rfl⟩
        rw [← ehA] at OA ⊢
        have lA : wl.heap.size ≤ hA := by have := E.size; omega
        clear E ehA; have E := E'; clear E'
        refine hK.out _ _ (KF.out _ E) ?_
        clear hK KO
        try simp only [Act.put, List.setIfInBounds_toArray, List.set_cons_zero, List.set_cons_succ]
        refine held_two 5 7 (fuel := 4) rfl (by kernel_rfl) ?_ ?_
        · simp only [List.drop_succ_cons, List.drop_zero]
          refine wpOne_cons (fun KO hK => ?_)
          refine step_appI rfl _ _ rfl _ 0 (fun _ => 0) rfl OA _ m _ t rfl (HTs.out v1 E) (by omega) ?_
          intro VTA v2 OTA g5 l5
          replace OTA := OTA.congr (x' := t) (fun j hj => by rw [cat_hi (Nat.zero_le _), Nat.sub_zero])
          rw [Nat.zero_add] at OTA
          have hs5 := E.size
          have E' := Below.grown E g5 hs5 (by intro k hk; have hk : some hA = some k := hk; injection hk with hk; omega)
          have lTA : ∀ k, VTA.ownBlock = some k → wl.heap.size ≤ k := by intro k hk; rcases l5 with e | e <;> rw [hk] at e <;> injection e with e <;> (try have e : k = hA := e) <;> omega
          clear E; have E := E'; clear E' g5 l5 hs5
          obtain ⟨ATA, cTA, rfl⟩ := OTA.sliced
          refine hK.out _ _ (KF.out _ E) ?_
          clear hK KO
          try simp only [Act.put, List.setIfInBounds_toArray, List.set_cons_zero, List.set_cons_succ]
          refine held_one 7 (fuel := 3) rfl (by kernel_rfl) ?_
          simp only [List.drop_succ_cons, List.drop_zero]
          refine wpOne_cons (fun KO hK => ?_)
          go_simp
          have bb := below_new v2 (.cells #[] 3)
          have OB := Ow.empty v2 (fun _ => 0)
          have E' := E.trans (bb.mono E.size)
          have OTA' := OTA.below bb (Nat.le_refl _)
          generalize hW : v2.alloc (.cells #[] 3) = v3 at *
          clear hW bb
          obtain ⟨hB, ehB⟩ : ∃ h, h = v2.heap.size := ⟨_, rfl⟩
          rw [← ehB] at OB ⊢
          have lB : wl.heap.size ≤ hB := by have := E.size; omega
          have lB2 : ∀ k, (Value.slice ATA m cTA).ownBlock = some k → k ≠ hB := by intro k hk; have := OTA.lt hk; omega
          clear OTA; have OTA := OTA'; clear OTA'
          clear E ehB; have E := E'; clear E'
          refine hK.out _ _ (KF.out _ E) ?_
          clear hK KO
          try simp only [Act.put, List.setIfInBounds_toArray, List.set_cons_zero, List.set_cons_succ]
          refine held_one 10 (fuel := 2) rfl (by kernel_rfl) ?_
          simp only [List.drop_succ_cons, List.drop_zero]
          refine wpOne_cons (fun KO hK => ?_)
          refine step_appI rfl _ _ rfl _ 0 (fun _ => 0) rfl OB _ m _ c rfl (HCs.out v3 E) (by omega) ?_
          intro VTB v4 OTB g5 l5
          replace OTB := OTB.congr (x' := c) (fun j hj => by rw [cat_hi (Nat.zero_le _), Nat.sub_zero])
          rw [Nat.zero_add] at OTB
          have hs5 := E.size
          have E' := Below.grown E g5 hs5 (by intro k hk; have hk : some hB = some k := hk; injection hk with hk; omega)
          have lTB : ∀ k, VTB.ownBlock = some k → wl.heap.size ≤ k := by intro k hk; rcases l5 with e | e <;> rw [hk] at e <;> injection e with e <;> (try have e : k = hB := e) <;> omega
          replace OTA := OTA.keep (w' := v4) (fun k hk => g5.block _ (OTA.lt hk) (fun z => by have z : some k = some hB := z; injection z with z; have := lB2 k hk; omega))
          clear E; have E := E'; clear E' g5 l5 hs5
          obtain ⟨ATB, cTB, rfl⟩ := OTB.sliced
          refine hK.out _ _ (KF.out _ E) ?_
          clear hK KO
          try simp only [Act.put, List.setIfInBounds_toArray, List.set_cons_zero, List.set_cons_succ]
          refine held_takes (by kernel_rfl) (fun _ _ _ _ _ h => h) [11] _ 1 _ _ _ rfl (by kernel_rfl) (by kernel_rfl) (KF.out _ E) ?_
          simp only [pick, List.drop_succ_cons, List.drop_zero]
          iterate 1 (refine wpTakes_cons (v := ?_) (Or.inl ⟨by rfl, ?_⟩) ?_; rotate_left; (intro w hSw; go_simp <;> with_reducible rfl); (try simp only [Act.put, List.setIfInBounds_toArray, List.set_cons_zero, List.set_cons_succ]))
          refine wpTakes_nil ?_
          have Qc : Box v4 r 0 (.slice none 0 0) (.slice none 0 0) (.slice none 0 0) := (E.block r lr).trans QQ
          have r0 : v4.cell? ⟨r, 0, none⟩ = some (.int .i64 0) := blk_cell Qc 0
          have f0 := blk_frozen Qc 0
          have r1 : v4.cell? ⟨r, 1, none⟩ = some (.slice none 0 0) := blk_cell Qc 1
          have f1 := blk_frozen Qc 1
          have r2 : v4.cell? ⟨r, 2, none⟩ = some (.slice none 0 0) := blk_cell Qc 2
          have f2 := blk_frozen Qc 2
          have r3 : v4.cell? ⟨r, 3, none⟩ = some (.slice none 0 0) := blk_cell Qc 3
          have f3 := blk_frozen Qc 3
          have XN : Ow v4 (.slice (some ⟨b, 0, none⟩) m m) m (turnUp x m) := OX.below E (Nat.le_refl _)
          have RB : Box (put4 v4 r N (.slice ATA m cTA) (.slice (some ⟨b, 0, none⟩) m m) (.slice ATB m cTB)) r N (.slice ATA m cTA) (.slice (some ⟨b, 0, none⟩) m m) (.slice ATB m cTB) := put4_box Qc _ _ _ _
          have FB := put4_below (EW.trans (E.mono EW.size)) hrw N (.slice ATA m cTA) (.slice (some ⟨b, 0, none⟩) m m) (.slice ATB m cTB)
          have F1 := OTA.keep (w' := put4 v4 r N (.slice ATA m cTA) (.slice (some ⟨b, 0, none⟩) m m) (.slice ATB m cTB)) (fun k hk => put4_ne (by have := lTA k hk; omega))
          have F2 := XN.keep (w' := put4 v4 r N (.slice ATA m cTA) (.slice (some ⟨b, 0, none⟩) m m) (.slice ATB m cTB)) (fun k hk => put4_ne (by have hk : some b = some k := hk; injection hk with hk; omega))
          have F3 := OTB.keep (w' := put4 v4 r N (.slice ATA m cTA) (.slice (some ⟨b, 0, none⟩) m m) (.slice ATB m cTB)) (fun k hk => put4_ne (by have := lTB k hk; omega))
          have KS : (put4 v4 r N (.slice ATA m cTA) (.slice (some ⟨b, 0, none⟩) m m) (.slice ATB m cTB)).heap[p]? = wl.heap[p]? := (put4_ne (by omega)).trans (E.block p lp)
          have KG := KH.out _ KS
          unfold put4 at RB FB F1 F2 F3 KG
          refine held_one 12 (fuel := 0) rfl (by kernel_rfl) ?_
          simp only [List.drop_succ_cons, List.drop_zero]
          refine wpOne_cons (fun KO hK => ?_)
          go_simp
          refine hK.out _ _ KG ?_
          clear hK KO
          try simp only [Act.put, List.setIfInBounds_toArray, List.set_cons_zero, List.set_cons_succ]
          refine wpAnyH_done (by kernel_rfl) ?_ _
          refine NoPanic.normal ?_
          clear r0 r1 r2 r3 f0 f1 f2 f3 Qc XN KS KG OTA OTB E
          generalize (((v4.setCell ⟨r, 0, none⟩ (.int .i64 N)).setCell ⟨r, 1, none⟩ (.slice ATA m cTA)).setCell ⟨r, 2, none⟩ (.slice (some ⟨b, 0, none⟩) m m)).setCell ⟨r, 3, none⟩ (.slice ATB m cTB) = w9 at *
          have r0 : w9.cell? ⟨r, 0, none⟩ = some (.int .i64 N) := blk_cell RB 0
          have r1 : w9.cell? ⟨r, 1, none⟩ = some (.slice ATA m cTA) := blk_cell RB 1
          have r2 : w9.cell? ⟨r, 2, none⟩ = some (.slice (some ⟨b, 0, none⟩) m m) := blk_cell RB 2
          have r3 : w9.cell? ⟨r, 3, none⟩ = some (.slice ATB m cTB) := blk_cell RB 3
          go_wp2_with fail
          exact bodyPost_ret (v := .agg #[.int .i64 N, .slice ATA m cTA, .slice (some ⟨b, 0, none⟩) m m, .slice ATB m cTB]) (by simp [results, Try.results28, go_sem, r0, r1, r2, r3]) rfl ⟨_, _, _, rfl, F1.rd, F2.rd, F3.rd, FB⟩
        · simp only [List.drop_succ_cons, List.drop_zero]
          refine wpOne_cons (fun KO hK => ?_)
          go_simp
          have bb := below_new v1 (.cells #[] 3)
          have OB := Ow.empty v1 (fun _ => 0)
          have E' := E.trans (bb.mono E.size)
          have OA' := OA.below bb (Nat.le_refl _)
          generalize hW : v1.alloc (.cells #[] 3) = v2 at *
          clear hW bb
          obtain ⟨hB, ehB⟩ : ∃ h, h = v1.heap.size := ⟨_, rfl⟩
          rw [← ehB] at OB ⊢
          have lB : wl.heap.size ≤ hB := by have := E.size; omega
          have dAB : hA ≠ hB := by have := OA.lt (k := hA) rfl; omega
          clear OA; have OA := OA'; clear OA'
          clear E ehB; have E := E'; clear E'
          refine hK.out _ _ (KF.out _ E) ?_
          clear hK KO
          try simp only [Act.put, List.setIfInBounds_toArray, List.set_cons_zero, List.set_cons_succ]
          refine held_one 5 (fuel := 3) rfl (by kernel_rfl) ?_
          simp only [List.drop_succ_cons, List.drop_zero]
          refine wpOne_cons (fun KO hK => ?_)
          refine step_appI rfl _ _ rfl _ 0 (fun _ => 0) rfl OA _ m _ t rfl (HTs.out v2 E) (by omega) ?_
          intro VTA v3 OTA g5 l5
          replace OTA := OTA.congr (x' := t) (fun j hj => by rw [cat_hi (Nat.zero_le _), Nat.sub_zero])
          rw [Nat.zero_add] at OTA
          have hs5 := E.size
          have lBold := OB.lt (k := hB) rfl
          have E' := Below.grown E g5 hs5 (by intro k hk; have hk : some hA = some k := hk; injection hk with hk; omega)
          have lTA : ∀ k, VTA.ownBlock = some k → wl.heap.size ≤ k := by intro k hk; rcases l5 with e | e <;> rw [hk] at e <;> injection e with e <;> (try have e : k = hA := e) <;> omega
          replace OB := OB.keep (w' := v3) (fun k hk => by have hk : some hB = some k := hk; injection hk with hk; subst hk; exact g5.block _ (OB.lt (k := hB) rfl) (fun z => by have z : some hB = some hA := z; injection z with z; omega))
          have lB2 : ∀ k, VTA.ownBlock = some k → k ≠ hB := by intro k hk; have hbl := OB.lt (k := hB) rfl; rcases l5 with e | e <;> rw [hk] at e <;> injection e with e <;> (try have e : k = hA := e) <;> (first | omega | (have := lBold; omega))
          clear E; have E := E'; clear E' g5 l5 hs5
          obtain ⟨ATA, cTA, rfl⟩ := OTA.sliced
          refine hK.out _ _ (KF.out _ E) ?_
          clear hK KO
          try simp only [Act.put, List.setIfInBounds_toArray, List.set_cons_zero, List.set_cons_succ]
          refine held_one 10 (fuel := 2) rfl (by kernel_rfl) ?_
          simp only [List.drop_succ_cons, List.drop_zero]
          refine wpOne_cons (fun KO hK => ?_)
          refine step_appI rfl _ _ rfl _ 0 (fun _ => 0) rfl OB _ m _ c rfl (HCs.out v3 E) (by omega) ?_
          intro VTB v4 OTB g5 l5
          replace OTB := OTB.congr (x' := c) (fun j hj => by rw [cat_hi (Nat.zero_le _), Nat.sub_zero])
          rw [Nat.zero_add] at OTB
          have hs5 := E.size
          have E' := Below.grown E g5 hs5 (by intro k hk; have hk : some hB = some k := hk; injection hk with hk; omega)
          have lTB : ∀ k, VTB.ownBlock = some k → wl.heap.size ≤ k := by intro k hk; rcases l5 with e | e <;> rw [hk] at e <;> injection e with e <;> (try have e : k = hB := e) <;> omega
          replace OTA := OTA.keep (w' := v4) (fun k hk => g5.block _ (OTA.lt hk) (fun z => by have z : some k = some hB := z; injection z with z; have := lB2 k hk; omega))
          clear E; have E := E'; clear E' g5 l5 hs5
          obtain ⟨ATB, cTB, rfl⟩ := OTB.sliced
          refine hK.out _ _ (KF.out _ E) ?_
          clear hK KO
          try simp only [Act.put, List.setIfInBounds_toArray, List.set_cons_zero, List.set_cons_succ]
          refine held_takes (by kernel_rfl) (fun _ _ _ _ _ h => h) [11] _ 1 _ _ _ rfl (by kernel_rfl) (by kernel_rfl) (KF.out _ E) ?_
          simp only [pick, List.drop_succ_cons, List.drop_zero]
          iterate 1 (refine wpTakes_cons (v := ?_) (Or.inl ⟨by rfl, ?_⟩) ?_; rotate_left; (intro w hSw; go_simp <;> with_reducible rfl); (try simp only [Act.put, List.setIfInBounds_toArray, List.set_cons_zero, List.set_cons_succ]))
          refine wpTakes_nil ?_
          have Qc : Box v4 r 0 (.slice none 0 0) (.slice none 0 0) (.slice none 0 0) := (E.block r lr).trans QQ
          have r0 : v4.cell? ⟨r, 0, none⟩ = some (.int .i64 0) := blk_cell Qc 0
          have f0 := blk_frozen Qc 0
          have r1 : v4.cell? ⟨r, 1, none⟩ = some (.slice none 0 0) := blk_cell Qc 1
          have f1 := blk_frozen Qc 1
          have r2 : v4.cell? ⟨r, 2, none⟩ = some (.slice none 0 0) := blk_cell Qc 2
          have f2 := blk_frozen Qc 2
          have r3 : v4.cell? ⟨r, 3, none⟩ = some (.slice none 0 0) := blk_cell Qc 3
          have f3 := blk_frozen Qc 3
          have XN : Ow v4 (.slice (some ⟨b, 0, none⟩) m m) m (turnUp x m) := OX.below E (Nat.le_refl _)
          have RB : Box (put4 v4 r N (.slice ATA m cTA) (.slice (some ⟨b, 0, none⟩) m m) (.slice ATB m cTB)) r N (.slice ATA m cTA) (.slice (some ⟨b, 0, none⟩) m m) (.slice ATB m cTB) := put4_box Qc _ _ _ _
          have FB := put4_below (EW.trans (E.mono EW.size)) hrw N (.slice ATA m cTA) (.slice (some ⟨b, 0, none⟩) m m) (.slice ATB m cTB)
          have F1 := OTA.keep (w' := put4 v4 r N (.slice ATA m cTA) (.slice (some ⟨b, 0, none⟩) m m) (.slice ATB m cTB)) (fun k hk => put4_ne (by have := lTA k hk; omega))
          have F2 := XN.keep (w' := put4 v4 r N (.slice ATA m cTA) (.slice (some ⟨b, 0, none⟩) m m) (.slice ATB m cTB)) (fun k hk => put4_ne (by have hk : some b = some k := hk; injection hk with hk; omega))
          have F3 := OTB.keep (w' := put4 v4 r N (.slice ATA m cTA) (.slice (some ⟨b, 0, none⟩) m m) (.slice ATB m cTB)) (fun k hk => put4_ne (by have := lTB k hk; omega))
          have KS : (put4 v4 r N (.slice ATA m cTA) (.slice (some ⟨b, 0, none⟩) m m) (.slice ATB m cTB)).heap[p]? = wl.heap[p]? := (put4_ne (by omega)).trans (E.block p lp)
          have KG := KH.out _ KS
          unfold put4 at RB FB F1 F2 F3 KG
          refine held_one 12 (fuel := 0) rfl (by kernel_rfl) ?_
          simp only [List.drop_succ_cons, List.drop_zero]
          refine wpOne_cons (fun KO hK => ?_)
          go_simp
          refine hK.out _ _ KG ?_
          clear hK KO
          try simp only [Act.put, List.setIfInBounds_toArray, List.set_cons_zero, List.set_cons_succ]
          refine wpAnyH_done (by kernel_rfl) ?_ _
          refine NoPanic.normal ?_
          clear r0 r1 r2 r3 f0 f1 f2 f3 Qc XN KS KG OTA OTB E
          generalize (((v4.setCell ⟨r, 0, none⟩ (.int .i64 N)).setCell ⟨r, 1, none⟩ (.slice ATA m cTA)).setCell ⟨r, 2, none⟩ (.slice (some ⟨b, 0, none⟩) m m)).setCell ⟨r, 3, none⟩ (.slice ATB m cTB) = w9 at *
          have r0 : w9.cell? ⟨r, 0, none⟩ = some (.int .i64 N) := blk_cell RB 0
          have r1 : w9.cell? ⟨r, 1, none⟩ = some (.slice ATA m cTA) := blk_cell RB 1
          have r2 : w9.cell? ⟨r, 2, none⟩ = some (.slice (some ⟨b, 0, none⟩) m m) := blk_cell RB 2
          have r3 : w9.cell? ⟨r, 3, none⟩ = some (.slice ATB m cTB) := blk_cell RB 3
          go_wp2_with fail
          exact bodyPost_ret (v := .agg #[.int .i64 N, .slice ATA m cTA, .slice (some ⟨b, 0, none⟩) m m, .slice ATB m cTB]) (by simp [results, Try.results28, go_sem, r0, r1, r2, r3]) rfl ⟨_, _, _, rfl, F1.rd, F2.rd, F3.rd, FB⟩
      · simp only [List.drop_succ_cons, List.drop_zero]
        refine wpOne_cons (fun KO hK => ?_)
        go_simp
        have bb := below_new v0 (.cells #[] 3)
        have OB := Ow.empty v0 (fun _ => 0)
        have E' := E.trans (bb.mono E.size)
        generalize hW : v0.alloc (.cells #[] 3) = v1 at *
        clear hW bb
        obtain ⟨hB, ehB⟩ : ∃ h, h = v0.heap.size := ⟨_, rfl⟩
        rw [← ehB] at OB ⊢
        have lB : wl.heap.size ≤ hB := by have := E.size; omega
        clear E ehB; have E := E'; clear E'
        refine hK.out _ _ (KF.out _ E) ?_
        clear hK KO
        try simp only [Act.put, List.setIfInBounds_toArray, List.set_cons_zero, List.set_cons_succ]
        refine held_one 2 (fuel := 4) rfl (by kernel_rfl) ?_
        simp only [List.drop_succ_cons, List.drop_zero]
        refine wpOne_cons (fun KO hK => ?_)
        go_simp
        have bb := below_new v1 (.cells #[] 3)
        have OA := Ow.empty v1 (fun _ => 0)
        have E' := E.trans (bb.mono E.size)
        have OB' := OB.below bb (Nat.le_refl _)
        generalize hW : v1.alloc (.cells #[] 3) = v2 at *
        clear hW bb
        obtain ⟨hA, ehA⟩ : ∃ h, h = v1.heap.size := ⟨_, rfl⟩
        rw [← ehA] at OA ⊢
        have lA : wl.heap.size ≤ hA := by have := E.size; omega
        have dBA : hB ≠ hA := by have := OB.lt (k := hB) rfl; omega
        clear OB; have OB := OB'; clear OB'
        clear E ehA; have E := E'; clear E'
        refine hK.out _ _ (KF.out _ E) ?_
        clear hK KO
        try simp only [Act.put, List.setIfInBounds_toArray, List.set_cons_zero, List.set_cons_succ]
        refine held_one 5 (fuel := 3) rfl (by kernel_rfl) ?_
        simp only [List.drop_succ_cons, List.drop_zero]
        refine wpOne_cons (fun KO hK => ?_)
        refine step_appI rfl _ _ rfl _ 0 (fun _ => 0) rfl OA _ m _ t rfl (HTs.out v2 E) (by omega) ?_
        intro VTA v3 OTA g5 l5
        replace OTA := OTA.congr (x' := t) (fun j hj => by rw [cat_hi (Nat.zero_le _), Nat.sub_zero])
        rw [Nat.zero_add] at OTA
        have hs5 := E.size
        have lBold := OB.lt (k := hB) rfl
        have E' := Below.grown E g5 hs5 (by intro k hk; have hk : some hA = some k := hk; injection hk with hk; omega)
        have lTA : ∀ k, VTA.ownBlock = some k → wl.heap.size ≤ k := by intro k hk; rcases l5 with e | e <;> rw [hk] at e <;> injection e with e <;> (try have e : k = hA := e) <;> omega
        replace OB := OB.keep (w' := v3) (fun k hk => by have hk : some hB = some k := hk; injection hk with hk; subst hk; exact g5.block _ (OB.lt (k := hB) rfl) (fun z => by have z : some hB = some hA := z; injection z with z; omega))
        have lB2 : ∀ k, VTA.ownBlock = some k → k ≠ hB := by intro k hk; have hbl := OB.lt (k := hB) rfl; rcases l5 with e | e <;> rw [hk] at e <;> injection e with e <;> (try have e : k = hA := e) <;> (first | omega | (have := lBold; omega))
        clear E; have E := E'; clear E' g5 l5 hs5
        obtain ⟨ATA, cTA, rfl⟩ := OTA.sliced
        refine hK.out _ _ (KF.out _ E) ?_
        clear hK KO
        try simp only [Act.put, List.setIfInBounds_toArray, List.set_cons_zero, List.set_cons_succ]
        refine held_one 10 (fuel := 2) rfl (by kernel_rfl) ?_
        simp only [List.drop_succ_cons, List.drop_zero]
        refine wpOne_cons (fun KO hK => ?_)
        refine step_appI rfl _ _ rfl _ 0 (fun _ => 0) rfl OB _ m _ c rfl (HCs.out v3 E) (by omega) ?_
        intro VTB v4 OTB g5 l5
        replace OTB := OTB.congr (x' := c) (fun j hj => by rw [cat_hi (Nat.zero_le _), Nat.sub_zero])
        rw [Nat.zero_add] at OTB
        have hs5 := E.size
        have E' := Below.grown E g5 hs5 (by intro k hk; have hk : some hB = some k := hk; injection hk with hk; omega)
        have lTB : ∀ k, VTB.ownBlock = some k → wl.heap.size ≤ k := by intro k hk; rcases l5 with e | e <;> rw [hk] at e <;> injection e with e <;> (try have e : k = hB := e) <;> omega
        replace OTA := OTA.keep (w' := v4) (fun k hk => g5.block _ (OTA.lt hk) (fun z => by have z : some k = some hB := z; injection z with z; have := lB2 k hk; omega))
        clear E; have E := E'; clear E' g5 l5 hs5
        obtain ⟨ATB, cTB, rfl⟩ := OTB.sliced
        refine hK.out _ _ (KF.out _ E) ?_
        clear hK KO
        try simp only [Act.put, List.setIfInBounds_toArray, List.set_cons_zero, List.set_cons_succ]
        refine held_takes (by kernel_rfl) (fun _ _ _ _ _ h => h) [11] _ 1 _ _ _ rfl (by kernel_rfl) (by kernel_rfl) (KF.out _ E) ?_
        simp only [pick, List.drop_succ_cons, List.drop_zero]
        iterate 1 (refine wpTakes_cons (v := ?_) (Or.inl ⟨by rfl, ?_⟩) ?_; rotate_left; (intro w hSw; go_simp <;> with_reducible rfl); (try simp only [Act.put, List.setIfInBounds_toArray, List.set_cons_zero, List.set_cons_succ]))
        refine wpTakes_nil ?_
        have Qc : Box v4 r 0 (.slice none 0 0) (.slice none 0 0) (.slice none 0 0) := (E.block r lr).trans QQ
        have r0 : v4.cell? ⟨r, 0, none⟩ = some (.int .i64 0) := blk_cell Qc 0
        have f0 := blk_frozen Qc 0
        have r1 : v4.cell? ⟨r, 1, none⟩ = some (.slice none 0 0) := blk_cell Qc 1
        have f1 := blk_frozen Qc 1
        have r2 : v4.cell? ⟨r, 2, none⟩ = some (.slice none 0 0) := blk_cell Qc 2
        have f2 := blk_frozen Qc 2
        have r3 : v4.cell? ⟨r, 3, none⟩ = some (.slice none 0 0) := blk_cell Qc 3
        have f3 := blk_frozen Qc 3
        have XN : Ow v4 (.slice (some ⟨b, 0, none⟩) m m) m (turnUp x m) := OX.below E (Nat.le_refl _)
        have RB : Box (put4 v4 r N (.slice ATA m cTA) (.slice (some ⟨b, 0, none⟩) m m) (.slice ATB m cTB)) r N (.slice ATA m cTA) (.slice (some ⟨b, 0, none⟩) m m) (.slice ATB m cTB) := put4_box Qc _ _ _ _
        have FB := put4_below (EW.trans (E.mono EW.size)) hrw N (.slice ATA m cTA) (.slice (some ⟨b, 0, none⟩) m m) (.slice ATB m cTB)
        have F1 := OTA.keep (w' := put4 v4 r N (.slice ATA m cTA) (.slice (some ⟨b, 0, none⟩) m m) (.slice ATB m cTB)) (fun k hk => put4_ne (by have := lTA k hk; omega))
        have F2 := XN.keep (w' := put4 v4 r N (.slice ATA m cTA) (.slice (some ⟨b, 0, none⟩) m m) (.slice ATB m cTB)) (fun k hk => put4_ne (by have hk : some b = some k := hk; injection hk with hk; omega))
        have F3 := OTB.keep (w' := put4 v4 r N (.slice ATA m cTA) (.slice (some ⟨b, 0, none⟩) m m) (.slice ATB m cTB)) (fun k hk => put4_ne (by have := lTB k hk; omega))
        have KS : (put4 v4 r N (.slice ATA m cTA) (.slice (some ⟨b, 0, none⟩) m m) (.slice ATB m cTB)).heap[p]? = wl.heap[p]? := (put4_ne (by omega)).trans (E.block p lp)
        have KG := KH.out _ KS
        unfold put4 at RB FB F1 F2 F3 KG
        refine held_one 12 (fuel := 0) rfl (by kernel_rfl) ?_
        simp only [List.drop_succ_cons, List.drop_zero]
        refine wpOne_cons (fun KO hK => ?_)
        go_simp
        refine hK.out _ _ KG ?_
        clear hK KO
        try simp only [Act.put, List.setIfInBounds_toArray, List.set_cons_zero, List.set_cons_succ]
        refine wpAnyH_done (by kernel_rfl) ?_ _
        refine NoPanic.normal ?_
        clear r0 r1 r2 r3 f0 f1 f2 f3 Qc XN KS KG OTA OTB E
        generalize (((v4.setCell ⟨r, 0, none⟩ (.int .i64 N)).setCell ⟨r, 1, none⟩ (.slice ATA m cTA)).setCell ⟨r, 2, none⟩ (.slice (some ⟨b, 0, none⟩) m m)).setCell ⟨r, 3, none⟩ (.slice ATB m cTB) = w9 at *
        have r0 : w9.cell? ⟨r, 0, none⟩ = some (.int .i64 N) := blk_cell RB 0
        have r1 : w9.cell? ⟨r, 1, none⟩ = some (.slice ATA m cTA) := blk_cell RB 1
        have r2 : w9.cell? ⟨r, 2, none⟩ = some (.slice (some ⟨b, 0, none⟩) m m) := blk_cell RB 2
        have r3 : w9.cell? ⟨r, 3, none⟩ = some (.slice ATB m cTB) := blk_cell RB 3
        go_wp2_with fail
        exact bodyPost_ret (v := .agg #[.int .i64 N, .slice ATA m cTA, .slice (some ⟨b, 0, none⟩) m m, .slice ATB m cTB]) (by simp [results, Try.results28, go_sem, r0, r1, r2, r3]) rfl ⟨_, _, _, rfl, F1.rd, F2.rd, F3.rd, FB⟩
end Go.Proofs.Ytcejjcopchkmeaa.Ro
