/- Walks: the law RotGrows. -/
import Derived.Test.YtcejjcopchkmeaaRoPp
import Derived.Test.YtcejjcopchkmeaaMq1
import Derived.Test.YtcejjcopchkmeaaMq2
import Derived.Test.YtcejjcopchkmeaaRoKn
import Derived.Deep.RegionHeld3
namespace Go.Proofs.Ytcejjcopchkmeaa.Ro
open Go.RowKit Go.Proofs Go.Maps
set_option linter.unusedVariables false
set_option linter.unusedSimpArgs false

/-- two turns about a vertex exchanged: a net still -/
def cycX (x : Nat → Int) (a : Nat) : Nat → Int := upd (upd (upd x a (ab x (ab x a) : Int)) (ab x a) (x (ab x (ab x a)))) (ab x (ab x a)) (ab x a : Int)
section
variable {N m a : Nat} {t x : Nat → Int}
theorem cyc3 (g : Good N m t x) (T : Turns m t x) (ha : a < m) (h1 : a ≠ ab x a) (h2 : a ≠ ab x (ab x a)) (h3 : ab x a ≠ ab x (ab x a)) : Good N m t (cycX x a) ∧ Turns m t (cycX x a) := by
  have p := T.perm
  have hb := p.lt a ha
  have hc := p.lt _ hb
  have xv : ∀ d, d < m → x d = (ab x d : Int) := fun d hd => by have := g.next d hd; unfold ab; omega
  have kb := T.keep a ha
  have kc := T.keep _ hb
  generalize eb : ab x a = b at *
  generalize ec : ab x b = c at *
  have v : ∀ e, ab (cycX x a) e = if e = c then b else if e = b then ab x c else if e = a then c else ab x e := fun e => by
    unfold cycX ab
    have eb' : (x a).toNat = b := eb
    have ec' : (x b).toNat = c := ec
    rw [eb', ec']
    unfold upd
    by_cases q1 : e = c
    · simp [q1]
    · by_cases q2 : e = b
      · simp [q2, h3]
      · by_cases q3 : e = a
        · simp [q3, h1, h2]
        · simp [q1, q2, q3]
  have sv : ∀ e, ab (cycX x a) e = ab x (if e = a then b else if e = b then c else if e = c then a else e) := fun e => by
    rw [v e]
    by_cases q1 : e = a
    · rw [if_pos q1, if_neg (by omega), if_neg (by omega), if_pos q1, ec]
    · rw [if_neg q1, if_neg q1]
      by_cases q2 : e = b
      · rw [if_pos q2, if_pos q2, if_neg (by omega)]
      · rw [if_neg q2, if_neg q2]
        by_cases q3 : e = c
        · rw [if_pos q3, if_pos q3, eb]
        · rw [if_neg q3, if_neg q3]
  have sl : ∀ e, e < m → (if e = a then b else if e = b then c else if e = c then a else e) < m ∧ tlOf t (if e = a then b else if e = b then c else if e = c then a else e) = tlOf t e := fun e he => by
    split
    · rename_i q; subst q; exact ⟨hb, kb⟩
    · split
      · rename_i q; subst q; exact ⟨hc, kc⟩
      · split
        · rename_i q; subst q; exact ⟨ha, by rw [kc, kb]⟩
        · exact ⟨he, rfl⟩
  have lt : ∀ e, e < m → ab (cycX x a) e < m := fun e he => by rw [sv]; exact p.lt _ (sl e he).1
  have pp : Perm (ab (cycX x a)) m := ⟨lt, fun e f he hf q => by
    rw [sv, sv] at q
    have := p.inj _ _ (sl e he).1 (sl f hf).1 q
    split at this <;> split at this <;> (try split at this) <;> (try split at this) <;> (try split at this) <;> (try split at this) <;> omega⟩
  have st : ∀ u, u < m → ∃ k, it (ab (cycX x a)) k u = ab x u := fun u hu => by
    have ca : ab (cycX x a) c = b := by rw [v, if_pos rfl]
    have ba : ab (cycX x a) b = ab x c := by rw [v, if_neg h3, if_pos rfl]
    by_cases q1 : u = a
    · subst q1
      refine ⟨2, ?_⟩
      have : ab (cycX x u) u = c := by rw [v, if_neg h2, if_neg h1, if_pos rfl]
      show ab (cycX x u) (ab (cycX x u) u) = _
      rw [this, ca, eb]
    · by_cases q2 : u = b
      · subst q2
        obtain ⟨j, hj⟩ := pp.back (k := 1) hc (show it (ab (cycX x a)) 1 c = u from ca)
        exact ⟨j, by rw [hj, ec]⟩
      · by_cases q3 : u = c
        · subst q3
          exact ⟨2, by show ab (cycX x a) (ab (cycX x a) u) = _; rw [ca, ba]⟩
        · exact ⟨1, by show ab (cycX x a) u = _; rw [v, if_neg q3, if_neg q2, if_neg q1]⟩
  refine ⟨⟨g.one, g.most, g.few, g.even, fun d hd => ?_, g.tail⟩, ⟨pp, fun d hd => ?_, fun d e hd he q => ?_⟩⟩
  · have := lt d hd
    have nn : 0 ≤ cycX x a d := by
      unfold cycX upd
      have eb' : ab x a = b := eb
      have ec' : ab x b = c := ec
      have g1 := (g.next d hd).1
      have g2 := (g.next c hc).1
      rw [eb', ec']
      split
      · omega
      · split
        · exact g2
        · split
          · omega
          · exact g1
    unfold ab at this
    omega
  · rw [sv, T.keep _ (sl d hd).1]; exact (sl d hd).2
  · obtain ⟨k, hk⟩ := T.one d e hd he q
    have : ∀ k, ∃ j, it (ab (cycX x a)) j d = it (ab x) k d := fun k => by
      induction k with
      | zero => exact ⟨0, rfl⟩
      | succ k ih =>
        obtain ⟨j, hj⟩ := ih
        obtain ⟨i, hi⟩ := st (it (ab x) k d) (p.it_lt hd k)
        exact ⟨i + j, by rw [it_add, hj, hi]; rfl⟩
    obtain ⟨j, hj⟩ := this k
    exact ⟨j, by rw [hj]; exact hk⟩
theorem grows_tells {c : Nat → Int} {r : Int} (pn : Plane N m t x c) {x' : Nat → Int} (g : Good N m t x') (T : Turns m t x') (h : TellsAny (N : Int) m m m t x' c r) : r = 0 ∨ r = 8 := by
  rcases h with ⟨h1, _⟩ | ⟨_, h⟩
  · exact absurd g.shapeF h1
  · rcases h with ⟨h, _⟩ | ⟨_, h, _⟩ | ⟨_, _, h⟩
    · exact absurd T h
    · exact absurd pn.caps h
    · rcases h with ⟨_, h⟩ | ⟨_, o, k, P, h⟩
      · exact absurd T h
      · have := pn.whole o k P
        rcases h with ⟨h, _⟩ | ⟨_, _, _, _, h⟩
        · exact absurd this h
        · rcases h with ⟨_, h⟩ | ⟨_, h⟩
          · exact .inr h
          · exact .inl h
end

set_option maxRecDepth 100000 in
set_option maxHeartbeats 12800000 in
theorem grows_walk (A : Option Addr) (len cap : Nat) (zs : List Int) (d : Int) (size : Int) (A2 : Option Addr) (len2 cap2 : Nat) (zs2 : List Int) (w : World) (hV : Rd w (.slice A len cap) len (fun i => zs.getD i 0)) (hz : ∀ i, i < len → Small (zs.getD i 0)) (hl : len ≤ 9223372036854775807) (hd : Small d) (hsize : Small size) (hV2 : Rd w (.slice A2 len2 cap2) len2 (fun i => zs2.getD i 0)) (hz2 : ∀ i, i < len2 → Small (zs2.getD i 0)) (hl2 : len2 ≤ 9223372036854775807) :
    Calls Try.prog 13 #[.slice A len cap, .int .i64 d, .int .i64 size, .slice A2 len2 cap2] w fun e w' => e = .returned (.bool true) ∧ Below w.heap.size w w' := by
  go_enter Try.func13, Try.ntmps13
  go_wp2_with fail
  refine (known_ok _).mono ?_
  rintro e w1 ⟨rfl, B1⟩
  have h01 := B1.size
  go_wp2_with fail
  refine (plane_post _ _ len _ (hV.below B1 (Nat.le_refl _)) hz hl).mono ?_
  rintro e w2 ⟨N, m, t, x, c, TA, tp, XA, xp, CA, cp, rfl, gr, hN, hM, R2, b2⟩
  replace B1 := B1.trans (b2.mono B1.size)
  have gd := gr.good
  have ev := gd.even
  have N1 := gd.one
  have pa := gr.turns.perm
  have pb := pa.bh gd.even
  clear b2 hz hl hV
  go_upto_region 4 with fail
  obtain ⟨w3, hw3, X3, R3, b3⟩ := rows_enter (N : Int) R2
  rw [hw3]
  replace B1 := B1.trans (b3.mono B1.size)
  have NN := NetAt.of X3 R3
  have pR : ∀ k, (Value.slice TA m tp).ownBlock = some k ∨ (Value.slice XA m xp).ownBlock = some k ∨ (Value.slice CA m cp).ownBlock = some k → k < w2.heap.size := fun k hk => (R2.lt hk).2
  have hw1 : w.heap.size ≤ w1.heap.size := h01
  clear hw3 b3 R2 h01
  generalize w2.heap.size = p at *
  by_cases hm0 : m = 0
  · have c1 := NN.c1
    have z0 : ((m : Int) == 0) = true := by simp; omega
    clear hm0
    go_wp2_with fail
    go_ret
    exact ⟨rfl, B1⟩
  have z0 : ((m : Int) == 0) = false := by simp; omega
  have m1 : 0 < m := by omega
  have m1' : (0 : Int) < (m : Int) := by omega
  clear hm0
  have c0 := NN.c0
  have c1 := NN.c1
  have c2 := NN.c2
  have c3 := NN.c3
  obtain ⟨j, hj, hjm⟩ := small_within (d := d) (m := m) m1
  go_wp2_with fail
  refine (within2_any _ d (m : Int) hd m1' (by omega)).mono ?_
  rintro e w4 ⟨rfl, rfl⟩
  rw [hj]
  clear hj
  go_wp2_with fail
  refine (about_ok _ N _ _ _ m t x c NN.rt NN.rx NN.rc gd pa j hjm).mono ?_
  rintro e w4 r4
  obtain ⟨ba, k, rfl, lba, la, ha, Ra, b4⟩ := r4.row
  have pba := NN.lt
  replace NN := NN.below b4 (Nat.le_refl _)
  have R4 := R3.below b4 (Nat.le_refl _)
  have X4 := X3.below b4 (Nat.le_refl _)
  replace B1 := B1.trans (b4.mono B1.size)
  have HA := Lib.hid ha
  clear b4 r4 ha R3 X3 c0 c1 c2 c3
  by_cases hk3 : k < 3
  · have z1 : decide ((k : Int) < 3) = true := by simp; omega
    have z1' : decide (k < 3) = true := by simp; omega
    clear hk3
    go_wp2_with fail
    go_ret
    exact ⟨rfl, B1⟩
  have z1 : decide ((k : Int) < 3) = false := by simp; omega
  have z1' : decide (k < 3) = false := by simp; omega
  have hv : ∀ i, i < k → it (ab x) i j < m := fun i _ => pa.it_lt hjm i
  have HV := Lib.hid hv
  have d1 := Ra.apart 0 1 (by omega) (by omega)
  have d2 := Ra.apart 0 2 (by omega) (by omega)
  have d3 := Ra.apart 1 2 (by omega) (by omega)
  have CY := Lib.hid (cyc3 gd gr.turns hjm d1 d2 d3)
  have a0 : w4.cell? ⟨ba, 0, none⟩ = some (.int .i64 (j : Int)) := HA.out 0 (by omega)
  have a1 : w4.cell? ⟨ba, 1, none⟩ = some (.int .i64 (ab x j : Int)) := HA.out 1 (by omega)
  have a2 : w4.cell? ⟨ba, 2, none⟩ = some (.int .i64 (ab x (ab x j) : Int)) := HA.out 2 (by omega)
  have l1 := pa.lt j hjm
  have l2 := pa.lt _ l1
  have dd1 : ab x j ≠ j := Ne.symm d1
  have dd2 : ab x (ab x j) ≠ j := Ne.symm d2
  have dd3 : ab x (ab x j) ≠ ab x j := Ne.symm d3
  have A0 := Lib.hid (And.intro a0 (And.intro a1 a2))
  have HD := Lib.hid (And.intro dd1 (And.intro dd2 dd3))
  clear hv a0 a1 a2 d1 d2 d3 dd1 dd2 dd3
  go_wp2_with fail
  go_loopw [12] (fun u wr => ∃ i nq : Nat, u = .int .i64 (i : Int) ∧ i ≤ 3 ∧ wr = w4.drewN nq) (fun u _ => 3 - (intOf u).toNat)
  case atStart => exact ⟨0, 0, rfl, by omega, rfl⟩
  case round =>
    obtain ⟨i, nq, rfl, hi, rfl⟩ := hrel
    by_cases hlt : i < 3
    · have e1 : (i : Int) < 3 := by omega
      have e1' : i < 3 := hlt
      have ik : (i : Int) < (k : Int) := by omega
      have ci : w4.cell? ⟨ba, i, none⟩ = some (.int .i64 (it (ab x) i j : Int)) := HA.out i (by omega)
      have li := HV.out i (by omega)
      generalize it (ab x) i j = y at *
      have c2 : w4.cell? ⟨p, 2, none⟩ = some (.slice XA m xp) := NN.c2
      have y1 : decide ((y : Int) < 0) = false := by simp
      have y2 : decide ((y : Int) ≥ (m : Int)) = false := by simp; omega
      have y2' : decide (m ≤ y) = false := by simp; omega
      clear hlt
      go_upto_region 13 with fail
      go_big_quiet (fail)
      go_wp2_with fail
      go_roundw
      case rel => exact ⟨i + 1, _, by simp, by omega, rfl⟩
      case measure => simp [intOf]; omega
    · have e1 : ¬ ((i : Int) < 3) := by omega
      have e1' : ¬ (i < 3) := hlt
      obtain rfl : i = 3 := by omega
      have R5 : Rows (w4.drewN nq) w1.heap.size (.slice TA m tp) (.slice XA m xp) (.slice CA m cp) m t x c := R4.keep fun _ _ => rfl
      have X5 : Box (w4.drewN nq) p (N : Int) (.slice TA m tp) (.slice XA m xp) (.slice CA m cp) := X4
      have B5 : Below w.heap.size w (w4.drewN nq) := ⟨B1.os, B1.tape, B1.output, B1.size, B1.block⟩
      have a0 : (w4.drewN nq).cell? ⟨ba, 0, none⟩ = some (.int .i64 (j : Int)) := A0.out.1
      have a1 : (w4.drewN nq).cell? ⟨ba, 1, none⟩ = some (.int .i64 (ab x j : Int)) := A0.out.2.1
      have a2 : (w4.drewN nq).cell? ⟨ba, 2, none⟩ = some (.int .i64 (ab x (ab x j) : Int)) := A0.out.2.2
      go_upto_region 15 with fail
      clear NN R4 X4 B1 A0 e1 e1' hlt la HA
      generalize w4.drewN nq = w5 at *
      obtain ⟨xb, xc, ex, -⟩ := R5.ox.form m1
      injection ex with ex1 _ ex3
      subst ex1 ex3
      have xlt := pR xb (.inr (.inl rfl))
      have xge := R5.bx xb rfl
      have c2 : w5.cell? ⟨p, 2, none⟩ = some (.slice (some ⟨xb, 0, none⟩) m xp) := blk_cell X5 2
      obtain ⟨hd1, hd2, hd3⟩ := HD.out
      have eb : (ab x (ab x j) : Int) = ((ab x (ab x j) : Nat) : Int) := rfl
      have cx := R5.ox.cell l2
      have xv : x (ab x (ab x j)) = (ab x (ab x (ab x j)) : Int) := by have := gd.next _ l2; unfold ab at this ⊢; omega
      have HXV := Lib.hid xv
      have k0 := R5.ox.cell hjm
      have k1 := R5.ox.cell l1
      have f0 := R5.ox.frozen j
      have f1 := R5.ox.frozen (ab x j)
      have f2 := R5.ox.frozen (ab x (ab x j))
      have i0 : (j : Int) < (m : Int) := by omega
      have i1 : (ab x j : Int) < (m : Int) := by omega
      have i2 : (ab x (ab x j) : Int) < (m : Int) := by omega
      have j0 : (0 : Int) < (k : Int) := by omega
      have j0' : 0 < k := by omega
      have j1' : 1 < k := by omega
      have j2' : 2 < k := by omega
      have j1 : (1 : Int) < (k : Int) := by omega
      have j2 : (2 : Int) < (k : Int) := by omega
      have O1 := ((R5.ox.set hjm (ab x (ab x j) : Int)).set l1 (x (ab x (ab x j)))).set l2 (ab x j : Int)
      have TT : Turn (fun k => k = xb) w5 (((w5.setCell ⟨xb, j, none⟩ (.int .i64 (ab x (ab x j) : Int))).setCell ⟨xb, ab x j, none⟩ (.int .i64 (x (ab x (ab x j))))).setCell ⟨xb, ab x (ab x j), none⟩ (.int .i64 (ab x j : Int))) :=
        ⟨rfl, rfl, rfl, by simp [World.setCell], fun k _ hk => (Below.heap_setCell _ _ _ _ hk).trans ((Below.heap_setCell _ _ _ _ hk).trans (Below.heap_setCell _ _ _ _ hk))⟩
      have R6 := Lib.hid (show Rows _ _ _ _ _ _ t (cycX x j) c from R5.turn TT O1)
      have X6 := Lib.hid (X5.turn TT (by omega))
      have B6 := Lib.hid (Below.turn B5 TT (by omega) (by have := B5.size; omega))
      clear R5 X5 B5 O1 TT xv eb
      generalize hu : ab x j = u at *
      generalize hv : ab x u = v at *
      generalize hz : x v = z at *
      have HA : w5.cell? ⟨p, 2, none⟩ = some (.slice (some ⟨xb, 0, none⟩) m xp) ∧ w5.cell? ⟨ba, 0, none⟩ = some (.int .i64 (j : Int)) ∧ w5.cell? ⟨ba, 1, none⟩ = some (.int .i64 (u : Int)) ∧ w5.cell? ⟨ba, 2, none⟩ = some (.int .i64 (v : Int)) := ⟨c2, a0, a1, a2⟩
      have KS : Hid (∀ (W : World) (i : Nat) (y : Value), (W.cell? ⟨p, 2, none⟩ = some (.slice (some ⟨xb, 0, none⟩) m xp) ∧ W.cell? ⟨ba, 0, none⟩ = some (.int .i64 (j : Int)) ∧ W.cell? ⟨ba, 1, none⟩ = some (.int .i64 (u : Int)) ∧ W.cell? ⟨ba, 2, none⟩ = some (.int .i64 (v : Int))) → (W.setCell ⟨xb, i, none⟩ y).cell? ⟨p, 2, none⟩ = some (.slice (some ⟨xb, 0, none⟩) m xp) ∧ (W.setCell ⟨xb, i, none⟩ y).cell? ⟨ba, 0, none⟩ = some (.int .i64 (j : Int)) ∧ (W.setCell ⟨xb, i, none⟩ y).cell? ⟨ba, 1, none⟩ = some (.int .i64 (u : Int)) ∧ (W.setCell ⟨xb, i, none⟩ y).cell? ⟨ba, 2, none⟩ = some (.int .i64 (v : Int))) := Lib.hid fun W i y h => by
        have e1 : ∀ b, b ≠ xb → ∀ o, (W.setCell ⟨xb, i, none⟩ y).cell? ⟨b, o, none⟩ = W.cell? ⟨b, o, none⟩ := fun b hb o => by
          have := Below.heap_setCell W ⟨xb, i, none⟩ y b hb
          unfold World.cell?
          rw [this]
        rw [e1 p (by omega), e1 ba (by omega), e1 ba (by omega), e1 ba (by omega)]
        exact h
      refine wp_region_noPanic ?_
      refine wp_region_held_drew (S := fun W => W.cell? ⟨p, 2, none⟩ = some (.slice (some ⟨xb, 0, none⟩) m xp) ∧ W.cell? ⟨ba, 0, none⟩ = some (.int .i64 (j : Int)) ∧ W.cell? ⟨ba, 1, none⟩ = some (.int .i64 (u : Int)) ∧ W.cell? ⟨ba, 2, none⟩ = some (.int .i64 (v : Int))) (by kernel_rfl) HA (fun hHeld => ?_)
      refine held_takes (by kernel_rfl) (fun _ _ _ _ _ h => h) [0, 1, 2, 3, 4, 5, 6, 7, 8, 9, 10, 11, 12, 13, 14, 15, 16, 17, 18, 19, 20, 21, 22, 23, 25, 26, 27] _ 7 _ _ _ rfl (by kernel_rfl) (by kernel_rfl) hHeld ?_
      simp only [pick, List.drop_succ_cons, List.drop_zero]
      iterate 27 (refine wpTakes_cons (v := ?_) (Or.inl ⟨by rfl, ?_⟩) ?_; rotate_left; (intro w hSw; (try dsimp only at hSw); go_simp <;> with_reducible rfl); (try simp only [Act.put, List.setIfInBounds_toArray, List.set_cons_zero, List.set_cons_succ]))
      refine wpTakes_nil ?_
      refine held_one 24 (fuel := 6) rfl (by kernel_rfl) ?_
      simp only [List.drop_succ_cons, List.drop_zero]
      refine wpOne_cons (fun KO hK => ?_)
      have cx5 : w5.drew.cell? ⟨xb, v, none⟩ = some (.int .i64 (z : Int)) := cx
      go_simp
      refine hK.out _ _ hHeld ?_
      clear hK KO
      try simp only [Act.put, List.setIfInBounds_toArray, List.set_cons_zero, List.set_cons_succ]
      refine held_takes (by kernel_rfl) (fun _ _ _ _ _ h => h) [28] _ 5 _ _ _ rfl (by kernel_rfl) (by kernel_rfl) hHeld ?_
      simp only [pick, List.drop_succ_cons, List.drop_zero]
      iterate 1 (refine wpTakes_cons (v := ?_) (Or.inl ⟨by rfl, ?_⟩) ?_; rotate_left; (intro w hSw; (try dsimp only at hSw); go_simp <;> with_reducible rfl); (try simp only [Act.put, List.setIfInBounds_toArray, List.set_cons_zero, List.set_cons_succ]))
      refine wpTakes_nil ?_
      refine held_one 29 (fuel := 4) rfl (by kernel_rfl) ?_
      simp only [List.drop_succ_cons, List.drop_zero]
      refine wpOne_cons (fun KO hK => ?_)
      go_simp
      replace hHeld := KS.out _ j (.int .i64 (v : Int)) hHeld
      refine hK.out _ _ hHeld ?_
      clear hK KO
      try simp only [Act.put, List.setIfInBounds_toArray, List.set_cons_zero, List.set_cons_succ]
      refine held_takes (by kernel_rfl) (fun _ _ _ _ _ h => h) [30] _ 3 _ _ _ rfl (by kernel_rfl) (by kernel_rfl) hHeld ?_
      simp only [pick, List.drop_succ_cons, List.drop_zero]
      iterate 1 (refine wpTakes_cons (v := ?_) (Or.inl ⟨by rfl, ?_⟩) ?_; rotate_left; (intro w hSw; (try dsimp only at hSw); go_simp <;> with_reducible rfl); (try simp only [Act.put, List.setIfInBounds_toArray, List.set_cons_zero, List.set_cons_succ]))
      refine wpTakes_nil ?_
      refine held_one 31 (fuel := 2) rfl (by kernel_rfl) ?_
      simp only [List.drop_succ_cons, List.drop_zero]
      refine wpOne_cons (fun KO hK => ?_)
      go_simp
      replace hHeld := KS.out _ u (.int .i64 z) hHeld
      refine hK.out _ _ hHeld ?_
      clear hK KO
      try simp only [Act.put, List.setIfInBounds_toArray, List.set_cons_zero, List.set_cons_succ]
      refine held_takes (by kernel_rfl) (fun _ _ _ _ _ h => h) [32] _ 1 _ _ _ rfl (by kernel_rfl) (by kernel_rfl) hHeld ?_
      simp only [pick, List.drop_succ_cons, List.drop_zero]
      iterate 1 (refine wpTakes_cons (v := ?_) (Or.inl ⟨by rfl, ?_⟩) ?_; rotate_left; (intro w hSw; (try dsimp only at hSw); go_simp <;> with_reducible rfl); (try simp only [Act.put, List.setIfInBounds_toArray, List.set_cons_zero, List.set_cons_succ]))
      refine wpTakes_nil ?_
      refine held_one 33 (fuel := 0) rfl (by kernel_rfl) ?_
      simp only [List.drop_succ_cons, List.drop_zero]
      refine wpOne_cons (fun KO hK => ?_)
      go_simp
      replace hHeld := KS.out _ v (.int .i64 (u : Int)) hHeld
      refine hK.out _ _ hHeld ?_
      clear hK KO
      try simp only [Act.put, List.setIfInBounds_toArray, List.set_cons_zero, List.set_cons_succ]
      refine wpAnyH_done (by kernel_rfl) ?_ _
      refine NoPanic.normal ?_
      have R7 : Rows (((w5.setCell ⟨xb, j, none⟩ (.int .i64 (v : Int))).setCell ⟨xb, u, none⟩ (.int .i64 z)).setCell ⟨xb, v, none⟩ (.int .i64 (u : Int))).drew w1.heap.size (.slice TA m tp) (.slice (some ⟨xb, 0, none⟩) m xp) (.slice CA m cp) m t (cycX x j) c := R6.out.keep fun _ _ => rfl
      have X7 : Box (((w5.setCell ⟨xb, j, none⟩ (.int .i64 (v : Int))).setCell ⟨xb, u, none⟩ (.int .i64 z)).setCell ⟨xb, v, none⟩ (.int .i64 (u : Int))).drew p (N : Int) (.slice TA m tp) (.slice (some ⟨xb, 0, none⟩) m xp) (.slice CA m cp) := X6.out
      have B7 : Below w.heap.size w (((w5.setCell ⟨xb, j, none⟩ (.int .i64 (v : Int))).setCell ⟨xb, u, none⟩ (.int .i64 z)).setCell ⟨xb, v, none⟩ (.int .i64 (u : Int))).drew := ⟨B6.out.os, B6.out.tape, B6.out.output, B6.out.size, B6.out.block⟩
      clear R6 X6 B6 KS hHeld HA c2 a0 a1 a2 cx cx5 k0 k1 f0 f1 f2 i0 i1 i2 HXV
      go_upto_region 16 with fail
      generalize (((w5.setCell ⟨xb, j, none⟩ (.int .i64 (v : Int))).setCell ⟨xb, u, none⟩ (.int .i64 z)).setCell ⟨xb, v, none⟩ (.int .i64 (u : Int))).drew = w6 at *
      clear hu hv hz hd1 hd2 hd3
      have NN := NetAt.of X7 R7
      have c0 := NN.c0
      have c1 := NN.c1
      have c2 := NN.c2
      have c3 := NN.c3
      have gd' := CY.out.1
      have tu' := CY.out.2
      have GT := Lib.hid (And.intro gd' tu')
      clear gd' tu' CY
      generalize cycX x j = x' at *
      go_wp2_with fail
      refine (check_any _ (N : Int) _ _ _ m m m t x' c NN.rt NN.rx NN.rc (by omega)).mono ?_
      rintro e w7 ⟨r, rfl, tt, b7⟩
      have rr := grows_tells gr.plane GT.out.1 GT.out.2 tt
      have TTE := Lib.hid tt
      replace NN := NN.below b7 (Nat.le_refl _)
      replace B7 := B7.trans (b7.mono B7.size)
      have hB7 := B7.size
      clear tt b7 c0 c1 c2 c3 R7 X7
      go_wp2_with fail
      refine (make1_ok _ size _ len2 _ (hV2.below B7 (Nat.le_refl _)) hz2 hl2 hsize).mono ?_
      rintro e w8 ⟨N', m', T', X', C', t', x2, c', rfl, S8, -, MD, b8⟩
      replace NN := NN.below b8 (Nat.le_refl _)
      replace B7 := B7.trans (b8.mono B7.size)
      obtain ⟨TB, tq, rfl, -⟩ := id S8.ot.rd
      obtain ⟨XB, xq, rfl, -⟩ := id S8.ox.rd
      obtain ⟨CB, cq, rfl, -⟩ := id S8.oc.rd
      clear b8 hz2 hl2 hV2
      have plt8 := NN.lt
      go_upto_region 18 with fail
      obtain ⟨w9, hw9, Y9, S9, b9⟩ := rows_enter (N' : Int) S8
      rw [hw9]
      replace NN := NN.below b9 (Nat.le_refl _)
      replace B7 := B7.trans (b9.mono B7.size)
      have pq : p ≠ w8.heap.size := by have := b9.size; have := plt8; omega
      clear hw9 b9 S8
      generalize w8.heap.size = q at *
      have pl := NN.lt
      have ql := blk_lt Y9
      have a0 := NN.c0
      have a1 := NN.c1
      have a2 := NN.c2
      have a3 := NN.c3
      have e0 : w9.cell? ⟨q, 0, none⟩ = some (.int .i64 (N' : Int)) := blk_cell Y9 0
      have e1 : w9.cell? ⟨q, 1, none⟩ = some (.slice TB m' tq) := blk_cell Y9 1
      have e2 : w9.cell? ⟨q, 2, none⟩ = some (.slice XB m' xq) := blk_cell Y9 2
      have e3 : w9.cell? ⟨q, 3, none⟩ = some (.slice CB m' cq) := blk_cell Y9 3
      have KK : Hid (∀ W, Below w9.heap.size w9 W → W.cell? ⟨p, 0, none⟩ = some (.int .i64 (N : Int)) ∧ W.cell? ⟨p, 1, none⟩ = some (.slice TA m tp) ∧ W.cell? ⟨p, 2, none⟩ = some (.slice (some ⟨xb, 0, none⟩) m xp) ∧ W.cell? ⟨p, 3, none⟩ = some (.slice CA m cp) ∧ W.cell? ⟨q, 0, none⟩ = some (.int .i64 (N' : Int)) ∧ W.cell? ⟨q, 1, none⟩ = some (.slice TB m' tq) ∧ W.cell? ⟨q, 2, none⟩ = some (.slice XB m' xq) ∧ W.cell? ⟨q, 3, none⟩ = some (.slice CB m' cq)) :=
        Lib.hid fun W b => ⟨(b.cell (p := ⟨p, 0, none⟩) pl).trans a0, (b.cell (p := ⟨p, 1, none⟩) pl).trans a1, (b.cell (p := ⟨p, 2, none⟩) pl).trans a2, (b.cell (p := ⟨p, 3, none⟩) pl).trans a3, (b.cell (p := ⟨q, 0, none⟩) ql).trans e0, (b.cell (p := ⟨q, 1, none⟩) ql).trans e1, (b.cell (p := ⟨q, 2, none⟩) ql).trans e2, (b.cell (p := ⟨q, 3, none⟩) ql).trans e3⟩
      have hm := MD.most
      have D0 : Below w9.heap.size w9 w9.drew := (Below.refl _ w9).drew
      have qr : (r == r) = true := by simp
      have HA := KK.out _ D0
      rcases rr with rfl | rfl
      all_goals
        refine wp_region_noPanic ?_
        refine wp_region_held_drew (S := (fun w' => w'.cell? ⟨p, 0, none⟩ = some (.int .i64 (N : Int)) ∧ w'.cell? ⟨p, 1, none⟩ = some (.slice TA m tp) ∧ w'.cell? ⟨p, 2, none⟩ = some (.slice (some ⟨xb, 0, none⟩) m xp) ∧ w'.cell? ⟨p, 3, none⟩ = some (.slice CA m cp) ∧ w'.cell? ⟨q, 0, none⟩ = some (.int .i64 (N' : Int)) ∧ w'.cell? ⟨q, 1, none⟩ = some (.slice TB m' tq) ∧ w'.cell? ⟨q, 2, none⟩ = some (.slice XB m' xq) ∧ w'.cell? ⟨q, 3, none⟩ = some (.slice CB m' cq))) (by kernel_rfl) HA (fun hHeld => ?_)
        refine held_takes (by kernel_rfl) (fun _ _ _ _ _ h => h) [0, 1] _ 19 _ _ _ rfl (by kernel_rfl) (by kernel_rfl) hHeld ?_
        simp only [pick, List.drop_succ_cons, List.drop_zero]
        iterate 2 (first | (refine wpTakes_cons (v := ?_) (Or.inl ⟨by rfl, ?_⟩) ?_; rotate_left; (intro w hSw; (try dsimp only at hSw); go_simp <;> with_reducible rfl); (try simp only [Act.put, List.setIfInBounds_toArray, List.set_cons_zero, List.set_cons_succ])) | (refine wpTakes_cons (v := undef) (Or.inr ⟨by rfl, rfl⟩) ?_; (try simp only [Act.put, List.setIfInBounds_toArray, List.set_cons_zero, List.set_cons_succ])))
        refine wpTakes_nil ?_
        refine held_one 2 (fuel := 18) rfl (by kernel_rfl) ?_
        simp only [List.drop_succ_cons, List.drop_zero]
        refine wpOne_cons (fun KO hK => ?_)
        go_simp
        refine (refCheck_all w9.drew (N : Int) _ _ _ m m m t x' c (NN.rt.below D0 (Nat.le_refl _)) (NN.rx.below D0 (Nat.le_refl _)) (NN.rc.below D0 (Nat.le_refl _)) (by omega)).mono ?_
        rintro e wa ⟨r', rfl, tt', bb⟩
        have hr := tt'.one TTE.out
        subst hr
        have E6 : Below w9.heap.size w9 wa := D0.trans (bb.mono (Nat.le_refl _))
        clear bb tt' hHeld
        have hHeld := KK.out wa E6
        refine hK.out _ _ hHeld ?_
        clear hK KO
        try simp only [Act.put, List.setIfInBounds_toArray, List.set_cons_zero, List.set_cons_succ]
        refine held_takes (by kernel_rfl) (fun _ _ _ _ _ h => h) [3, 4, 5, 6, 7, 8, 9, 10, 11, 12, 13, 16, 17] _ 5 _ _ _ rfl (by kernel_rfl) (by kernel_rfl) hHeld ?_
        simp only [pick, List.drop_succ_cons, List.drop_zero]
        iterate 13 (first | (refine wpTakes_cons (v := ?_) (Or.inl ⟨by rfl, ?_⟩) ?_; rotate_left; (intro w hSw; (try dsimp only at hSw); go_simp <;> with_reducible rfl); (try simp only [Act.put, List.setIfInBounds_toArray, List.set_cons_zero, List.set_cons_succ])) | (refine wpTakes_cons (v := undef) (Or.inr ⟨by rfl, rfl⟩) ?_; (try simp only [Act.put, List.setIfInBounds_toArray, List.set_cons_zero, List.set_cons_succ])))
        refine wpTakes_nil ?_
        refine held_one 14 (fuel := 4) rfl (by kernel_rfl) ?_
        simp only [List.drop_succ_cons, List.drop_zero]
        refine wpOne_cons (fun KO hK => ?_)
        go_simp
        refine (turn_ok wa (N' : Int) _ _ _ m' t' x2 c' (S9.below E6 (Nat.le_refl _)).ot.rd (S9.below E6 (Nat.le_refl _)).ox.rd (S9.below E6 (Nat.le_refl _)).oc.rd (by omega) MD.next).mono ?_
        rintro e wb ⟨T3, X3, C3, rfl, RT, bb⟩
        obtain ⟨A3, t3, rfl, -⟩ := id RT.ot.rd
        obtain ⟨F3, x3, rfl, -⟩ := id RT.ox.rd
        obtain ⟨G3, c3, rfl, -⟩ := id RT.oc.rd
        have hf := fun ww => field_N (N' : Int) A3 F3 G3 m' t3 m' x3 m' c3 ww
        have E7 : Below w9.heap.size w9 wb := E6.trans (bb.mono E6.size)
        clear bb RT hHeld
        have hHeld := KK.out wb E7
        refine hK.out _ _ hHeld ?_
        clear hK KO
        try simp only [Act.put, List.setIfInBounds_toArray, List.set_cons_zero, List.set_cons_succ]
        refine held_takes (by kernel_rfl) (fun _ _ _ _ _ h => h) [15, 18, 19, 20] _ 0 _ _ _ rfl (by kernel_rfl) (by kernel_rfl) hHeld ?_
        simp only [pick, List.drop_succ_cons, List.drop_zero]
        iterate 4 (first | (refine wpTakes_cons (v := ?_) (Or.inl ⟨by rfl, ?_⟩) ?_; rotate_left; (intro w hSw; (try dsimp only at hSw); go_simp <;> with_reducible rfl); (try simp only [Act.put, List.setIfInBounds_toArray, List.set_cons_zero, List.set_cons_succ])) | (refine wpTakes_cons (v := undef) (Or.inr ⟨by rfl, rfl⟩) ?_; (try simp only [Act.put, List.setIfInBounds_toArray, List.set_cons_zero, List.set_cons_succ])))
        refine wpTakes_nil ?_
        refine wpAnyH_done (by kernel_rfl) ?_ _
        refine NoPanic.normal ?_
        go_wp2_with fail
        go_ret
        exact ⟨by simp, B7.trans (E7.mono B7.size)⟩
end Go.Proofs.Ytcejjcopchkmeaa.Ro
