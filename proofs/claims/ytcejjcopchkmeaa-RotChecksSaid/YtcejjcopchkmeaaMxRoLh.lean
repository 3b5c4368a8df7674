/- Walks: the law RotChecks. -/
import Derived.Test.YtcejjcopchkmeaaRoPp
import Derived.Test.YtcejjcopchkmeaaMq1
import Derived.Test.YtcejjcopchkmeaaRoKn
import Derived.Test.YtcejjcopchkmeaaMq2
import Derived.Deep.RegionHeld3
namespace Go.Proofs.Ytcejjcopchkmeaa.Ro
open Go.RowKit Go.Proofs Go.Maps
set_option linter.unusedVariables false
set_option linter.unusedSimpArgs false

/-- any net in a variable, its rows readable, however long -/
def AnyNet (w : World) (q : Nat) : Prop := ∃ (N : Int) (T X C : Value) (m mx mc : Nat) (t x c : Nat → Int), Box w q N T X C ∧ Rd w T m t ∧ Rd w X mx x ∧ Rd w C mc c ∧ m ≤ 999
theorem Ow.cap_ge2 {w : World} {b n c : Nat} {x : Nat → Int} (h : Ow w (.slice (some ⟨b, 0, none⟩) n c) n x) : n ≤ c := by
  obtain ⟨xs, ⟨_, h1⟩, _⟩ := h
  rcases h1 with ⟨e, _⟩ | ⟨b', cap', cur, e, _, _, r, _⟩
  · cases e
  · injection e with _ _ e3
    omega
theorem Rd.keepQ {w : World} {A : Option Addr} {n cap : Nat} {x : Nat → Int} (h : Rd w (.slice A n cap) n x) {g i : Nat} {v : Value} (hg : ∀ y, Value.slice A n cap = .slice (some y) n cap → 0 < n → y.block ≠ g) : Rd (w.setCell ⟨g, i, none⟩ v) (.slice A n cap) n x := by
  obtain ⟨A', c', e, r⟩ := h
  injection e with e1 _ e3
  subst e1 e3
  refine ⟨_, _, rfl, fun h0 => ?_⟩
  obtain ⟨y, e, l, k⟩ := r h0
  refine ⟨y, e, by simpa [World.setCell] using l, fun j hj => ?_⟩
  have hb : ((w.setCell ⟨g, i, none⟩ v).heap[(y.add j).block]?) = w.heap[(y.add j).block]? := Below.heap_setCell _ _ _ _ (by rw [block_add]; exact hg y (by rw [e]) h0)
  have : (w.setCell ⟨g, i, none⟩ v).cell? (y.add j) = w.cell? (y.add j) := by
    unfold World.cell?
    rw [hb]
  rw [this]; exact k j hj
theorem Rd.short {w : World} {A : Option Addr} {n cap j : Nat} {x : Nat → Int} (h : Rd w (.slice A n cap) n x) (hj : j ≤ n) : Rd w (.slice A j cap) j x := by
  obtain ⟨A', c', e, r⟩ := h
  injection e with e1 _ e3
  subst e1 e3
  exact ⟨_, _, rfl, fun h0 => by
    obtain ⟨y, e, l, k⟩ := r (by omega)
    exact ⟨y, e, l, fun i hi => k i (by omega)⟩⟩
section
variable {w : World} {B p m cap : Nat} {N : Int} {T X C : Value} {t x c : Nat → Int}
theorem any_net (X3 : Box w p N T X C) (R : Rows w B T X C m t x c) (hm : m ≤ 999) : AnyNet w p := ⟨N, T, X, C, m, m, m, t, x, c, X3, R.ot.rd, R.ox.rd, R.oc.rd, hm⟩
theorem any_n (X3 : Box w p N T X C) (R : Rows w B T X C m t x c) (hm : m ≤ 999) (hp : ∀ k, T.ownBlock = some k ∨ X.ownBlock = some k ∨ C.ownBlock = some k → k < p) (u : Int) : AnyNet (w.setCell ⟨p, 0, none⟩ (.int .i64 u)) p := by
  have R' := R.keep (w' := w.setCell ⟨p, 0, none⟩ (.int .i64 u)) fun k hk => Below.heap_setCell _ _ _ _ (by have := hp k hk; show k ≠ p; omega)
  exact ⟨u, T, X, C, m, m, m, t, x, c, blk_set (i := 0) X3 _, R'.ot.rd, R'.ox.rd, R'.oc.rd, hm⟩
theorem any_tl (X3 : Box w p N T X C) (R : Rows w B T X C m t x c) (hm : m ≤ 999) (hp : ∀ k, T.ownBlock = some k ∨ X.ownBlock = some k ∨ C.ownBlock = some k → k < p) {V : Value} {n : Nat} {f : Nat → Int} (hV : Rd (w.setCell ⟨p, 1, none⟩ V) V n f) (hn : n ≤ 999) : AnyNet (w.setCell ⟨p, 1, none⟩ V) p := by
  have R' := R.keep (w' := w.setCell ⟨p, 1, none⟩ V) fun k hk => Below.heap_setCell _ _ _ _ (by have := hp k hk; show k ≠ p; omega)
  exact ⟨N, V, X, C, n, m, m, f, x, c, blk_set (i := 1) X3 _, hV, R'.ox.rd, R'.oc.rd, hn⟩
theorem any_nx (X3 : Box w p N T X C) (R : Rows w B T X C m t x c) (hm : m ≤ 999) (hp : ∀ k, T.ownBlock = some k ∨ X.ownBlock = some k ∨ C.ownBlock = some k → k < p) {V : Value} {n : Nat} {f : Nat → Int} (hV : Rd (w.setCell ⟨p, 2, none⟩ V) V n f) : AnyNet (w.setCell ⟨p, 2, none⟩ V) p := by
  have R' := R.keep (w' := w.setCell ⟨p, 2, none⟩ V) fun k hk => Below.heap_setCell _ _ _ _ (by have := hp k hk; show k ≠ p; omega)
  exact ⟨N, T, V, C, m, n, m, t, f, c, blk_set (i := 2) X3 _, R'.ot.rd, hV, R'.oc.rd, hm⟩
theorem any_t {b : Nat} (X3 : Box w p N (.slice (some ⟨b, 0, none⟩) m cap) X C) (R : Rows w B (.slice (some ⟨b, 0, none⟩) m cap) X C m t x c) (hm : m ≤ 999) (hp : b < p) {j : Nat} (hj : j < m) (u : Int) : AnyNet (w.setCell ⟨b, j, none⟩ (.int .i64 u)) p :=
  ⟨N, _, X, C, m, m, m, _, x, c, (Below.heap_setCell _ _ _ _ (by show p ≠ b; omega)).trans X3, (R.ot.set hj u).rd, (R.ox.keep fun k hk => Below.heap_setCell _ _ _ _ (by intro e; have e : k = b := e; exact R.tx b rfl (by rw [hk, e]))).rd, (R.oc.keep fun k hk => Below.heap_setCell _ _ _ _ (by intro e; have e : k = b := e; exact R.tc b rfl (by rw [hk, e]))).rd, hm⟩
theorem any_x {b : Nat} (X3 : Box w p N T (.slice (some ⟨b, 0, none⟩) m cap) C) (R : Rows w B T (.slice (some ⟨b, 0, none⟩) m cap) C m t x c) (hm : m ≤ 999) (hp : b < p) {j : Nat} (hj : j < m) (u : Int) : AnyNet (w.setCell ⟨b, j, none⟩ (.int .i64 u)) p :=
  ⟨N, T, _, C, m, m, m, t, _, c, (Below.heap_setCell _ _ _ _ (by show p ≠ b; omega)).trans X3, (R.ot.keep fun k hk => Below.heap_setCell _ _ _ _ (by intro e; have e : k = b := e; exact R.tx k hk (by rw [e]; rfl))).rd, (R.ox.set hj u).rd, (R.oc.keep fun k hk => Below.heap_setCell _ _ _ _ (by intro e; have e : k = b := e; exact R.xc b rfl (by rw [hk, e]))).rd, hm⟩
theorem any_xx {b : Nat} (X3 : Box w p N T (.slice (some ⟨b, 0, none⟩) m cap) C) (R : Rows w B T (.slice (some ⟨b, 0, none⟩) m cap) C m t x c) (hm : m ≤ 999) (hp : b < p) {j i : Nat} (hj : j < m) (hi : i < m) (u y : Int) : AnyNet ((w.setCell ⟨b, j, none⟩ (.int .i64 u)).setCell ⟨b, i, none⟩ (.int .i64 y)) p := by
  have T1 : Turn (fun k => k = b) w (w.setCell ⟨b, j, none⟩ (.int .i64 u)) := ⟨rfl, rfl, rfl, by simp [World.setCell], fun k _ hk => Below.heap_setCell _ _ _ _ hk⟩
  exact any_x (X3.turn T1 (by omega)) (R.turn T1 (R.ox.set hj u)) hm hp hi y
theorem any_c {b : Nat} (X3 : Box w p N T X (.slice (some ⟨b, 0, none⟩) m cap)) (R : Rows w B T X (.slice (some ⟨b, 0, none⟩) m cap) m t x c) (hm : m ≤ 999) (hp : b < p) {j : Nat} (hj : j < m) (u : Int) : AnyNet (w.setCell ⟨b, j, none⟩ (.int .i64 u)) p :=
  ⟨N, T, X, _, m, m, m, t, x, _, (Below.heap_setCell _ _ _ _ (by show p ≠ b; omega)).trans X3, (R.ot.keep fun k hk => Below.heap_setCell _ _ _ _ (by intro e; have e : k = b := e; exact R.tc k hk (by rw [e]; rfl))).rd, (R.ox.keep fun k hk => Below.heap_setCell _ _ _ _ (by intro e; have e : k = b := e; exact R.xc k hk (by rw [e]; rfl))).rd, (R.oc.set hj u).rd, hm⟩
theorem AnyNet.alloc (h : AnyNet w p) (o : Obj) : AnyNet (w.alloc o) p := by
  obtain ⟨N, T, X, C, m, mx, mc, t, x, c, h1, h2, h3, h4, h5⟩ := h
  have b := below_new w o
  exact ⟨N, T, X, C, m, mx, mc, t, x, c, h1.below b (Nat.le_refl _), h2.below b (Nat.le_refl _), h3.below b (Nat.le_refl _), h4.below b (Nat.le_refl _), h5⟩
theorem AnyNet.drew (h : AnyNet w p) : AnyNet w.drew p := h
end

set_option maxRecDepth 100000 in
set_option maxHeartbeats 12800000 in
theorem checks_walk (A : Option Addr) (len cap : Nat) (zs : List Int) (which : Int) (a : Int) (v : Int) (A2 : Option Addr) (len2 cap2 : Nat) (zs2 : List Int) (w : World) (hV : Rd w (.slice A len cap) len (fun i => zs.getD i 0)) (hz : ∀ i, i < len → Small (zs.getD i 0)) (hl : len ≤ 9223372036854775807) (hwhich : Small which) (ha : Small a) (hv : Small v) (hV2 : Rd w (.slice A2 len2 cap2) len2 (fun i => zs2.getD i 0)) (hz2 : ∀ i, i < len2 → Small (zs2.getD i 0)) (hl2 : len2 ≤ 9223372036854775807) :
    Calls Try.prog 4 #[.slice A len cap, .int .i64 which, .int .i64 a, .int .i64 v, .slice A2 len2 cap2] w fun e w' => e = .returned (.bool true) ∧ Below w.heap.size w w' := by
  go_enter Try.func4, Try.ntmps4
  go_wp2_with fail
  refine (known_ok _).mono ?_
  rintro e w1 ⟨rfl, B1⟩
  have h01 := B1.size
  by_cases hr : len2 > 300
  · have z1 : decide ((len2 : Int) > 300) = true := by simp; omega
    have z1' : decide (300 < len2) = true := by simp; omega
    clear hr
    go_wp2_with fail
    go_ret
    exact ⟨rfl, B1⟩
  have z1 : decide ((len2 : Int) > 300) = false := by simp; omega
  have z1' : decide (300 < len2) = false := by simp; omega
  go_wp2_with fail
  refine (plane_post _ _ len _ (hV.below B1 (Nat.le_refl _)) hz hl).mono ?_
  rintro e w2 ⟨N, m, t, x, c, TA, tp, XA, xp, CA, cp, rfl, gr, hN, hM, R2, b2⟩
  replace B1 := B1.trans (b2.mono B1.size)
  have gd := gr.good
  have ev := gd.even
  have N1 := gd.one
  have pa := gr.turns.perm
  have pb := pa.bh gd.even
  clear b2 hz hl hV
  go_upto_region 6 with fail
  have hw2 := B1.size
  obtain ⟨w3, hw3, X3, R3, b3⟩ := rows_enter (N : Int) R2
  rw [hw3]
  replace B1 := B1.trans (b3.mono B1.size)
  have pR : ∀ k, (Value.slice TA m tp).ownBlock = some k ∨ (Value.slice XA m xp).ownBlock = some k ∨ (Value.slice CA m cp).ownBlock = some k → k < w2.heap.size := fun k hk => (R2.lt hk).2
  have hV3 := hV2.below B1 (Nat.le_refl _)
  clear hw3 b3 R2
  generalize w2.heap.size = p at *
  have pl := blk_lt X3
  have hm9 : m ≤ 999 := by omega
  have c0 : w3.cell? ⟨p, 0, none⟩ = some (.int .i64 (N : Int)) := blk_cell X3 0
  have c1 : w3.cell? ⟨p, 1, none⟩ = some (.slice TA m tp) := blk_cell X3 1
  have c2 : w3.cell? ⟨p, 2, none⟩ = some (.slice XA m xp) := blk_cell X3 2
  have c3 : w3.cell? ⟨p, 3, none⟩ = some (.slice CA m cp) := blk_cell X3 3
  have f0 := blk_frozen X3 0
  have f1 := blk_frozen X3 1
  have f2 := blk_frozen X3 2
  obtain ⟨k9, hk9, hk9l⟩ := small_within (d := which) (m := 9) (by omega)
  have HK9 := Lib.hid hk9
  clear hk9
  go_upto_block 0 with (go_at_call 20; refine (within2_any _ which 9 hwhich (by omega) (by omega)).mono ?_; rintro e w4 ⟨rfl, rfl⟩; rw [show which % (9 : Int) = (k9 : Int) from HK9.out])
  go_cut [] (fun wx => AnyNet wx p ∧ Below w.heap.size w wx)
  case first =>
    have HALL := Lib.hid (any_net X3 R3 hm9)
    have ownlt : ∀ k, (Value.slice TA m tp).ownBlock = some k ∨ (Value.slice XA m xp).ownBlock = some k ∨ (Value.slice CA m cp).ownBlock = some k → w.heap.size ≤ k := fun k hk => by have := (R3.lt hk).1; omega
    have B1h := B1
    have pB : w.heap.size ≤ p := hw2
    rcases (show k9 = 0 ∨ k9 = 1 ∨ k9 = 2 ∨ k9 = 3 ∨ k9 = 4 ∨ k9 = 5 ∨ k9 = 6 ∨ k9 = 7 ∨ k9 = 8 by omega) with rfl | rfl | rfl | rfl | rfl | rfl | rfl | rfl | rfl
    · have AN := Lib.hid (fun u => And.intro (any_n X3 R3 hm9 pR u) (B1.setCell (p := ⟨p, 0, none⟩) pB (.int .i64 u)))
      clear X3 R3 B1 B1h
      go_wp2_with fail
      go_meet
      exact AN.out v
    · have AN := Lib.hid (fun u => And.intro (any_n X3 R3 hm9 pR u).drew (B1.setCell (p := ⟨p, 0, none⟩) pB (.int .i64 u)).drew)
      obtain ⟨n3, hn3, hn3l⟩ := small_within (d := v) (m := 3) (by omega)
      have J3 := Lib.hid hn3
      clear X3 R3 B1 B1h hn3
      go_upto_region 11 with fail
      go_region_with (go_at_call 20; refine (within2_any _ v 3 hv (by omega) (by omega)).mono ?_; rintro e w5 ⟨rfl, rfl⟩; rw [show v % (3 : Int) = (n3 : Int) from J3.out])
      all_goals
        (try go_simp)
        go_wp2_with fail
        go_meet
        exact AN.out _
    · by_cases hm0 : m = 0
      · have z2 : decide ((m : Int) > 0) = false := by simp; omega
        have z2' : decide (0 < m) = false := by simp; omega
        clear hm0
        go_wp2_with fail
        go_meet
        exact ⟨HALL.out, B1⟩
      have m1 : 0 < m := by omega
      have m1' : (0 : Int) < (m : Int) := by omega
      have z2 : decide ((m : Int) > 0) = true := by simp; omega
      have z2' : decide (0 < m) = true := by simp; omega
      clear hm0
      obtain ⟨tb, tq, e0, -⟩ := R3.ot.form m1
      injection e0 with e1 _ e3
      subst e1 e3
      have lt := pR tb (.inl rfl)
      have gt := ownlt tb (.inl rfl)
      obtain ⟨ja, hja, hjal⟩ := small_within (d := a) (m := m) m1
      have JA := Lib.hid hja
      have ia : (ja : Int) < (m : Int) := by omega
      clear hja
      have ct := R3.ot.cell hjal
      have ft := R3.ot.frozen ja
      have AT := Lib.hid (fun u => And.intro (any_t X3 R3 hm9 lt hjal u).drew (B1.setCell (p := ⟨tb, ja, none⟩) gt (.int .i64 u)).drew)
      clear X3 R3 B1 B1h HALL
      go_upto_region 14 with fail
      go_region_with (go_at_call 20; refine (within2_any _ a (m : Int) ha (by omega) (by omega)).mono ?_; rintro e w5 ⟨rfl, rfl⟩; rw [JA.out])
      all_goals
        (try go_simp)
        go_wp2_with fail
        go_meet
        exact AT.out _
    · by_cases hm0 : m = 0
      · have z2 : decide ((m : Int) > 0) = false := by simp; omega
        have z2' : decide (0 < m) = false := by simp; omega
        clear hm0
        go_wp2_with fail
        go_meet
        exact ⟨HALL.out, B1⟩
      have m1 : 0 < m := by omega
      have m1' : (0 : Int) < (m : Int) := by omega
      have z2 : decide ((m : Int) > 0) = true := by simp; omega
      have z2' : decide (0 < m) = true := by simp; omega
      clear hm0
      obtain ⟨tb, tq, e0, -⟩ := R3.ot.form m1
      injection e0 with e1 _ e3
      subst e1 e3
      have lt := pR tb (.inl rfl)
      have gt := ownlt tb (.inl rfl)
      obtain ⟨ja, hja, hjal⟩ := small_within (d := a) (m := m) m1
      have JA := Lib.hid hja
      have ia : (ja : Int) < (m : Int) := by omega
      clear hja
      obtain ⟨jN, hjN, hjNl⟩ := small_within (d := v) (m := N) (by omega)
      have JN := Lib.hid hjN
      have ct := R3.ot.cell hjal
      have ft := R3.ot.frozen ja
      have AT := Lib.hid (fun u => And.intro (any_t X3 R3 hm9 lt hjal u).drew (B1.setCell (p := ⟨tb, ja, none⟩) gt (.int .i64 u)).drew)
      clear X3 R3 B1 B1h HALL hjN
      go_upto_region 17 with fail
      go_region_with (go_at_call 20; (first | (with_reducible refine (within2_any _ a (m : Int) ha (by omega) (by omega)).mono ?_; rintro e w5 ⟨rfl, rfl⟩; rw [JA.out]) | (with_reducible refine (within2_any _ v (N : Int) hv (by omega) (by omega)).mono ?_; rintro e w5 ⟨rfl, rfl⟩; rw [JN.out])))
      all_goals
        (try go_simp)
        go_wp2_with fail
        go_meet
        exact AT.out _
    · by_cases hm0 : m = 0
      · have z2 : decide ((m : Int) > 0) = false := by simp; omega
        have z2' : decide (0 < m) = false := by simp; omega
        clear hm0
        go_wp2_with fail
        go_meet
        exact ⟨HALL.out, B1⟩
      have m1 : 0 < m := by omega
      have m1' : (0 : Int) < (m : Int) := by omega
      have z2 : decide ((m : Int) > 0) = true := by simp; omega
      have z2' : decide (0 < m) = true := by simp; omega
      clear hm0
      obtain ⟨xb, xq, e0, -⟩ := R3.ox.form m1
      injection e0 with e1 _ e3
      subst e1 e3
      have lt := pR xb (.inr (.inl rfl))
      have gt := ownlt xb (.inr (.inl rfl))
      obtain ⟨ja, hja, hjal⟩ := small_within (d := a) (m := m) m1
      have JA := Lib.hid hja
      have ia : (ja : Int) < (m : Int) := by omega
      clear hja
      obtain ⟨jv, hjv, hjvl⟩ := small_within (d := v) (m := m) m1
      obtain ⟨n2, hn2, hn2l⟩ := small_within (d := v) (m := 2) (by omega)
      have JV := Lib.hid hjv
      have J2 := Lib.hid (show v % 2 = (n2 : Int) from hn2)
      have cx := R3.ox.cell hjal
      have fx := R3.ox.frozen ja
      have i2 : (n2 : Int) < 2 := by omega
      have i2' : n2 < 2 := hn2l
      have HXR := Lib.hid (And.intro X3 (And.intro R3 B1))
      have lw : xb < w3.heap.size := by omega
      have KF : Hid (∀ W, Below w3.heap.size w3 W → W.cell? ⟨p, 2, none⟩ = some (.slice (some ⟨xb, 0, none⟩) m xp)) := Lib.hid fun W b => (b.cell (p := ⟨p, 2, none⟩) pl).trans c2
      have KS : Hid (∀ (W : World) (i : Nat) (y : Value), W.cell? ⟨p, 2, none⟩ = some (.slice (some ⟨xb, 0, none⟩) m xp) → (W.setCell ⟨xb, i, none⟩ y).cell? ⟨p, 2, none⟩ = some (.slice (some ⟨xb, 0, none⟩) m xp)) := Lib.hid fun W i y h => by
        have := Below.heap_setCell W ⟨xb, i, none⟩ y p (by show p ≠ xb; omega)
        unfold World.cell? at h ⊢
        rw [this]; exact h
      have E := (Below.refl w3.heap.size w3).drew
      clear X3 R3 B1 B1h HALL hjv hn2
      go_upto_region 20 with fail
      refine wp_region_noPanic ?_
      refine wp_region_held_drew (S := fun W => W.cell? ⟨p, 2, none⟩ = some (.slice (some ⟨xb, 0, none⟩) m xp)) (by kernel_rfl) (KF.out _ E) (fun hHeld => ?_)
      refine held_takes (by kernel_rfl) (fun _ _ _ _ _ h => h) [0, 1, 2, 3, 5, 6, 7, 10] _ 8 _ _ _ rfl (by kernel_rfl) (by kernel_rfl) hHeld ?_
      simp only [pick, List.drop_succ_cons, List.drop_zero]
      iterate 8 (refine wpTakes_cons (v := ?_) (Or.inl ⟨by rfl, ?_⟩) ?_; rotate_left; (intro w hSw; (try dsimp only at hSw); go_simp <;> with_reducible rfl); (try simp only [Act.put, List.setIfInBounds_toArray, List.set_cons_zero, List.set_cons_succ]))
      refine wpTakes_nil ?_
      generalize w3.drew = v0 at *
      refine held_one 4 (fuel := 7) rfl (by kernel_rfl) ?_
      simp only [List.drop_succ_cons, List.drop_zero]
      refine wpOne_cons (fun KO hK => ?_)
      go_simp
      refine (within2_any _ a (m : Int) ha (by omega) (by omega)).mono ?_
      rintro e w5 ⟨rfl, rfl⟩
      rw [JA.out]
      refine hK.out _ _ (KF.out _ E) ?_
      clear hK KO
      try simp only [Act.put, List.setIfInBounds_toArray, List.set_cons_zero, List.set_cons_succ]
      refine held_one 8 (fuel := 6) rfl (by kernel_rfl) ?_
      simp only [List.drop_succ_cons, List.drop_zero]
      refine wpOne_cons (fun KO hK => ?_)
      go_simp
      refine (within2_any _ v (m : Int) hv (by omega) (by omega)).mono ?_
      rintro e w5 ⟨rfl, rfl⟩
      rw [JV.out]
      refine hK.out _ _ (KF.out _ E) ?_
      clear hK KO
      try simp only [Act.put, List.setIfInBounds_toArray, List.set_cons_zero, List.set_cons_succ]
      refine held_two 9 11 (fuel := 5) rfl (by kernel_rfl) ?_ ?_
      · simp only [List.drop_succ_cons, List.drop_zero]
        refine wpOne_cons (fun KO hK => ?_)
        go_simp
        have bb := below_new v0 (.cells #[.int .i64 v, .int .i64 (jv : Int)] 3)
        have OL := Ow.lit2 v0 (two v (jv : Int)) v (jv : Int) rfl rfl
        have E' := E.trans (bb.mono E.size)
        generalize hW : v0.alloc (.cells #[.int .i64 v, .int .i64 (jv : Int)] 3) = v1 at *
        clear hW bb
        obtain ⟨hL, ehL⟩ : ∃ h, h = v0.heap.size := ⟨_, rfl⟩
        rw [← ehL] at OL ⊢
        clear E ehL; have E := E'; clear E'
        refine hK.out _ _ (KF.out _ E) ?_
        clear hK KO
        try simp only [Act.put, List.setIfInBounds_toArray, List.set_cons_zero, List.set_cons_succ]
        refine held_one 11 (fuel := 4) rfl (by kernel_rfl) ?_
        simp only [List.drop_succ_cons, List.drop_zero]
        refine wpOne_cons (fun KO hK => ?_)
        go_simp
        refine (within2_any _ v 2 hv (by omega) (by omega)).mono ?_
        rintro e w5 ⟨rfl, rfl⟩
        rw [J2.out]
        refine hK.out _ _ (KF.out _ E) ?_
        clear hK KO
        try simp only [Act.put, List.setIfInBounds_toArray, List.set_cons_zero, List.set_cons_succ]
        refine held_takes (by kernel_rfl) (fun _ _ _ _ _ h => h) [12] _ 3 _ _ _ rfl (by kernel_rfl) (by kernel_rfl) (KF.out _ E) ?_
        simp only [pick, List.drop_succ_cons, List.drop_zero]
        iterate 1 (refine wpTakes_cons (v := ?_) (Or.inl ⟨by rfl, ?_⟩) ?_; rotate_left; (intro w hSw; (try dsimp only at hSw); go_simp <;> with_reducible rfl); (try simp only [Act.put, List.setIfInBounds_toArray, List.set_cons_zero, List.set_cons_succ]))
        refine wpTakes_nil ?_
        have cl := OL.cell hn2l
        refine held_one 13 (fuel := 2) rfl (by kernel_rfl) ?_
        simp only [List.drop_succ_cons, List.drop_zero]
        refine wpOne_cons (fun KO hK => ?_)
        go_simp
        refine hK.out _ _ (KF.out _ E) ?_
        clear hK KO
        try simp only [Act.put, List.setIfInBounds_toArray, List.set_cons_zero, List.set_cons_succ]
        refine held_takes (by kernel_rfl) (fun _ _ _ _ _ h => h) [14] _ 1 _ _ _ rfl (by kernel_rfl) (by kernel_rfl) (KF.out _ E) ?_
        simp only [pick, List.drop_succ_cons, List.drop_zero]
        iterate 1 (refine wpTakes_cons (v := ?_) (Or.inl ⟨by rfl, ?_⟩) ?_; rotate_left; (intro w hSw; (try dsimp only at hSw); go_simp <;> with_reducible rfl); (try simp only [Act.put, List.setIfInBounds_toArray, List.set_cons_zero, List.set_cons_succ]))
        refine wpTakes_nil ?_
        have ck := (E.cell (p := ⟨xb, ja, none⟩) lw).trans cx
        have fk := (E.frozen (p := ⟨xb, ja, none⟩) lw).trans fx
        refine held_one 15 (fuel := 0) rfl (by kernel_rfl) ?_
        simp only [List.drop_succ_cons, List.drop_zero]
        refine wpOne_cons (fun KO hK => ?_)
        go_simp
        refine hK.out _ _ (KS.out _ ja _ (KF.out _ E)) ?_
        clear hK KO
        try simp only [Act.put, List.setIfInBounds_toArray, List.set_cons_zero, List.set_cons_succ]
        refine wpAnyH_done (by kernel_rfl) ?_ _
        refine NoPanic.normal ?_
        go_wp2_with fail
        go_meet
        exact ⟨any_x (HXR.out.1.below E (Nat.le_refl _)) (HXR.out.2.1.below E (Nat.le_refl _)) hm9 lt hjal _, (HXR.out.2.2.trans (E.mono HXR.out.2.2.size)).setCell (p := ⟨xb, ja, none⟩) gt _⟩
      · simp only [List.drop_succ_cons, List.drop_zero]
        refine wpOne_cons (fun KO hK => ?_)
        go_simp
        refine (within2_any _ v 2 hv (by omega) (by omega)).mono ?_
        rintro e w5 ⟨rfl, rfl⟩
        rw [J2.out]
        refine hK.out _ _ (KF.out _ E) ?_
        clear hK KO
        try simp only [Act.put, List.setIfInBounds_toArray, List.set_cons_zero, List.set_cons_succ]
        refine held_one 9 (fuel := 4) rfl (by kernel_rfl) ?_
        simp only [List.drop_succ_cons, List.drop_zero]
        refine wpOne_cons (fun KO hK => ?_)
        go_simp
        have bb := below_new v0 (.cells #[.int .i64 v, .int .i64 (jv : Int)] 3)
        have OL := Ow.lit2 v0 (two v (jv : Int)) v (jv : Int) rfl rfl
        have E' := E.trans (bb.mono E.size)
        generalize hW : v0.alloc (.cells #[.int .i64 v, .int .i64 (jv : Int)] 3) = v1 at *
        clear hW bb
        obtain ⟨hL, ehL⟩ : ∃ h, h = v0.heap.size := ⟨_, rfl⟩
        rw [← ehL] at OL ⊢
        clear E ehL; have E := E'; clear E'
        refine hK.out _ _ (KF.out _ E) ?_
        clear hK KO
        try simp only [Act.put, List.setIfInBounds_toArray, List.set_cons_zero, List.set_cons_succ]
        refine held_takes (by kernel_rfl) (fun _ _ _ _ _ h => h) [12] _ 3 _ _ _ rfl (by kernel_rfl) (by kernel_rfl) (KF.out _ E) ?_
        simp only [pick, List.drop_succ_cons, List.drop_zero]
        iterate 1 (refine wpTakes_cons (v := ?_) (Or.inl ⟨by rfl, ?_⟩) ?_; rotate_left; (intro w hSw; (try dsimp only at hSw); go_simp <;> with_reducible rfl); (try simp only [Act.put, List.setIfInBounds_toArray, List.set_cons_zero, List.set_cons_succ]))
        refine wpTakes_nil ?_
        have cl := OL.cell hn2l
        refine held_one 13 (fuel := 2) rfl (by kernel_rfl) ?_
        simp only [List.drop_succ_cons, List.drop_zero]
        refine wpOne_cons (fun KO hK => ?_)
        go_simp
        refine hK.out _ _ (KF.out _ E) ?_
        clear hK KO
        try simp only [Act.put, List.setIfInBounds_toArray, List.set_cons_zero, List.set_cons_succ]
        refine held_takes (by kernel_rfl) (fun _ _ _ _ _ h => h) [14] _ 1 _ _ _ rfl (by kernel_rfl) (by kernel_rfl) (KF.out _ E) ?_
        simp only [pick, List.drop_succ_cons, List.drop_zero]
        iterate 1 (refine wpTakes_cons (v := ?_) (Or.inl ⟨by rfl, ?_⟩) ?_; rotate_left; (intro w hSw; (try dsimp only at hSw); go_simp <;> with_reducible rfl); (try simp only [Act.put, List.setIfInBounds_toArray, List.set_cons_zero, List.set_cons_succ]))
        refine wpTakes_nil ?_
        have ck := (E.cell (p := ⟨xb, ja, none⟩) lw).trans cx
        have fk := (E.frozen (p := ⟨xb, ja, none⟩) lw).trans fx
        refine held_one 15 (fuel := 0) rfl (by kernel_rfl) ?_
        simp only [List.drop_succ_cons, List.drop_zero]
        refine wpOne_cons (fun KO hK => ?_)
        go_simp
        refine hK.out _ _ (KS.out _ ja _ (KF.out _ E)) ?_
        clear hK KO
        try simp only [Act.put, List.setIfInBounds_toArray, List.set_cons_zero, List.set_cons_succ]
        refine wpAnyH_done (by kernel_rfl) ?_ _
        refine NoPanic.normal ?_
        go_wp2_with fail
        go_meet
        exact ⟨any_x (HXR.out.1.below E (Nat.le_refl _)) (HXR.out.2.1.below E (Nat.le_refl _)) hm9 lt hjal _, (HXR.out.2.2.trans (E.mono HXR.out.2.2.size)).setCell (p := ⟨xb, ja, none⟩) gt _⟩
    · by_cases hm0 : m = 0
      · have z2 : decide ((m : Int) > 0) = false := by simp; omega
        have z2' : decide (0 < m) = false := by simp; omega
        clear hm0
        go_wp2_with fail
        go_meet
        exact ⟨HALL.out, B1⟩
      have m1 : 0 < m := by omega
      have m1' : (0 : Int) < (m : Int) := by omega
      have z2 : decide ((m : Int) > 0) = true := by simp; omega
      have z2' : decide (0 < m) = true := by simp; omega
      clear hm0
      obtain ⟨cb, cq, e0, -⟩ := R3.oc.form m1
      injection e0 with e1 _ e3
      subst e1 e3
      have lt := pR cb (.inr (.inr rfl))
      have gt := ownlt cb (.inr (.inr rfl))
      obtain ⟨ja, hja, hjal⟩ := small_within (d := a) (m := m) m1
      have JA := Lib.hid hja
      have ia : (ja : Int) < (m : Int) := by omega
      clear hja
      obtain ⟨n5, hn5, hn5l⟩ := small_within (d := v) (m := 5) (by omega)
      have J5 := Lib.hid (show v % 5 = (n5 : Int) from hn5)
      have cx := R3.oc.cell hjal
      have fx := R3.oc.frozen ja
      have i5 : (n5 : Int) < 5 := by omega
      have i5' : n5 < 5 := hn5l
      have HXR := Lib.hid (And.intro X3 (And.intro R3 B1))
      have lw : cb < w3.heap.size := by omega
      have KF : Hid (∀ W, Below w3.heap.size w3 W → W.cell? ⟨p, 3, none⟩ = some (.slice (some ⟨cb, 0, none⟩) m cp)) := Lib.hid fun W b => (b.cell (p := ⟨p, 3, none⟩) pl).trans c3
      have KS : Hid (∀ (W : World) (i : Nat) (y : Value), W.cell? ⟨p, 3, none⟩ = some (.slice (some ⟨cb, 0, none⟩) m cp) → (W.setCell ⟨cb, i, none⟩ y).cell? ⟨p, 3, none⟩ = some (.slice (some ⟨cb, 0, none⟩) m cp)) := Lib.hid fun W i y h => by
        have := Below.heap_setCell W ⟨cb, i, none⟩ y p (by show p ≠ cb; omega)
        unfold World.cell? at h ⊢
        rw [this]; exact h
      have E := (Below.refl w3.heap.size w3).drew
      clear X3 R3 B1 B1h HALL hn5
      go_upto_region 23 with fail
      refine wp_region_noPanic ?_
      refine wp_region_held_drew (S := fun W => W.cell? ⟨p, 3, none⟩ = some (.slice (some ⟨cb, 0, none⟩) m cp)) (by kernel_rfl) (KF.out _ E) (fun hHeld => ?_)
      refine held_takes (by kernel_rfl) (fun _ _ _ _ _ h => h) [0, 1, 2, 3, 5, 7] _ 7 _ _ _ rfl (by kernel_rfl) (by kernel_rfl) hHeld ?_
      simp only [pick, List.drop_succ_cons, List.drop_zero]
      iterate 6 (refine wpTakes_cons (v := ?_) (Or.inl ⟨by rfl, ?_⟩) ?_; rotate_left; (intro w hSw; (try dsimp only at hSw); go_simp <;> with_reducible rfl); (try simp only [Act.put, List.setIfInBounds_toArray, List.set_cons_zero, List.set_cons_succ]))
      refine wpTakes_nil ?_
      generalize w3.drew = v0 at *
      refine held_two 4 6 (fuel := 6) rfl (by kernel_rfl) ?_ ?_
      · simp only [List.drop_succ_cons, List.drop_zero]
        refine wpOne_cons (fun KO hK => ?_)
        go_simp
        refine (within2_any _ a (m : Int) ha (by omega) (by omega)).mono ?_
        rintro e w5 ⟨rfl, rfl⟩
        rw [JA.out]
        refine hK.out _ _ (KF.out _ E) ?_
        clear hK KO
        try simp only [Act.put, List.setIfInBounds_toArray, List.set_cons_zero, List.set_cons_succ]
        refine held_two 6 8 (fuel := 5) rfl (by kernel_rfl) ?_ ?_
        · simp only [List.drop_succ_cons, List.drop_zero]
          refine wpOne_cons (fun KO hK => ?_)
          go_simp
          have bb := below_new v0 (.cells #[.int .i64 (-1), .int .i64 0, .int .i64 2147483648, .int .i64 2147483649, .int .i64 v] 3)
          have OL := Ow.lit v0 5 (fun j => ([-1, 0, 2147483648, 2147483649, v] : List Int).getD j 0) #[.int .i64 (-1), .int .i64 0, .int .i64 2147483648, .int .i64 2147483649, .int .i64 v] rfl (by omega) (fun j hj => by rcases (show j = 0 ∨ j = 1 ∨ j = 2 ∨ j = 3 ∨ j = 4 by omega) with rfl | rfl | rfl | rfl | rfl <;> rfl)
          have E' := E.trans (bb.mono E.size)
          generalize hW : v0.alloc (.cells #[.int .i64 (-1), .int .i64 0, .int .i64 2147483648, .int .i64 2147483649, .int .i64 v] 3) = v1 at *
          clear hW bb
          obtain ⟨hL, ehL⟩ : ∃ h, h = v0.heap.size := ⟨_, rfl⟩
          rw [← ehL] at OL ⊢
          clear E ehL; have E := E'; clear E'
          refine hK.out _ _ (KF.out _ E) ?_
          clear hK KO
          try simp only [Act.put, List.setIfInBounds_toArray, List.set_cons_zero, List.set_cons_succ]
          refine held_one 8 (fuel := 4) rfl (by kernel_rfl) ?_
          simp only [List.drop_succ_cons, List.drop_zero]
          refine wpOne_cons (fun KO hK => ?_)
          go_simp
          refine (within2_any _ v 5 hv (by omega) (by omega)).mono ?_
          rintro e w5 ⟨rfl, rfl⟩
          rw [J5.out]
          refine hK.out _ _ (KF.out _ E) ?_
          clear hK KO
          try simp only [Act.put, List.setIfInBounds_toArray, List.set_cons_zero, List.set_cons_succ]
          refine held_takes (by kernel_rfl) (fun _ _ _ _ _ h => h) [9] _ 3 _ _ _ rfl (by kernel_rfl) (by kernel_rfl) (KF.out _ E) ?_
          simp only [pick, List.drop_succ_cons, List.drop_zero]
          iterate 1 (refine wpTakes_cons (v := ?_) (Or.inl ⟨by rfl, ?_⟩) ?_; rotate_left; (intro w hSw; (try dsimp only at hSw); go_simp <;> with_reducible rfl); (try simp only [Act.put, List.setIfInBounds_toArray, List.set_cons_zero, List.set_cons_succ]))
          refine wpTakes_nil ?_
          have cl := OL.cell hn5l
          refine held_one 10 (fuel := 2) rfl (by kernel_rfl) ?_
          simp only [List.drop_succ_cons, List.drop_zero]
          refine wpOne_cons (fun KO hK => ?_)
          go_simp
          refine hK.out _ _ (KF.out _ E) ?_
          clear hK KO
          try simp only [Act.put, List.setIfInBounds_toArray, List.set_cons_zero, List.set_cons_succ]
          refine held_takes (by kernel_rfl) (fun _ _ _ _ _ h => h) [11] _ 1 _ _ _ rfl (by kernel_rfl) (by kernel_rfl) (KF.out _ E) ?_
          simp only [pick, List.drop_succ_cons, List.drop_zero]
          iterate 1 (refine wpTakes_cons (v := ?_) (Or.inl ⟨by rfl, ?_⟩) ?_; rotate_left; (intro w hSw; (try dsimp only at hSw); go_simp <;> with_reducible rfl); (try simp only [Act.put, List.setIfInBounds_toArray, List.set_cons_zero, List.set_cons_succ]))
          refine wpTakes_nil ?_
          have ck := (E.cell (p := ⟨cb, ja, none⟩) lw).trans cx
          have fk := (E.frozen (p := ⟨cb, ja, none⟩) lw).trans fx
          refine held_one 12 (fuel := 0) rfl (by kernel_rfl) ?_
          simp only [List.drop_succ_cons, List.drop_zero]
          refine wpOne_cons (fun KO hK => ?_)
          go_simp
          refine hK.out _ _ (KS.out _ ja _ (KF.out _ E)) ?_
          clear hK KO
          try simp only [Act.put, List.setIfInBounds_toArray, List.set_cons_zero, List.set_cons_succ]
          refine wpAnyH_done (by kernel_rfl) ?_ _
          refine NoPanic.normal ?_
          go_wp2_with fail
          go_meet
          exact ⟨any_c (HXR.out.1.below E (Nat.le_refl _)) (HXR.out.2.1.below E (Nat.le_refl _)) hm9 lt hjal _, (HXR.out.2.2.trans (E.mono HXR.out.2.2.size)).setCell (p := ⟨cb, ja, none⟩) gt _⟩
        · simp only [List.drop_succ_cons, List.drop_zero]
          refine wpOne_cons (fun KO hK => ?_)
          go_simp
          refine (within2_any _ v 5 hv (by omega) (by omega)).mono ?_
          rintro e w5 ⟨rfl, rfl⟩
          rw [J5.out]
          refine hK.out _ _ (KF.out _ E) ?_
          clear hK KO
          try simp only [Act.put, List.setIfInBounds_toArray, List.set_cons_zero, List.set_cons_succ]
          refine held_one 6 (fuel := 4) rfl (by kernel_rfl) ?_
          simp only [List.drop_succ_cons, List.drop_zero]
          refine wpOne_cons (fun KO hK => ?_)
          go_simp
          have bb := below_new v0 (.cells #[.int .i64 (-1), .int .i64 0, .int .i64 2147483648, .int .i64 2147483649, .int .i64 v] 3)
          have OL := Ow.lit v0 5 (fun j => ([-1, 0, 2147483648, 2147483649, v] : List Int).getD j 0) #[.int .i64 (-1), .int .i64 0, .int .i64 2147483648, .int .i64 2147483649, .int .i64 v] rfl (by omega) (fun j hj => by rcases (show j = 0 ∨ j = 1 ∨ j = 2 ∨ j = 3 ∨ j = 4 by omega) with rfl | rfl | rfl | rfl | rfl <;> rfl)
          have E' := E.trans (bb.mono E.size)
          generalize hW : v0.alloc (.cells #[.int .i64 (-1), .int .i64 0, .int .i64 2147483648, .int .i64 2147483649, .int .i64 v] 3) = v1 at *
          clear hW bb
          obtain ⟨hL, ehL⟩ : ∃ h, h = v0.heap.size := ⟨_, rfl⟩
          rw [← ehL] at OL ⊢
          clear E ehL; have E := E'; clear E'
          refine hK.out _ _ (KF.out _ E) ?_
          clear hK KO
          try simp only [Act.put, List.setIfInBounds_toArray, List.set_cons_zero, List.set_cons_succ]
          refine held_takes (by kernel_rfl) (fun _ _ _ _ _ h => h) [9] _ 3 _ _ _ rfl (by kernel_rfl) (by kernel_rfl) (KF.out _ E) ?_
          simp only [pick, List.drop_succ_cons, List.drop_zero]
          iterate 1 (refine wpTakes_cons (v := ?_) (Or.inl ⟨by rfl, ?_⟩) ?_; rotate_left; (intro w hSw; (try dsimp only at hSw); go_simp <;> with_reducible rfl); (try simp only [Act.put, List.setIfInBounds_toArray, List.set_cons_zero, List.set_cons_succ]))
          refine wpTakes_nil ?_
          have cl := OL.cell hn5l
          refine held_one 10 (fuel := 2) rfl (by kernel_rfl) ?_
          simp only [List.drop_succ_cons, List.drop_zero]
          refine wpOne_cons (fun KO hK => ?_)
          go_simp
          refine hK.out _ _ (KF.out _ E) ?_
          clear hK KO
          try simp only [Act.put, List.setIfInBounds_toArray, List.set_cons_zero, List.set_cons_succ]
          refine held_takes (by kernel_rfl) (fun _ _ _ _ _ h => h) [11] _ 1 _ _ _ rfl (by kernel_rfl) (by kernel_rfl) (KF.out _ E) ?_
          simp only [pick, List.drop_succ_cons, List.drop_zero]
          iterate 1 (refine wpTakes_cons (v := ?_) (Or.inl ⟨by rfl, ?_⟩) ?_; rotate_left; (intro w hSw; (try dsimp only at hSw); go_simp <;> with_reducible rfl); (try simp only [Act.put, List.setIfInBounds_toArray, List.set_cons_zero, List.set_cons_succ]))
          refine wpTakes_nil ?_
          have ck := (E.cell (p := ⟨cb, ja, none⟩) lw).trans cx
          have fk := (E.frozen (p := ⟨cb, ja, none⟩) lw).trans fx
          refine held_one 12 (fuel := 0) rfl (by kernel_rfl) ?_
          simp only [List.drop_succ_cons, List.drop_zero]
          refine wpOne_cons (fun KO hK => ?_)
          go_simp
          refine hK.out _ _ (KS.out _ ja _ (KF.out _ E)) ?_
          clear hK KO
          try simp only [Act.put, List.setIfInBounds_toArray, List.set_cons_zero, List.set_cons_succ]
          refine wpAnyH_done (by kernel_rfl) ?_ _
          refine NoPanic.normal ?_
          go_wp2_with fail
          go_meet
          exact ⟨any_c (HXR.out.1.below E (Nat.le_refl _)) (HXR.out.2.1.below E (Nat.le_refl _)) hm9 lt hjal _, (HXR.out.2.2.trans (E.mono HXR.out.2.2.size)).setCell (p := ⟨cb, ja, none⟩) gt _⟩
      · simp only [List.drop_succ_cons, List.drop_zero]
        refine wpOne_cons (fun KO hK => ?_)
        go_simp
        have bb := below_new v0 (.cells #[.int .i64 (-1), .int .i64 0, .int .i64 2147483648, .int .i64 2147483649, .int .i64 v] 3)
        have OL := Ow.lit v0 5 (fun j => ([-1, 0, 2147483648, 2147483649, v] : List Int).getD j 0) #[.int .i64 (-1), .int .i64 0, .int .i64 2147483648, .int .i64 2147483649, .int .i64 v] rfl (by omega) (fun j hj => by rcases (show j = 0 ∨ j = 1 ∨ j = 2 ∨ j = 3 ∨ j = 4 by omega) with rfl | rfl | rfl | rfl | rfl <;> rfl)
        have E' := E.trans (bb.mono E.size)
        generalize hW : v0.alloc (.cells #[.int .i64 (-1), .int .i64 0, .int .i64 2147483648, .int .i64 2147483649, .int .i64 v] 3) = v1 at *
        clear hW bb
        obtain ⟨hL, ehL⟩ : ∃ h, h = v0.heap.size := ⟨_, rfl⟩
        rw [← ehL] at OL ⊢
        clear E ehL; have E := E'; clear E'
        refine hK.out _ _ (KF.out _ E) ?_
        clear hK KO
        try simp only [Act.put, List.setIfInBounds_toArray, List.set_cons_zero, List.set_cons_succ]
        refine held_one 4 (fuel := 5) rfl (by kernel_rfl) ?_
        simp only [List.drop_succ_cons, List.drop_zero]
        refine wpOne_cons (fun KO hK => ?_)
        go_simp
        refine (within2_any _ a (m : Int) ha (by omega) (by omega)).mono ?_
        rintro e w5 ⟨rfl, rfl⟩
        rw [JA.out]
        refine hK.out _ _ (KF.out _ E) ?_
        clear hK KO
        try simp only [Act.put, List.setIfInBounds_toArray, List.set_cons_zero, List.set_cons_succ]
        refine held_one 8 (fuel := 4) rfl (by kernel_rfl) ?_
        simp only [List.drop_succ_cons, List.drop_zero]
        refine wpOne_cons (fun KO hK => ?_)
        go_simp
        refine (within2_any _ v 5 hv (by omega) (by omega)).mono ?_
        rintro e w5 ⟨rfl, rfl⟩
        rw [J5.out]
        refine hK.out _ _ (KF.out _ E) ?_
        clear hK KO
        try simp only [Act.put, List.setIfInBounds_toArray, List.set_cons_zero, List.set_cons_succ]
        refine held_takes (by kernel_rfl) (fun _ _ _ _ _ h => h) [9] _ 3 _ _ _ rfl (by kernel_rfl) (by kernel_rfl) (KF.out _ E) ?_
        simp only [pick, List.drop_succ_cons, List.drop_zero]
        iterate 1 (refine wpTakes_cons (v := ?_) (Or.inl ⟨by rfl, ?_⟩) ?_; rotate_left; (intro w hSw; (try dsimp only at hSw); go_simp <;> with_reducible rfl); (try simp only [Act.put, List.setIfInBounds_toArray, List.set_cons_zero, List.set_cons_succ]))
        refine wpTakes_nil ?_
        have cl := OL.cell hn5l
        refine held_one 10 (fuel := 2) rfl (by kernel_rfl) ?_
        simp only [List.drop_succ_cons, List.drop_zero]
        refine wpOne_cons (fun KO hK => ?_)
        go_simp
        refine hK.out _ _ (KF.out _ E) ?_
        clear hK KO
        try simp only [Act.put, List.setIfInBounds_toArray, List.set_cons_zero, List.set_cons_succ]
        refine held_takes (by kernel_rfl) (fun _ _ _ _ _ h => h) [11] _ 1 _ _ _ rfl (by kernel_rfl) (by kernel_rfl) (KF.out _ E) ?_
        simp only [pick, List.drop_succ_cons, List.drop_zero]
        iterate 1 (refine wpTakes_cons (v := ?_) (Or.inl ⟨by rfl, ?_⟩) ?_; rotate_left; (intro w hSw; (try dsimp only at hSw); go_simp <;> with_reducible rfl); (try simp only [Act.put, List.setIfInBounds_toArray, List.set_cons_zero, List.set_cons_succ]))
        refine wpTakes_nil ?_
        have ck := (E.cell (p := ⟨cb, ja, none⟩) lw).trans cx
        have fk := (E.frozen (p := ⟨cb, ja, none⟩) lw).trans fx
        refine held_one 12 (fuel := 0) rfl (by kernel_rfl) ?_
        simp only [List.drop_succ_cons, List.drop_zero]
        refine wpOne_cons (fun KO hK => ?_)
        go_simp
        refine hK.out _ _ (KS.out _ ja _ (KF.out _ E)) ?_
        clear hK KO
        try simp only [Act.put, List.setIfInBounds_toArray, List.set_cons_zero, List.set_cons_succ]
        refine wpAnyH_done (by kernel_rfl) ?_ _
        refine NoPanic.normal ?_
        go_wp2_with fail
        go_meet
        exact ⟨any_c (HXR.out.1.below E (Nat.le_refl _)) (HXR.out.2.1.below E (Nat.le_refl _)) hm9 lt hjal _, (HXR.out.2.2.trans (E.mono HXR.out.2.2.size)).setCell (p := ⟨cb, ja, none⟩) gt _⟩
    · obtain ⟨j1, hj1, hj1l⟩ := small_within (d := a) (m := m + 1) (by omega)
      have J1 : Hid (a % ((m : Int) + 1) = (j1 : Int)) := Lib.hid (by rw [← hj1]; congr 1)
      clear hj1
      by_cases hm0 : m = 0
      · subst hm0
        obtain rfl : j1 = 0 := by omega
        have AL := Lib.hid (And.intro (any_tl X3 R3 hm9 pR (V := .slice TA 0 tp) (n := 0) (f := fun _ => 0) ⟨_, _, rfl, fun h => by omega⟩ (by omega)).drew (B1.setCell (p := ⟨p, 1, none⟩) pB (.slice TA 0 tp)).drew)
        have J1' : a % (1 : Int) = 0 := by omega
        have wi : IntKind.i64.wrap 1 = 1 := by decide +kernel
        have c1d : w3.drew.cell? ⟨p, 1, none⟩ = some (.slice TA 0 tp) := c1
        have f1d : w3.drew.frozen? ⟨p, 1, none⟩ = false := f1
        go_upto_region 25 with fail
        refine wp_region_noPanic ?_
        refine wp_region_held_drew (S := fun W => True) (by kernel_rfl) trivial (fun hHeld => ?_)
        refine held_takes (by kernel_rfl) (fun _ _ _ _ _ h => h) [0, 2, 3, 4] _ 5 _ _ _ rfl (by kernel_rfl) (by kernel_rfl) hHeld ?_
        simp only [pick, List.drop_succ_cons, List.drop_zero]
        iterate 4 (refine wpTakes_cons (v := ?_) (Or.inl ⟨by rfl, ?_⟩) ?_; rotate_left; (intro w hSw; (try dsimp only at hSw); go_simp <;> with_reducible rfl); (try simp only [Act.put, List.setIfInBounds_toArray, List.set_cons_zero, List.set_cons_succ]))
        refine wpTakes_nil ?_
        refine held_two 1 5 (fuel := 4) rfl (by kernel_rfl) ?_ ?_
        · simp only [List.drop_succ_cons, List.drop_zero]
          refine wpOne_cons (fun KO hK => ?_)
          go_simp
          refine hK.out _ _ trivial ?_
          clear hK KO
          try simp only [Act.put, List.setIfInBounds_toArray, List.set_cons_zero, List.set_cons_succ]
          refine held_one 5 (fuel := 3) rfl (by kernel_rfl) ?_
          simp only [List.drop_succ_cons, List.drop_zero]
          refine wpOne_cons (fun KO hK => ?_)
          go_simp
          refine (within2_any _ a 1 ha (by omega) (by omega)).mono ?_
          rintro e w5 ⟨rfl, rfl⟩
          rw [J1']
          refine hK.out _ _ trivial ?_
          clear hK KO
          try simp only [Act.put, List.setIfInBounds_toArray, List.set_cons_zero, List.set_cons_succ]
          refine held_takes (by kernel_rfl) (fun _ _ _ _ _ h => h) [6, 7] _ 1 _ _ _ rfl (by kernel_rfl) (by kernel_rfl) trivial ?_
          simp only [pick, List.drop_succ_cons, List.drop_zero]
          iterate 2 (refine wpTakes_cons (v := ?_) (Or.inl ⟨by rfl, ?_⟩) ?_; rotate_left; (intro w hSw; (try dsimp only at hSw); go_simp <;> with_reducible rfl); (try simp only [Act.put, List.setIfInBounds_toArray, List.set_cons_zero, List.set_cons_succ]))
          refine wpTakes_nil ?_
          refine held_one 8 (fuel := 0) rfl (by kernel_rfl) ?_
          simp only [List.drop_succ_cons, List.drop_zero]
          refine wpOne_cons (fun KO hK => ?_)
          go_simp
          refine hK.out _ _ trivial ?_
          clear hK KO
          try simp only [Act.put, List.setIfInBounds_toArray, List.set_cons_zero, List.set_cons_succ]
          refine wpAnyH_done (by kernel_rfl) ?_ _
          refine NoPanic.normal ?_
          go_wp2_with fail
          go_meet
          exact AL.out
        · simp only [List.drop_succ_cons, List.drop_zero]
          refine wpOne_cons (fun KO hK => ?_)
          go_simp
          refine (within2_any _ a 1 ha (by omega) (by omega)).mono ?_
          rintro e w5 ⟨rfl, rfl⟩
          rw [J1']
          refine hK.out _ _ trivial ?_
          clear hK KO
          try simp only [Act.put, List.setIfInBounds_toArray, List.set_cons_zero, List.set_cons_succ]
          refine held_one 1 (fuel := 3) rfl (by kernel_rfl) ?_
          simp only [List.drop_succ_cons, List.drop_zero]
          refine wpOne_cons (fun KO hK => ?_)
          go_simp
          refine hK.out _ _ trivial ?_
          clear hK KO
          try simp only [Act.put, List.setIfInBounds_toArray, List.set_cons_zero, List.set_cons_succ]
          refine held_takes (by kernel_rfl) (fun _ _ _ _ _ h => h) [6, 7] _ 1 _ _ _ rfl (by kernel_rfl) (by kernel_rfl) trivial ?_
          simp only [pick, List.drop_succ_cons, List.drop_zero]
          iterate 2 (refine wpTakes_cons (v := ?_) (Or.inl ⟨by rfl, ?_⟩) ?_; rotate_left; (intro w hSw; (try dsimp only at hSw); go_simp <;> with_reducible rfl); (try simp only [Act.put, List.setIfInBounds_toArray, List.set_cons_zero, List.set_cons_succ]))
          refine wpTakes_nil ?_
          refine held_one 8 (fuel := 0) rfl (by kernel_rfl) ?_
          simp only [List.drop_succ_cons, List.drop_zero]
          refine wpOne_cons (fun KO hK => ?_)
          go_simp
          refine hK.out _ _ trivial ?_
          clear hK KO
          try simp only [Act.put, List.setIfInBounds_toArray, List.set_cons_zero, List.set_cons_succ]
          refine wpAnyH_done (by kernel_rfl) ?_ _
          refine NoPanic.normal ?_
          go_wp2_with fail
          go_meet
          exact AL.out
      obtain ⟨tb, tq, e0, -⟩ := R3.ot.form (by omega)
      injection e0 with e1 _ e3
      subst e1 e3
      have lt := pR tb (.inl rfl)
      have hct := R3.ot.cap_ge2
      have i1 : (j1 : Int) ≤ (m : Int) := by omega
      have i2 : (j1 : Int) ≤ (tp : Int) := by omega
      have AL := Lib.hid (And.intro (any_tl X3 R3 hm9 pR ((R3.ot.rd.short (show j1 ≤ m by omega)).keepQ (i := 1) (v := .slice (some ⟨tb, 0, none⟩) j1 tp) (fun y e _ => by injection e with e; injection e with e; subst e; show tb ≠ p; omega)) (by omega)).drew (B1.setCell (p := ⟨p, 1, none⟩) pB (.slice (some ⟨tb, 0, none⟩) j1 tp)).drew)
      clear X3 R3 B1 B1h HALL
      have wi : IntKind.i64.wrap ((m : Int) + 1) = (m : Int) + 1 := by rw [IntKind.wrap_i64]; omega
      have c1d : w3.drew.cell? ⟨p, 1, none⟩ = some (.slice (some ⟨tb, 0, none⟩) m tp) := c1
      have f1d : w3.drew.frozen? ⟨p, 1, none⟩ = false := f1
      go_upto_region 25 with fail
      refine wp_region_noPanic ?_
      refine wp_region_held_drew (S := fun W => True) (by kernel_rfl) trivial (fun hHeld => ?_)
      refine held_takes (by kernel_rfl) (fun _ _ _ _ _ h => h) [0, 2, 3, 4] _ 5 _ _ _ rfl (by kernel_rfl) (by kernel_rfl) hHeld ?_
      simp only [pick, List.drop_succ_cons, List.drop_zero]
      iterate 4 (refine wpTakes_cons (v := ?_) (Or.inl ⟨by rfl, ?_⟩) ?_; rotate_left; (intro w hSw; (try dsimp only at hSw); go_simp <;> with_reducible rfl); (try simp only [Act.put, List.setIfInBounds_toArray, List.set_cons_zero, List.set_cons_succ]))
      refine wpTakes_nil ?_
      refine held_two 1 5 (fuel := 4) rfl (by kernel_rfl) ?_ ?_
      · simp only [List.drop_succ_cons, List.drop_zero]
        refine wpOne_cons (fun KO hK => ?_)
        go_simp
        refine hK.out _ _ trivial ?_
        clear hK KO
        try simp only [Act.put, List.setIfInBounds_toArray, List.set_cons_zero, List.set_cons_succ]
        refine held_one 5 (fuel := 3) rfl (by kernel_rfl) ?_
        simp only [List.drop_succ_cons, List.drop_zero]
        refine wpOne_cons (fun KO hK => ?_)
        go_simp
        refine (within2_any _ a ((m : Int) + 1) ha (by omega) (by omega)).mono ?_
        rintro e w5 ⟨rfl, rfl⟩
        rw [J1.out]
        refine hK.out _ _ trivial ?_
        clear hK KO
        try simp only [Act.put, List.setIfInBounds_toArray, List.set_cons_zero, List.set_cons_succ]
        refine held_takes (by kernel_rfl) (fun _ _ _ _ _ h => h) [6, 7] _ 1 _ _ _ rfl (by kernel_rfl) (by kernel_rfl) trivial ?_
        simp only [pick, List.drop_succ_cons, List.drop_zero]
        iterate 2 (refine wpTakes_cons (v := ?_) (Or.inl ⟨by rfl, ?_⟩) ?_; rotate_left; (intro w hSw; (try dsimp only at hSw); go_simp <;> with_reducible rfl); (try simp only [Act.put, List.setIfInBounds_toArray, List.set_cons_zero, List.set_cons_succ]))
        refine wpTakes_nil ?_
        refine held_one 8 (fuel := 0) rfl (by kernel_rfl) ?_
        simp only [List.drop_succ_cons, List.drop_zero]
        refine wpOne_cons (fun KO hK => ?_)
        go_simp
        refine hK.out _ _ trivial ?_
        clear hK KO
        try simp only [Act.put, List.setIfInBounds_toArray, List.set_cons_zero, List.set_cons_succ]
        refine wpAnyH_done (by kernel_rfl) ?_ _
        refine NoPanic.normal ?_
        go_wp2_with fail
        go_meet
        exact AL.out
      · simp only [List.drop_succ_cons, List.drop_zero]
        refine wpOne_cons (fun KO hK => ?_)
        go_simp
        refine (within2_any _ a ((m : Int) + 1) ha (by omega) (by omega)).mono ?_
        rintro e w5 ⟨rfl, rfl⟩
        rw [J1.out]
        refine hK.out _ _ trivial ?_
        clear hK KO
        try simp only [Act.put, List.setIfInBounds_toArray, List.set_cons_zero, List.set_cons_succ]
        refine held_one 1 (fuel := 3) rfl (by kernel_rfl) ?_
        simp only [List.drop_succ_cons, List.drop_zero]
        refine wpOne_cons (fun KO hK => ?_)
        go_simp
        refine hK.out _ _ trivial ?_
        clear hK KO
        try simp only [Act.put, List.setIfInBounds_toArray, List.set_cons_zero, List.set_cons_succ]
        refine held_takes (by kernel_rfl) (fun _ _ _ _ _ h => h) [6, 7] _ 1 _ _ _ rfl (by kernel_rfl) (by kernel_rfl) trivial ?_
        simp only [pick, List.drop_succ_cons, List.drop_zero]
        iterate 2 (refine wpTakes_cons (v := ?_) (Or.inl ⟨by rfl, ?_⟩) ?_; rotate_left; (intro w hSw; (try dsimp only at hSw); go_simp <;> with_reducible rfl); (try simp only [Act.put, List.setIfInBounds_toArray, List.set_cons_zero, List.set_cons_succ]))
        refine wpTakes_nil ?_
        refine held_one 8 (fuel := 0) rfl (by kernel_rfl) ?_
        simp only [List.drop_succ_cons, List.drop_zero]
        refine wpOne_cons (fun KO hK => ?_)
        go_simp
        refine hK.out _ _ trivial ?_
        clear hK KO
        try simp only [Act.put, List.setIfInBounds_toArray, List.set_cons_zero, List.set_cons_succ]
        refine wpAnyH_done (by kernel_rfl) ?_ _
        refine NoPanic.normal ?_
        go_wp2_with fail
        go_meet
        exact AL.out
    · have AV := Lib.hid (And.intro (any_nx X3 R3 hm9 pR (hV3.keepQ (i := 2) (v := .slice A2 len2 cap2) (fun y e h0 => by
        obtain ⟨_, _, e2, r⟩ := hV2
        obtain ⟨y', e3, l, _⟩ := r h0
        rw [e2] at e; injection e with e; rw [e3] at e; injection e with e; subst e; omega))) (B1.setCell (p := ⟨p, 2, none⟩) pB (.slice A2 len2 cap2)))
      clear X3 R3 B1 B1h HALL
      go_wp2_with fail
      go_meet
      exact AV.out
    · by_cases hm0 : m = 0
      · have z2 : decide ((m : Int) > 0) = false := by simp; omega
        have z2' : decide (0 < m) = false := by simp; omega
        clear hm0
        go_wp2_with fail
        go_meet
        exact ⟨HALL.out, B1⟩
      have m1 : 0 < m := by omega
      have m1' : (0 : Int) < (m : Int) := by omega
      have z2 : decide ((m : Int) > 0) = true := by simp; omega
      have z2' : decide (0 < m) = true := by simp; omega
      clear hm0
      obtain ⟨xb, xq, e0, -⟩ := R3.ox.form m1
      injection e0 with e1 _ e3
      subst e1 e3
      have lt := pR xb (.inr (.inl rfl))
      have gt := ownlt xb (.inr (.inl rfl))
      obtain ⟨ja, hja, hjal⟩ := small_within (d := a) (m := m) m1
      obtain ⟨jv, hjv, hjvl⟩ := small_within (d := v) (m := m) m1
      have ia : (ja : Int) < (m : Int) := by omega
      have iv : (jv : Int) < (m : Int) := by omega
      have cx := R3.ox.cell hjal
      have fx := R3.ox.frozen ja
      have cx2 := R3.ox.cell hjvl
      have fx2 := R3.ox.frozen jv
      by_cases hjj : ja = jv
      · subst hjj
        have JAV := Lib.hid (And.intro hja hjv)
        have AXX := Lib.hid (And.intro (any_xx X3 R3 hm9 lt hjal hjal (x ja) (x ja)).drew (((B1.setCell (p := ⟨xb, ja, none⟩) gt (.int .i64 (x ja))).setCell (p := ⟨xb, ja, none⟩) gt (.int .i64 (x ja))).drew))
        have KS : Hid (∀ (W : World) (i : Nat) (y : Value), W.cell? ⟨p, 2, none⟩ = some (.slice (some ⟨xb, 0, none⟩) m xp) → (W.setCell ⟨xb, i, none⟩ y).cell? ⟨p, 2, none⟩ = some (.slice (some ⟨xb, 0, none⟩) m xp)) := Lib.hid fun W i y h => by
          have := Below.heap_setCell W ⟨xb, i, none⟩ y p (by show p ≠ xb; omega)
          unfold World.cell? at h ⊢
          rw [this]; exact h
        clear X3 R3 B1 B1h HALL hja hjv
        go_upto_region 31 with (go_at_call 20; first | (with_reducible refine (within2_any _ a (m : Int) ha (by omega) (by omega)).mono ?_; rintro e w5 ⟨rfl, rfl⟩; rw [JAV.out.1]) | (with_reducible refine (within2_any _ v (m : Int) hv (by omega) (by omega)).mono ?_; rintro e w5 ⟨rfl, rfl⟩; rw [JAV.out.2]))
        refine wp_region_noPanic ?_
        refine wp_region_held_drew (S := fun W => W.cell? ⟨p, 2, none⟩ = some (.slice (some ⟨xb, 0, none⟩) m xp)) (by kernel_rfl) c2 (fun hHeld => ?_)
        refine held_takes (by kernel_rfl) (fun _ _ _ _ _ h => h) [0, 1, 2, 3, 4, 5, 6, 7, 8, 9, 11, 12, 13, 14] _ 6 _ _ _ rfl (by kernel_rfl) (by kernel_rfl) hHeld ?_
        simp only [pick, List.drop_succ_cons, List.drop_zero]
        iterate 14 (refine wpTakes_cons (v := ?_) (Or.inl ⟨by rfl, ?_⟩) ?_; rotate_left; (intro w hSw; (try dsimp only at hSw); go_simp <;> with_reducible rfl); (try simp only [Act.put, List.setIfInBounds_toArray, List.set_cons_zero, List.set_cons_succ]))
        refine wpTakes_nil ?_
        have cy : w3.drew.cell? ⟨xb, ja, none⟩ = some (.int .i64 (x ja)) := cx
        have cy2 : w3.drew.cell? ⟨xb, ja, none⟩ = some (.int .i64 (x ja)) := cx2
        refine held_two 10 15 (fuel := 5) rfl (by kernel_rfl) ?_ ?_
        · simp only [List.drop_succ_cons, List.drop_zero]
          refine wpOne_cons (fun KO hK => ?_)
          go_simp
          refine hK.out _ _ hHeld ?_
          clear hK KO
          try simp only [Act.put, List.setIfInBounds_toArray, List.set_cons_zero, List.set_cons_succ]
          refine held_one 15 (fuel := 4) rfl (by kernel_rfl) ?_
          simp only [List.drop_succ_cons, List.drop_zero]
          refine wpOne_cons (fun KO hK => ?_)
          go_simp
          refine hK.out _ _ hHeld ?_
          clear hK KO
          try simp only [Act.put, List.setIfInBounds_toArray, List.set_cons_zero, List.set_cons_succ]
          refine held_takes (by kernel_rfl) (fun _ _ _ _ _ h => h) [16] _ 3 _ _ _ rfl (by kernel_rfl) (by kernel_rfl) hHeld ?_
          simp only [pick, List.drop_succ_cons, List.drop_zero]
          iterate 1 (refine wpTakes_cons (v := ?_) (Or.inl ⟨by rfl, ?_⟩) ?_; rotate_left; (intro w hSw; (try dsimp only at hSw); go_simp <;> with_reducible rfl); (try simp only [Act.put, List.setIfInBounds_toArray, List.set_cons_zero, List.set_cons_succ]))
          refine wpTakes_nil ?_
          refine held_one 17 (fuel := 2) rfl (by kernel_rfl) ?_
          simp only [List.drop_succ_cons, List.drop_zero]
          refine wpOne_cons (fun KO hK => ?_)
          go_simp
          replace hHeld := KS.out _ ja (.int .i64 (x ja)) hHeld
          refine hK.out _ _ hHeld ?_
          clear hK KO
          try simp only [Act.put, List.setIfInBounds_toArray, List.set_cons_zero, List.set_cons_succ]
          refine held_takes (by kernel_rfl) (fun _ _ _ _ _ h => h) [18] _ 1 _ _ _ rfl (by kernel_rfl) (by kernel_rfl) hHeld ?_
          simp only [pick, List.drop_succ_cons, List.drop_zero]
          iterate 1 (refine wpTakes_cons (v := ?_) (Or.inl ⟨by rfl, ?_⟩) ?_; rotate_left; (intro w hSw; (try dsimp only at hSw); go_simp <;> with_reducible rfl); (try simp only [Act.put, List.setIfInBounds_toArray, List.set_cons_zero, List.set_cons_succ]))
          refine wpTakes_nil ?_
          refine held_one 19 (fuel := 0) rfl (by kernel_rfl) ?_
          simp only [List.drop_succ_cons, List.drop_zero]
          refine wpOne_cons (fun KO hK => ?_)
          go_simp
          replace hHeld := KS.out _ ja (.int .i64 (x ja)) hHeld
          refine hK.out _ _ hHeld ?_
          clear hK KO
          try simp only [Act.put, List.setIfInBounds_toArray, List.set_cons_zero, List.set_cons_succ]
          refine wpAnyH_done (by kernel_rfl) ?_ _
          refine NoPanic.normal ?_
          go_wp2_with fail
          go_meet
          exact AXX.out
        · simp only [List.drop_succ_cons, List.drop_zero]
          refine wpOne_cons (fun KO hK => ?_)
          go_simp
          refine hK.out _ _ hHeld ?_
          clear hK KO
          try simp only [Act.put, List.setIfInBounds_toArray, List.set_cons_zero, List.set_cons_succ]
          refine held_one 10 (fuel := 4) rfl (by kernel_rfl) ?_
          simp only [List.drop_succ_cons, List.drop_zero]
          refine wpOne_cons (fun KO hK => ?_)
          go_simp
          refine hK.out _ _ hHeld ?_
          clear hK KO
          try simp only [Act.put, List.setIfInBounds_toArray, List.set_cons_zero, List.set_cons_succ]
          refine held_takes (by kernel_rfl) (fun _ _ _ _ _ h => h) [16] _ 3 _ _ _ rfl (by kernel_rfl) (by kernel_rfl) hHeld ?_
          simp only [pick, List.drop_succ_cons, List.drop_zero]
          iterate 1 (refine wpTakes_cons (v := ?_) (Or.inl ⟨by rfl, ?_⟩) ?_; rotate_left; (intro w hSw; (try dsimp only at hSw); go_simp <;> with_reducible rfl); (try simp only [Act.put, List.setIfInBounds_toArray, List.set_cons_zero, List.set_cons_succ]))
          refine wpTakes_nil ?_
          refine held_one 17 (fuel := 2) rfl (by kernel_rfl) ?_
          simp only [List.drop_succ_cons, List.drop_zero]
          refine wpOne_cons (fun KO hK => ?_)
          go_simp
          replace hHeld := KS.out _ ja (.int .i64 (x ja)) hHeld
          refine hK.out _ _ hHeld ?_
          clear hK KO
          try simp only [Act.put, List.setIfInBounds_toArray, List.set_cons_zero, List.set_cons_succ]
          refine held_takes (by kernel_rfl) (fun _ _ _ _ _ h => h) [18] _ 1 _ _ _ rfl (by kernel_rfl) (by kernel_rfl) hHeld ?_
          simp only [pick, List.drop_succ_cons, List.drop_zero]
          iterate 1 (refine wpTakes_cons (v := ?_) (Or.inl ⟨by rfl, ?_⟩) ?_; rotate_left; (intro w hSw; (try dsimp only at hSw); go_simp <;> with_reducible rfl); (try simp only [Act.put, List.setIfInBounds_toArray, List.set_cons_zero, List.set_cons_succ]))
          refine wpTakes_nil ?_
          refine held_one 19 (fuel := 0) rfl (by kernel_rfl) ?_
          simp only [List.drop_succ_cons, List.drop_zero]
          refine wpOne_cons (fun KO hK => ?_)
          go_simp
          replace hHeld := KS.out _ ja (.int .i64 (x ja)) hHeld
          refine hK.out _ _ hHeld ?_
          clear hK KO
          try simp only [Act.put, List.setIfInBounds_toArray, List.set_cons_zero, List.set_cons_succ]
          refine wpAnyH_done (by kernel_rfl) ?_ _
          refine NoPanic.normal ?_
          go_wp2_with fail
          go_meet
          exact AXX.out
      · have hjj2 : ¬ (jv = ja) := fun e => hjj e.symm
        have JAV := Lib.hid (And.intro hja hjv)
        have AXX := Lib.hid (And.intro (any_xx X3 R3 hm9 lt hjal hjvl (x jv) (x ja)).drew (((B1.setCell (p := ⟨xb, ja, none⟩) gt (.int .i64 (x jv))).setCell (p := ⟨xb, jv, none⟩) gt (.int .i64 (x ja))).drew))
        have KS : Hid (∀ (W : World) (i : Nat) (y : Value), W.cell? ⟨p, 2, none⟩ = some (.slice (some ⟨xb, 0, none⟩) m xp) → (W.setCell ⟨xb, i, none⟩ y).cell? ⟨p, 2, none⟩ = some (.slice (some ⟨xb, 0, none⟩) m xp)) := Lib.hid fun W i y h => by
          have := Below.heap_setCell W ⟨xb, i, none⟩ y p (by show p ≠ xb; omega)
          unfold World.cell? at h ⊢
          rw [this]; exact h
        clear X3 R3 B1 B1h HALL hja hjv
        go_upto_region 31 with (go_at_call 20; first | (with_reducible refine (within2_any _ a (m : Int) ha (by omega) (by omega)).mono ?_; rintro e w5 ⟨rfl, rfl⟩; rw [JAV.out.1]) | (with_reducible refine (within2_any _ v (m : Int) hv (by omega) (by omega)).mono ?_; rintro e w5 ⟨rfl, rfl⟩; rw [JAV.out.2]))
        refine wp_region_noPanic ?_
        refine wp_region_held_drew (S := fun W => W.cell? ⟨p, 2, none⟩ = some (.slice (some ⟨xb, 0, none⟩) m xp)) (by kernel_rfl) c2 (fun hHeld => ?_)
        refine held_takes (by kernel_rfl) (fun _ _ _ _ _ h => h) [0, 1, 2, 3, 4, 5, 6, 7, 8, 9, 11, 12, 13, 14] _ 6 _ _ _ rfl (by kernel_rfl) (by kernel_rfl) hHeld ?_
        simp only [pick, List.drop_succ_cons, List.drop_zero]
        iterate 14 (refine wpTakes_cons (v := ?_) (Or.inl ⟨by rfl, ?_⟩) ?_; rotate_left; (intro w hSw; (try dsimp only at hSw); go_simp <;> with_reducible rfl); (try simp only [Act.put, List.setIfInBounds_toArray, List.set_cons_zero, List.set_cons_succ]))
        refine wpTakes_nil ?_
        have cy : w3.drew.cell? ⟨xb, ja, none⟩ = some (.int .i64 (x ja)) := cx
        have cy2 : w3.drew.cell? ⟨xb, jv, none⟩ = some (.int .i64 (x jv)) := cx2
        refine held_two 10 15 (fuel := 5) rfl (by kernel_rfl) ?_ ?_
        · simp only [List.drop_succ_cons, List.drop_zero]
          refine wpOne_cons (fun KO hK => ?_)
          go_simp
          refine hK.out _ _ hHeld ?_
          clear hK KO
          try simp only [Act.put, List.setIfInBounds_toArray, List.set_cons_zero, List.set_cons_succ]
          refine held_one 15 (fuel := 4) rfl (by kernel_rfl) ?_
          simp only [List.drop_succ_cons, List.drop_zero]
          refine wpOne_cons (fun KO hK => ?_)
          go_simp
          refine hK.out _ _ hHeld ?_
          clear hK KO
          try simp only [Act.put, List.setIfInBounds_toArray, List.set_cons_zero, List.set_cons_succ]
          refine held_takes (by kernel_rfl) (fun _ _ _ _ _ h => h) [16] _ 3 _ _ _ rfl (by kernel_rfl) (by kernel_rfl) hHeld ?_
          simp only [pick, List.drop_succ_cons, List.drop_zero]
          iterate 1 (refine wpTakes_cons (v := ?_) (Or.inl ⟨by rfl, ?_⟩) ?_; rotate_left; (intro w hSw; (try dsimp only at hSw); go_simp <;> with_reducible rfl); (try simp only [Act.put, List.setIfInBounds_toArray, List.set_cons_zero, List.set_cons_succ]))
          refine wpTakes_nil ?_
          refine held_one 17 (fuel := 2) rfl (by kernel_rfl) ?_
          simp only [List.drop_succ_cons, List.drop_zero]
          refine wpOne_cons (fun KO hK => ?_)
          go_simp
          replace hHeld := KS.out _ ja (.int .i64 (x jv)) hHeld
          refine hK.out _ _ hHeld ?_
          clear hK KO
          try simp only [Act.put, List.setIfInBounds_toArray, List.set_cons_zero, List.set_cons_succ]
          refine held_takes (by kernel_rfl) (fun _ _ _ _ _ h => h) [18] _ 1 _ _ _ rfl (by kernel_rfl) (by kernel_rfl) hHeld ?_
          simp only [pick, List.drop_succ_cons, List.drop_zero]
          iterate 1 (refine wpTakes_cons (v := ?_) (Or.inl ⟨by rfl, ?_⟩) ?_; rotate_left; (intro w hSw; (try dsimp only at hSw); go_simp <;> with_reducible rfl); (try simp only [Act.put, List.setIfInBounds_toArray, List.set_cons_zero, List.set_cons_succ]))
          refine wpTakes_nil ?_
          refine held_one 19 (fuel := 0) rfl (by kernel_rfl) ?_
          simp only [List.drop_succ_cons, List.drop_zero]
          refine wpOne_cons (fun KO hK => ?_)
          go_simp
          replace hHeld := KS.out _ jv (.int .i64 (x ja)) hHeld
          refine hK.out _ _ hHeld ?_
          clear hK KO
          try simp only [Act.put, List.setIfInBounds_toArray, List.set_cons_zero, List.set_cons_succ]
          refine wpAnyH_done (by kernel_rfl) ?_ _
          refine NoPanic.normal ?_
          go_wp2_with fail
          go_meet
          exact AXX.out
        · simp only [List.drop_succ_cons, List.drop_zero]
          refine wpOne_cons (fun KO hK => ?_)
          go_simp
          refine hK.out _ _ hHeld ?_
          clear hK KO
          try simp only [Act.put, List.setIfInBounds_toArray, List.set_cons_zero, List.set_cons_succ]
          refine held_one 10 (fuel := 4) rfl (by kernel_rfl) ?_
          simp only [List.drop_succ_cons, List.drop_zero]
          refine wpOne_cons (fun KO hK => ?_)
          go_simp
          refine hK.out _ _ hHeld ?_
          clear hK KO
          try simp only [Act.put, List.setIfInBounds_toArray, List.set_cons_zero, List.set_cons_succ]
          refine held_takes (by kernel_rfl) (fun _ _ _ _ _ h => h) [16] _ 3 _ _ _ rfl (by kernel_rfl) (by kernel_rfl) hHeld ?_
          simp only [pick, List.drop_succ_cons, List.drop_zero]
          iterate 1 (refine wpTakes_cons (v := ?_) (Or.inl ⟨by rfl, ?_⟩) ?_; rotate_left; (intro w hSw; (try dsimp only at hSw); go_simp <;> with_reducible rfl); (try simp only [Act.put, List.setIfInBounds_toArray, List.set_cons_zero, List.set_cons_succ]))
          refine wpTakes_nil ?_
          refine held_one 17 (fuel := 2) rfl (by kernel_rfl) ?_
          simp only [List.drop_succ_cons, List.drop_zero]
          refine wpOne_cons (fun KO hK => ?_)
          go_simp
          replace hHeld := KS.out _ ja (.int .i64 (x jv)) hHeld
          refine hK.out _ _ hHeld ?_
          clear hK KO
          try simp only [Act.put, List.setIfInBounds_toArray, List.set_cons_zero, List.set_cons_succ]
          refine held_takes (by kernel_rfl) (fun _ _ _ _ _ h => h) [18] _ 1 _ _ _ rfl (by kernel_rfl) (by kernel_rfl) hHeld ?_
          simp only [pick, List.drop_succ_cons, List.drop_zero]
          iterate 1 (refine wpTakes_cons (v := ?_) (Or.inl ⟨by rfl, ?_⟩) ?_; rotate_left; (intro w hSw; (try dsimp only at hSw); go_simp <;> with_reducible rfl); (try simp only [Act.put, List.setIfInBounds_toArray, List.set_cons_zero, List.set_cons_succ]))
          refine wpTakes_nil ?_
          refine held_one 19 (fuel := 0) rfl (by kernel_rfl) ?_
          simp only [List.drop_succ_cons, List.drop_zero]
          refine wpOne_cons (fun KO hK => ?_)
          go_simp
          replace hHeld := KS.out _ jv (.int .i64 (x ja)) hHeld
          refine hK.out _ _ hHeld ?_
          clear hK KO
          try simp only [Act.put, List.setIfInBounds_toArray, List.set_cons_zero, List.set_cons_succ]
          refine wpAnyH_done (by kernel_rfl) ?_ _
          refine NoPanic.normal ?_
          go_wp2_with fail
          go_meet
          exact AXX.out
  case rest =>
    obtain ⟨⟨N', T', X', C', m', mx, mc, t', x', c', X5, h1, h2, h3, hm5⟩, B5⟩ := hcut
    generalize wc = w5 at *
    clear c0 c1 c2 c3 f0 f1 f2 X3 R3 pl
    have pl := blk_lt X5
    have c0 : w5.cell? ⟨p, 0, none⟩ = some (.int .i64 N') := blk_cell X5 0
    have c1 : w5.cell? ⟨p, 1, none⟩ = some T' := blk_cell X5 1
    have c2 : w5.cell? ⟨p, 2, none⟩ = some X' := blk_cell X5 2
    have c3 : w5.cell? ⟨p, 3, none⟩ = some C' := blk_cell X5 3
    have KK : Hid (∀ W, Below w5.heap.size w5 W → W.cell? ⟨p, 0, none⟩ = some (.int .i64 N') ∧ W.cell? ⟨p, 1, none⟩ = some T' ∧ W.cell? ⟨p, 2, none⟩ = some X' ∧ W.cell? ⟨p, 3, none⟩ = some C') := Lib.hid fun W b => ⟨(b.cell (p := ⟨p, 0, none⟩) pl).trans c0, (b.cell (p := ⟨p, 1, none⟩) pl).trans c1, (b.cell (p := ⟨p, 2, none⟩) pl).trans c2, (b.cell (p := ⟨p, 3, none⟩) pl).trans c3⟩
    have D0 : Below w5.heap.size w5 w5.drew := (Below.refl _ w5).drew
    go_upto_region 32 with fail
    go_region_held3 (fun w' => w'.cell? ⟨p, 0, none⟩ = some (.int .i64 N') ∧ w'.cell? ⟨p, 1, none⟩ = some T' ∧ w'.cell? ⟨p, 2, none⟩ = some X' ∧ w'.cell? ⟨p, 3, none⟩ = some C')
      (first | with_reducible exact k1 | go_keep)
      (first
        | (go_at_call 18; refine (check_any w5.drew N' T' X' C' m' mx mc t' x' c' (h1.below D0 (Nat.le_refl _)) (h2.below D0 (Nat.le_refl _)) (h3.below D0 (Nat.le_refl _)) hm5).mono ?_; rintro e w7 ⟨r, rfl, tt, bb⟩; have E7 : Below w5.heap.size w5 w7 := D0.trans (bb.mono (Nat.le_refl _)); have k1 := KK.out w7 E7; clear bb)
        | (go_at_call 19; refine (refCheck_all w7 N' T' X' C' m' mx mc t' x' c' (h1.below E7 (Nat.le_refl _)) (h2.below E7 (Nat.le_refl _)) (h3.below E7 (Nat.le_refl _)) hm5).mono ?_; rintro e w8 ⟨r', rfl, tt', bb⟩; have hr : r' = r := tt'.one tt; subst hr; have E8 : Below w5.heap.size w5 w8 := E7.trans (bb.mono E7.size); have k1 := KK.out w8 E8; clear bb)
        | fail)
    go_wp2_with fail
    go_ret
    exact ⟨by simp, B5.trans (E8.mono B5.size)⟩
end Go.Proofs.Ytcejjcopchkmeaa.Ro
