/- Walks: Split, of the program's chapter 3. -/
import Derived.Deep.RegionHeld3
import Derived.Deep.DeepCutAuto
import Derived.Outline
import Derived.Test.YtcdlnohnkdalbaaMg12
import Derived.Test.YtcdlnohnkdalbaaMxRoSh
import Derived.Test.YtcdlnohnkdalbaaMxRoSr
namespace Go.Proofs.Ytcdlnohnkdalbaa.Ro
open Go.RowKit Go.Proofs Go.Maps
set_option linter.unusedVariables false
set_option maxRecDepth 100000
set_option linter.unusedSimpArgs false

/-- a net and a face's darts in a variable -/
def Corner (w : World) (q : Nat) (N : Int) (T X C D : Value) : Prop := w.heap[q]? = some (.cells #[.int .i64 N, T, X, C, D] 79 (0, 0))

theorem Corner.facts {w : World} {q : Nat} {N : Int} {T X C D : Value} (h : Corner w q N T X C D) :
    w.cell? ⟨q, 0, none⟩ = some (.int .i64 N) ∧ w.cell? ⟨q, 1, none⟩ = some T ∧ w.cell? ⟨q, 2, none⟩ = some X ∧ w.cell? ⟨q, 3, none⟩ = some C ∧ w.cell? ⟨q, 4, none⟩ = some D ∧
    w.frozen? ⟨q, 0, none⟩ = false ∧ w.frozen? ⟨q, 1, none⟩ = false ∧ w.frozen? ⟨q, 2, none⟩ = false ∧ w.frozen? ⟨q, 3, none⟩ = false ∧ w.frozen? ⟨q, 4, none⟩ = false :=
  ⟨blk_cell h 0, blk_cell h 1, blk_cell h 2, blk_cell h 3, blk_cell h 4, blk_frozen h 0, blk_frozen h 1, blk_frozen h 2, blk_frozen h 3, blk_frozen h 4⟩
theorem cell_of_heap {w w' : World} {b o : Nat} (h : w'.heap[b]? = w.heap[b]?) : w'.cell? ⟨b, o, none⟩ = w.cell? ⟨b, o, none⟩ := by simp [World.cell?, h]
def put5 (w : World) (p : Nat) (N : Int) (T X C D : Value) : World := (put4 w p N T X C).setCell ⟨p, 4, none⟩ D
theorem Corner.put {w : World} {p : Nat} {N0 : Int} {T0 X0 C0 D0 : Value} (h : Corner w p N0 T0 X0 C0 D0) (N : Int) (T X C D : Value) : Corner (put5 w p N T X C D) p N T X C D := by
  have h1 := blk_set (i := 4) (blk_set (i := 3) (blk_set (i := 2) (blk_set (i := 1) (blk_set (i := 0) h (.int .i64 N)) T) X) C) D
  exact h1
theorem put5_ne {w : World} {p k : Nat} {N : Int} {T X C D : Value} (h : k ≠ p) : (put5 w p N T X C D).heap[k]? = w.heap[k]? :=
  (Below.heap_setCell _ _ _ _ h).trans (put4_ne h)
theorem put5_below {w0 w : World} {B p : Nat} (h : Below B w0 w) (hp : B ≤ p) (N : Int) (T X C D : Value) : Below B w0 (put5 w p N T X C D) :=
  (put4_below h hp N T X C).setCell (p := ⟨p, 4, none⟩) hp _
theorem Corner.below {w w' : World} {q B : Nat} {N : Int} {T X C D : Value} (h : Corner w q N T X C D) (hb : Below B w w') (hB : w.heap.size ≤ B) : Corner w' q N T X C D := (hb.block q (Nat.lt_of_lt_of_le (blk_lt h) hB)).trans h

theorem around_one {l a rr : Nat} {f : Nat → Int} {v r : Int} (hl : rr < l) (h1 : f ((a + rr) % l) = v) (h2 : ∀ j, j < rr → f ((a + j) % l) ≠ v)
    (hr : (r = -1 ∧ ∀ j, j < l → f j ≠ v) ∨ ∃ i : Nat, i < l ∧ r = ((a + i) % l : Nat) ∧ f ((a + i) % l) = v ∧ ∀ j, j < i → f ((a + j) % l) ≠ v) : r = ((a + rr) % l : Nat) := by
  rcases hr with ⟨_, h⟩ | ⟨i, k1, k2, k3, k4⟩
  · exact absurd h1 (h _ (Nat.mod_lt _ (by omega)))
  · rcases Nat.lt_trichotomy i rr with q | q | q
    · exact absurd k3 (h2 i q)
    · rw [k2, q]
    · exact absurd h1 (k4 rr q)

set_option maxHeartbeats 6400000 in
theorem split_ok (w : World) (N : Nat) (T X C : Value) (m : Nat) (t x c : Nat → Int) (hT : Rd w T m t) (hX : Rd w X m x) (hC : Rd w C m c) (g : Good N m t x) (pf : Perm (bh x) m) (s v : Int) :
    Calls Try.prog 45 #[.agg #[.int .i64 (N : Int), T, X, C], .int .i64 s, .int .i64 v] w (SplitPost w.heap.size w m x t s v) := by
  have hm := g.few
  obtain ⟨TA, tp, rfl, rt⟩ := id hT
  obtain ⟨XA, xp, rfl, -⟩ := id hX
  obtain ⟨CA, cp, rfl, -⟩ := id hC
  have HT := Lib.hid rt
  clear rt
  go_enter Try.func45, Try.ntmps45
  go_wp2_with fail
  obtain ⟨w1, hw1, N1, B1⟩ := net_enter (N : Int) hT hX hC
  rw [hw1]
  clear hw1
  have c0 := N1.c0
  have c1 := N1.c1
  have c2 := N1.c2
  have c3 := N1.c3
  refine (shared_ok _ N _ _ _ m t x c N1.rt N1.rx N1.rc g pf s v).mono ?_
  rintro e w2 ⟨o, k, r, b, O, rfl, S, b2⟩
  replace N1 := N1.below b2 (Nat.le_refl _)
  replace B1 := B1.trans (b2.mono B1.size)
  replace c0 := N1.c0
  replace c1 := N1.c1
  replace c2 := N1.c2
  replace c3 := N1.c3
  have HS := Lib.hid S
  clear S b2
  cases b with
  | false =>
    have HO := Lib.hid O
    have hr := HS.out.1
    subst hr
    clear O
    go_wp2_with fail
    exact bodyPost_ret (v := .tuple #[.slice none 0 0, .int .i64 0, .int .i64 0, .int .i64 0, .bool false]) (by simp [results, Try.results45, go_sem]) rfl ⟨o, k, HO.out, B1, .inl ⟨HS.out, rfl⟩⟩
  | true =>
    obtain ⟨f, rfl⟩ : ∃ f : Nat, r = (f : Int) := ⟨_, HS.out.2.choose_spec.1⟩
    obtain ⟨e0, l, a, rr, H⟩ := HS.out.halved O pf
    go_wp2_with fail
    refine (faces_ok _ N _ _ _ m t x c N1.rt N1.rx N1.rc g pf).mono ?_
    rintro e w3 ⟨fv, o', k', rfl, F3, nF, O', b3⟩
    obtain rfl := O.count O' pf
    have F4 := F3.congr (fun d hd => (O.same O' pf m d hd hd).symm)
    replace N1 := N1.below b3 (Nat.le_refl _)
    have hl := H.lt
    obtain ⟨fb, fc, rfl, -⟩ := F4.form (by omega)
    have nF : w.heap.size ≤ fb := Nat.le_trans B1.size (nF fb rfl)
    replace B1 := B1.trans (b3.mono B1.size)
    have hkm := O.le
    have HO := Lib.hid O
    clear O O' F3 b3 c0 c1 c2 c3
    obtain ⟨F, hF⟩ : ∃ F : Nat, F = max k 1 := ⟨_, rfl⟩
    rw [← hF]
    have HF := Lib.hid hF
    have hFm : F ≤ 240 := by omega
    clear hF hkm
    have HH := Lib.hid H
    clear H
    have hlm : l ≤ m := apart_le l (fun j => it (bh x) j e0) (fun j _ => pf.it_lt hl j) HH.out.rnd.apart
    have c0 := N1.c0
    have c1 := N1.c1
    have c2 := N1.c2
    have c3 := N1.c3
    have lp := N1.lt
    have hfx : First o m (f : Int) (e0 : Int) := .inr ⟨e0, rfl, hl, HH.out.face, HH.out.least⟩
    have HX := Lib.hid hfx
    clear hfx
    have KK : Hid (∀ W, Below w3.heap.size w3 W → W.cell? ⟨w.heap.size, 0, none⟩ = some (.int .i64 (N : Int)) ∧ W.cell? ⟨w.heap.size, 1, none⟩ = some (.slice TA m tp) ∧ W.cell? ⟨w.heap.size, 2, none⟩ = some (.slice XA m xp) ∧ W.cell? ⟨w.heap.size, 3, none⟩ = some (.slice CA m cp)) :=
      Lib.hid fun W b => ⟨(b.cell (p := ⟨w.heap.size, 0, none⟩) lp).trans c0, (b.cell (p := ⟨w.heap.size, 1, none⟩) lp).trans c1, (b.cell (p := ⟨w.heap.size, 2, none⟩) lp).trans c2, (b.cell (p := ⟨w.heap.size, 3, none⟩) lp).trans c3⟩
    have n1 : ¬ (w3.heap.size = w.heap.size) := by omega
    have n2 : ¬ (w.heap.size = w3.heap.size) := by omega
    go_upto_region 5 with fail
    go_cut [12] (fun u wx => ∃ q D : Nat, u = .pointer (some ⟨q, 0, none⟩) ∧ Corner wx q N (.slice TA m tp) (.slice XA m xp) (.slice CA m cp) (.slice (some ⟨D, 0, none⟩) l l) ∧ w3.heap.size ≤ q ∧ w3.heap.size ≤ D ∧ Rd wx (.slice (some ⟨D, 0, none⟩) l l) l (fun j => (it (bh x) j e0 : Int)) ∧ Below w3.heap.size w3 wx)
    case first =>
      go_region_held3 (fun w' => w'.cell? ⟨w.heap.size, 0, none⟩ = some (.int .i64 (N : Int)) ∧ w'.cell? ⟨w.heap.size, 1, none⟩ = some (.slice TA m tp) ∧ w'.cell? ⟨w.heap.size, 2, none⟩ = some (.slice XA m xp) ∧ w'.cell? ⟨w.heap.size, 3, none⟩ = some (.slice CA m cp))
        (first | with_reducible exact k1 | go_keep)
        (first
          | (go_at_call 57; refine (index_any _ _ m o (f : Int) (by omega) (F4.below (B := w3.heap.size) (by first | exact (Below.refl _ w3).drew | exact ((Below.refl _ w3).alloc (Nat.le_refl _) _).drew) (Nat.le_refl _)).rd).mono ?_; rintro e w5 ⟨ri, rfl, hri, rfl⟩; obtain rfl := hri.one HX.out (fun _ _ => rfl))
          | (go_at_call 56; refine (face_ok _ N _ _ _ m t x c (N1.rt.below (B := w3.heap.size) ((Below.refl _ w3).alloc (Nat.le_refl _) _).drew (Nat.le_refl _)) (N1.rx.below (B := w3.heap.size) ((Below.refl _ w3).alloc (Nat.le_refl _) _).drew (Nat.le_refl _)) (N1.rc.below (B := w3.heap.size) ((Below.refl _ w3).alloc (Nat.le_refl _) _).drew (Nat.le_refl _)) g pf e0 hl).mono ?_; rintro e w6 h6; obtain ⟨D, l', rfl, hD, hDl, cD, R, b6⟩ := RoundPost.row h6; obtain rfl := HH.out.rnd.one R; have E6 : Below w3.heap.size w3 w6 := (((Below.refl _ w3).alloc (Nat.le_refl _) _).drew).trans (b6.mono (by simp)); have Q6 : Corner w6 w3.heap.size 0 (.slice none 0 0) (.slice none 0 0) (.slice none 0 0) (.slice none 0 0) := (b6.block _ (by simp)).trans (heap_alloc_new w3 _); have QF := Lib.hid Q6; obtain ⟨z0, z1, z2, z3, z4, y0, y1, y2, y3, y4⟩ := Q6.facts; have k1 := KK.out w6 E6; have tok : Hid (w3.heap.size ≤ D) := Lib.hid (by have := hD; simp at this; omega); have ne : Hid (D ≠ w3.heap.size) := Lib.hid (by have := hD; simp at this; omega); have CD := Lib.hid cD; clear b6 Q6 cD hD)
          | (go_at_call 56; refine (face_ok _ N _ _ _ m t x c (N1.rt.below (B := w3.heap.size) (Below.refl _ w3).drew (Nat.le_refl _)) (N1.rx.below (B := w3.heap.size) (Below.refl _ w3).drew (Nat.le_refl _)) (N1.rc.below (B := w3.heap.size) (Below.refl _ w3).drew (Nat.le_refl _)) g pf e0 hl).mono ?_; rintro e w6 h6; obtain ⟨D, l', rfl, hD, hDl, cD, R, b6⟩ := RoundPost.row h6; obtain rfl := HH.out.rnd.one R; have E6 : Below w3.heap.size w3 w6 := (Below.refl _ w3).drew.trans (b6.mono (Nat.le_refl _)); have k1 := KK.out w6 E6; have tok : Hid (w3.heap.size ≤ D) := Lib.hid hD; have l6 : w.heap.size < w6.heap.size := Nat.lt_of_lt_of_le lp E6.size; have l7 : ¬ (w6.heap.size = w.heap.size) := (by omega); have l8 : ¬ (w.heap.size = w6.heap.size) := (by omega); have CD := Lib.hid cD; clear b6 cD hD))
      · go_wp2_with fail
        go_meet
        exact ⟨w6.heap.size, D, rfl, heap_alloc_new _ _, E6.size, tok.out, ⟨_, _, rfl, fun _ => ⟨_, rfl, by simp; omega, fun i hi => by rw [add_head]; exact ((below_new w6 _).cell (p := ⟨D, i, none⟩) hDl).trans (CD.out i hi)⟩⟩, E6.alloc E6.size _⟩
      all_goals
        go_wp2_with fail
        go_meet
        exact ⟨w3.heap.size, D, rfl, QF.out.put _ _ _ _ _, Nat.le_refl _, tok.out, ⟨_, _, rfl, fun _ => ⟨_, rfl, by simpa [World.setCell] using hDl, fun i hi => by rw [add_head]; exact (cell_of_heap (put5_ne ne.out)).trans (CD.out i hi)⟩⟩, put5_below E6 (Nat.le_refl _) _ _ _ _ _⟩
    case rest =>
      obtain ⟨q, D, rfl, Q4, hq3, hD3, L4, b4⟩ := hcut
      replace N1 := N1.below b4 (Nat.le_refl _)
      replace B1 := B1.trans (b4.mono B1.size)
      have hne : fb ≠ D := by have := F4.lt (k := fb) rfl; omega
      have hnq : fb ≠ q := by have := F4.lt (k := fb) rfl; omega
      replace F4 := F4.below b4 (Nat.le_refl _)
      have hal := HH.out.alt
      have hrl := HH.out.rlt
      have hrp := HH.out.rpos
      have l0 : 0 < l := by omega
      clear b4 c0 c1 c2 c3 KK n1 n2 hq3 lp HX
      obtain ⟨c0, c1, c2, c3, c4, -⟩ := Q4.facts
      go_wp2_with fail
      refine (first_any _ N _ _ _ _ m l t (fun j => (it (bh x) j e0 : Int)) s 0 N1.rt L4 (by omega) (by omega) l0 (fun j _ => ⟨by omega, by have := pf.it_lt hl j; omega⟩)).mono ?_
      rintro e w5 ⟨ra, rfl, hra, b5⟩
      have hra' : ra = ((0 + a) % l : Nat) := around_one (f := fun j => t (((it (bh x) j e0 : Nat) : Int)).toNat) hal (by show t (Int.toNat _) = s; rw [Int.toNat_natCast, HH.out.rnd.mod, Nat.zero_add]; exact HH.out.here) (fun j hj => by show t (Int.toNat _) ≠ s; rw [Int.toNat_natCast, HH.out.rnd.mod, Nat.zero_add]; exact HH.out.aleast j hj) hra
      rw [Nat.zero_add, Nat.mod_eq_of_lt hal] at hra'
      subst hra'
      replace N1 := N1.below b5 (Nat.le_refl _)
      replace B1 := B1.trans (b5.mono B1.size)
      replace F4 := F4.below b5 (Nat.le_refl _)
      replace L4 := L4.below b5 (Nat.le_refl _)
      replace Q4 := Q4.below b5 (Nat.le_refl _)
      clear b5 c0 c1 c2 c3 c4 hra
      obtain ⟨c0, c1, c2, c3, c4, -⟩ := Q4.facts
      go_wp2_with fail
      refine (first_any _ N _ _ _ _ m l t (fun j => (it (bh x) j e0 : Int)) v a N1.rt L4 (by omega) (by omega) hal (fun j _ => ⟨by omega, by have := pf.it_lt hl j; omega⟩)).mono ?_
      rintro e w6 ⟨rb, rfl, hrb, b6⟩
      have hrb' : rb = ((a + rr) % l : Nat) := around_one (f := fun j => t (((it (bh x) j e0 : Nat) : Int)).toNat) hrl (by show t (Int.toNat _) = v; rw [Int.toNat_natCast, HH.out.rnd.mod]; exact HH.out.there) (fun j hj => by show t (Int.toNat _) ≠ v; rw [Int.toNat_natCast, HH.out.rnd.mod]; exact HH.out.rleast j hj) hrb
      subst hrb'
      replace N1 := N1.below b6 (Nat.le_refl _)
      replace B1 := B1.trans (b6.mono B1.size)
      replace F4 := F4.below b6 (Nat.le_refl _)
      replace L4 := L4.below b6 (Nat.le_refl _)
      replace Q4 := Q4.below b6 (Nat.le_refl _)
      clear b6 c0 c1 c2 c3 c4 hrb N1
      go_wp2_with fail
      go_loopg [16] (l - rr) (fun n u wx => ∃ j : Nat, u = .int .i64 (((a + j) % l : Nat) : Int) ∧ n = l - j ∧ rr ≤ j ∧ j ≤ l ∧ Ow wx (.slice (some ⟨fb, 0, none⟩) m fc) m (halfO x o (F : Int) e0 a rr j) ∧ Rd wx (.slice (some ⟨D, 0, none⟩) l l) l (fun j => (it (bh x) j e0 : Int)) ∧ Corner wx q N (.slice TA m tp) (.slice XA m xp) (.slice CA m cp) (.slice (some ⟨D, 0, none⟩) l l) ∧ Below w.heap.size w wx)
      case atStart => exact ⟨rr, rfl, rfl, Nat.le_refl _, by omega, by rw [halfO_start]; exact F4, L4, Q4, B1⟩
      case round =>
        clear F4 L4 Q4 B1
        obtain ⟨j, rfl, hn', hj1, hj2, F4, L4, Q4, B1⟩ := hrel
        have c4 := Q4.facts.2.2.2.2.1
        by_cases hjl : j = l
        · have e1 : (a + j) % l = a := by rw [hjl, Nat.add_mod_right, Nat.mod_eq_of_lt hal]
          rw [e1]
          have q0 : ((a : Int) != (a : Int)) = false := by simp
          subst hjl
          clear e1
          go_wp2_with fail
          exact bodyPost_ret (v := .tuple #[.slice (some ⟨fb, 0, none⟩) m fc, .int .i64 ((F : Int) + 1), .int .i64 (f : Int), .int .i64 (F : Int), .bool true]) (by simp [results, Try.results45, go_sem]) rfl ⟨o, k, HO.out, B1, .inr ⟨f, e0, j, a, rr, fb, fc, HS.out, HH.out, by rw [← HF.out]; simp, by rw [← HF.out]; exact F4, nF⟩⟩
        · have hap := mod_apart (a := a) (j := j) hal (by omega) (by omega)
          obtain ⟨q', z, Eq, hq, nx, Ez, hzm⟩ : ∃ q' z : Nat, Hid ((a + j) % l = q') ∧ q' < l ∧ Hid (((q' : Int) + 1) % (l : Int) = (((a + (j + 1)) % l : Nat) : Int)) ∧ Hid (it (bh x) (a + j) e0 = z) ∧ z < m :=
            ⟨_, _, Lib.hid rfl, Nat.mod_lt _ l0, Lib.hid (mod_next l0), Lib.hid rfl, pf.it_lt hl _⟩
          rw [Eq.out] at hap ⊢
          have q0 : ((q' : Int) != (a : Int)) = true := by simp; omega
          have cl : wr.cell? ⟨D, q', none⟩ = some (.int .i64 (z : Int)) := by
            obtain ⟨Y, cY, eY, rY⟩ := L4
            injection eY with e1 e2 e3
            obtain ⟨y, h1, h2, h3⟩ := rY l0
            rw [← e1] at h1
            injection h1 with h1
            have := h3 _ hq
            rw [← h1, add_head] at this
            rw [this, ← Eq.out]
            show some (Value.int IntKind.i64 ((it (bh x) ((a + j) % l) e0 : Nat) : Int)) = _
            rw [HH.out.rnd.mod, Ez.out]
          have co := F4.cell hzm
          have zf := F4.frozen z
          have F5 := F4.set hzm (F : Int)
          have st := halfO_step x o (F : Int) e0 a hj1
          rw [Ez.out] at st
          rw [st] at F5
          have hs : ∀ b, b ≠ fb → (wr.setCell ⟨fb, z, none⟩ (.int .i64 (F : Int))).heap[b]? = wr.heap[b]? := fun b hb => Below.heap_setCell _ _ _ _ hb
          have L5 : Rd (wr.setCell ⟨fb, z, none⟩ (.int .i64 (F : Int))) (.slice (some ⟨D, 0, none⟩) l l) l (fun j => (it (bh x) j e0 : Int)) := by
            obtain ⟨Y, cY, eY, rY⟩ := L4
            refine ⟨Y, cY, eY, fun h => ?_⟩
            obtain ⟨y, h1, h2, h3⟩ := rY h
            injection eY with e1 e2 e3
            rw [← e1] at h1
            injection h1 with h1
            subst h1
            exact ⟨_, e1.symm, by simpa [World.setCell] using h2, fun i hi => by rw [add_head, cell_of_heap (hs D (Ne.symm hne)), ← add_head]; exact h3 i hi⟩
          have Q5 : Corner (wr.setCell ⟨fb, z, none⟩ (.int .i64 (F : Int))) q N (.slice TA m tp) (.slice XA m xp) (.slice CA m cp) (.slice (some ⟨D, 0, none⟩) l l) := (hs q (Ne.symm hnq)).trans Q4
          have B5 := B1.setCell (p := ⟨fb, z, none⟩) nF (.int .i64 (F : Int))
          have q1 : (q' : Int) < (l : Int) := by omega
          have q2 : (z : Int) < (m : Int) := by omega
          have q3 : ¬ (fb = q) := hnq
          have q4 : ¬ (q = fb) := Ne.symm hnq
          clear st F4 L4 B1 hap hs Q4
          go_wp2_with fail
          go_roundg (l - (j + 1))
          case measure => omega
          case rel => exact ⟨j + 1, by rw [nx.out], rfl, by omega, by omega, F5, L5, Q5, B5⟩
end Go.Proofs.Ytcdlnohnkdalbaa.Ro
