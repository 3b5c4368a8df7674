/- Walks: Split, of the reference's chapter 3. -/
import Derived.Test.YtcdlnohnkdalbaaMg11
import Derived.Test.YtcdlnohnkdalbaaMg12
namespace Go.Proofs.Ytcdlnohnkdalbaa.Ro
open Go.RowKit Go.Proofs Go.Maps
set_option linter.unusedVariables false
set_option maxRecDepth 100000
set_option linter.unusedSimpArgs false

theorem mod_next {a j l : Nat} (h : 0 < l) : ((((a + j) % l : Nat) : Int) + 1) % (l : Int) = (((a + (j + 1)) % l : Nat) : Int) := by
  rw [show (((a + j) % l : Nat) : Int) + 1 = (((a + j) % l + 1 : Nat) : Int) by omega, ← Int.natCast_emod, Nat.mod_add_mod]
  rfl
theorem mod_apart {a j l : Nat} (ha : a < l) (h0 : 0 < j) (hj : j < l) : (a + j) % l ≠ a := by
  rcases Nat.lt_or_ge (a + j) l with q | q
  · rw [Nat.mod_eq_of_lt q]; omega
  · rw [Nat.mod_eq_sub_mod q, Nat.mod_eq_of_lt (by omega)]; omega

set_option maxHeartbeats 6400000 in
theorem refSplit_ok (w : World) (N : Int) (T X C : Value) (m : Nat) (t x c : Nat → Int) (hT : Rd w T m t) (hX : Rd w X m x) (hC : Rd w C m c) (hm : m ≤ 240) (hev : m % 2 = 0) (hn : ∀ d, d < m → 0 ≤ x d) (pf : Perm (bh x) m) (s v : Int) :
    Calls Try.prog 25 #[.agg #[.int .i64 N, T, X, C], .int .i64 s, .int .i64 v] w (SplitPost w.heap.size w m x t s v) := by
  obtain ⟨TA, tp, rfl, rt⟩ := id hT
  obtain ⟨XA, xp, rfl, -⟩ := id hX
  have HT := Lib.hid rt
  clear rt
  go_enter Try.func25, Try.ntmps25
  go_wp2_with fail
  obtain ⟨w1, hw1, N1, B1⟩ := net_enter N hT hX hC
  rw [hw1]
  clear hw1
  have c0 := N1.c0
  have c1 := N1.c1
  have c2 := N1.c2
  have c3 := N1.c3
  refine (refShared_ok _ N _ _ _ m t x N1.rt N1.rx hm hev hn pf s v).mono ?_
  rintro e w2 ⟨o, k, r, b, O, rfl, S, b2⟩
  replace N1 := N1.below b2 (Nat.le_refl _)
  replace B1 := B1.trans (b2.mono B1.size)
  replace c0 := N1.c0
  replace c1 := N1.c1
  replace c2 := N1.c2
  replace c3 := N1.c3
  have HS := Lib.hid S
  clear S b2
  cases b with
  | false =>
    have HO := Lib.hid O
    have hr := HS.out.1
    subst hr
    clear O
    go_wp2_with fail
    exact bodyPost_ret (v := .tuple #[.slice none 0 0, .int .i64 0, .int .i64 0, .int .i64 0, .bool false]) (by simp [results, Try.results25, go_sem]) rfl ⟨o, k, HO.out, B1, .inl ⟨HS.out, rfl⟩⟩
  | true =>
    obtain ⟨f, rfl⟩ : ∃ f : Nat, r = (f : Int) := ⟨_, HS.out.2.choose_spec.1⟩
    obtain ⟨e0, l, a, rr, H⟩ := HS.out.halved O pf
    go_wp2_with fail
    refine (refFaces_ok _ N _ _ _ m t x N1.rt N1.rx (by omega) hev hn pf).mono ?_
    rintro e w3 ⟨fb, o', k', rfl, F3, nF, O', km, b3⟩
    obtain rfl := O.count O' pf
    have F4 := F3.congr (fun d hd => (O.same O' pf m d hd hd).symm)
    replace N1 := N1.below b3 (Nat.le_refl _)
    have nF : w.heap.size ≤ fb := Nat.le_trans B1.size nF
    replace B1 := B1.trans (b3.mono B1.size)
    have HO := Lib.hid O
    clear O O' F3 b3 c0 c1 c2 c3
    obtain ⟨F, hF⟩ : ∃ F : Nat, F = max k 1 := ⟨_, rfl⟩
    rw [← hF]
    have HF := Lib.hid hF
    have hFm : F ≤ 240 := by omega
    clear hF
    have hl := H.lt
    have hfe := H.face
    have HL := Lib.hid H.least
    have HH := Lib.hid H
    clear H
    go_wp2_with fail
    go_loopg [15] e0 (fun n u wr => ∃ d : Nat, u = .int .i64 (d : Int) ∧ n = e0 - d ∧ d ≤ e0 ∧ wr = w3)
    case atStart => exact ⟨0, rfl, rfl, Nat.zero_le _, rfl⟩
    case round =>
      obtain ⟨d, rfl, hn', hd, rfl⟩ := hrel
      have co := F4.cell (j := d) (by omega)
      have d1 : (d : Int) < (m : Int) := by omega
      by_cases hde : d = e0
      · subst hde
        rw [hfe] at co
        have q0 : ((f : Int) != (f : Int)) = false := by simp
        have c0 := N1.c0
        have c1 := N1.c1
        have c2 := N1.c2
        have c3 := N1.c3
        go_wp2_with fail
        refine (refFace_ok _ N _ _ _ m x N1.rx (by omega) hev hn pf d hl).mono ?_
        rintro e w4 ⟨lb, l', lcap, rfl, hlb, L4, R, b4⟩
        obtain rfl := HH.out.rnd.one R
        replace N1 := N1.below b4 (Nat.le_refl _)
        replace B1 := B1.trans (b4.mono B1.size)
        have hne : fb ≠ lb := by have := F4.lt (k := fb) rfl; omega
        replace F4 := F4.below b4 (Nat.le_refl _)
        have hlm : l ≤ m := apart_le l (fun j => it (bh x) j d) (fun j _ => pf.it_lt hl j) R.apart
        clear b4 c0 c1 c2 c3 q0 co d1 R hlb hd hn'
        have c0 := N1.c0
        have c1 := N1.c1
        have c2 := N1.c2
        have c3 := N1.c3
        go_wp2_with fail
        refine (refFirst_any _ N _ _ _ _ m l t (fun j => (it (bh x) j d : Int)) s N1.rt L4.rd (by omega) (by omega) (fun j _ => ⟨by omega, by have := pf.it_lt hl j; omega⟩)).mono ?_
        rintro e w5 ⟨ra, rfl, hra, b5⟩
        obtain rfl : ra = (a : Int) := hra.one (x' := fun i => t (it (bh x) i d)) (.inr ⟨a, rfl, HH.out.alt, HH.out.here, HH.out.aleast⟩) (fun j _ => by simp)
        replace N1 := N1.below b5 (Nat.le_refl _)
        replace B1 := B1.trans (b5.mono B1.size)
        replace F4 := F4.below b5 (Nat.le_refl _)
        replace L4 := L4.below b5 (Nat.le_refl _)
        have hal := HH.out.alt
        have hrl := HH.out.rlt
        have hrp := HH.out.rpos
        have l0 : 0 < l := by omega
        clear b5 c0 c1 c2 c3 hra
        go_wp2_with fail
        go_loopg [18] rr (fun n u wr => ∃ j : Nat, u = .int .i64 (((a + j) % l : Nat) : Int) ∧ n = rr - j ∧ j ≤ rr ∧ NetAt wr w.heap.size N (.slice TA m tp) (.slice XA m xp) C m t x c ∧ Ow wr (.slice (some ⟨fb, 0, none⟩) m m) m o ∧ Ow wr (.slice (some ⟨lb, 0, none⟩) l lcap) l (fun j => (it (bh x) j d : Int)) ∧ Below w.heap.size w wr)
        case atStart => exact ⟨0, by rw [Nat.add_zero, Nat.mod_eq_of_lt hal], rfl, Nat.zero_le _, N1, F4, L4, B1⟩
        case round =>
          clear N1 F4 L4 B1
          obtain ⟨j, rfl, hn', hj, N1, F4, L4, B1⟩ := hrel
          obtain ⟨q, z, Eq, hq, nx, Ez, hzm, TZ⟩ : ∃ q z : Nat, Hid ((a + j) % l = q) ∧ q < l ∧ Hid (((q : Int) + 1) % (l : Int) = (((a + (j + 1)) % l : Nat) : Int)) ∧ Hid (it (bh x) q d = z) ∧ z < m ∧ Hid (t z = t (it (bh x) (a + j) d)) :=
            ⟨_, _, Lib.hid rfl, Nat.mod_lt _ l0, Lib.hid (mod_next l0), Lib.hid rfl, pf.it_lt hl _, Lib.hid (by rw [HH.out.rnd.mod])⟩
          rw [Eq.out]
          have cl : wr.cell? ⟨lb, q, none⟩ = some (.int .i64 (z : Int)) := by have := L4.cell hq; rw [Ez.out] at this; exact this
          have c1 := N1.c1
          obtain ⟨y, rfl, hy, hc⟩ := HT.out (by omega)
          have ct := rd_cell B1 hy (Nat.le_refl _) (hc _ hzm)
          clear hc
          have q1 : (q : Int) < (l : Int) := by omega
          have q2 : (z : Int) < (m : Int) := by omega
          by_cases hjr : j = rr
          · have tv : t z = v := by rw [TZ.out, hjr]; exact HH.out.there
            have p1 : (t z != v) = false := by simpa using tv
            clear tv
            go_upto_region 11 with fail
            go_big_quiet (fail)
            go_wp2_with fail
            have hjq : (a + rr) % l = q := by rw [← hjr]; exact Eq.out
            have HJ := Lib.hid hjq
            obtain ⟨wr2, hwr2⟩ : ∃ wr2, wr2 = wr.drewN nq := ⟨_, rfl⟩
            have N2 : NetAt (wr.drewN nq) w.heap.size N (.slice (some y) m tp) (.slice XA m xp) C m t x c := ⟨N1.box, N1.rt, N1.rx, N1.rc⟩
            have F2 : Ow (wr.drewN nq) (.slice (some ⟨fb, 0, none⟩) m m) m o := F4
            have L2 : Ow (wr.drewN nq) (.slice (some ⟨lb, 0, none⟩) l lcap) l (fun j => (it (bh x) j d : Int)) := L4
            have B2 : Below w.heap.size w (wr.drewN nq) := ⟨B1.os, B1.tape, B1.output, B1.size, B1.block⟩
            rw [← hwr2] at N2 F2 L2 B2 ⊢
            clear hwr2 hjq N1 F4 L4 B1 Eq nx Ez TZ p1 cl c1 ct q1 q2 hzm
            clear hjr hj hn'
            go_loopg [19] (l - rr) (fun n u wx => ∃ j : Nat, u = .int .i64 (((a + j) % l : Nat) : Int) ∧ n = l - j ∧ rr ≤ j ∧ j ≤ l ∧ Ow wx (.slice (some ⟨fb, 0, none⟩) m m) m (halfO x o (F : Int) d a rr j) ∧ Ow wx (.slice (some ⟨lb, 0, none⟩) l lcap) l (fun j => (it (bh x) j d : Int)) ∧ Below w.heap.size w wx)
            case atStart => exact ⟨rr, by rw [HJ.out], rfl, Nat.le_refl _, by omega, by rw [halfO_start]; exact F2, L2, B2⟩
            case round =>
              clear F2 L2 B2 N2
              obtain ⟨j, rfl, hn', hj1, hj2, F4, L4, B1⟩ := hrel
              by_cases hjl : j = l
              · have e1 : (a + j) % l = a := by rw [hjl, Nat.add_mod_right, Nat.mod_eq_of_lt hal]
                rw [e1]
                have q0 : ((a : Int) != (a : Int)) = false := by simp
                subst hjl
                clear e1
                go_wp2_with fail
                exact bodyPost_ret (v := .tuple #[.slice (some ⟨fb, 0, none⟩) m m, .int .i64 ((F : Int) + 1), .int .i64 (f : Int), .int .i64 (F : Int), .bool true]) (by simp [results, Try.results25, go_sem]) rfl ⟨o, k, HO.out, B1, .inr ⟨f, d, j, a, rr, fb, m, HS.out, HH.out, by rw [← HF.out]; simp, by rw [← HF.out]; exact F4, nF⟩⟩
              · have hap := mod_apart (a := a) (j := j) hal (by omega) (by omega)
                obtain ⟨q', z, Eq, hq, nx, Ez, hzm⟩ : ∃ q' z : Nat, Hid ((a + j) % l = q') ∧ q' < l ∧ Hid (((q' : Int) + 1) % (l : Int) = (((a + (j + 1)) % l : Nat) : Int)) ∧ Hid (it (bh x) (a + j) d = z) ∧ z < m :=
                  ⟨_, _, Lib.hid rfl, Nat.mod_lt _ l0, Lib.hid (mod_next l0), Lib.hid rfl, pf.it_lt hl _⟩
                rw [Eq.out] at hap ⊢
                have q0 : ((q' : Int) != (a : Int)) = true := by simp; omega
                have cl : wr.cell? ⟨lb, q', none⟩ = some (.int .i64 (z : Int)) := by
                  have := L4.cell hq
                  rw [← Eq.out, HH.out.rnd.mod, Ez.out, Eq.out] at this; exact this
                have co := F4.cell hzm
                have zf := F4.frozen z
                have F5 := F4.set hzm (F : Int)
                have st := halfO_step x o (F : Int) d a hj1
                rw [Ez.out] at st
                rw [st] at F5
                have L5 := L4.apart (q := fb) (i := z) (Ne.symm hne) (.int .i64 (F : Int))
                have B5 := B1.setCell (p := ⟨fb, z, none⟩) nF (.int .i64 (F : Int))
                have q1 : (q' : Int) < (l : Int) := by omega
                have q2 : (z : Int) < (m : Int) := by omega
                clear st F4 L4 B1 hap
                go_wp2_with fail
                go_roundg (l - (j + 1))
                case measure => omega
                case rel => exact ⟨j + 1, by rw [nx.out], rfl, by omega, by omega, F5, L5, B5⟩
          · have p1 : (t z != v) = true := by have := HH.out.rleast j (by omega); rw [← TZ.out] at this; simpa using this
            go_upto_region 11 with fail
            go_big_quiet (fail)
            go_wp2_with fail
            go_roundg (rr - (j + 1))
            case measure => omega
            case rel => exact ⟨j + 1, by rw [nx.out], rfl, by omega, ⟨N1.box, N1.rt, N1.rx, N1.rc⟩, F4, L4, ⟨B1.os, B1.tape, B1.output, B1.size, B1.block⟩⟩
      · have q0 : (o d != (f : Int)) = true := by have := HL.out d (by omega); simpa using this
        go_wp2_with fail
        go_roundg (e0 - (d + 1))
        case measure => omega
        case rel => exact ⟨d + 1, by simp, rfl, by omega, rfl⟩
end Go.Proofs.Ytcdlnohnkdalbaa.Ro
