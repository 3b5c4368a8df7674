/- Walks: the law RotAbouts. -/
import Derived.Test.YtcejjcopchkmeaaRoLb
import Derived.Test.YtcejjcopchkmeaaRoCt
namespace Go.Proofs.Ytcejjcopchkmeaa.Ro
open Go.RowKit Go.Proofs Go.Maps
set_option linter.unusedVariables false
set_option linter.unusedSimpArgs false

theorem RoundPost.row {B : Nat} {w w' : World} {f : Nat → Nat} {d : Nat} {e : Ending} (h : RoundPost B w f d e w') : ∃ b k, e = .returned (.slice (some ⟨b, 0, none⟩) k k) ∧ B ≤ b ∧ b < w'.heap.size ∧ (∀ j, j < k → w'.cell? ⟨b, j, none⟩ = some (.int .i64 (it f j d : Int))) ∧ Rnd f d k ∧ Below B w w' := by
  obtain ⟨b, k, cur, rfl, h1, h2, h3, h4, h5⟩ := h
  exact ⟨b, k, rfl, h1, blk_lt h2, fun j hj => by rw [blk_cell h2]; exact h3 j hj, h4, h5⟩

section
variable {N m : Nat} {t x c : Nat → Int}
theorem Grown.tails (h : Grown N m t x c) {d : Nat} (hd : d < m) : t (ab x d) = t d := by
  have k := h.turns.keep d hd
  have h1 := h.good.tail d hd
  have h2 := h.good.tail _ (h.turns.perm.lt d hd)
  unfold tlOf at k
  omega
theorem Grown.about_count (h : Grown N m t x c) {d k : Nat} (hd : d < m) (R : Rnd (ab x) d k) : cnt (fun j => decide (t j = t d)) m = k :=
  R.count h.turns.perm hd (fun x hx => h.tails hx) (fun a b ha hb q => h.turns.one a b ha hb (by unfold tlOf; rw [q]))
theorem tails_it (h : Grown N m t x c) {d : Nat} (hd : d < m) : ∀ j, t (it (ab x) j d) = t d
  | 0 => rfl
  | j + 1 => (h.tails (h.turns.perm.it_lt hd j)).trans (tails_it h hd j)
theorem about_back (h : Grown N m t x c) {d k i : Nat} (hd : d < m) (R : Rnd (ab x) d k) (hi : i < k) : it (ab (turnUp x m)) ((k - i) % k) d = it (ab x) i d := by
  rcases Nat.eq_zero_or_pos i with q | q
  · subst q
    rw [Nat.sub_zero, Nat.mod_self]; rfl
  · rw [Nat.mod_eq_of_lt (by omega)]
    have e := it_add (ab x) d (k - i) i
    rw [show k - i + i = k by omega, R.back] at e
    have e2 := it_turn h.turns.perm (h.turns.perm.it_lt hd i) (k - i)
    rw [← e] at e2
    exact e2
end

set_option maxRecDepth 100000 in
set_option maxHeartbeats 12800000 in
theorem abouts_walk (A : Option Addr) (len cap : Nat) (zs : List Int) (d : Int) (w : World) (hV : Rd w (.slice A len cap) len (fun i => zs.getD i 0)) (hz : ∀ i, i < len → Small (zs.getD i 0)) (hl : len ≤ 9223372036854775807) (hd : Small d) :
    Calls Try.prog 11 #[.slice A len cap, .int .i64 d] w fun e w' => e = .returned (.bool true) ∧ Below w.heap.size w w' := by
  have hok := plane_ok (fun i => zs.getD i 0) len
  go_enter Try.func11, Try.ntmps11
  go_wp2_with fail
  refine (known_ok _).mono ?_
  rintro e w1 ⟨rfl, B1⟩
  go_wp2_with fail
  refine (plane_any _ _ len _ (hV.below B1 (Nat.le_refl _)) hz hl).mono ?_
  rintro e w2 ⟨T, X, C, rfl, R2, b2⟩
  have B2 := B1.trans (b2.mono B1.size)
  clear b2 B1 hz
  generalize planeOf (fun i => zs.getD i 0) len = s at *
  obtain ⟨N, m, t, x, c⟩ := s
  dsimp only at *
  obtain ⟨gr, hN, hM⟩ := hok
  have gr : Grown N m t x c := gr
  have GR := Lib.hid gr
  have gd := gr.good
  have gt := gr.turn
  have pa := gr.turns.perm
  have pt := gt.turns.perm
  obtain ⟨TA, tp, rfl, -⟩ := id R2.ot.rd
  obtain ⟨XA, xp, rfl, -⟩ := id R2.ox.rd
  obtain ⟨CA, cp, rfl, -⟩ := id R2.oc.rd
  go_upto_region 4 with fail
  have X3 : Box (w2.alloc (.cells #[.int .i64 (N : Int), .slice TA m tp, .slice XA m xp, .slice CA m cp] 25)) w2.heap.size N (.slice TA m tp) (.slice XA m xp) (.slice CA m cp) := heap_alloc_new _ _
  have b3 : Below w2.heap.size w2 (w2.alloc (.cells #[.int .i64 (N : Int), .slice TA m tp, .slice XA m xp, .slice CA m cp] 25)) := (Below.refl _ _).alloc (Nat.le_refl _) _
  have R3 := R2.below b3 (Nat.le_refl _)
  have B3 := B2.trans (b3.mono B2.size)
  clear b3 R2 B2
  generalize w2.alloc (.cells #[.int .i64 (N : Int), .slice TA m tp, .slice XA m xp, .slice CA m cp] 25) = w3 at *
  generalize w2.heap.size = p at *
  have c1 : w3.cell? ⟨p, 1, none⟩ = some (.slice TA m tp) := blk_cell X3 1
  by_cases hm : m = 0
  · subst hm
    go_wp2_with fail
    go_ret
    exact ⟨rfl, B3⟩
  · have hb : ((m : Int) == 0) = false := by simp; omega
    have hm1 : (0 : Int) < (m : Int) := by omega
    clear hm
    go_wp2_with fail
    refine (within2_any _ d (m : Int) hd hm1 (by omega)).mono ?_
    rintro e w4 ⟨rfl, rfl⟩
    obtain ⟨j, hj, hjm⟩ := small_within (d := d) (m := m) (by omega)
    rw [hj]
    clear hb hj
    obtain ⟨tb, tcp, te, -⟩ := R3.ot.form (by omega)
    injection te with te1 te2 te3
    subst te1 te3
    have pl := blk_lt X3
    have c0 : w3.cell? ⟨p, 0, none⟩ = some (.int .i64 (N : Int)) := blk_cell X3 0
    have c2 : w3.cell? ⟨p, 2, none⟩ = some (.slice XA m xp) := blk_cell X3 2
    have c3 : w3.cell? ⟨p, 3, none⟩ = some (.slice CA m cp) := blk_cell X3 3
    have D3 : Below w3.heap.size w3 w3.drew := (Below.refl _ w3).drew
    have R4 := R3.below D3 (Nat.le_refl _)
    have KK : Hid (∀ W, Below w3.heap.size w3 W → W.cell? ⟨p, 0, none⟩ = some (.int .i64 (N : Int)) ∧ W.cell? ⟨p, 1, none⟩ = some (.slice (some ⟨tb, 0, none⟩) m tp) ∧ W.cell? ⟨p, 2, none⟩ = some (.slice XA m xp) ∧ W.cell? ⟨p, 3, none⟩ = some (.slice CA m cp)) :=
      Lib.hid fun W B => ⟨(B.cell (p := ⟨p, 0, none⟩) pl).trans c0, (B.cell (p := ⟨p, 1, none⟩) pl).trans c1, (B.cell (p := ⟨p, 2, none⟩) pl).trans c2, (B.cell (p := ⟨p, 3, none⟩) pl).trans c3⟩
    go_upto_region 7 with fail
    go_region_held3 (fun w' => w'.cell? ⟨p, 0, none⟩ = some (.int .i64 (N : Int)) ∧ w'.cell? ⟨p, 1, none⟩ = some (.slice (some ⟨tb, 0, none⟩) m tp) ∧ w'.cell? ⟨p, 2, none⟩ = some (.slice XA m xp) ∧ w'.cell? ⟨p, 3, none⟩ = some (.slice CA m cp))
      (first | with_reducible exact k1 | go_keep)
      (first
        | ((with_reducible refine (about_ok w3.drew N _ _ _ m t x c R4.ot.rd R4.ox.rd R4.oc.rd gd pa j hjm).mono ?_); rintro e w5 r5; obtain ⟨ba, k, rfl, -, la, ha, Ra, b5⟩ := r5.row; have E5 : Below w3.heap.size w3 w5 := D3.trans (b5.mono (Nat.le_refl _)); have k1 := KK.out w5 E5; have HA := Lib.hid ha; clear b5 ha r5)
        | (go_at_call 27; refine (turn_ok w5 N _ _ _ m t x c (R3.below E5 (Nat.le_refl _)).ot.rd (R3.below E5 (Nat.le_refl _)).ox.rd (R3.below E5 (Nat.le_refl _)).oc.rd (by omega) gd.next).mono ?_; rintro e w6 ⟨T9, X9, C9, rfl, U6, b6⟩; have E6 : Below w3.heap.size w3 w6 := E5.trans (b6.mono E5.size); have k1 := KK.out w6 E6)
        | ((with_reducible refine (about_ok w6 N _ _ _ m t (turnUp x m) c U6.ot.rd U6.ox.rd U6.oc.rd gt.good pt j hjm).mono ?_); rintro e w7 r7; obtain ⟨bb, k2, rfl, -, lb, hbb, Rb, b7⟩ := r7.row; have E7 : Below w3.heap.size w3 w7 := E6.trans (b7.mono E6.size); have k1 := KK.out w7 E7; have HB := Lib.hid hbb; clear hbb r7))
    have kk : k2 = k := (gt.about_count hjm Rb).symm.trans (gr.about_count hjm Ra)
    subst kk
    have hkm : k2 ≤ m := apart_le k2 (fun i => it (ab x) i j) (fun i _ => pa.it_lt hjm i) Ra.apart
    have hk0 := Ra.pos
    have ca : ∀ i, i < k2 → w7.cell? ⟨ba, i, none⟩ = some (.int .i64 (it (ab x) i j : Int)) := fun i hi => ((b6.trans (b7.mono b6.size)).cell (p := ⟨ba, i, none⟩) la).trans (HA.out i hi)
    have HA7 := Lib.hid ca
    have R7 := R3.below E7 (Nat.le_refl _)
    have X7 := X3.below E7 (Nat.le_refl _)
    have B7 := B3.trans (E7.mono B3.size)
    have lba : ba < w7.heap.size := Nat.lt_of_lt_of_le la (Nat.le_trans b6.size b7.size)
    clear ca HA b6 b7 E5 E6 E7 R3 R4 X3 B3 D3 KK k1 pl c0 c1 c2 c3 U6 la
    have ct : ∀ i, i < m → w7.cell? ⟨tb, i, none⟩ = some (.int .i64 (t i)) := fun i hi => R7.ot.cell hi
    have HT := Lib.hid ct
    have ltb := R7.ot.lt (k := tb) rfl
    clear ct
    go_wp2_with fail
    go_loopw [9, 10] (fun u v wr => ∃ i : Nat, v = .int .i64 (i : Int) ∧ i ≤ m ∧ u = .int .i64 (cnt (fun a => decide (t a = t j)) i : Int) ∧ Below w7.heap.size w7 wr) (fun _ v _ => m - (intOf v).toNat)
    case atStart => exact ⟨0, rfl, Nat.zero_le _, rfl, Below.refl _ _⟩
    case round =>
      obtain ⟨i, rfl, hi, rfl, E⟩ := hrel
      have cn := cnt_le (fun a => decide (t a = t j)) i
      have c1 : wr.cell? ⟨p, 1, none⟩ = some (.slice (some ⟨tb, 0, none⟩) m tp) := blk_cell (X7.below E (Nat.le_refl _)) 1
      by_cases him : i < m
      · have i1 : (i : Int) < (m : Int) := by omega
        have i2 : (j : Int) < (m : Int) := by omega
        have t1 := (E.cell (p := ⟨tb, i, none⟩) ltb).trans (HT.out i him)
        have t2 := (E.cell (p := ⟨tb, j, none⟩) ltb).trans (HT.out j hjm)
        by_cases hq : t i = t j
        · have q1 : (t i == t j) = true := by simp [hq]
          have CN : Hid (cnt (fun a => decide (t a = t j)) (i + 1) = cnt (fun a => decide (t a = t j)) i + 1) := Lib.hid (cnt_yes (by simpa using hq))
          clear hq
          go_upto_region 12 with fail
          go_big_quiet (fail)
          have E2 := E.trans ((below_draws wr nq).mono E.size)
          clear t1 t2 c1 E
          generalize wr.drewN nq = w8 at *
          go_wp2_with fail
          go_roundw
          case rel => exact ⟨i + 1, by simp, by omega, by rw [CN.out]; simp, E2⟩
          case measure => simp [intOf]; omega
        · have q1 : (t i == t j) = false := by simp [hq]
          have CN : Hid (cnt (fun a => decide (t a = t j)) (i + 1) = cnt (fun a => decide (t a = t j)) i) := Lib.hid (cnt_no (by simpa using hq))
          clear hq
          go_upto_region 12 with fail
          go_big_quiet (fail)
          have E2 := E.trans ((below_draws wr nq).mono E.size)
          clear t1 t2 c1 E
          generalize wr.drewN nq = w8 at *
          go_wp2_with fail
          go_roundw
          case rel => exact ⟨i + 1, by simp, by omega, by rw [CN.out], E2⟩
          case measure => simp [intOf]; omega
      · have i1 : ¬ ((i : Int) < (m : Int)) := by omega
        obtain rfl : m = i := by omega
        have CC := Lib.hid (GR.out.about_count hjm Ra)
        rw [CC.out]
        have n1 : ((k2 : Int) != (k2 : Int)) = false := by simp
        go_wp2_with fail
        clear c1 cn hi him i1 n1 CC
        go_loopw [11] (fun u wr => ∃ a : Nat, u = .int .i64 (a : Int) ∧ a ≤ k2 ∧ Below w7.heap.size w7 wr) (fun u _ => k2 - (intOf u).toNat)
        case atStart => exact ⟨0, rfl, Nat.zero_le _, E⟩
        case round =>
          clear E
          obtain ⟨a, rfl, ha, E⟩ := hrel
          by_cases hak : a < k2
          · have i1 : (a : Int) < (k2 : Int) := by omega
            have al := pa.it_lt hjm a
            have c1 : wr.cell? ⟨p, 1, none⟩ = some (.slice (some ⟨tb, 0, none⟩) m tp) := blk_cell (X7.below E (Nat.le_refl _)) 1
            have a1 := (E.cell (p := ⟨ba, a, none⟩) lba).trans (HA7.out a hak)
            have t1 := (E.cell (p := ⟨tb, it (ab x) a j, none⟩) ltb).trans (HT.out _ al)
            have t2 := (E.cell (p := ⟨tb, j, none⟩) ltb).trans (HT.out j hjm)
            have tt := tails_it GR.out hjm a
            rw [tt] at t1
            have hr : (k2 - a) % k2 < k2 := Nat.mod_lt _ hk0
            have bk := about_back GR.out hjm Ra hak
            have e1 := (E.cell (p := ⟨bb, (k2 - a) % k2, none⟩) lb).trans (HB.out _ hr)
            rw [bk] at e1
            have rm : ((k2 : Int) - (a : Int)) % (k2 : Int) = (((k2 - a) % k2 : Nat) : Int) := by
              rw [show (k2 : Int) - (a : Int) = ((k2 - a : Nat) : Int) by omega]
              exact (Int.natCast_emod _ _).symm
            have HR := Lib.hid rm
            have AP : Hid (∀ b, b < a → (((it (ab x) b j : Nat) : Int) == ((it (ab x) a j : Nat) : Int)) = false) := Lib.hid fun b hb => by
              have := Ra.apart b a hb hak
              simp; omega
            have HV : Hid (∀ n, n < k2 → n = a → w7.cell? ⟨ba, n, none⟩ = some (.int .i64 ((it (ab x) a j : Nat) : Int))) := Lib.hid fun n hn e => by rw [e]; exact HA7.out a hak
            generalize it (ab x) a j = v at *
            generalize (k2 - a) % k2 = r at *
            have z1 : decide ((v : Int) < 0) = false := by simp
            have z2 : decide ((v : Int) ≥ (m : Int)) = false := by simp; omega
            have z5 : decide (m ≤ v) = false := by simp; omega
            have z6 : decide ((m : Int) ≤ (v : Int)) = false := by simp; omega
            have z3 : (t j != t j) = false := by simp
            have z4 : ((v : Int) != (v : Int)) = false := by simp
            have l1 : (v : Int) < (m : Int) := by omega
            have l2 : (j : Int) < (m : Int) := by omega
            have l3 : (r : Int) < (k2 : Int) := by omega
            have l4 : (0 : Int) < (k2 : Int) := by omega
            have l5 : (0 : Int) ≤ (k2 : Int) - (a : Int) := by omega
            clear tt bk
            go_upto_region 19 with fail
            go_big_quiet (fail)
            have E2 := E.trans ((below_draws wr nq).mono E.size)
            clear t1 t2 c1 E e1 rm a1 z1 z2 z3 z4 z5 z6 l1 l2 l3 l4 l5
            generalize wr.drewN nq = w8 at *
            go_wp2_with fail
            go_loopw [12] (fun u wr => ∃ b : Nat, u = .int .i64 (b : Int) ∧ b ≤ a ∧ Below w7.heap.size w7 wr) (fun u _ => a - (intOf u).toNat)
            case atStart => exact ⟨0, rfl, Nat.zero_le _, E2⟩
            case round =>
              clear E2
              obtain ⟨b, rfl, hb, E⟩ := hrel
              by_cases hba : b < a
              · have i2 : (b : Int) < (a : Int) := by omega
                have i3 : (b : Int) < (k2 : Int) := by omega
                have a1 := (E.cell (p := ⟨ba, b, none⟩) lba).trans (HA7.out b (by omega))
                have a2 := (E.cell (p := ⟨ba, a, none⟩) lba).trans (HV.out a hak rfl)
                have z1 := AP.out b hba
                generalize it (ab x) b j = v2 at *
                go_upto_region 24 with fail
                go_big_quiet (fail)
                have E2 := E.trans ((below_draws wr nq).mono E.size)
                clear a1 a2 z1 E
                generalize wr.drewN nq = w9 at *
                go_wp2_with fail
                go_roundw
                case rel => exact ⟨b + 1, by simp, by omega, E2⟩
                case measure => simp [intOf]; omega
              · have i2 : ¬ ((b : Int) < (a : Int)) := by omega
                go_wp2_with fail
                go_roundw
                case rel => exact ⟨a + 1, by simp, by omega, E⟩
                case measure => simp [intOf]; omega
          · have i1 : ¬ ((a : Int) < (k2 : Int)) := by omega
            go_wp2_with fail
            go_ret
            exact ⟨rfl, B7.trans (E.mono B7.size)⟩
end Go.Proofs.Ytcejjcopchkmeaa.Ro
