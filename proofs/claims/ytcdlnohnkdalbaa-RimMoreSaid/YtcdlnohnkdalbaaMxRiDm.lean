/- Walks: the law RimMore. -/
import Derived.Deep.RegionHeld3
import Derived.Test.YtcdlnohnkdalbaaMg15
import Derived.Test.YtcdlnohnkdalbaaMg9
import Derived.Test.YtcdlnohnkdalbaaMxRiMo
import Derived.Test.YtcdlnohnkdalbaaMxRiNg
import Derived.Test.YtcdlnohnkdalbaaMxRiPq
namespace Go.Proofs.Ytcdlnohnkdalbaa.Ro
open Go.RowKit Go.Proofs Go.Maps
set_option linter.unusedVariables false
set_option linter.unusedSimpArgs false

set_option maxRecDepth 100000 in
set_option maxHeartbeats 12800000 in
theorem more_walk (A : Option Addr) (len cap : Nat) (zs : List Int) (s v at_ by_ : Int) (w : World) (hV : Rd w (.slice A len cap) len (fun i => zs.getD i 0)) (hz : ∀ i, i < len → Small (zs.getD i 0)) (hl : len ≤ 9223372036854775807) (hs : Small s) (hv : Small v) (ha_ : Small at_) (hb_ : Small by_) :
    Calls Try.prog 7 #[.slice A len cap, .int .i64 s, .int .i64 v, .int .i64 at_, .int .i64 by_] w fun e w' => e = .returned (.bool true) ∧ Below w.heap.size w w' := by
  obtain ⟨⟨N, m, t, x, c⟩, hs0⟩ : ∃ s, planeOf (fun i => zs.getD i 0) len = s := ⟨_, rfl⟩
  have hok := plane_ok (fun i => zs.getD i 0) len
  have pp0 := planeOf_pots (fun i => zs.getD i 0) len
  rw [hs0] at hok pp0
  have HS := Lib.hid hs0
  clear hs0
  obtain ⟨gr, hN, hM⟩ := hok
  have gr : Grown N m t x c := gr
  have pp : Pots m t x := pp0
  clear pp0
  dsimp only at hN hM
  have gd := gr.good
  have gm := gr.plane
  have ev := gd.even
  have N1 := gd.one
  have gcap := gm.caps
  go_enter Try.func7, Try.ntmps7
  go_wp2_with fail
  refine (known8_ok _).mono ?_
  rintro e w1 ⟨rfl, B1⟩
  have h01 := B1.size
  have PL : Hid (∀ w', Below w.heap.size w w' → Calls Try.prog 14 #[.slice A len cap] w' fun e w'' => ∃ T X C, e = .returned (.agg #[.int .i64 (N : Int), T, X, C]) ∧ Rows w'' w'.heap.size T X C m t x c ∧ Below w'.heap.size w' w'') := Lib.hid fun w' b => by
    refine (plane_any _ _ len _ (hV.below b (Nat.le_refl _)) hz hl).mono ?_
    rintro e w2 ⟨T, X, C, rfl, R2, b2⟩
    rw [HS.out] at R2 ⊢
    exact ⟨T, X, C, rfl, R2, b2⟩
  clear HS hV hz
  go_wp2_with fail
  refine (PL.out _ B1).mono ?_
  rintro e w2 ⟨T, X, C, rfl, R2, b2⟩
  obtain ⟨TA, tp, rfl, -⟩ := id R2.ot.rd
  obtain ⟨XA, xp, rfl, -⟩ := id R2.ox.rd
  obtain ⟨CA, cp, rfl, -⟩ := id R2.oc.rd
  replace B1 := B1.trans (b2.mono B1.size)
  have h12 := b2.size
  go_upto_region 4 with fail
  obtain ⟨w3, hw3, X3, R3, b3⟩ := rows_enter (N : Int) R2
  rw [hw3]
  have sz3 : w3.heap.size = w2.heap.size + 1 := by rw [← hw3]; simp
  have LN := Lib.hid (fun k (hk : (Value.slice TA m tp).ownBlock = some k ∨ (Value.slice XA m xp).ownBlock = some k ∨ (Value.slice CA m cp).ownBlock = some k) => R2.lt hk)
  replace B1 := B1.trans (b3.mono B1.size)
  have GN : NetG w3 w2.heap.size (N : Int) (.slice TA m tp) (.slice XA m xp) (.slice CA m cp) m t x c (fun k => w.heap.size ≤ k ∧ k < w3.heap.size) :=
    NetG.of X3 R3 ⟨by omega, by omega⟩ fun k hk => by have := LN.out k hk; omega
  clear hw3 b3 R2 X3 R3 LN b2
  obtain ⟨p, hp⟩ : ∃ p, p = w2.heap.size := ⟨_, rfl⟩
  rw [← hp] at GN ⊢
  have lp : p < w3.heap.size := by omega
  clear hp sz3 h12
  obtain ⟨a, ha, hal⟩ := small_within (d := s) (m := N) (by omega)
  obtain ⟨b, hb, hbl⟩ := small_within (d := v) (m := N) (by omega)
  have sa : Small (a : Int) := small_of (by omega) (by omega)
  have sb : Small (b : Int) := small_of (by omega) (by omega)
  have c0 := GN.at_.c0
  go_big_quiet (exact (within8_any _ _ _ (by assumption) (by omega) (by omega)).mono fun e w' h => ⟨h.1, _, h.2.symm⟩)
  rw [ha, hb]
  have GN' : NetG (w3.drewN nq) p (N : Int) (.slice TA m tp) (.slice XA m xp) (.slice CA m cp) m t x c (fun k => w.heap.size ≤ k ∧ k < w3.heap.size) := GN.keep fun _ _ => rfl
  have B1' : Below w.heap.size w (w3.drewN nq) := ⟨B1.os, B1.tape, B1.output, B1.size, B1.block⟩
  have hsz : (w3.drewN nq).heap.size = w3.heap.size := rfl
  clear GN B1 c0 ha hb
  rw [← hsz] at GN' lp
  clear hsz
  generalize w3.drewN nq = w4 at *
  have c3 := GN'.at_.c3
  by_cases hm0 : m = 0
  · have q1 : ((m : Int) == 0) = true := by simp; omega
    go_wp2_with fail
    go_ret
    exact ⟨by simp, B1'⟩
  · have q1 : ((m : Int) == 0) = false := by simp; omega
    clear c3
    have c3 := GN'.at_.c3
    have h14 := B1'.size
    go_wp2_with fail
    refine (PL.out _ B1').mono ?_
    rintro e w5 ⟨T, X, C, rfl, R5, b5⟩
    obtain ⟨TB, tq, rfl, -⟩ := id R5.ot.rd
    obtain ⟨XB, xq, rfl, -⟩ := id R5.ox.rd
    obtain ⟨CB, cq, rfl, -⟩ := id R5.oc.rd
    have B5 := B1'.trans (b5.mono B1'.size)
    have h45 := b5.size
    go_wp2_with fail
    refine (PL.out _ B5).mono ?_
    rintro e w6 ⟨T, X, C, rfl, R6, b6⟩
    obtain ⟨TC, tr, rfl, -⟩ := id R6.ot.rd
    obtain ⟨XC, xr, rfl, -⟩ := id R6.ox.rd
    obtain ⟨CC, cr, rfl, -⟩ := id R6.oc.rd
    have B6 := B5.trans (b6.mono B5.size)
    have h56 := b6.size
    have LM := Lib.hid (fun k (hk : (Value.slice TB m tq).ownBlock = some k ∨ (Value.slice XB m xq).ownBlock = some k ∨ (Value.slice CB m cq).ownBlock = some k) => R5.lt hk)
    have LO := Lib.hid (fun k (hk : (Value.slice TC m tr).ownBlock = some k ∨ (Value.slice XC m xr).ownBlock = some k ∨ (Value.slice CC m cr).ownBlock = some k) => R6.lt hk)
    have R5' := R5.below b6 (Nat.le_refl _)
    have GN6 := (GN'.below (fun k e => e.2) b5).below (fun k (e : w.heap.size ≤ k ∧ k < w4.heap.size) => (by omega : k < w5.heap.size)) b6
    go_upto_region 8 with fail
    have b7 : Below w6.heap.size w6 ((w6.alloc (.cells #[.int .i64 (N : Int), .slice TB m tq, .slice XB m xq, .slice CB m cq] 25)).alloc (.cells #[.int .i64 (N : Int), .slice TC m tr, .slice XC m xr, .slice CC m cr] 25)) := ((Below.refl _ _).alloc (Nat.le_refl _) _).alloc (by simp) _
    have X7 : Box ((w6.alloc (.cells #[.int .i64 (N : Int), .slice TB m tq, .slice XB m xq, .slice CB m cq] 25)).alloc (.cells #[.int .i64 (N : Int), .slice TC m tr, .slice XC m xr, .slice CC m cr] 25)) w6.heap.size N (.slice TB m tq) (.slice XB m xq) (.slice CB m cq) :=
      Box.below (heap_alloc_new _ _) ((Below.refl _ _).alloc (Nat.le_refl _) _) (Nat.le_refl _)
    have Y7 : Box ((w6.alloc (.cells #[.int .i64 (N : Int), .slice TB m tq, .slice XB m xq, .slice CB m cq] 25)).alloc (.cells #[.int .i64 (N : Int), .slice TC m tr, .slice XC m xr, .slice CC m cr] 25)) (w6.heap.size + 1) N (.slice TC m tr) (.slice XC m xr) (.slice CC m cr) := by
      have := heap_alloc_new (w6.alloc (.cells #[.int .i64 (N : Int), .slice TB m tq, .slice XB m xq, .slice CB m cq] 25)) (.cells #[.int .i64 (N : Int), .slice TC m tr, .slice XC m xr, .slice CC m cr] 25)
      rw [show (w6.alloc (.cells #[.int .i64 (N : Int), .slice TB m tq, .slice XB m xq, .slice CB m cq] 25)).heap.size = w6.heap.size + 1 by simp] at this
      exact this
    have sz7 : ((w6.alloc (.cells #[.int .i64 (N : Int), .slice TB m tq, .slice XB m xq, .slice CB m cq] 25)).alloc (.cells #[.int .i64 (N : Int), .slice TC m tr, .slice XC m xr, .slice CC m cr] 25)).heap.size = w6.heap.size + 1 + 1 := by simp
    generalize (w6.alloc (.cells #[.int .i64 (N : Int), .slice TB m tq, .slice XB m xq, .slice CB m cq] 25)).alloc (.cells #[.int .i64 (N : Int), .slice TC m tr, .slice XC m xr, .slice CC m cr] 25) = w7 at *
    have GN7 := GN6.below (fun k (e : w.heap.size ≤ k ∧ k < w4.heap.size) => (by omega : k < w6.heap.size)) b7
    have GM7 : NetG w7 w6.heap.size (N : Int) (.slice TB m tq) (.slice XB m xq) (.slice CB m cq) m t x c (fun k => (w4.heap.size ≤ k ∧ k < w5.heap.size) ∨ k = w6.heap.size) :=
      NetG.of X7 (R5'.below b7 (Nat.le_refl _)) (.inr rfl) fun k hk => by have := LM.out k hk; omega
    have GO7 : NetG w7 (w6.heap.size + 1) (N : Int) (.slice TC m tr) (.slice XC m xr) (.slice CC m cr) m t x c (fun k => (w5.heap.size ≤ k ∧ k < w6.heap.size) ∨ k = w6.heap.size + 1) :=
      NetG.of Y7 (R6.below b7 (Nat.le_refl _)) (.inr rfl) fun k hk => by have := LO.out k hk; omega
    have B7 := B6.trans (b7.mono B6.size)
    clear GN6 GN' R5' R5 R6 X7 Y7 LM LO b5 b6 b7 B1' B5 B6 c3
    obtain ⟨q2, hq2⟩ : ∃ q2, q2 = w6.heap.size := ⟨_, rfl⟩
    obtain ⟨S1, hS1⟩ : ∃ S1, S1 = w5.heap.size := ⟨_, rfl⟩
    obtain ⟨S0, hS0⟩ : ∃ S0, S0 = w4.heap.size := ⟨_, rfl⟩
    rw [← hq2] at GM7 GO7 sz7 h56 ⊢
    rw [← hS1] at GM7 GO7 h56 h45
    rw [← hS0] at GN7 GM7 h45 lp h14
    clear hq2 hS1 hS0
    obtain ⟨d, hd, hdl⟩ := small_within (d := at_) (m := m) (by omega)
    have c3 := GN7.at_.c3
    go_wp2_with fail
    refine (within8_any _ _ _ ha_ (by omega) (by omega)).mono ?_
    rintro e w' ⟨rfl, rfl⟩
    rw [hd]
    clear hd c3
    obtain ⟨cb, q, eC, y1, y2, y3, y4, y5⟩ := GM7.cap hdl
    injection eC with e1 e2 e3
    subst e1 e3
    obtain ⟨z1, z2⟩ := gcap d hdl
    have m3 := GM7.at_.c3
    have i1 : (d : Int) < (m : Int) := by omega
    have r0 := Int.emod_nonneg by_ (b := 1000) (by omega)
    have r1 := Int.emod_lt_of_pos by_ (show (0 : Int) < 1000 by omega)
    obtain ⟨u1, hu1⟩ : ∃ u1, u1 = by_ % 1000 := ⟨_, rfl⟩
    have WI := Lib.hid (fun W => within8_any W by_ 1000 hb_ (by omega) (by omega))
    rw [← hu1] at WI r0 r1
    clear hu1
    obtain ⟨mn, hmn⟩ : ∃ mn, mn = min (c d + u1) 2147483648 := ⟨_, rfl⟩
    have em : (if 2147483648 < c d + u1 then 2147483648 else c d + u1) = mn := by rw [hmn]; split <;> omega
    have hmn1 : c d ≤ mn := by omega
    have hmn2 : mn ≤ 2147483648 := by omega
    have GN8 := GN7.other (b := cb) (by omega) d (.int .i64 mn)
    have GM8 := GM7.set hdl mn (c' := upd c d mn) (fun _ _ => rfl)
    have GO8 := GO7.other (b := cb) (by omega) d (.int .i64 mn)
    have B8 := B7.setCell (p := ⟨cb, d, none⟩) (by show w.heap.size ≤ cb; omega) (.int .i64 mn)
    have HS8 := Lib.hid (And.intro GN8 (And.intro GM8 (And.intro GO8 B8)))
    have wl : IntKind.i64.wrap (c d + u1) = c d + u1 := by rw [IntKind.wrap_i64]; omega
    clear hmn GN8 GM8 GO8 B8
    go_upto_region 9 with fail
    go_cut [] (fun wx => NetG wx p (N : Int) (.slice TA m tp) (.slice XA m xp) (.slice CA m cp) m t x c (fun k => w.heap.size ≤ k ∧ k < S0) ∧ NetG wx q2 (N : Int) (.slice TB m tq) (.slice XB m xq) (.slice (some ⟨cb, 0, none⟩) m cq) m t x (upd c d mn) (fun k => (S0 ≤ k ∧ k < S1) ∨ k = q2) ∧ NetG wx (q2 + 1) (N : Int) (.slice TC m tr) (.slice XC m xr) (.slice CC m cr) m t x c (fun k => (S1 ≤ k ∧ k < q2) ∨ k = q2 + 1) ∧ Below w.heap.size w wx ∧ q2 + 1 < wx.heap.size)
    case first =>
      clear GN7 GM7 GO7 B7
      go_region_with ((refine (WI.out _).mono ?_; rintro e w' ⟨rfl, rfl⟩))
      all_goals
        go_wp2_with fail
        go_meet
        obtain ⟨g1, g2, g3, g4⟩ := HS8.out
        exact ⟨g1.drew, g2.drew, g3.drew, g4.drew, by simp; omega⟩
    case rest =>
      obtain ⟨GN, GM, GO, BB, hq⟩ := hcut
      clear GN7 GM7 GO7 B7 HS8 y2 y3 m3 em wl WI
      obtain ⟨w8, hw8⟩ : ∃ w8, w8 = wc := ⟨_, rfl⟩
      subst hw8
      go_wp2_with fail
      go_loopw [17] (fun u17 wr => ∃ i : Nat, u17 = .int .i64 (i : Int) ∧ i ≤ m ∧ NetG wr p (N : Int) (.slice TA m tp) (.slice XA m xp) (.slice CA m cp) m t x (fun j => if j < i then c j / 2 else c j) (fun k => w.heap.size ≤ k ∧ k < S0) ∧ NetG wr q2 (N : Int) (.slice TB m tq) (.slice XB m xq) (.slice (some ⟨cb, 0, none⟩) m cq) m t x (upd c d mn) (fun k => (S0 ≤ k ∧ k < S1) ∨ k = q2) ∧ NetG wr (q2 + 1) (N : Int) (.slice TC m tr) (.slice XC m xr) (.slice CC m cr) m t x (fun j => if j < i then 2 * (c j / 2) else c j) (fun k => (S1 ≤ k ∧ k < q2) ∨ k = q2 + 1) ∧ Below w.heap.size w wr ∧ q2 + 1 < wr.heap.size) (fun u17 _ => m - (intOf u17).toNat)
      case atStart => exact ⟨0, rfl, Nat.zero_le _, GN.congr (fun j _ => by simp), GM, GO.congr (fun j _ => by simp), BB, hq⟩
      case round =>
        clear GN GM GO BB hq
        obtain ⟨i, rfl, hi, GN, GM, GO, BB, hq⟩ := hrel
        by_cases hlt : i < m
        · have j1 : (i : Int) < (m : Int) := by omega
          obtain ⟨nb, qn, eN, n2, n3, n4, n5, n6⟩ := GN.cap hlt
          injection eN with e1 e2 e3
          subst e1 e3
          obtain ⟨ob, qo, eO, o2, o3, o4, o5, o6⟩ := GO.cap hlt
          injection eO with e1 e2 e3
          subst e1 e3
          rw [if_neg (Nat.lt_irrefl i)] at n2 o2
          obtain ⟨z1, z2⟩ := gcap i hlt
          have s3 := GN.at_.c3
          have s3' := GO.at_.c3
          obtain ⟨hh, hhh⟩ : ∃ hh, hh = c i / 2 := ⟨_, rfl⟩
          have td : (c i).tdiv 2 = hh := by rw [hhh, Int.tdiv_eq_ediv_of_nonneg z1]
          have h1 : 0 ≤ hh := by omega
          have h2 : hh ≤ 1073741824 := by omega
          have wl : IntKind.i64.wrap hh = hh := by rw [IntKind.wrap_i64]; omega
          have hne : ¬ (ob = nb) := by omega
          have hne' : ¬ (nb = ob) := by omega
          have GN1 := GN.set hlt hh (c' := fun j => if j < i + 1 then c j / 2 else c j) (fun j hj => by
            by_cases e : j = i
            · subst e; rw [upd_same, if_pos (by omega), hhh]
            · rw [upd_ne e]
              by_cases z : j < i
              · rw [if_pos z, if_pos (by omega)]
              · rw [if_neg z, if_neg (by omega)])
          have GM1 := GM.other (b := nb) (by omega) i (.int .i64 hh)
          have GO1 := GO.other (b := nb) (by omega) i (.int .i64 hh)
          have BB1 := BB.setCell (p := ⟨nb, i, none⟩) (by show w.heap.size ≤ nb; omega) (.int .i64 hh)
          have H1 := Lib.hid (And.intro GN1 (And.intro GM1 (And.intro GO1 BB1)))
          have HE : Hid (hh = c i / 2) := Lib.hid hhh
          clear GN1 GM1 GO1 BB1 GN GM GO BB hhh
          go_upto_region 13 with fail
          go_cut [] (fun wx => NetG wx p (N : Int) (.slice TA m tp) (.slice XA m xp) (.slice (some ⟨nb, 0, none⟩) m cp) m t x (fun j => if j < i + 1 then c j / 2 else c j) (fun k => w.heap.size ≤ k ∧ k < S0) ∧ NetG wx q2 (N : Int) (.slice TB m tq) (.slice XB m xq) (.slice (some ⟨cb, 0, none⟩) m cq) m t x (upd c d mn) (fun k => (S0 ≤ k ∧ k < S1) ∨ k = q2) ∧ NetG wx (q2 + 1) (N : Int) (.slice TC m tr) (.slice XC m xr) (.slice (some ⟨ob, 0, none⟩) m cr) m t x (fun j => if j < i then 2 * (c j / 2) else c j) (fun k => (S1 ≤ k ∧ k < q2) ∨ k = q2 + 1) ∧ Below w.heap.size w wx ∧ q2 + 1 < wx.heap.size)
          case first =>
            refine still_tail 10 (by kernel_rfl) (by kernel_rfl) ?_
            simp only [List.take_succ_cons, List.take_zero, List.drop_succ_cons, List.drop_zero]
            repeat still_step
            with_reducible refine wpStill_nil ?_
            go_wp2_with fail
            go_meet
            obtain ⟨g1, g2, g3, g4⟩ := H1.out
            exact ⟨g1.keep fun _ _ => rfl, g2.keep fun _ _ => rfl, g3.keep fun _ _ => rfl, ⟨g4.os, g4.tape, g4.output, g4.size, g4.block⟩, by simp; omega⟩
          case rest =>
            obtain ⟨GN, GM, GO, BB, hq⟩ := hcut
            clear H1 n2 n3 o2 o3 s3 s3' td
            obtain ⟨nb', qn', eN', n2, n3, -, -, -⟩ := GN.cap hlt
            injection eN' with e1 e2 e3
            injection e1 with e1
            injection e1 with e1
            subst e1 e3
            obtain ⟨ob', qo', eO', o2, o3, -, -, -⟩ := GO.cap hlt
            injection eO' with e1 e2 e3
            injection e1 with e1
            injection e1 with e1
            subst e1 e3
            rw [if_pos (Nat.lt_succ_self i), ← HE.out] at n2
            rw [if_neg (Nat.lt_irrefl i)] at o2
            have s3 := GN.at_.c3
            have s3' := GO.at_.c3
            have wl2 : IntKind.i64.wrap (hh * 2) = hh * 2 := by rw [IntKind.wrap_i64]; omega
            have GO1 := GO.set hlt (hh * 2) (c' := fun j => if j < i + 1 then 2 * (c j / 2) else c j) (fun j hj => by
              by_cases e : j = i
              · subst e; rw [upd_same, if_pos (by omega), HE.out]; omega
              · rw [upd_ne e]
                by_cases z : j < i
                · rw [if_pos z, if_pos (by omega)]
                · rw [if_neg z, if_neg (by omega)])
            have GM1 := GM.other (b := ob) (by omega) i (.int .i64 (hh * 2))
            have GN1 := GN.other (b := ob) (by omega) i (.int .i64 (hh * 2))
            have BB1 := BB.setCell (p := ⟨ob, i, none⟩) (by show w.heap.size ≤ ob; omega) (.int .i64 (hh * 2))
            have H1 := Lib.hid (And.intro GN1 (And.intro GM1 (And.intro GO1 BB1)))
            clear GN1 GM1 GO1 BB1 GN GM GO BB
            go_upto_region 14 with fail
            refine still_tail 10 (by kernel_rfl) (by kernel_rfl) ?_
            simp only [List.take_succ_cons, List.take_zero, List.drop_succ_cons, List.drop_zero]
            repeat still_step
            with_reducible refine wpStill_nil ?_
            go_wp2_with fail
            go_roundw
            case rel =>
              obtain ⟨g1, g2, g3, g4⟩ := H1.out
              exact ⟨i + 1, by simp, by omega, g1.keep fun _ _ => rfl, g2.keep fun _ _ => rfl, g3.keep fun _ _ => rfl, ⟨g4.os, g4.tape, g4.output, g4.size, g4.block⟩, by simp; omega⟩
            case measure => simp [intOf]; omega
        · have j1 : ¬ ((i : Int) < (m : Int)) := by omega
          obtain rfl : i = m := by omega
          have AN := (GN.congr (c' := fun j => c j / 2) fun j hj => if_pos hj).at_
          have AM := GM.at_
          have AO := (GO.congr (c' := fun j => 2 * (c j / 2)) fun j hj => if_pos hj).at_
          have gM : ∀ d', d' < i → 0 ≤ upd c d mn d' ∧ upd c d mn d' ≤ 2147483648 := fun d' hd' => by
            by_cases e : d' = d
            · subst e; rw [upd_same]; have := gcap d' hd'; omega
            · rw [upd_ne e]; exact gcap d' hd'
          have leM : ∀ d', d' < i → c d' ≤ upd c d mn d' := fun d' hd' => by
            by_cases e : d' = d
            · subst e; rw [upd_same]; omega
            · rw [upd_ne e]; exact Int.le_refl _
          have gN : ∀ d', d' < i → 0 ≤ c d' / 2 ∧ c d' / 2 ≤ 2147483648 := fun d' hd' => by have := gcap d' hd'; omega
          have gO : ∀ d', d' < i → 0 ≤ 2 * (c d' / 2) ∧ 2 * (c d' / 2) ≤ 2147483648 := fun d' hd' => by have := gcap d' hd'; omega
          have pM : Plane N i t x (upd c d mn) := ⟨gd, gr.turns, gM, gm.whole, gm.euler⟩
          have pN : Plane N i t x (fun j => c j / 2) := ⟨gd, gr.turns, gN, gm.whole, gm.euler⟩
          have pO : Plane N i t x (fun j => 2 * (c j / 2)) := ⟨gd, gr.turns, gO, gm.whole, gm.euler⟩
          have o3 := AO.c3
          clear GN GM GO
          go_wp2_with fail
          refine (PL.out _ BB).mono ?_
          rintro e w9 ⟨T, X, C, rfl, R9, b9⟩
          obtain ⟨TD, td, rfl, -⟩ := id R9.ot.rd
          obtain ⟨XD, xd, rfl, -⟩ := id R9.ox.rd
          obtain ⟨CD, cd, rfl, -⟩ := id R9.oc.rd
          replace AN := AN.below b9 (Nat.le_refl _)
          replace AM := AM.below b9 (Nat.le_refl _)
          replace AO := AO.below b9 (Nat.le_refl _)
          replace BB := BB.trans (b9.mono BB.size)
          clear b9 o3
          go_wp2_with fail
          refine (rimFlow_ok _ N _ _ _ i t x c R9.ot.rd R9.ox.rd R9.oc.rd gm hM (a : Int) (b : Int) sa sb).mono ?_
          intro e w10 hh
          obtain ⟨V10, n10, y10, u10, code10, rfl, -, bb, IS10⟩ := hh.row
          replace AN := AN.below bb (Nat.le_refl _)
          replace AM := AM.below bb (Nat.le_refl _)
          replace AO := AO.below bb (Nat.le_refl _)
          replace BB := BB.trans (bb.mono BB.size)
          have c0 := AM.c0
          have c1 := AM.c1
          have c2 := AM.c2
          have c3 := AM.c3
          clear hh bb R9
          go_wp2_with fail
          refine (rimFlow_ok _ N _ _ _ i t x _ AM.rt AM.rx AM.rc pM hM (a : Int) (b : Int) sa sb).mono ?_
          intro e w11 hh
          obtain ⟨V11, n11, y11, u11, code11, rfl, -, bb, IS11⟩ := hh.row
          replace AN := AN.below bb (Nat.le_refl _)
          replace AO := AO.below bb (Nat.le_refl _)
          replace BB := BB.trans (bb.mono BB.size)
          clear hh bb c0 c1 c2 c3
          have c0 := AN.c0
          have c1 := AN.c1
          have c2 := AN.c2
          have c3 := AN.c3
          go_wp2_with fail
          refine (rimFlow_ok _ N _ _ _ i t x _ AN.rt AN.rx AN.rc pN hM (a : Int) (b : Int) sa sb).mono ?_
          intro e w12 hh
          obtain ⟨V12, n12, y12, u12, code12, rfl, -, bb, IS12⟩ := hh.row
          replace AO := AO.below bb (Nat.le_refl _)
          replace BB := BB.trans (bb.mono BB.size)
          clear hh bb c0 c1 c2 c3
          have c0 := AO.c0
          have c1 := AO.c1
          have c2 := AO.c2
          have c3 := AO.c3
          go_wp2_with fail
          refine (rimFlow_ok _ N _ _ _ i t x _ AO.rt AO.rx AO.rc pO hM (a : Int) (b : Int) sa sb).mono ?_
          intro e w13 hh
          obtain ⟨V13, n13, y13, u13, code13, rfl, -, bb, IS13⟩ := hh.row
          replace BB := BB.trans (bb.mono BB.size)
          clear hh bb c0 c1 c2 c3
          obtain ⟨rfl, hle⟩ := FlowIs.more IS10 IS11 leM pp gd gr.turns hM gcap gM
          obtain ⟨rfl, rfl, z1, z2⟩ := FlowIs.twice IS12 IS13 (fun _ _ => rfl) pp gd gr.turns hM gN gO
          obtain ⟨rfl, -⟩ := FlowIs.more IS12 IS10 (fun d' hd' => by have := gcap d' hd'; show c d' / 2 ≤ c d'; omega) pp gd gr.turns hM gN gcap
          have q1 : (code12 == code12) = true := by simp
          have q2' : ((2 * u12) == 2 * u12) = true := by simp
          have k1 : decide (u10 ≤ u11) = true := by simpa using hle
          have wl3 : IntKind.i64.wrap (2 * u12) = 2 * u12 := by rw [IntKind.wrap_i64]; omega
          clear IS10 IS11 IS12 IS13
          go_wp2_with fail
          go_ret
          exact ⟨by simp, BB⟩
end Go.Proofs.Ytcdlnohnkdalbaa.Ro
