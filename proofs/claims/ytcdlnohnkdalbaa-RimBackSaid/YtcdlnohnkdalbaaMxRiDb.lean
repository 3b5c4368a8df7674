/- Walks: the law RimBack. -/
import Derived.Deep.RegionHeld3
import Derived.Test.YtcdlnohnkdalbaaMg15
import Derived.Test.YtcdlnohnkdalbaaMg9
import Derived.Test.YtcdlnohnkdalbaaMxRiBk
import Derived.Test.YtcdlnohnkdalbaaMxRiNg
import Derived.Test.YtcdlnohnkdalbaaMxRiPq
import Derived.Test.YtcdlnohnkdalbaaMxRiTn
namespace Go.Proofs.Ytcdlnohnkdalbaa.Ro
open Go.RowKit Go.Proofs Go.Maps
set_option linter.unusedVariables false
set_option linter.unusedSimpArgs false

set_option maxRecDepth 100000 in
set_option maxHeartbeats 12800000 in
theorem back_walk (A : Option Addr) (len cap : Nat) (zs : List Int) (s v : Int) (w : World) (hV : Rd w (.slice A len cap) len (fun i => zs.getD i 0)) (hz : ∀ i, i < len → Small (zs.getD i 0)) (hl : len ≤ 9223372036854775807) (hs : Small s) (hv : Small v) :
    Calls Try.prog 6 #[.slice A len cap, .int .i64 s, .int .i64 v] w fun e w' => e = .returned (.bool true) ∧ Below w.heap.size w w' := by
  obtain ⟨⟨N, m, t, x, c⟩, hs0⟩ : ∃ s, planeOf (fun i => zs.getD i 0) len = s := ⟨_, rfl⟩
  have hok := plane_ok (fun i => zs.getD i 0) len
  have pp0 := planeOf_pots (fun i => zs.getD i 0) len
  rw [hs0] at hok pp0
  have HS := Lib.hid hs0
  clear hs0
  obtain ⟨gr, hN, hM⟩ := hok
  have gr : Grown N m t x c := gr
  have pp : Pots m t x := pp0
  clear pp0
  dsimp only at hN hM
  have gd := gr.good
  have gm := gr.plane
  have ev := gd.even
  have N1 := gd.one
  have gcap := gm.caps
  go_enter Try.func6, Try.ntmps6
  go_wp2_with fail
  refine (known8_ok _).mono ?_
  rintro e w1 ⟨rfl, B1⟩
  have h01 := B1.size
  have PL : Hid (∀ w', Below w.heap.size w w' → Calls Try.prog 14 #[.slice A len cap] w' fun e w'' => ∃ T X C, e = .returned (.agg #[.int .i64 (N : Int), T, X, C]) ∧ Rows w'' w'.heap.size T X C m t x c ∧ Below w'.heap.size w' w'') := Lib.hid fun w' b => by
    refine (plane_any _ _ len _ (hV.below b (Nat.le_refl _)) hz hl).mono ?_
    rintro e w2 ⟨T, X, C, rfl, R2, b2⟩
    rw [HS.out] at R2 ⊢
    exact ⟨T, X, C, rfl, R2, b2⟩
  clear HS hV hz
  go_wp2_with fail
  refine (PL.out _ B1).mono ?_
  rintro e w2 ⟨T, X, C, rfl, R2, b2⟩
  obtain ⟨TA, tp, rfl, -⟩ := id R2.ot.rd
  obtain ⟨XA, xp, rfl, -⟩ := id R2.ox.rd
  obtain ⟨CA, cp, rfl, -⟩ := id R2.oc.rd
  replace B1 := B1.trans (b2.mono B1.size)
  have h12 := b2.size
  go_upto_region 4 with fail
  obtain ⟨w3, hw3, X3, R3, b3⟩ := rows_enter (N : Int) R2
  rw [hw3]
  have sz3 : w3.heap.size = w2.heap.size + 1 := by rw [← hw3]; simp
  have LN := Lib.hid (fun k (hk : (Value.slice TA m tp).ownBlock = some k ∨ (Value.slice XA m xp).ownBlock = some k ∨ (Value.slice CA m cp).ownBlock = some k) => R2.lt hk)
  replace B1 := B1.trans (b3.mono B1.size)
  have GN : NetG w3 w2.heap.size (N : Int) (.slice TA m tp) (.slice XA m xp) (.slice CA m cp) m t x c (fun k => w.heap.size ≤ k ∧ k < w3.heap.size) :=
    NetG.of X3 R3 ⟨by omega, by omega⟩ fun k hk => by have := LN.out k hk; omega
  clear hw3 b3 R2 X3 R3 LN b2
  obtain ⟨p, hp⟩ : ∃ p, p = w2.heap.size := ⟨_, rfl⟩
  rw [← hp] at GN ⊢
  have lp : p < w3.heap.size := by omega
  clear hp sz3 h12
  obtain ⟨a, ha, hal⟩ := small_within (d := s) (m := N) (by omega)
  obtain ⟨b, hb, hbl⟩ := small_within (d := v) (m := N) (by omega)
  have sa : Small (a : Int) := small_of (by omega) (by omega)
  have sb : Small (b : Int) := small_of (by omega) (by omega)
  have c0 := GN.at_.c0
  go_big_quiet (exact (within8_any _ _ _ (by assumption) (by omega) (by omega)).mono fun e w' h => ⟨h.1, _, h.2.symm⟩)
  rw [ha, hb]
  have GN' : NetG (w3.drewN nq) p (N : Int) (.slice TA m tp) (.slice XA m xp) (.slice CA m cp) m t x c (fun k => w.heap.size ≤ k ∧ k < w3.heap.size) := GN.keep fun _ _ => rfl
  have B1' : Below w.heap.size w (w3.drewN nq) := ⟨B1.os, B1.tape, B1.output, B1.size, B1.block⟩
  have hsz : (w3.drewN nq).heap.size = w3.heap.size := rfl
  clear GN B1 c0 ha hb
  rw [← hsz] at GN' lp
  clear hsz
  generalize w3.drewN nq = w4 at *
  have gq := gr.turn
  have pq := gq.plane
  have NN := GN'.at_
  have BB := B1'
  clear GN' B1'
  have c0 := NN.c0
  have c1 := NN.c1
  have c2 := NN.c2
  have c3 := NN.c3
  go_wp2_with fail
  refine (rimFlow_ok _ N _ _ _ m t x c NN.rt NN.rx NN.rc gm hM (a : Int) (b : Int) sa sb).mono ?_
  intro e w5 hh
  obtain ⟨V10, n10, y10, u10, code10, rfl, -, bb, IS10⟩ := hh.row
  replace NN := NN.below bb (Nat.le_refl _)
  replace BB := BB.trans (bb.mono BB.size)
  clear hh bb c0 c1 c2 c3
  have c0 := NN.c0
  have c1 := NN.c1
  have c2 := NN.c2
  have c3 := NN.c3
  go_wp2_with fail
  refine (refTurn_ok _ (N : Int) _ _ _ m t x c NN.rt NN.rx NN.rc (by omega) gr.turns.perm gd.next).mono ?_
  rintro e w6 ⟨T, X, C, rfl, rT, rX, rC, bb⟩
  obtain ⟨TB, tq, rfl, -⟩ := id rT
  obtain ⟨XB, xq, rfl, -⟩ := id rX
  obtain ⟨CB, cq, rfl, -⟩ := id rC
  replace NN := NN.below bb (Nat.le_refl _)
  replace BB := BB.trans (bb.mono BB.size)
  clear bb c0 c1 c2 c3
  go_upto_region 7 with fail
  obtain ⟨w7, hw7, MM, b7⟩ := net_enter (N : Int) rT rX rC
  rw [hw7]
  replace NN := NN.below b7 (Nat.le_refl _)
  replace BB := BB.trans (b7.mono BB.size)
  clear hw7 b7 rT rX rC
  generalize w6.heap.size = q2 at *
  have c0 := MM.c0
  have c1 := MM.c1
  have c2 := MM.c2
  have c3 := MM.c3
  go_wp2_with fail
  refine (rimFlow_ok _ N _ _ _ m t _ c MM.rt MM.rx MM.rc pq hM (a : Int) (b : Int) sa sb).mono ?_
  intro e w8 hh
  obtain ⟨V11, n11, y11, u11, code11, rfl, -, bb, IS11⟩ := hh.row
  replace NN := NN.below bb (Nat.le_refl _)
  replace BB := BB.trans (bb.mono BB.size)
  clear hh bb c0 c1 c2 c3 MM
  have h48 := BB.size
  go_wp2_with fail
  refine (PL.out _ BB).mono ?_
  rintro e w9 ⟨T, X, C, rfl, R9, b9⟩
  obtain ⟨TC, tr, rfl, -⟩ := id R9.ot.rd
  obtain ⟨XC, xr, rfl, -⟩ := id R9.ox.rd
  obtain ⟨CC, cr, rfl, -⟩ := id R9.oc.rd
  have h89 := b9.size
  go_upto_region 9 with fail
  obtain ⟨w10, hw10, X10, R10, b10⟩ := rows_enter (N : Int) R9
  rw [hw10]
  have LN := Lib.hid (fun k (hk : (Value.slice TC m tr).ownBlock = some k ∨ (Value.slice XC m xr).ownBlock = some k ∨ (Value.slice CC m cr).ownBlock = some k) => R9.lt hk)
  have E := b9.trans (b10.mono h89)
  have GO : NetG w10 w9.heap.size (N : Int) (.slice TC m tr) (.slice XC m xr) (.slice CC m cr) m t x c (fun k => w8.heap.size ≤ k) :=
    NetG.of X10 R10 h89 fun k hk => by have := LN.out k hk; omega
  clear hw10 b10 R9 X10 R10 LN b9
  obtain ⟨q3, hq3⟩ : ∃ q3, q3 = w9.heap.size := ⟨_, rfl⟩
  rw [← hq3] at GO ⊢
  clear hq3 h89
  go_wp2_with fail
  go_loopw [18] (fun u18 wr => ∃ i : Nat, u18 = .int .i64 (i : Int) ∧ i ≤ m ∧ NetG wr q3 (N : Int) (.slice TC m tr) (.slice XC m xr) (.slice CC m cr) m t x (fun j => if j < i then c (oth j) else c j) (fun k => w8.heap.size ≤ k) ∧ Below w8.heap.size w8 wr) (fun u18 _ => m - (intOf u18).toNat)
  case atStart => exact ⟨0, rfl, Nat.zero_le _, GO.congr (fun j _ => by simp), E⟩
  case round =>
    clear GO E
    obtain ⟨i, rfl, hi, GO, E⟩ := hrel
    have NW := NN.below E (Nat.le_refl _)
    by_cases hlt : i < m
    · have j1 : (i : Int) < (m : Int) := by omega
      have hoth := oth_lt hlt ev
      have j2 : (oth i : Int) < (m : Int) := by omega
      have xo := xor_one i (by omega)
      obtain ⟨ob, qo, eO, o2, o3, o4, o5, o6⟩ := GO.cap hlt
      injection eO with e1 e2 e3
      subst e1 e3
      obtain ⟨A', q', e', rc'⟩ := NW.rc
      injection e' with i1 i2 i3
      obtain ⟨y, i4, i5, i6⟩ := rc' (by omega)
      obtain rfl : CA = some y := i1.trans i4
      have y1 := i6 _ hoth
      have s3 := NW.c3
      have s3' := GO.at_.c3
      have GO1 := GO.set hlt (c (oth i)) (c' := fun j => if j < i + 1 then c (oth j) else c j) (fun j hj => by
        by_cases e : j = i
        · subst e; rw [upd_same, if_pos (by omega)]
        · rw [upd_ne e]
          by_cases z : j < i
          · rw [if_pos z, if_pos (by omega)]
          · rw [if_neg z, if_neg (by omega)])
      have E1 := E.setCell (p := ⟨ob, i, none⟩) (by show w8.heap.size ≤ ob; exact o4) (.int .i64 (c (oth i)))
      have HS := Lib.hid (And.intro GO1 E1)
      clear GO1 E1 GO E NW i6 rc' i4 i5 i1 i2 i3
      go_upto_region 12 with fail
      refine still_tail 10 (by kernel_rfl) (by kernel_rfl) ?_
      simp only [List.take_succ_cons, List.take_zero, List.drop_succ_cons, List.drop_zero]
      repeat still_step
      with_reducible refine wpStill_nil ?_
      go_wp2_with fail
      go_roundw
      case rel => exact ⟨i + 1, by simp, by omega, HS.out.1.keep fun _ _ => rfl, ⟨HS.out.2.os, HS.out.2.tape, HS.out.2.output, HS.out.2.size, HS.out.2.block⟩⟩
      case measure => simp [intOf]; omega
    · have j1 : ¬ ((i : Int) < (m : Int)) := by omega
      obtain rfl : i = m := by omega
      have AO := (GO.congr (c' := fun j => c (oth j)) fun j hj => if_pos hj).at_
      have gO : ∀ d', d' < i → 0 ≤ c (oth d') ∧ c (oth d') ≤ 2147483648 := fun d' hd' => gcap _ (oth_lt hd' ev)
      have pO : Plane N i t x (fun j => c (oth j)) := ⟨gd, gr.turns, gO, gm.whole, gm.euler⟩
      have BE := BB.trans (E.mono h48)
      have c0 := AO.c0
      have c1 := AO.c1
      have c2 := AO.c2
      have c3 := AO.c3
      clear GO NW NN E
      go_wp2_with fail
      refine (rimFlow_ok _ N _ _ _ i t x _ AO.rt AO.rx AO.rc pO hM (b : Int) (a : Int) sb sa).mono ?_
      intro e w13 hh
      obtain ⟨V13, n13, y13, u13, code13, rfl, -, bb, IS13⟩ := hh.row
      replace BE := BE.trans (bb.mono BE.size)
      obtain ⟨rfl, rfl⟩ := FlowIs.behind IS10 IS11 pp gr hM
      obtain ⟨rfl, rfl⟩ := FlowIs.swap IS10 IS13 (fun _ _ => rfl) pp gd gr.turns hM gcap
      have q1 : (code10 == code10) = true := by simp
      have q3 : (u10 == u10) = true := by simp
      clear hh bb c0 c1 c2 c3 IS10 IS11 IS13 AO
      go_wp2_with fail
      go_ret
      exact ⟨by simp, BE⟩
end Go.Proofs.Ytcdlnohnkdalbaa.Ro
