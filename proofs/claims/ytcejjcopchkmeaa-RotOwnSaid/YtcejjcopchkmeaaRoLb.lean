/- Walks: the law RotTurns. -/
import Derived.Test.YtcejjcopchkmeaaRoTp
import Derived.Test.YtcejjcopchkmeaaRoLa
namespace Go.Proofs.Ytcejjcopchkmeaa.Ro
open Go.RowKit Go.Proofs Go.Maps
set_option linter.unusedVariables false
set_option linter.unusedSimpArgs false

/-- the net of a law's numbers: what is known of it -/
theorem plane_ok (z : Nat → Int) (n : Nat) : (planeOf z n).Ok ∧ (planeOf z n).N ≤ 25 ∧ (planeOf z n).m ≤ 48 := by
  obtain ⟨h1, h2, h3, _⟩ := planeUp_ok z (min n 24) (Nat.min_le_right _ _)
  have := Nat.min_le_right n 24
  exact ⟨h1, by show (planeUp z (min n 24)).N ≤ 25; omega, by show (planeUp z (min n 24)).m ≤ 48; omega⟩

set_option maxRecDepth 100000 in
set_option maxHeartbeats 6400000 in
theorem turns_walk (A : Option Addr) (len cap : Nat) (zs : List Int) (w : World) (hV : Rd w (.slice A len cap) len (fun i => zs.getD i 0)) (hz : ∀ i, i < len → Small (zs.getD i 0)) (hl : len ≤ 9223372036854775807) :
    Calls Try.prog 6 #[.slice A len cap] w fun e w' => e = .returned (.bool true) ∧ Below w.heap.size w w' := by
  have hok := plane_ok (fun i => zs.getD i 0) len
  go_enter Try.func6, Try.ntmps6
  go_wp2_with fail
  refine (known_ok _).mono ?_
  rintro e w1 ⟨rfl, B1⟩
  go_wp2_with fail
  refine (plane_any _ _ len _ (hV.below B1 (Nat.le_refl _)) hz hl).mono ?_
  rintro e w2 ⟨T, X, C, rfl, R2, b2⟩
  have B2 := B1.trans (b2.mono B1.size)
  clear b2 B1 hz
  generalize planeOf (fun i => zs.getD i 0) len = s at *
  obtain ⟨N, m, t, x, c⟩ := s
  dsimp only at *
  obtain ⟨gr, hN, hM⟩ := hok
  have gr : Grown N m t x c := gr
  have gd := gr.good
  have gt := gr.turn
  have pa := gr.turns.perm
  have pb := pa.bh gd.even
  have pb' := gt.turns.perm.bh gd.even
  obtain ⟨TA, tp, rfl, -⟩ := id R2.ot.rd
  obtain ⟨XA, xp, rfl, -⟩ := id R2.ox.rd
  obtain ⟨CA, cp, rfl, -⟩ := id R2.oc.rd
  go_upto_region 4 with fail
  have X3 : Box (w2.alloc (.cells #[.int .i64 (N : Int), .slice TA m tp, .slice XA m xp, .slice CA m cp] 25)) w2.heap.size N (.slice TA m tp) (.slice XA m xp) (.slice CA m cp) := heap_alloc_new _ _
  have b3 : Below w2.heap.size w2 (w2.alloc (.cells #[.int .i64 (N : Int), .slice TA m tp, .slice XA m xp, .slice CA m cp] 25)) := (Below.refl _ _).alloc (Nat.le_refl _) _
  have R3 := R2.below b3 (Nat.le_refl _)
  have B3 := B2.trans (b3.mono B2.size)
  clear b3 R2 B2
  generalize w2.alloc (.cells #[.int .i64 (N : Int), .slice TA m tp, .slice XA m xp, .slice CA m cp] 25) = w3 at *
  generalize w2.heap.size = p at *
  have pl := blk_lt X3
  have c0 : w3.cell? ⟨p, 0, none⟩ = some (.int .i64 (N : Int)) := blk_cell X3 0
  have c1 : w3.cell? ⟨p, 1, none⟩ = some (.slice TA m tp) := blk_cell X3 1
  have c2 : w3.cell? ⟨p, 2, none⟩ = some (.slice XA m xp) := blk_cell X3 2
  have c3 : w3.cell? ⟨p, 3, none⟩ = some (.slice CA m cp) := blk_cell X3 3
  go_wp2_with fail
  refine (turn_ok _ N _ _ _ m t x c R3.ot.rd R3.ox.rd R3.oc.rd (by omega) gd.next).mono ?_
  rintro e w4 ⟨T', X', C', rfl, S4, b4⟩
  have R4 := R3.below b4 (Nat.le_refl _)
  have X4 := X3.below b4 (Nat.le_refl _)
  have B4 := B3.trans (b4.mono B3.size)
  have pq : p < w4.heap.size := blk_lt X4
  obtain ⟨TB, tq, rfl, -⟩ := id S4.ot.rd
  obtain ⟨XB, xq, rfl, -⟩ := id S4.ox.rd
  obtain ⟨CB, cq, rfl, -⟩ := id S4.oc.rd
  clear b4 R3 X3 B3 pl c0 c1 c2 c3
  go_upto_region 5 with fail
  have Y5 : Box (w4.alloc (.cells #[.int .i64 (N : Int), .slice TB m tq, .slice XB m xq, .slice CB m cq] 25)) w4.heap.size N (.slice TB m tq) (.slice XB m xq) (.slice CB m cq) := heap_alloc_new _ _
  have b5 : Below w4.heap.size w4 (w4.alloc (.cells #[.int .i64 (N : Int), .slice TB m tq, .slice XB m xq, .slice CB m cq] 25)) := (Below.refl _ _).alloc (Nat.le_refl _) _
  have R5 := R4.below b5 (Nat.le_refl _)
  have S5 := S4.below b5 (Nat.le_refl _)
  have X5 := X4.below b5 (Nat.le_refl _)
  have B5 := B4.trans (b5.mono B4.size)
  clear b5 R4 S4 X4 B4
  generalize w4.alloc (.cells #[.int .i64 (N : Int), .slice TB m tq, .slice XB m xq, .slice CB m cq] 25) = w5 at *
  generalize w4.heap.size = q at *
  have pl := blk_lt X5
  have c0 : w5.cell? ⟨p, 0, none⟩ = some (.int .i64 (N : Int)) := blk_cell X5 0
  have c1 : w5.cell? ⟨p, 1, none⟩ = some (.slice TA m tp) := blk_cell X5 1
  have c2 : w5.cell? ⟨p, 2, none⟩ = some (.slice XA m xp) := blk_cell X5 2
  have c3 : w5.cell? ⟨p, 3, none⟩ = some (.slice CA m cp) := blk_cell X5 3
  go_wp2_with fail
  refine (faces_ok _ N _ _ _ m t x c R5.ot.rd R5.ox.rd R5.oc.rd gd pb).mono ?_
  rintro e w6 ⟨fv, fo, fk, rfl, F6, -, O6, b6⟩
  obtain ⟨FA, fc, rfl, -⟩ := id F6.rd
  have R6 := R5.below b6 (Nat.le_refl _)
  have S6 := S5.below b6 (Nat.le_refl _)
  have X6 := X5.below b6 (Nat.le_refl _)
  have Y6 := Y5.below b6 (Nat.le_refl _)
  have B6 := B5.trans (b6.mono B5.size)
  clear b6 R5 S5 X5 Y5 B5 pl c0 c1 c2 c3 F6
  have pl := blk_lt Y6
  have c0 : w6.cell? ⟨q, 0, none⟩ = some (.int .i64 (N : Int)) := blk_cell Y6 0
  have c1 : w6.cell? ⟨q, 1, none⟩ = some (.slice TB m tq) := blk_cell Y6 1
  have c2 : w6.cell? ⟨q, 2, none⟩ = some (.slice XB m xq) := blk_cell Y6 2
  have c3 : w6.cell? ⟨q, 3, none⟩ = some (.slice CB m cq) := blk_cell Y6 3
  go_wp2_with fail
  refine (faces_ok _ N _ _ _ m t (turnUp x m) c S6.ot.rd S6.ox.rd S6.oc.rd gt.good pb').mono ?_
  rintro e w7 ⟨gv, go, gk, rfl, G7, -, O7, b7⟩
  obtain ⟨GA, gc, rfl, -⟩ := id G7.rd
  have ek := turn_count gr O6 O7
  rw [← ek]
  have R7 := R6.below b7 (Nat.le_refl _)
  have S7 := S6.below b7 (Nat.le_refl _)
  have X7 := X6.below b7 (Nat.le_refl _)
  have Y7 := Y6.below b7 (Nat.le_refl _)
  have B7 := B6.trans (b7.mono B6.size)
  clear b7 R6 S6 X6 Y6 B6 pl c0 c1 c2 c3 G7 ek O6 O7
  generalize max fk 1 = F at *
  have pl := blk_lt X7
  have ql := blk_lt Y7
  have a0 : w7.cell? ⟨p, 0, none⟩ = some (.int .i64 (N : Int)) := blk_cell X7 0
  have a1 : w7.cell? ⟨p, 1, none⟩ = some (.slice TA m tp) := blk_cell X7 1
  have a2 : w7.cell? ⟨p, 2, none⟩ = some (.slice XA m xp) := blk_cell X7 2
  have a3 : w7.cell? ⟨p, 3, none⟩ = some (.slice CA m cp) := blk_cell X7 3
  have c0 : w7.cell? ⟨q, 0, none⟩ = some (.int .i64 (N : Int)) := blk_cell Y7 0
  have c1 : w7.cell? ⟨q, 1, none⟩ = some (.slice TB m tq) := blk_cell Y7 1
  have c2 : w7.cell? ⟨q, 2, none⟩ = some (.slice XB m xq) := blk_cell Y7 2
  have c3 : w7.cell? ⟨q, 3, none⟩ = some (.slice CB m cq) := blk_cell Y7 3
  have hF : ((F : Int) == (F : Int)) = true := by simp
  have TT := Lib.hid (fun j (hj : j < m) => turn_turn gr hj)
  have GP := Lib.hid gt.plane
  have GN := Lib.hid gt.good.next
  have KK : Hid (∀ W, Below w7.heap.size w7 W → W.cell? ⟨p, 0, none⟩ = some (.int .i64 (N : Int)) ∧ W.cell? ⟨p, 1, none⟩ = some (.slice TA m tp) ∧ W.cell? ⟨p, 2, none⟩ = some (.slice XA m xp) ∧ W.cell? ⟨p, 3, none⟩ = some (.slice CA m cp) ∧ W.cell? ⟨q, 0, none⟩ = some (.int .i64 (N : Int)) ∧ W.cell? ⟨q, 1, none⟩ = some (.slice TB m tq) ∧ W.cell? ⟨q, 2, none⟩ = some (.slice XB m xq) ∧ W.cell? ⟨q, 3, none⟩ = some (.slice CB m cq)) :=
    Lib.hid fun W B => ⟨(B.cell (p := ⟨p, 0, none⟩) pl).trans a0, (B.cell (p := ⟨p, 1, none⟩) pl).trans a1, (B.cell (p := ⟨p, 2, none⟩) pl).trans a2, (B.cell (p := ⟨p, 3, none⟩) pl).trans a3, (B.cell (p := ⟨q, 0, none⟩) ql).trans c0, (B.cell (p := ⟨q, 1, none⟩) ql).trans c1, (B.cell (p := ⟨q, 2, none⟩) ql).trans c2, (B.cell (p := ⟨q, 3, none⟩) ql).trans c3⟩
  have D7 : Below w7.heap.size w7 w7.drew := (Below.refl _ w7).drew
  have S8 := S7.below D7 (Nat.le_refl _)
  clear gr gt gd pa pb pb'
  go_upto_region 7 with fail
  go_region_held3 (fun w' => w'.cell? ⟨p, 0, none⟩ = some (.int .i64 (N : Int)) ∧ w'.cell? ⟨p, 1, none⟩ = some (.slice TA m tp) ∧ w'.cell? ⟨p, 2, none⟩ = some (.slice XA m xp) ∧ w'.cell? ⟨p, 3, none⟩ = some (.slice CA m cp) ∧ w'.cell? ⟨q, 0, none⟩ = some (.int .i64 (N : Int)) ∧ w'.cell? ⟨q, 1, none⟩ = some (.slice TB m tq) ∧ w'.cell? ⟨q, 2, none⟩ = some (.slice XB m xq) ∧ w'.cell? ⟨q, 3, none⟩ = some (.slice CB m cq))
    (first | with_reducible exact k1 | go_keep)
    (first
      | (go_at_call 18; refine (check_ok w7.drew N _ _ _ m t (turnUp x m) c S8.ot.rd S8.ox.rd S8.oc.rd GP.out).mono ?_; rintro e w8 ⟨rfl, b8⟩; have E8 : Below w7.heap.size w7 w8 := D7.trans (b8.mono (Nat.le_refl _)); have k1 := KK.out w8 E8; clear b8)
      | (go_at_call 27; refine (turn_ok w8 N _ _ _ m t (turnUp x m) c (S7.below E8 (Nat.le_refl _)).ot.rd (S7.below E8 (Nat.le_refl _)).ox.rd (S7.below E8 (Nat.le_refl _)).oc.rd (by omega) GN.out).mono ?_; rintro e w9 ⟨T9, X9, C9, rfl, U9, b9⟩; obtain ⟨TC, tr, rfl, -⟩ := id U9.ot.rd; obtain ⟨XC, xr, rfl, -⟩ := id U9.ox.rd; obtain ⟨CC, cr, rfl, -⟩ := id U9.oc.rd; have E9 : Below w7.heap.size w7 w9 := E8.trans (b9.mono E8.size); have k1 := KK.out w9 E9; clear b9)
      | (go_at_call 26; refine (same_ok w9 N _ _ _ _ _ _ m t (turnUp (turnUp x m) m) c t x c (by omega) U9.ot.rd U9.ox.rd U9.oc.rd (R7.below E9 (Nat.le_refl _)).ot.rd (R7.below E9 (Nat.le_refl _)).ox.rd (R7.below E9 (Nat.le_refl _)).oc.rd (fun _ _ => rfl) TT.out (fun _ _ => rfl)).mono ?_; rintro e w10 ⟨rfl, b10⟩; have E10 : Below w7.heap.size w7 w10 := E9.trans (b10.mono E9.size); have k1 := KK.out w10 E10; clear b10))
  go_wp2_with fail
  go_ret
  exact ⟨rfl, B7.trans (E10.mono B7.size)⟩
end Go.Proofs.Ytcejjcopchkmeaa.Ro
