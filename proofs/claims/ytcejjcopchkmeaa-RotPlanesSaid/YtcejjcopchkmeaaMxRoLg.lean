/- Walks: the law RotPlanes. -/
import Derived.Test.YtcejjcopchkmeaaRoPp
import Derived.Test.YtcejjcopchkmeaaMq1
import Derived.Test.YtcejjcopchkmeaaMq2
import Derived.Test.YtcejjcopchkmeaaRoKn
import Derived.Deep.RegionHeld3
namespace Go.Proofs.Ytcejjcopchkmeaa.Ro
open Go.RowKit Go.Proofs Go.Maps
set_option linter.unusedVariables false
set_option linter.unusedSimpArgs false

set_option maxRecDepth 100000 in
set_option maxHeartbeats 12800000 in
theorem planes_walk (A : Option Addr) (len cap : Nat) (zs : List Int) (size : Int) (A2 : Option Addr) (len2 cap2 : Nat) (zs2 : List Int) (w : World) (hV : Rd w (.slice A len cap) len (fun i => zs.getD i 0)) (hz : ∀ i, i < len → Small (zs.getD i 0)) (hl : len ≤ 9223372036854775807) (hsize : Small size) (hV2 : Rd w (.slice A2 len2 cap2) len2 (fun i => zs2.getD i 0)) (hz2 : ∀ i, i < len2 → Small (zs2.getD i 0)) (hl2 : len2 ≤ 9223372036854775807) :
    Calls Try.prog 3 #[.slice A len cap, .int .i64 size, .slice A2 len2 cap2] w fun e w' => e = .returned (.bool true) ∧ Below w.heap.size w w' := by
  go_enter Try.func3, Try.ntmps3
  go_wp2_with fail
  refine (known_ok _).mono ?_
  rintro e w1 ⟨rfl, B1⟩
  have h01 := B1.size
  go_wp2_with fail
  refine (plane_post _ _ len _ (hV.below B1 (Nat.le_refl _)) hz hl).mono ?_
  rintro e w2 ⟨N, m, t, x, c, TA, tp, XA, xp, CA, cp, rfl, gr, hN, hM, R2, b2⟩
  replace B1 := B1.trans (b2.mono B1.size)
  have gd := gr.good
  have ev := gd.even
  have N1 := gd.one
  have pa := gr.turns.perm
  have pb := pa.bh gd.even
  clear b2 hz hl hV
  go_wp2_with fail
  refine (make1_ok _ size _ len2 _ (hV2.below B1 (Nat.le_refl _)) hz2 hl2 hsize).mono ?_
  rintro e w3 ⟨N', m', T', X', C', t', x', c', rfl, S3, -, MD, b3⟩
  have R3 := R2.below b3 (Nat.le_refl _)
  replace B1 := B1.trans (b3.mono B1.size)
  obtain ⟨TB, tq, rfl, -⟩ := id S3.ot.rd
  obtain ⟨XB, xq, rfl, -⟩ := id S3.ox.rd
  obtain ⟨CB, cq, rfl, -⟩ := id S3.oc.rd
  clear b3 R2 hz2 hl2 hV2
  go_upto_region 4 with fail
  obtain ⟨w4, hw4, X4, R4, b4⟩ := rows_enter (N : Int) R3
  have S4 := S3.below b4 (Nat.le_refl _)
  obtain ⟨w5, hw5, Y5, S5, b5⟩ := rows_enter (N' : Int) S4
  rw [hw4, hw5]
  have R5 := R4.below b5 (Nat.le_refl _)
  have X5 := X4.below b5 (Nat.le_refl _)
  replace B1 := B1.trans ((b4.trans (b5.mono b4.size)).mono B1.size)
  have e4 : w4.heap.size = w3.heap.size + 1 := by rw [← hw4]; simp
  rw [e4] at Y5
  clear hw4 hw5 b4 b5 R3 S3 R4 S4 X4 e4
  generalize w3.heap.size = p at *
  clear w3 w4
  have pl := blk_lt X5
  have ql := blk_lt Y5
  have a0 : w5.cell? ⟨p, 0, none⟩ = some (.int .i64 (N : Int)) := blk_cell X5 0
  have a1 : w5.cell? ⟨p, 1, none⟩ = some (.slice TA m tp) := blk_cell X5 1
  have a2 : w5.cell? ⟨p, 2, none⟩ = some (.slice XA m xp) := blk_cell X5 2
  have a3 : w5.cell? ⟨p, 3, none⟩ = some (.slice CA m cp) := blk_cell X5 3
  have e0 : w5.cell? ⟨p + 1, 0, none⟩ = some (.int .i64 (N' : Int)) := blk_cell Y5 0
  have e1 : w5.cell? ⟨p + 1, 1, none⟩ = some (.slice TB m' tq) := blk_cell Y5 1
  have e2 : w5.cell? ⟨p + 1, 2, none⟩ = some (.slice XB m' xq) := blk_cell Y5 2
  have e3 : w5.cell? ⟨p + 1, 3, none⟩ = some (.slice CB m' cq) := blk_cell Y5 3
  have KK : Hid (∀ W, Below w5.heap.size w5 W → W.cell? ⟨p, 0, none⟩ = some (.int .i64 (N : Int)) ∧ W.cell? ⟨p, 1, none⟩ = some (.slice TA m tp) ∧ W.cell? ⟨p, 2, none⟩ = some (.slice XA m xp) ∧ W.cell? ⟨p, 3, none⟩ = some (.slice CA m cp) ∧ W.cell? ⟨p + 1, 0, none⟩ = some (.int .i64 (N' : Int)) ∧ W.cell? ⟨p + 1, 1, none⟩ = some (.slice TB m' tq) ∧ W.cell? ⟨p + 1, 2, none⟩ = some (.slice XB m' xq) ∧ W.cell? ⟨p + 1, 3, none⟩ = some (.slice CB m' cq)) :=
    Lib.hid fun W b => ⟨(b.cell (p := ⟨p, 0, none⟩) pl).trans a0, (b.cell (p := ⟨p, 1, none⟩) pl).trans a1, (b.cell (p := ⟨p, 2, none⟩) pl).trans a2, (b.cell (p := ⟨p, 3, none⟩) pl).trans a3, (b.cell (p := ⟨p + 1, 0, none⟩) ql).trans e0, (b.cell (p := ⟨p + 1, 1, none⟩) ql).trans e1, (b.cell (p := ⟨p + 1, 2, none⟩) ql).trans e2, (b.cell (p := ⟨p + 1, 3, none⟩) ql).trans e3⟩
  have hm := MD.most
  have D0 : Below w5.heap.size w5 w5.drew := (Below.refl _ w5).drew
  have pn := gr.plane
  have q0 : ((0 : Int) == 0) = true := by simp
  go_region_held3 (fun w' => w'.cell? ⟨p, 0, none⟩ = some (.int .i64 (N : Int)) ∧ w'.cell? ⟨p, 1, none⟩ = some (.slice TA m tp) ∧ w'.cell? ⟨p, 2, none⟩ = some (.slice XA m xp) ∧ w'.cell? ⟨p, 3, none⟩ = some (.slice CA m cp) ∧ w'.cell? ⟨p + 1, 0, none⟩ = some (.int .i64 (N' : Int)) ∧ w'.cell? ⟨p + 1, 1, none⟩ = some (.slice TB m' tq) ∧ w'.cell? ⟨p + 1, 2, none⟩ = some (.slice XB m' xq) ∧ w'.cell? ⟨p + 1, 3, none⟩ = some (.slice CB m' cq))
    (first | with_reducible exact k1 | go_keep)
    (first
      | ((with_reducible refine (check_ok w5.drew N _ _ _ m t x c (R5.below D0 (Nat.le_refl _)).ot.rd (R5.below D0 (Nat.le_refl _)).ox.rd (R5.below D0 (Nat.le_refl _)).oc.rd pn).mono ?_); rintro e w6 ⟨rfl, bb⟩; have E6 : Below w5.heap.size w5 w6 := D0.trans (bb.mono (Nat.le_refl _)); have k1 := KK.out w6 E6; clear bb)
      | ((with_reducible refine (check_any w6 (N' : Int) _ _ _ m' m' m' t' x' c' (S5.below E6 (Nat.le_refl _)).ot.rd (S5.below E6 (Nat.le_refl _)).ox.rd (S5.below E6 (Nat.le_refl _)).oc.rd (by omega)).mono ?_); rintro e w7 ⟨r, rfl, tt, bb⟩; have E7 : Below w5.heap.size w5 w7 := E6.trans (bb.mono E6.size); have k1 := KK.out w7 E7; clear bb)
      | ((with_reducible refine (refCheck_all w7 (N' : Int) _ _ _ m' m' m' t' x' c' (S5.below E7 (Nat.le_refl _)).ot.rd (S5.below E7 (Nat.le_refl _)).ox.rd (S5.below E7 (Nat.le_refl _)).oc.rd (by omega)).mono ?_); rintro e w8 ⟨r', rfl, tt', bb⟩; have hr : r' = r := tt'.one tt; subst hr; have E8 : Below w5.heap.size w5 w8 := E7.trans (bb.mono E7.size); have k1 := KK.out w8 E8; clear bb)
      | fail)
  go_wp2_with fail
  go_ret
  exact ⟨by simp, B1.trans (E8.mono B1.size)⟩
end Go.Proofs.Ytcejjcopchkmeaa.Ro
