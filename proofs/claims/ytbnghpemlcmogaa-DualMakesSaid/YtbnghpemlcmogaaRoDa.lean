/- Walks: the law DualMakes. -/
import Derived.Test.YtbnghpemlcmogaaRoPp
import Derived.Test.YtbnghpemlcmogaaRoK3
import Derived.Test.YtbnghpemlcmogaaRoDr
import Derived.Test.YtbnghpemlcmogaaRoRc
import Derived.Test.YtbnghpemlcmogaaRoSm
import Derived.Test.YtbnghpemlcmogaaRoDp
namespace Go.Proofs.Ytbnghpemlcmogaa.Ro
open Go.RowKit Go.Proofs Go.Maps
set_option linter.unusedVariables false
set_option linter.unusedSimpArgs false

set_option maxRecDepth 100000 in
set_option maxHeartbeats 12800000 in
theorem makes_walk (A : Option Addr) (len cap : Nat) (zs : List Int) (w : World) (hV : Rd w (.slice A len cap) len (fun i => zs.getD i 0)) (hz : ∀ i, i < len → Small (zs.getD i 0)) (hl : len ≤ 9223372036854775807) :
    Calls Try.prog 3 #[.slice A len cap] w fun e w' => e = .returned (.bool true) ∧ Below w.heap.size w w' := by
  go_enter Try.func3, Try.ntmps3
  go_wp2_with fail
  refine (known3_ok _).mono ?_
  rintro e w1 ⟨rfl, B1⟩
  have h01 := B1.size
  go_wp2_with fail
  refine (plane_post _ _ len _ (hV.below B1 (Nat.le_refl _)) hz hl).mono ?_
  rintro e w2 ⟨N, m, t, x, c, TA, tp, XA, xp, CA, cp, rfl, gr, hN, hM, R2, b2⟩
  replace B1 := B1.trans (b2.mono B1.size)
  have gd := gr.good
  have ev := gd.even
  have N1 := gd.one
  have pa := gr.turns.perm
  have pb := pa.bh gd.even
  clear b2 hz hl hV
  go_upto_region 4 with fail
  obtain ⟨w3, hw3, X3, R3, b3⟩ := rows_enter (N : Int) R2
  rw [hw3]
  replace B1 := B1.trans (b3.mono B1.size)
  have NN := NetAt.of X3 R3
  have RR := R3.base h01
  clear hw3 b3 R2 X3 R3 h01
  generalize w2.heap.size = p at *
  clear w1 w2
  have c0 := NN.c0
  have c1 := NN.c1
  have c2 := NN.c2
  have c3 := NN.c3
  go_wp2_with fail
  refine (make_ok _ N _ _ _ m t x c NN.rt NN.rx NN.rc gd pb).mono ?_
  rintro e w4 ⟨T', X', C', o, k, rfl, R4, O, bb⟩
  replace NN := NN.below bb (Nat.le_refl _)
  replace B1 := B1.trans (bb.mono B1.size)
  clear bb c0 c1 c2 c3
  have gq := gr.dual O (by omega)
  have gm := gq.plane
  have gdq := gq.good
  have pbq := gq.turns.perm.bh ev
  obtain ⟨TB, tq, rfl, -⟩ := id R4.ot.rd
  obtain ⟨XB, xq, rfl, -⟩ := id R4.ox.rd
  obtain ⟨CB, cq, rfl, -⟩ := id R4.oc.rd
  go_upto_region 5 with fail
  obtain ⟨w5, hw5, X5, R5, b5⟩ := rows_enter ((max k 1 : Nat) : Int) R4
  rw [hw5]
  have MM := NetAt.of X5 R5
  replace NN := NN.below b5 (Nat.le_refl _)
  replace B1 := B1.trans (b5.mono B1.size)
  clear hw5 b5 R4 X5 R5
  generalize w4.heap.size = q at *
  clear w4
  obtain ⟨K, hK⟩ : ∃ K, K = max k 1 := ⟨_, rfl⟩
  rw [← hK] at MM gq gm gdq ⊢
  have HK := Lib.hid hK
  clear hK
  have pl := NN.lt
  have ql := MM.lt
  have a0 := NN.c0
  have a1 := NN.c1
  have a2 := NN.c2
  have a3 := NN.c3
  have e0 := MM.c0
  have e1 := MM.c1
  have e2 := MM.c2
  have e3 := MM.c3
  have KK : Hid (∀ W, Below w5.heap.size w5 W → W.cell? ⟨p, 0, none⟩ = some (.int .i64 (N : Int)) ∧ W.cell? ⟨p, 1, none⟩ = some (.slice TA m tp) ∧ W.cell? ⟨p, 2, none⟩ = some (.slice XA m xp) ∧ W.cell? ⟨p, 3, none⟩ = some (.slice CA m cp) ∧ W.cell? ⟨q, 0, none⟩ = some (.int .i64 (K : Int)) ∧ W.cell? ⟨q, 1, none⟩ = some (.slice TB m tq) ∧ W.cell? ⟨q, 2, none⟩ = some (.slice XB m xq) ∧ W.cell? ⟨q, 3, none⟩ = some (.slice CB m cq)) :=
    Lib.hid fun W b => ⟨(b.cell (p := ⟨p, 0, none⟩) pl).trans a0, (b.cell (p := ⟨p, 1, none⟩) pl).trans a1, (b.cell (p := ⟨p, 2, none⟩) pl).trans a2, (b.cell (p := ⟨p, 3, none⟩) pl).trans a3, (b.cell (p := ⟨q, 0, none⟩) ql).trans e0, (b.cell (p := ⟨q, 1, none⟩) ql).trans e1, (b.cell (p := ⟨q, 2, none⟩) ql).trans e2, (b.cell (p := ⟨q, 3, none⟩) ql).trans e3⟩
  have D5 : Below w5.heap.size w5 w5.drew := (Below.refl _ w5).drew
  have GP := Lib.hid gm
  have HO := Lib.hid O
  have q0 : ((0 : Int) != 0) = false := by simp
  go_region_held3 (fun w' => w'.cell? ⟨p, 0, none⟩ = some (.int .i64 (N : Int)) ∧ w'.cell? ⟨p, 1, none⟩ = some (.slice TA m tp) ∧ w'.cell? ⟨p, 2, none⟩ = some (.slice XA m xp) ∧ w'.cell? ⟨p, 3, none⟩ = some (.slice CA m cp) ∧ w'.cell? ⟨q, 0, none⟩ = some (.int .i64 (K : Int)) ∧ w'.cell? ⟨q, 1, none⟩ = some (.slice TB m tq) ∧ w'.cell? ⟨q, 2, none⟩ = some (.slice XB m xq) ∧ w'.cell? ⟨q, 3, none⟩ = some (.slice CB m cq))
    (first | with_reducible exact k1 | go_keep)
    (first
      | (go_at_call 17; refine (refMake_ok w5.drew N _ _ _ m t x c (NN.rt.below D5 (Nat.le_refl _)) (NN.rx.below D5 (Nat.le_refl _)) (NN.rc.below D5 (Nat.le_refl _)) gd pb).mono ?_; rintro e w6 ⟨T6, X6, C6, o6, k6, rfl, R6, O6, b6⟩; have hk6 := HO.out.count O6 pb; subst hk6; have E6 : Below w5.heap.size w5 w6 := D5.trans (b6.mono (Nat.le_refl _)); have k1 := KK.out w6 E6; rw [← HK.out]; clear b6)
      | (go_at_call 16; refine (same_ok w6 (K : Int) _ _ _ _ _ _ m o (dualX x) c o6 (dualX x) c (by omega) (MM.rt.below E6 (Nat.le_refl _)) (MM.rx.below E6 (Nat.le_refl _)) (MM.rc.below E6 (Nat.le_refl _)) R6.ot.rd R6.ox.rd R6.oc.rd (fun d hd => HO.out.same O6 pb m d hd hd) (fun _ _ => rfl) (fun _ _ => rfl)).mono ?_; rintro e w7 ⟨rfl, b7⟩; have E7 : Below w5.heap.size w5 w7 := E6.trans (b7.mono E6.size); have k1 := KK.out w7 E7; clear b7)
      | (go_at_call 18; refine (refCheck_any w7 K _ _ _ m o (dualX x) c (MM.rt.below E7 (Nat.le_refl _)) (MM.rx.below E7 (Nat.le_refl _)) (MM.rc.below E7 (Nat.le_refl _)) gdq gm.caps).mono ?_; rintro e w8 ⟨r8, rfl, T8, b8⟩; have hr8 := GP.out.tells T8; subst hr8; have E8 : Below w5.heap.size w5 w8 := E7.trans (b8.mono E7.size); have k1 := KK.out w8 E8; clear b8))
  have F9 := B1.trans (E8.mono B1.size)
  replace NN := NN.below E8 (Nat.le_refl _)
  replace MM := MM.below E8 (Nat.le_refl _)
  clear B1 KK k1 D5 E6 E7 E8 a0 a1 a2 a3 e0 e1 e2 e3 q0 pl ql R6 T8
  have a0 := NN.c0
  have a1 := NN.c1
  have a2 := NN.c2
  have a3 := NN.c3
  have e0 := MM.c0
  have e1 := MM.c1
  have e2 := MM.c2
  have e3 := MM.c3
  go_wp2_with fail
  refine (refFaces_ok _ (K : Int) _ _ _ m o (dualX x) MM.rt MM.rx (by omega) ev (fun d hd => (gdq.next d hd).1) pbq).mono ?_
  rintro e w9 ⟨b9, o9, k9, rfl, -, -, O9, km9, bb9⟩
  have hkN := dual_count gr HO.out (by omega) O9
  rw [hkN]
  replace NN := NN.below bb9 (Nat.le_refl _)
  replace MM := MM.below bb9 (Nat.le_refl _)
  replace F9 := F9.trans (bb9.mono F9.size)
  clear bb9 O9 hkN a0 a1 a2 a3 e0 e1 e2 e3
  have a0 := NN.c0
  have a1 := NN.c1
  have a2 := NN.c2
  have a3 := NN.c3
  go_wp2_with fail
  refine (refFaces_ok _ (N : Int) _ _ _ m t x NN.rt NN.rx (by omega) ev (fun d hd => (gd.next d hd).1) pb).mono ?_
  rintro e w10 ⟨b10, o10, k10, rfl, -, -, O10, km10, bb10⟩
  have hkK := HO.out.count O10 pb
  rw [← hkK, ← HK.out]
  replace NN := NN.below bb10 (Nat.le_refl _)
  replace MM := MM.below bb10 (Nat.le_refl _)
  replace F9 := F9.trans (bb10.mono F9.size)
  clear bb10 O10 hkK a0 a1 a2 a3
  have a0 := NN.c0
  have a3 := NN.c3
  have e0 := MM.c0
  have e3 := MM.c3
  have q0 : ((N : Int) == (N : Int)) = true := by simp
  have q1 : ((K : Int) == (K : Int)) = true := by simp
  go_wp2_with fail
  refine (ints_same _ _ _ m c c (by omega) MM.rc NN.rc (fun _ _ => rfl)).mono ?_
  rintro e w11 ⟨rfl, b11⟩
  go_wp2_with fail
  go_ret
  exact ⟨rfl, F9.trans (b11.mono F9.size)⟩
end Go.Proofs.Ytbnghpemlcmogaa.Ro
