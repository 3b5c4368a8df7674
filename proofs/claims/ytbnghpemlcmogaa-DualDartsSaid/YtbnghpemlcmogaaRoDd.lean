/- Walks: the law DualDarts. -/
import Derived.Test.YtbnghpemlcmogaaRoPp
import Derived.Test.YtbnghpemlcmogaaRoK3
import Derived.Test.YtbnghpemlcmogaaRoRc
import Derived.Test.YtbnghpemlcmogaaRoJa
import Derived.Test.YtbnghpemlcmogaaRoDm
import Derived.Test.YtbnghpemlcmogaaRoWi
import Derived.Test.YtbnghpemlcmogaaRoY
import Derived.Test.YtbnghpemlcmogaaRoDp
namespace Go.Proofs.Ytbnghpemlcmogaa.Ro
open Go.RowKit Go.Proofs Go.Maps
set_option linter.unusedVariables false
set_option linter.unusedSimpArgs false

set_option maxRecDepth 100000 in
set_option maxHeartbeats 12800000 in
theorem darts_walk (A : Option Addr) (len cap : Nat) (zs : List Int) (uu : Int) (w : World) (hV : Rd w (.slice A len cap) len (fun i => zs.getD i 0)) (hz : ∀ i, i < len → Small (zs.getD i 0)) (hl : len ≤ 9223372036854775807) (huu : Small uu) :
    Calls Try.prog 8 #[.slice A len cap, .int .i64 uu] w fun e w' => e = .returned (.bool true) ∧ Below w.heap.size w w' := by
  go_enter Try.func8, Try.ntmps8
  go_wp2_with fail
  refine (known3_ok _).mono ?_
  rintro e w1 ⟨rfl, B1⟩
  have h01 := B1.size
  go_wp2_with fail
  refine (plane_post _ _ len _ (hV.below B1 (Nat.le_refl _)) hz hl).mono ?_
  rintro e w2 ⟨N, m, t, x, c, TA, tp, XA, xp, CA, cp, rfl, gr, hN, hM, R2, b2⟩
  replace B1 := B1.trans (b2.mono B1.size)
  have gd := gr.good
  have ev := gd.even
  have N1 := gd.one
  have pa := gr.turns.perm
  have pb := pa.bh gd.even
  clear b2 hz hl hV
  go_upto_region 4 with fail
  obtain ⟨w3, hw3, X3, R3, b3⟩ := rows_enter (N : Int) R2
  rw [hw3]
  replace B1 := B1.trans (b3.mono B1.size)
  have NN := NetAt.of X3 R3
  have RR := R3.base h01
  clear hw3 b3 R2 X3 R3 h01
  generalize w2.heap.size = p at *
  clear w1 w2
  have c0 := NN.c0
  have c1 := NN.c1
  have c2 := NN.c2
  have c3 := NN.c3
  go_wp2_with fail
  refine (make_ok _ N _ _ _ m t x c NN.rt NN.rx NN.rc gd pb).mono ?_
  rintro e w4 ⟨T', X', C', o, k, rfl, R4, O, bb⟩
  replace NN := NN.below bb (Nat.le_refl _)
  replace B1 := B1.trans (bb.mono B1.size)
  clear bb c0 c1 c2 c3
  have gq := gr.dual O (by omega)
  have gm := gq.plane
  have gdq := gq.good
  have pbq := gq.turns.perm.bh ev
  have paq := gq.turns.perm
  obtain ⟨TB, tq, rfl, -⟩ := id R4.ot.rd
  obtain ⟨XB, xq, rfl, -⟩ := id R4.ox.rd
  obtain ⟨CB, cq, rfl, -⟩ := id R4.oc.rd
  go_upto_region 5 with fail
  obtain ⟨w5, hw5, X5, R5, b5⟩ := rows_enter ((max k 1 : Nat) : Int) R4
  rw [hw5]
  have MM := NetAt.of X5 R5
  replace NN := NN.below b5 (Nat.le_refl _)
  replace B1 := B1.trans (b5.mono B1.size)
  clear hw5 b5 R4 X5 R5
  generalize w4.heap.size = q at *
  clear w4
  obtain ⟨K, hK⟩ : ∃ K, K = max k 1 := ⟨_, rfl⟩
  rw [← hK] at MM gq gm gdq ⊢
  have HK := Lib.hid hK
  clear hK
  have c0 := NN.c0
  have c1 := NN.c1
  have c2 := NN.c2
  have c3 := NN.c3
  go_wp2_with fail
  refine (refFaces_ok _ (N : Int) _ _ _ m t x NN.rt NN.rx (by omega) ev (fun d hd => (gd.next d hd).1) pb).mono ?_
  rintro e w6 ⟨fb, o6, k6, rfl, F6, -, O6, km6, bb⟩
  replace F6 := F6.congr (fun d hd => (O.same O6 pb m d hd hd).symm)
  replace NN := NN.below bb (Nat.le_refl _)
  replace MM := MM.below bb (Nat.le_refl _)
  replace B1 := B1.trans (bb.mono B1.size)
  have HO := Lib.hid O
  clear bb O6 O c0 c1 c2 c3
  have e0 := MM.c0
  have e1 := MM.c1
  have e2 := MM.c2
  have e3 := MM.c3
  have q1 : ((m : Int) != (m : Int)) = false := by simp
  have q3 : ((m : Int) == (m : Int)) = true := by simp
  by_cases hm0 : m = 0
  · have q2 : ((m : Int) == 0) = true := by simp; omega
    go_wp2_with fail
    go_ret
    exact ⟨rfl, B1⟩
  · have q2 : ((m : Int) == 0) = false := by simp; omega
    have GP := Lib.hid gm
    go_wp2_with fail
    refine (refCheck_any _ K _ _ _ m o (dualX x) c MM.rt MM.rx MM.rc gdq gm.caps).mono ?_
    rintro e w7 ⟨r8, rfl, T8, bb⟩
    have hr8 := GP.out.tells T8
    subst hr8
    replace F6 := F6.below bb (Nat.le_refl _)
    replace NN := NN.below bb (Nat.le_refl _)
    replace MM := MM.below bb (Nat.le_refl _)
    replace B1 := B1.trans (bb.mono B1.size)
    clear bb T8 e0 e1 e2 e3
    obtain ⟨a, ha, hal⟩ := small_within (d := uu) (m := m) (by omega)
    have q0 : ((0 : Int) != 0) = false := by simp
    go_wp2_with fail
    refine (within3_any _ _ _ huu (by omega) (by omega)).mono ?_
    rintro e w8 ⟨rfl, rfl⟩
    rw [ha]
    clear q0 q1 q2 q3 ha gm
    obtain ⟨yo, rfl, lo1, hco⟩ : ∃ y, TB = some y ∧ y.block < w7.heap.size ∧ ∀ i, i < m → w7.cell? (y.add i) = some (.int .i64 (o i)) := by
      obtain ⟨A', c', e', r⟩ := MM.rt
      injection e' with e1 e2 e3
      obtain ⟨y, h1, h2, h3⟩ := r (by omega)
      exact ⟨y, by rw [e1, h1], h2, h3⟩
    obtain ⟨yf, hyf⟩ : ∃ yf : Addr, yf = ⟨fb, 0, none⟩ := ⟨_, rfl⟩
    have lo2 : yf.block < w7.heap.size := by rw [hyf]; exact F6.lt (k := fb) rfl
    have hoth := oth_lt hal ev
    have s1 := hco a hal
    have s2 := hco _ hoth
    have s3 : w7.cell? (yf.add a) = some (.int .i64 (o a)) := by rw [hyf, add_head]; exact F6.cell hal
    have s4 : w7.cell? (yf.add (oth a)) = some (.int .i64 (o (oth a))) := by rw [hyf, add_head]; exact F6.cell hoth
    rw [← hyf]
    have pl := NN.lt
    have ql := MM.lt
    have a0 := NN.c0
    have a1 := NN.c1
    have a2 := NN.c2
    have a3 := NN.c3
    have e0 := MM.c0
    have e1 := MM.c1
    have e2 := MM.c2
    have e3 := MM.c3
    have KK : Hid (∀ W, Below w7.heap.size w7 W → W.cell? ⟨p, 0, none⟩ = some (.int .i64 (N : Int)) ∧ W.cell? ⟨p, 1, none⟩ = some (.slice TA m tp) ∧ W.cell? ⟨p, 2, none⟩ = some (.slice XA m xp) ∧ W.cell? ⟨p, 3, none⟩ = some (.slice CA m cp) ∧ W.cell? ⟨q, 0, none⟩ = some (.int .i64 (K : Int)) ∧ W.cell? ⟨q, 1, none⟩ = some (.slice (some yo) m tq) ∧ W.cell? ⟨q, 2, none⟩ = some (.slice XB m xq) ∧ W.cell? ⟨q, 3, none⟩ = some (.slice CB m cq) ∧ W.cell? (yo.add a) = some (.int .i64 (o a)) ∧ W.cell? (yo.add (oth a)) = some (.int .i64 (o (oth a))) ∧ W.cell? (yf.add a) = some (.int .i64 (o a)) ∧ W.cell? (yf.add (oth a)) = some (.int .i64 (o (oth a)))) :=
      Lib.hid fun W b => ⟨(b.cell (p := ⟨p, 0, none⟩) pl).trans a0, (b.cell (p := ⟨p, 1, none⟩) pl).trans a1, (b.cell (p := ⟨p, 2, none⟩) pl).trans a2, (b.cell (p := ⟨p, 3, none⟩) pl).trans a3, (b.cell (p := ⟨q, 0, none⟩) ql).trans e0, (b.cell (p := ⟨q, 1, none⟩) ql).trans e1, (b.cell (p := ⟨q, 2, none⟩) ql).trans e2, (b.cell (p := ⟨q, 3, none⟩) ql).trans e3, rd_cell b lo1 (Nat.le_refl _) s1, rd_cell b lo1 (Nat.le_refl _) s2, rd_cell b lo2 (Nat.le_refl _) s3, rd_cell b lo2 (Nat.le_refl _) s4⟩
    have D7 : Below w7.heap.size w7 w7.drew := (Below.refl _ w7).drew
    have xo := xor_one a (by omega)
    have l1 : (a : Int) < (m : Int) := by omega
    have l2 : (oth a : Int) < (m : Int) := by omega
    have l3 : (0 : Int) ≤ (a : Int) := by omega
    have l4 : (0 : Int) ≤ (oth a : Int) := by omega
    have q1 : (o a == o a) = true := by simp
    have q2 : (o (oth a) == o (oth a)) = true := by simp
    have HAB : Hid (ab (dualX x) = bh x) := Lib.hid (funext fun d => ab_dual d)
    clear hco hyf
    go_upto_region 11 with fail
    go_region_held3 (fun w' => w'.cell? ⟨p, 0, none⟩ = some (.int .i64 (N : Int)) ∧ w'.cell? ⟨p, 1, none⟩ = some (.slice TA m tp) ∧ w'.cell? ⟨p, 2, none⟩ = some (.slice XA m xp) ∧ w'.cell? ⟨p, 3, none⟩ = some (.slice CA m cp) ∧ w'.cell? ⟨q, 0, none⟩ = some (.int .i64 (K : Int)) ∧ w'.cell? ⟨q, 1, none⟩ = some (.slice (some yo) m tq) ∧ w'.cell? ⟨q, 2, none⟩ = some (.slice XB m xq) ∧ w'.cell? ⟨q, 3, none⟩ = some (.slice CB m cq) ∧ w'.cell? (yo.add a) = some (.int .i64 (o a)) ∧ w'.cell? (yo.add (oth a)) = some (.int .i64 (o (oth a))) ∧ w'.cell? (yf.add a) = some (.int .i64 (o a)) ∧ w'.cell? (yf.add (oth a)) = some (.int .i64 (o (oth a))))
      (first | with_reducible exact k1 | go_keep)
      (first
        | (go_at_call 26; refine (refAbout_ok w7.drew (K : Int) _ _ _ m (dualX x) (MM.rx.below D7 (Nat.le_refl _)) (by omega) (fun d hd => (gdq.next d hd).1) paq a hal).mono ?_; rintro e w8 ⟨b8, l, c8, rfl, -, LA, RA, b6⟩; have E8 : Below w7.heap.size w7 w8 := D7.trans (b6.mono (Nat.le_refl _)); have k1 := KK.out w8 E8; have hlm : l ≤ m := apart_le l (fun j => it (ab (dualX x)) j a) (fun j _ => paq.it_lt hal j) RA.apart; have RA2 := Lib.hid RA; clear b6 RA)
        | (go_at_call 27; refine (refFace_ok w8 (N : Int) _ _ _ m x (NN.rx.below E8 (Nat.le_refl _)) (by omega) ev (fun d hd => (gd.next d hd).1) pb a hal).mono ?_; rintro e w9 ⟨b9, l', c9, rfl, -, LF, RF, b6⟩; have hll : l' = l := RF.one (HAB.out ▸ RA2.out); subst hll; have E9 : Below w7.heap.size w7 w9 := E8.trans (b6.mono E8.size); have LA2 := LA.below b6 (Nat.le_refl _); have k1 := KK.out w9 E9; clear b6 LA; have LA := LA2)
        | (go_at_call 27; refine (refFace_ok w7.drew (N : Int) _ _ _ m x (NN.rx.below D7 (Nat.le_refl _)) (by omega) ev (fun d hd => (gd.next d hd).1) pb a hal).mono ?_; rintro e w8 ⟨b9, l, c9, rfl, -, LF, RF, b6⟩; have E8 : Below w7.heap.size w7 w8 := D7.trans (b6.mono (Nat.le_refl _)); have k1 := KK.out w8 E8; have hlm : l ≤ m := apart_le l (fun j => it (bh x) j a) (fun j _ => pb.it_lt hal j) RF.apart; have RA2 := Lib.hid RF; clear b6 RF)
        | (go_at_call 26; refine (refAbout_ok w8 (K : Int) _ _ _ m (dualX x) (MM.rx.below E8 (Nat.le_refl _)) (by omega) (fun d hd => (gdq.next d hd).1) paq a hal).mono ?_; rintro e w9 ⟨b8, l', c8, rfl, -, LA, RA, b6⟩; have hll : l' = l := RA.one (HAB.out.symm ▸ RA2.out); subst hll; have E9 : Below w7.heap.size w7 w9 := E8.trans (b6.mono E8.size); have LF2 := LF.below b6 (Nat.le_refl _); have k1 := KK.out w9 E9; clear b6 LF; have LF := LF2)
        | (go_at_call 20; refine (ints_same w9 _ _ _ _ _ (by omega) LA.rd LF.rd (fun j _ => by rw [HAB.out])).mono ?_; rintro e w10 ⟨rfl, b6⟩; have E10 : Below w7.heap.size w7 w10 := E9.trans (b6.mono E9.size); have k1 := KK.out w10 E10; clear b6))
    all_goals
      go_wp2_with fail
      go_ret
      exact ⟨rfl, B1.trans (E10.mono B1.size)⟩
end Go.Proofs.Ytbnghpemlcmogaa.Ro
