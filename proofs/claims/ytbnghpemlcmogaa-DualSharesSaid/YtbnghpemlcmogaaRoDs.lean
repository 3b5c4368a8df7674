/- Walks: the law DualShares. -/
import Derived.Test.YtbnghpemlcmogaaRoPp
import Derived.Test.YtbnghpemlcmogaaRoK3
namespace Go.Proofs.Ytbnghpemlcmogaa.Ro
open Go.RowKit Go.Proofs Go.Maps
set_option linter.unusedVariables false
set_option linter.unusedSimpArgs false

theorem Shares.symm {m k : Nat} {o t : Nat → Int} {s v r : Int} : ∀ {b : Bool}, Shares m o t k s v r b → Shares m o t k v s r b
  | true, ⟨h1, f, h2, h3, h4, h5, h6⟩ => ⟨Ne.symm h1, f, h2, h3, h5, h4, fun g hg q => h6 g hg ⟨q.2, q.1⟩⟩
  | false, ⟨h1, h2⟩ => ⟨h1, h2.elim (fun e => .inl e.symm) fun h => .inr fun g hg q => h g hg ⟨q.2, q.1⟩⟩

set_option maxRecDepth 100000 in
set_option maxHeartbeats 12800000 in
theorem shares_walk (A : Option Addr) (len cap : Nat) (zs : List Int) (s : Int) (v : Int) (u : Int) (y : Int) (w : World) (hV : Rd w (.slice A len cap) len (fun i => zs.getD i 0)) (hz : ∀ i, i < len → Small (zs.getD i 0)) (hl : len ≤ 9223372036854775807) (hs : Small s) (hv : Small v) (hu : Small u) (hy : Small y) :
    Calls Try.prog 5 #[.slice A len cap, .int .i64 s, .int .i64 v, .int .i64 u, .int .i64 y] w fun e w' => e = .returned (.bool true) ∧ Below w.heap.size w w' := by
  go_enter Try.func5, Try.ntmps5
  go_wp2_with fail
  refine (known3_ok _).mono ?_
  rintro e w1 ⟨rfl, B1⟩
  have h01 := B1.size
  go_wp2_with fail
  refine (plane_post _ _ len _ (hV.below B1 (Nat.le_refl _)) hz hl).mono ?_
  rintro e w2 ⟨N, m, t, x, c, TA, tp, XA, xp, CA, cp, rfl, gr, hN, hM, R2, b2⟩
  replace B1 := B1.trans (b2.mono B1.size)
  have gd := gr.good
  have ev := gd.even
  have N1 := gd.one
  have pa := gr.turns.perm
  have pb := pa.bh gd.even
  clear b2 hz hl hV
  go_upto_region 4 with fail
  obtain ⟨w3, hw3, X3, R3, b3⟩ := rows_enter (N : Int) R2
  rw [hw3]
  replace B1 := B1.trans (b3.mono B1.size)
  have NN := NetAt.of X3 R3
  have RR := R3.base h01
  clear hw3 b3 R2 X3 R3 h01
  generalize w2.heap.size = p at *
  clear w1 w2
  obtain ⟨a, ha, hal⟩ := small_within (d := s) (m := N) (by omega)
  obtain ⟨b, hb, hbl⟩ := small_within (d := v) (m := N) (by omega)
  have c0 := NN.c0
  have c1 := NN.c1
  have c2 := NN.c2
  have c3 := NN.c3
  go_big_quiet (exact (within3_any _ _ _ (by assumption) (by omega) (by omega)).mono fun e w' h => ⟨h.1, _, h.2.symm⟩)
  rw [ha, hb]
  have NN' : NetAt (w3.drewN nq) p (N : Int) (.slice TA m tp) (.slice XA m xp) (.slice CA m cp) m t x c := ⟨NN.box, NN.rt, NN.rx, NN.rc⟩
  replace NN := NN'
  have B1' : Below w.heap.size w (w3.drewN nq) := ⟨B1.os, B1.tape, B1.output, B1.size, B1.block⟩
  replace B1 := B1'
  clear B1' NN' c0 c1 c2 c3
  generalize w3.drewN nq = w4 at *
  have c0 := NN.c0
  have c1 := NN.c1
  have c2 := NN.c2
  have c3 := NN.c3
  go_wp2_with fail
  refine (shared_ok _ N _ _ _ m t x c NN.rt NN.rx NN.rc gd pb a b).mono ?_
  rintro e w5 ⟨o1, k1, r1, h1, O1, rfl, S1, bb⟩
  replace NN := NN.below bb (Nat.le_refl _)
  replace B1 := B1.trans (bb.mono B1.size)
  clear bb c0 c1 c2 c3
  have c0 := NN.c0
  have c1 := NN.c1
  have c2 := NN.c2
  have c3 := NN.c3
  go_wp2_with fail
  refine (refShared_ok _ N _ _ _ m t x NN.rt NN.rx (by omega) ev (fun d hd => (gd.next d hd).1) pb a b).mono ?_
  rintro e w6 ⟨o2, k2, r2, h2, O2, rfl, S2, bb⟩
  replace NN := NN.below bb (Nat.le_refl _)
  replace B1 := B1.trans (bb.mono B1.size)
  clear bb c0 c1 c2 c3
  obtain rfl := O1.count O2 pb
  obtain ⟨rfl, rfl⟩ := S1.one S2 (fun d hd => O1.same O2 pb m d hd hd)
  clear S2 O2
  have c0 := NN.c0
  have c1 := NN.c1
  have c2 := NN.c2
  have c3 := NN.c3
  go_wp2_with fail
  refine (shared_ok _ N _ _ _ m t x c NN.rt NN.rx NN.rc gd pb u y).mono ?_
  rintro e w7 ⟨o2, k2, r3, h3, O2, rfl, S2, bb⟩
  replace NN := NN.below bb (Nat.le_refl _)
  replace B1 := B1.trans (bb.mono B1.size)
  clear bb c0 c1 c2 c3
  obtain rfl := O1.count O2 pb
  have c0 := NN.c0
  have c1 := NN.c1
  have c2 := NN.c2
  have c3 := NN.c3
  go_wp2_with fail
  refine (refShared_ok _ N _ _ _ m t x NN.rt NN.rx (by omega) ev (fun d hd => (gd.next d hd).1) pb u y).mono ?_
  rintro e w8 ⟨o4, k4, r4, h4, O4, rfl, S4, bb⟩
  replace NN := NN.below bb (Nat.le_refl _)
  replace B1 := B1.trans (bb.mono B1.size)
  clear bb c0 c1 c2 c3
  obtain rfl := O1.count O4 pb
  obtain ⟨rfl, rfl⟩ := S2.one S4 (fun d hd => O2.same O4 pb m d hd hd)
  clear S2 O2 S4 O4
  have c0 := NN.c0
  have c1 := NN.c1
  have c2 := NN.c2
  have c3 := NN.c3
  go_wp2_with fail
  refine (shared_ok _ N _ _ _ m t x c NN.rt NN.rx NN.rc gd pb b a).mono ?_
  rintro e w9 ⟨o2, k2, r2, h2, O2, rfl, S2, bb⟩
  replace NN := NN.below bb (Nat.le_refl _)
  replace B1 := B1.trans (bb.mono B1.size)
  clear bb c0 c1 c2 c3
  obtain rfl := O1.count O2 pb
  obtain ⟨rfl, rfl⟩ := S1.one (Shares.symm S2) (fun d hd => O1.same O2 pb m d hd hd)
  clear S2 O2 S1 O1
  go_wp2_with fail
  go_ret
  exact ⟨by simp, B1⟩
end Go.Proofs.Ytbnghpemlcmogaa.Ro
