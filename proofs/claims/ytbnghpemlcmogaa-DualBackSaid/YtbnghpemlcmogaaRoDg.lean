/- Walks: the law DualBack. -/
import Derived.Test.YtbnghpemlcmogaaRoPp
import Derived.Test.YtbnghpemlcmogaaRoK3
import Derived.Test.YtbnghpemlcmogaaRoDh
import Derived.Test.YtbnghpemlcmogaaRoWi
namespace Go.Proofs.Ytbnghpemlcmogaa.Ro
open Go.RowKit Go.Proofs Go.Maps
set_option linter.unusedVariables false
set_option linter.unusedSimpArgs false

theorem cnt_pos {P : Nat → Bool} {m d : Nat} (hd : d < m) (h : P d = true) : 0 < cnt P m := by
  rcases Nat.lt_or_ge 0 (cnt P m) with q | q
  · exact q
  · have h2 : ∀ m, d < m → 0 < cnt P m := fun m => by
      induction m with
      | zero => intro h; omega
      | succ m ih =>
        intro hd
        by_cases e : d = m
        · subst e; rw [cnt_yes h]; omega
        · have := ih (by omega)
          unfold cnt
          omega
    exact h2 m hd

set_option maxRecDepth 100000 in
set_option maxHeartbeats 12800000 in
theorem back_walk (A : Option Addr) (len cap : Nat) (zs : List Int) (s : Int) (v : Int) (w : World) (hV : Rd w (.slice A len cap) len (fun i => zs.getD i 0)) (hz : ∀ i, i < len → Small (zs.getD i 0)) (hl : len ≤ 9223372036854775807) (hs : Small s) (hv : Small v) :
    Calls Try.prog 11 #[.slice A len cap, .int .i64 s, .int .i64 v] w fun e w' => e = .returned (.bool true) ∧ Below w.heap.size w w' := by
  go_enter Try.func11, Try.ntmps11
  go_wp2_with fail
  refine (known3_ok _).mono ?_
  rintro e w1 ⟨rfl, B1⟩
  have h01 := B1.size
  go_wp2_with fail
  refine (plane_post _ _ len _ (hV.below B1 (Nat.le_refl _)) hz hl).mono ?_
  rintro e w2 ⟨N, m, t, x, c, TA, tp, XA, xp, CA, cp, rfl, gr, hN, hM, R2, b2⟩
  replace B1 := B1.trans (b2.mono B1.size)
  have gd := gr.good
  have ev := gd.even
  have N1 := gd.one
  have pa := gr.turns.perm
  have pb := pa.bh gd.even
  clear b2 hz hl hV
  go_upto_region 4 with fail
  obtain ⟨w3, hw3, X3, R3, b3⟩ := rows_enter (N : Int) R2
  rw [hw3]
  replace B1 := B1.trans (b3.mono B1.size)
  have NN := NetAt.of X3 R3
  have RR := R3.base h01
  clear hw3 b3 R2 X3 R3 h01
  generalize w2.heap.size = p at *
  clear w1 w2
  obtain ⟨a, ha, hal⟩ := small_within (d := s) (m := N) (by omega)
  obtain ⟨b, hb, hbl⟩ := small_within (d := v) (m := N) (by omega)
  have c0 := NN.c0
  have c1 := NN.c1
  have c2 := NN.c2
  have c3 := NN.c3
  go_big_quiet (exact (within3_any _ _ _ (by assumption) (by omega) (by omega)).mono fun e w' h => ⟨h.1, _, h.2.symm⟩)
  rw [ha, hb]
  have NN' : NetAt (w3.drewN nq) p (N : Int) (.slice TA m tp) (.slice XA m xp) (.slice CA m cp) m t x c := ⟨NN.box, NN.rt, NN.rx, NN.rc⟩
  replace NN := NN'
  have B1' : Below w.heap.size w (w3.drewN nq) := ⟨B1.os, B1.tape, B1.output, B1.size, B1.block⟩
  replace B1 := B1'
  clear B1' NN' c0 c1 c2 c3
  generalize w3.drewN nq = w4 at *
  have c0 := NN.c0
  have c1 := NN.c1
  have c2 := NN.c2
  have c3 := NN.c3
  go_wp2_with fail
  refine (split_ok _ N _ _ _ m t x c NN.rt NN.rx NN.rc gd pb a b).mono ?_
  rintro e w5 ⟨o, k, O, bb, hS⟩
  replace NN := NN.below bb (Nat.le_refl _)
  replace B1 := B1.trans (bb.mono B1.size)
  clear bb c0 c1 c2 c3
  have HO := Lib.hid O
  clear O
  rcases hS with ⟨S, rfl⟩ | ⟨f, e0, l, q, r, b1, p1, S, H, rfl, W1, hb1⟩
  · have HS := Lib.hid S
    clear S
    have c0 := NN.c0
    have c1 := NN.c1
    have c2 := NN.c2
    have c3 := NN.c3
    go_wp2_with fail
    refine (split_ok _ N _ _ _ m t x c NN.rt NN.rx NN.rc gd pb b a).mono ?_
    rintro e w6 ⟨o2, k2, O2, bb, ⟨S2, rfl⟩ | ⟨f, e0, l, q, r, b1, p1, S2, H, rfl, W1, hb1⟩⟩
    · replace B1 := B1.trans (bb.mono B1.size)
      clear bb c0 c1 c2 c3 S2 O2
      go_wp2_with fail
      go_loopw [22] (fun u22 wr => u22 = .int .i64 0 ∧ Below w.heap.size w wr) (fun u22 _ => 0)
      case atStart => exact ⟨rfl, B1⟩
      case round =>
        clear B1
        obtain ⟨rfl, B1⟩ := hrel
        go_wp2_with fail
        go_ret
        exact ⟨rfl, B1⟩
    · exfalso
      obtain rfl := HO.out.count O2 pb
      have := (HS.out.one (Shares.symm S2) (fun d hd => HO.out.same O2 pb m d hd hd)).2
      simp at this
  · have HS := Lib.hid S
    have HH := Lib.hid H
    clear S H
    have c0 := NN.c0
    have c1 := NN.c1
    have c2 := NN.c2
    have c3 := NN.c3
    go_wp2_with fail
    refine (split_ok _ N _ _ _ m t x c NN.rt NN.rx NN.rc gd pb b a).mono ?_
    rintro e w6 ⟨o2, k2, O2, bb, ⟨S2, rfl⟩ | ⟨f2, e2, l2, q2, r2, b2, p2, S2, H2, rfl, W2, hb2⟩⟩
    · exfalso
      obtain rfl := HO.out.count O2 pb
      have := (HS.out.one (Shares.symm S2) (fun d hd => HO.out.same O2 pb m d hd hd)).2
      simp at this
    · obtain rfl := HO.out.count O2 pb
      have hff := (HS.out.one (Shares.symm S2) (fun d hd => HO.out.same O2 pb m d hd hd)).1
      obtain rfl : f = f2 := by omega
      replace B1 := B1.trans (bb.mono B1.size)
      replace W1 := W1.below bb (Nat.le_refl _)
      have so : ∀ d, d < m → o d = o2 d := fun d hd => HO.out.same O2 pb m d hd hd
      obtain ⟨K, hK⟩ : ∃ K, K = max k 1 := ⟨_, rfl⟩
      rw [← hK] at W1 W2 ⊢
      have hK2 : K ≤ 241 := by have := HO.out.le; omega
      have hfK : f < K := by obtain ⟨_, g, z1, z2, _⟩ := HS.out; omega
      have hoK : ∀ d, d < m → o d < (K : Int) := fun d hd => by have := HO.out.lo d hd; omega
      obtain ⟨h1, hh1⟩ : ∃ hh, hh = halfO x o (K : Int) e0 q r l := ⟨_, rfl⟩
      obtain ⟨h2, hh2⟩ : ∃ hh, hh = halfO x o2 (K : Int) e2 q2 r2 l2 := ⟨_, rfl⟩
      rw [← hh1] at W1
      rw [← hh2] at W2
      have CSS : Hid (∀ d, d < m → (o d ≠ f ∧ h1 d = o d ∧ h2 d = o d ∧ o d ≠ f ∧ o d ≠ K) ∨ ((h1 d = f ∨ h1 d = K) ∧ (h2 d = f ∨ h2 d = K))) := Lib.hid fun d hd => by
        have u1 := HH.out.cases (K := (K : Int)) HO.out pb hd
        have u2 := H2.cases (K := (K : Int)) O2 pb hd
        rw [← hh1] at u1
        rw [← hh2] at u2
        rw [← so d hd] at u2
        have := hoK d hd
        rcases u1 with ⟨u3, u4⟩ | ⟨u3, u4⟩ <;> rcases u2 with ⟨u5, u6⟩ | ⟨u5, u6⟩
        · exact .inl ⟨u3, u4, u6, u3, by omega⟩
        · exact absurd u5 u3
        · exact absurd u3 u5
        · exact .inr ⟨u4, u6⟩
      have CP : Hid (0 < cnt (fun d => h1 d == (f : Int)) m ∧ 0 < cnt (fun d => h1 d == (K : Int)) m) := Lib.hid (by
        have v1 := HH.out.value HO.out pb (K : Int) (j := 0) (by have := HH.out.rlt; omega)
        have v2 := HH.out.value HO.out pb (K : Int) (j := r) HH.out.rlt
        rw [if_neg (by have := HH.out.rpos; omega), ← hh1] at v1
        rw [if_pos (Nat.le_refl _), ← hh1] at v2
        exact ⟨cnt_pos (pb.it_lt HH.out.lt _) (by simpa using v1), cnt_pos (pb.it_lt HH.out.lt _) (by simpa using v2)⟩)
      have u0 : (((K + 1 : Nat) : Int) != ((K + 1 : Nat) : Int)) = false := by simp
      have u1 : ((f : Int) != (f : Int)) = false := by simp
      have u2 : ((m : Int) != (m : Int)) = false := by simp
      have u3 : ((K : Int) != (K : Int)) = false := by simp
      clear bb c0 c1 c2 c3 S2 H2 O2 so hoK hh1 hh2 hK hff hb1 hb2
      go_wp2_with fail
      go_loopw [20, 21, 22] (fun u20 u21 u22 wr => ∃ n1 n2 d : Nat, u20 = .int .i64 (n1 : Int) ∧ u21 = .int .i64 (n2 : Int) ∧ u22 = .int .i64 (d : Int) ∧ d ≤ m ∧ n1 ≤ d ∧ n2 ≤ d ∧ Hid (n1 = cnt (fun d => h1 d == (f : Int)) d) ∧ Hid (n2 = cnt (fun d => h1 d == (K : Int)) d) ∧ Ow wr (.slice (some ⟨b1, 0, none⟩) m p1) m h1 ∧ Ow wr (.slice (some ⟨b2, 0, none⟩) m p2) m h2 ∧ Below w.heap.size w wr) (fun _ _ u22 _ => m - (intOf u22).toNat)
      case atStart => exact ⟨0, 0, 0, rfl, rfl, rfl, Nat.zero_le _, Nat.le_refl _, Nat.le_refl _, Lib.hid rfl, Lib.hid rfl, W1, W2, B1⟩
      case round =>
        clear W1 W2 B1
        obtain ⟨n1, n2, d, rfl, rfl, rfl, hd, hn1, hn2, hc1, hc2, W1, W2, B1⟩ := hrel
        by_cases hlt : d < m
        · have d1 : (d : Int) < (m : Int) := by omega
          have z1 := W1.cell hlt
          have z2 := W2.cell hlt
          have CS := CSS.out d hlt
          rcases CS with ⟨e0, e1, e2, e3, e4⟩ | ⟨e1 | e1, e2 | e2⟩
          · rw [e1] at z1
            rw [e2] at z2
            have y1 : (o d == (f : Int)) = false := by simpa using e3
            have y2 : (o d == (K : Int)) = false := by simpa using e4
            have C1 : Hid (n1 = cnt (fun d => h1 d == (f : Int)) (d + 1)) := Lib.hid (by rw [cnt_no (by rw [e1]; exact y1), ← hc1.out])
            have C2 : Hid (n2 = cnt (fun d => h1 d == (K : Int)) (d + 1)) := Lib.hid (by rw [cnt_no (by rw [e1]; exact y2), ← hc2.out])
            clear e1 e2 e3 e4
            go_upto_region 13 with fail
            go_big_quiet (fail)
            go_wp2_with fail
            go_roundw
            case rel => exact ⟨n1, n2, d + 1, rfl, rfl, by simp, by omega, by omega, by omega, C1, C2, W1, W2, ⟨B1.os, B1.tape, B1.output, B1.size, B1.block⟩⟩
            case measure => simp [intOf]; omega
          · rw [e1] at z1
            rw [e2] at z2
            have y1 : ((f : Int) == (f : Int)) = true := by simp
            have y2 : ((f : Int) == (K : Int)) = false := by simp; omega
            have y3 : ((K : Int) == (f : Int)) = false := by simp; omega
            have y4 : ((K : Int) == (K : Int)) = true := by simp
            have C1 : Hid (n1 + 1 = cnt (fun d => h1 d == (f : Int)) (d + 1)) := Lib.hid (by rw [cnt_yes (by rw [e1]; simp), ← hc1.out])
            have C2 : Hid (n2 = cnt (fun d => h1 d == (K : Int)) (d + 1)) := Lib.hid (by rw [cnt_no (by rw [e1]; exact y2), ← hc2.out])
            clear e1 e2
            go_upto_region 13 with fail
            go_big_quiet (fail)
            go_wp2_with fail
            go_roundw
            case rel => exact ⟨n1 + 1, n2, d + 1, by simp, rfl, by simp, by omega, by omega, by omega, C1, C2, W1, W2, ⟨B1.os, B1.tape, B1.output, B1.size, B1.block⟩⟩
            case measure => simp [intOf]; omega
          · rw [e1] at z1
            rw [e2] at z2
            have y1 : ((f : Int) == (f : Int)) = true := by simp
            have y2 : ((f : Int) == (K : Int)) = false := by simp; omega
            have y3 : ((K : Int) == (f : Int)) = false := by simp; omega
            have y4 : ((K : Int) == (K : Int)) = true := by simp
            have C1 : Hid (n1 + 1 = cnt (fun d => h1 d == (f : Int)) (d + 1)) := Lib.hid (by rw [cnt_yes (by rw [e1]; simp), ← hc1.out])
            have C2 : Hid (n2 = cnt (fun d => h1 d == (K : Int)) (d + 1)) := Lib.hid (by rw [cnt_no (by rw [e1]; exact y2), ← hc2.out])
            clear e1 e2
            go_upto_region 13 with fail
            go_big_quiet (fail)
            go_wp2_with fail
            go_roundw
            case rel => exact ⟨n1 + 1, n2, d + 1, by simp, rfl, by simp, by omega, by omega, by omega, C1, C2, W1, W2, ⟨B1.os, B1.tape, B1.output, B1.size, B1.block⟩⟩
            case measure => simp [intOf]; omega
          · rw [e1] at z1
            rw [e2] at z2
            have y1 : ((f : Int) == (f : Int)) = true := by simp
            have y2 : ((f : Int) == (K : Int)) = false := by simp; omega
            have y3 : ((K : Int) == (f : Int)) = false := by simp; omega
            have y4 : ((K : Int) == (K : Int)) = true := by simp
            have C1 : Hid (n1 = cnt (fun d => h1 d == (f : Int)) (d + 1)) := Lib.hid (by rw [cnt_no (by rw [e1]; exact y3), ← hc1.out])
            have C2 : Hid (n2 + 1 = cnt (fun d => h1 d == (K : Int)) (d + 1)) := Lib.hid (by rw [cnt_yes (by rw [e1]; simp), ← hc2.out])
            clear e1 e2
            go_upto_region 13 with fail
            go_big_quiet (fail)
            go_wp2_with fail
            go_roundw
            case rel => exact ⟨n1, n2 + 1, d + 1, rfl, by simp, by simp, by omega, by omega, by omega, C1, C2, W1, W2, ⟨B1.os, B1.tape, B1.output, B1.size, B1.block⟩⟩
            case measure => simp [intOf]; omega
          · rw [e1] at z1
            rw [e2] at z2
            have y1 : ((f : Int) == (f : Int)) = true := by simp
            have y2 : ((f : Int) == (K : Int)) = false := by simp; omega
            have y3 : ((K : Int) == (f : Int)) = false := by simp; omega
            have y4 : ((K : Int) == (K : Int)) = true := by simp
            have C1 : Hid (n1 = cnt (fun d => h1 d == (f : Int)) (d + 1)) := Lib.hid (by rw [cnt_no (by rw [e1]; exact y3), ← hc1.out])
            have C2 : Hid (n2 + 1 = cnt (fun d => h1 d == (K : Int)) (d + 1)) := Lib.hid (by rw [cnt_yes (by rw [e1]; simp), ← hc2.out])
            clear e1 e2
            go_upto_region 13 with fail
            go_big_quiet (fail)
            go_wp2_with fail
            go_roundw
            case rel => exact ⟨n1, n2 + 1, d + 1, rfl, by simp, by simp, by omega, by omega, by omega, C1, C2, W1, W2, ⟨B1.os, B1.tape, B1.output, B1.size, B1.block⟩⟩
            case measure => simp [intOf]; omega
        · have d1 : ¬ ((d : Int) < (m : Int)) := by omega
          obtain rfl : d = m := by omega
          have k1 := CP.out.1
          have k2 := CP.out.2
          rw [← hc1.out] at k1
          rw [← hc2.out] at k2
          have j1 : decide ((n1 : Int) > 0) = true := by simp; omega
          have j2 : decide ((n2 : Int) > 0) = true := by simp; omega
          go_wp2_with fail
          go_ret
          exact ⟨rfl, B1⟩
end Go.Proofs.Ytbnghpemlcmogaa.Ro
