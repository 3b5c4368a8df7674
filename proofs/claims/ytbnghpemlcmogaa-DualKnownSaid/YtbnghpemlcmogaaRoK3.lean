/- Walks: known, of chapter 3. -/
import Derived.Test.YtbnghpemlcmogaaRoSp
import Derived.Test.YtbnghpemlcmogaaRoDm
import Derived.Test.YtbnghpemlcmogaaRoSm
namespace Go.Proofs.Ytbnghpemlcmogaa.Ro
open Go.RowKit Go.Proofs Go.Maps
set_option linter.unusedVariables false
set_option linter.unusedSimpArgs false

theorem known_orb {o : Nat → Int} {k : Nat} (O : Orb (bh (two 0 1)) 2 o k) : k = 1 ∧ o 0 = 0 ∧ o 1 = 0 := by
  have h0 : o 0 = 0 := by
    have l := O.lo 0 (by omega)
    rcases Int.lt_or_eq_of_le l.1 with q | q
    · obtain ⟨y, h1, _⟩ := O.first 0 (by omega) 0 q
      omega
    · exact q.symm
  have h1 : o 1 = 0 := (O.fwd 0 (by omega)).trans h0
  have hk : k = 1 := by
    have l := O.lo 0 (by omega)
    rcases Nat.lt_or_ge 1 k with q | q
    · obtain ⟨y, z1, z2⟩ := O.each 1 q
      rcases (show y = 0 ∨ y = 1 by omega) with rfl | rfl <;> omega
    · omega
  exact ⟨hk, h0, h1⟩
theorem known_shares {o : Nat → Int} {k : Nat} (O : Orb (bh (two 0 1)) 2 o k) : Shares 2 o (two 0 1) (max k 1) 0 1 ((0 : Nat) : Int) true := by
  obtain ⟨rfl, h0, h1⟩ := known_orb O
  exact ⟨by omega, 0, rfl, by omega, ⟨0, by omega, h0, rfl⟩, ⟨1, by omega, h1, rfl⟩, fun g h => by omega⟩
theorem known_halved {o : Nat → Int} {k : Nat} (O : Orb (bh (two 0 1)) 2 o k) : Halved 2 (two 0 1) (two 0 1) o 0 0 1 0 2 0 1 := by
  obtain ⟨rfl, h0, h1⟩ := known_orb O
  exact ⟨by omega, h0, fun j h => by omega, ⟨by omega, rfl, fun i j h h' => by
      rw [show i = 0 by omega, show j = 1 by omega]
      show 0 ≠ 1
      omega⟩, by omega, rfl, fun j h => by omega, by omega, by omega, rfl, fun j h => by
    rw [show j = 0 by omega]
    show (0 : Int) ≠ 1
    omega⟩
theorem known_half {o : Nat → Int} {k : Nat} (O : Orb (bh (two 0 1)) 2 o k) : halfO (two 0 1) o 1 0 0 1 2 0 = 0 ∧ halfO (two 0 1) o 1 0 0 1 2 1 = 1 := by
  have H := known_halved O
  have p : Perm (bh (two 0 1)) 2 := ⟨two_cases (by show 1 < 2; omega) (by show 0 < 2; omega), fun x y hx hy e => by
    have e : (two 0 1 (oth x)).toNat = (two 0 1 (oth y)).toNat := e
    rcases (show x = 0 ∨ x = 1 by omega) with rfl | rfl <;> rcases (show y = 0 ∨ y = 1 by omega) with rfl | rfl
    · rfl
    · exact absurd e (by show ¬ (1 = 0); omega)
    · exact absurd e (by show ¬ (0 = 1); omega)
    · rfl⟩
  have a := H.value O p 1 (j := 0) (by omega)
  have b := H.value O p 1 (j := 1) (by omega)
  exact ⟨a, b⟩

theorem field_N (N : Int) (A1 A2 A3 : Option Addr) (n1 c1 n2 c2 n3 c3 : Nat) (w : World) : (Instr.field 25 (.agg #[.int .i64 N, .slice A1 n1 c1, .slice A2 n2 c2, .slice A3 n3 c3]) 0).run Try.prog w = .ok (.int .i64 N) w := by
  kernel_rfl

set_option maxRecDepth 100000 in
set_option maxHeartbeats 12800000 in
theorem known3_ok (w : World) : Calls Try.prog 13 #[] w fun e w' => e = .returned (.bool true) ∧ Below w.heap.size w w' := by
  have gr : Grown 2 2 (two 0 1) (two 0 1) (two 5 3) := Grown.edge1 rfl rfl rfl rfl (by show (0 : Int) ≤ 5 ∧ (5 : Int) ≤ 2147483648; omega) (by show (0 : Int) ≤ 3 ∧ (3 : Int) ≤ 2147483648; omega)
  have gd := gr.good
  have pb := gr.turns.perm.bh gd.even
  have g1 : Grown 1 0 (fun _ => 0) (fun _ => 0) (fun _ => 0) := Grown.start _ _ _
  have gd1 := g1.good
  have pb1 := g1.turns.perm.bh gd1.even
  clear gr g1
  go_enter Try.func13, Try.ntmps13
  go_upto_region 2 with fail
  have R1 := fresh3 w w.heap.size (Nat.le_refl _) 0 1 0 1 5 3
  have B1 := below3 w (.cells #[.int .i64 0, .int .i64 1] 3) (.cells #[.int .i64 0, .int .i64 1] 3) (.cells #[.int .i64 5, .int .i64 3] 3)
  have s1 : (((w.alloc (.cells #[.int .i64 0, .int .i64 1] 3)).alloc (.cells #[.int .i64 0, .int .i64 1] 3)).alloc (.cells #[.int .i64 5, .int .i64 3] 3)).heap.size = w.heap.size + 1 + 1 + 1 := by simp
  generalize (((w.alloc (.cells #[.int .i64 0, .int .i64 1] 3)).alloc (.cells #[.int .i64 0, .int .i64 1] 3)).alloc (.cells #[.int .i64 5, .int .i64 3] 3)) = w1 at *
  obtain ⟨w2, hw2, X2, R2, b2⟩ := rows_enter 2 R1
  have B2 := B1.trans (b2.mono B1.size)
  rw [s1] at X2
  rw [hw2]
  clear hw2 b2 R1 B1 s1 w1
  obtain ⟨g, hg⟩ : ∃ g, g = w.heap.size := ⟨_, rfl⟩
  rw [← hg] at X2 R2 ⊢
  clear hg
  have NN := NetAt.of X2 R2
  clear X2 R2
  have c0 := NN.c0
  have c1 := NN.c1
  have c2 := NN.c2
  have c3 := NN.c3
  go_wp2_with fail
  refine (shared_ok _ 2 _ _ _ 2 _ _ _ NN.rt NN.rx NN.rc gd pb 0 1).mono ?_
  rintro e w3 ⟨o, k, r, b, O, rfl, S, b3⟩
  obtain ⟨rfl, rfl⟩ := S.one (known_shares O) (fun _ _ => rfl)
  replace NN := NN.below b3 (Nat.le_refl _)
  replace B2 := B2.trans (b3.mono B2.size)
  clear b3 O S
  replace c0 := NN.c0
  replace c1 := NN.c1
  replace c2 := NN.c2
  replace c3 := NN.c3
  go_wp2_with fail
  refine (split_ok _ 2 _ _ _ 2 _ _ _ NN.rt NN.rx NN.rc gd pb 0 1).mono ?_
  rintro e w4 ⟨o, k, O, b4, ⟨S, -⟩ | ⟨f, e0, l, a, r, b, cap, S, H, rfl, Oh, hb⟩⟩
  · exact absurd (S.one (known_shares O) (fun _ _ => rfl)).2 (by simp)
  obtain ⟨hf, -⟩ := S.one (known_shares O) (fun _ _ => rfl)
  obtain rfl : f = 0 := by omega
  obtain ⟨rfl, rfl, rfl, rfl⟩ := H.one (known_halved O) (fun _ _ => rfl)
  obtain ⟨k1, -, -⟩ := known_orb O
  subst k1
  obtain ⟨v0, v1⟩ := known_half O
  have a0 := Oh.cell (j := 0) (by omega)
  have a1 := Oh.cell (j := 1) (by omega)
  have v0' : halfO (two 0 1) o ((max 1 1 : Nat) : Int) 0 0 1 2 0 = 0 := v0
  have v1' : halfO (two 0 1) o ((max 1 1 : Nat) : Int) 0 0 1 2 1 = 1 := v1
  rw [v0'] at a0
  rw [v1'] at a1
  have lb := Oh.lt (k := b) rfl
  replace NN := NN.below b4 (Nat.le_refl _)
  replace B2 := B2.trans (b4.mono B2.size)
  clear b4 O S H Oh hf v0 v1 v0' v1' hb
  replace c0 := NN.c0
  replace c1 := NN.c1
  replace c2 := NN.c2
  replace c3 := NN.c3
  go_wp2_with fail
  refine (make_ok _ 1 _ _ _ 0 (fun _ => 0) (fun _ => 0) (fun _ => 0) (Ow.nil _ _).rd (Ow.nil _ _).rd (Ow.nil _ _).rd gd1 pb1).mono ?_
  rintro e w5 ⟨T', X', C', o5, k5, rfl, R5, O5, b5⟩
  have k50 := O5.le
  obtain rfl : k5 = 0 := by omega
  replace NN := NN.below b5 (Nat.le_refl _)
  replace B2 := B2.trans (b5.mono B2.size)
  replace a0 := (b5.cell (p := ⟨b, 0, none⟩) lb).trans a0
  replace a1 := (b5.cell (p := ⟨b, 1, none⟩) lb).trans a1
  replace lb := Nat.lt_of_lt_of_le lb b5.size
  clear b5 O5 k50 c0 c1 c2 c3
  go_wp2_with fail
  refine (same_ok _ 1 _ _ _ _ _ _ 0 _ _ _ _ _ _ (by omega) R5.ot.rd R5.ox.rd R5.oc.rd (Ow.nil _ (fun _ => 0)).rd (Ow.nil _ (fun _ => 0)).rd (Ow.nil _ (fun _ => 0)).rd (fun j h => by omega) (fun j h => by omega) (fun j h => by omega)).mono ?_
  rintro e w6 ⟨rfl, b6⟩
  replace NN := NN.below b6 (Nat.le_refl _)
  replace B2 := B2.trans (b6.mono B2.size)
  replace a0 := (b6.cell (p := ⟨b, 0, none⟩) lb).trans a0
  replace a1 := (b6.cell (p := ⟨b, 1, none⟩) lb).trans a1
  replace lb := Nat.lt_of_lt_of_le lb b6.size
  clear b6 R5
  have c0 := NN.c0
  have c1 := NN.c1
  have c2 := NN.c2
  have c3 := NN.c3
  go_wp2_with fail
  refine (make_ok _ 2 _ _ _ 2 _ _ _ NN.rt NN.rx NN.rc gd pb).mono ?_
  rintro e w7 ⟨T', X', C', o5, k5, rfl, R5, O5, b7⟩
  obtain ⟨k1, -, -⟩ := known_orb O5
  subst k1
  obtain ⟨TA, tp, rfl, -⟩ := id R5.ot.rd
  obtain ⟨XA, xp, rfl, -⟩ := id R5.ox.rd
  obtain ⟨CA, cp, rfl, -⟩ := id R5.oc.rd
  have fN := fun w => field_N 1 TA XA CA 2 tp 2 xp 2 cp w
  replace B2 := B2.trans (b7.mono B2.size)
  replace a0 := (b7.cell (p := ⟨b, 0, none⟩) lb).trans a0
  replace a1 := (b7.cell (p := ⟨b, 1, none⟩) lb).trans a1
  clear b7 R5 O5 c0 c1 c2 c3
  go_wp2_with fail
  go_ret
  exact ⟨rfl, B2⟩
end Go.Proofs.Ytbnghpemlcmogaa.Ro
