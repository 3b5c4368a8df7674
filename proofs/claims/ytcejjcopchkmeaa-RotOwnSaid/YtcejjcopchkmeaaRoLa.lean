/- Walks: the law RotHeads. -/
import Derived.Test.YtcejjcopchkmeaaRoKn
namespace Go.Proofs.Ytcejjcopchkmeaa.Ro
open Go.RowKit Go.Proofs Go.Maps
set_option linter.unusedVariables false
set_option linter.unusedSimpArgs false

theorem small_within {d : Int} {m : Nat} (h0 : 0 < m) : ∃ x : Nat, d % (m : Int) = (x : Int) ∧ x < m :=
  ⟨(d % (m : Int)).toNat, by have := Int.emod_nonneg d (b := (m : Int)) (by omega); omega, by have := Int.emod_nonneg d (b := (m : Int)) (by omega); have := Int.emod_lt_of_pos d (b := (m : Int)) (by omega); omega⟩

set_option maxRecDepth 100000 in
set_option maxHeartbeats 6400000 in
theorem heads_walk (A : Option Addr) (len cap : Nat) (zs : List Int) (d : Int) (w : World) (hV : Rd w (.slice A len cap) len (fun i => zs.getD i 0)) (hz : ∀ i, i < len → Small (zs.getD i 0)) (hl : len ≤ 9223372036854775807) (hd : Small d) :
    Calls Try.prog 10 #[.slice A len cap, .int .i64 d] w fun e w' => e = .returned (.bool true) ∧ Below w.heap.size w w' := by
  have hok := planeUp_ok (fun i => zs.getD i 0) (min len 24) (Nat.min_le_right _ _)
  go_enter Try.func10, Try.ntmps10
  go_wp2_with fail
  refine (known_ok _).mono ?_
  rintro e w1 ⟨rfl, B1⟩
  go_wp2_with fail
  refine (plane_any _ _ len _ (hV.below B1 (Nat.le_refl _)) hz hl).mono ?_
  rintro e w2 ⟨T, X, C, rfl, R2, b2⟩
  have B2 := B1.trans (b2.mono B1.size)
  obtain ⟨gr, hN, hM, hM0⟩ := hok
  have hpl : planeOf (fun i => zs.getD i 0) len = planeUp (fun i => zs.getD i 0) (min len 24) := rfl
  rw [hpl] at R2 ⊢
  clear hpl b2 B1 hz
  generalize planeUp (fun i => zs.getD i 0) (min len 24) = s at *
  obtain ⟨N, m, t, x, c⟩ := s
  dsimp only at *
  have gd : Good N m t x := gr.good
  obtain ⟨TA, tp, rfl, -⟩ := id R2.ot.rd
  obtain ⟨XA, xp, rfl, -⟩ := id R2.ox.rd
  obtain ⟨CA, cp, rfl, -⟩ := id R2.oc.rd
  have hmm : m ≤ 48 := by omega
  clear hM hN hM0
  go_upto_region 4 with fail
  have X3 : Box (w2.alloc (.cells #[.int .i64 (N : Int), .slice TA m tp, .slice XA m xp, .slice CA m cp] 25)) w2.heap.size N (.slice TA m tp) (.slice XA m xp) (.slice CA m cp) := heap_alloc_new _ _
  have b3 : Below w2.heap.size w2 (w2.alloc (.cells #[.int .i64 (N : Int), .slice TA m tp, .slice XA m xp, .slice CA m cp] 25)) := (Below.refl _ _).alloc (Nat.le_refl _) _
  have R3 := R2.below b3 (Nat.le_refl _)
  have B3 := B2.trans (b3.mono B2.size)
  clear b3 R2 B2
  generalize w2.alloc (.cells #[.int .i64 (N : Int), .slice TA m tp, .slice XA m xp, .slice CA m cp] 25) = w3 at *
  generalize w2.heap.size = p at *
  have c1 : w3.cell? ⟨p, 1, none⟩ = some (.slice TA m tp) := blk_cell X3 1
  by_cases hm : m = 0
  · subst hm
    go_wp2_with fail
    go_ret
    exact ⟨rfl, B3⟩
  · have hb : ((m : Int) == 0) = false := by simp; omega
    have hm1 : (0 : Int) < (m : Int) := by omega
    clear hm
    go_wp2_with fail
    refine (within2_any _ d (m : Int) hd hm1 (by omega)).mono ?_
    rintro e w4 ⟨rfl, rfl⟩
    obtain ⟨j, hj, hjm⟩ := small_within (d := d) (m := m) (by omega)
    rw [hj]
    clear hb hj
    obtain ⟨tb, tcp, te, -⟩ := R3.ot.form (by omega)
    injection te with te1 te2 te3
    subst te1 te3
    have ho := oth_lt hjm gd.even
    have pl := blk_lt X3
    have c0 : w3.cell? ⟨p, 0, none⟩ = some (.int .i64 (N : Int)) := blk_cell X3 0
    have c2 : w3.cell? ⟨p, 2, none⟩ = some (.slice XA m xp) := blk_cell X3 2
    have c3 : w3.cell? ⟨p, 3, none⟩ = some (.slice CA m cp) := blk_cell X3 3
    have t1 := R3.ot.cell ho
    have t2 := R3.ot.cell hjm
    have tl := R3.ot.lt (k := tb) rfl
    have i1 : (oth j : Int) < (m : Int) := by omega
    have i2 : (j : Int) < (m : Int) := by omega
    have i3 : (0 : Int) ≤ (oth j : Int) := by omega
    have i4 : (0 : Int) ≤ (j : Int) := by omega
    have hx := xor_one j (by omega)
    have hoo := oth_oth j
    have HOO := Lib.hid hoo
    clear hoo
    have HT := Lib.hid R3.ot.rd
    have q1 : (t (oth j) == t (oth j)) = true := by simp
    have q2 : (t j == t j) = true := by simp
    go_upto_region 7 with fail
    go_region_held3 (fun w' => w'.cell? ⟨p, 0, none⟩ = some (.int .i64 (N : Int)) ∧ w'.cell? ⟨p, 1, none⟩ = some (.slice (some ⟨tb, 0, none⟩) m tp) ∧ w'.cell? ⟨p, 2, none⟩ = some (.slice XA m xp) ∧ w'.cell? ⟨p, 3, none⟩ = some (.slice CA m cp) ∧ w'.cell? ⟨tb, oth j, none⟩ = some (.int .i64 (t (oth j))) ∧ w'.cell? ⟨tb, j, none⟩ = some (.int .i64 (t j)))
      (first | with_reducible exact k1 | go_keep)
      (first
        | (go_at_call_of 29 (Value.int IntKind.i64 (j : Int)); refine (head_ok w3.drew N _ _ _ m t (HT.out.below (w' := w3.drew) (Below.refl _ w3).drew (Nat.le_refl _)) j (by omega) ho).mono ?_; rintro e w5 ⟨rfl, b5⟩; have B5 : Below w3.heap.size w3 w5 := (Below.refl _ w3).drew.trans (b5.mono (Nat.le_refl _)); have k1 := And.intro ((B5.cell (p := ⟨p, 0, none⟩) pl).trans c0) (And.intro ((B5.cell (p := ⟨p, 1, none⟩) pl).trans c1) (And.intro ((B5.cell (p := ⟨p, 2, none⟩) pl).trans c2) (And.intro ((B5.cell (p := ⟨p, 3, none⟩) pl).trans c3) (And.intro ((B5.cell (p := ⟨tb, oth j, none⟩) tl).trans t1) ((B5.cell (p := ⟨tb, j, none⟩) tl).trans t2))))); clear b5)
        | (go_at_call_of 29 (Value.int IntKind.i64 (oth j : Int)); refine (head_ok w5 N _ _ _ m t (HT.out.below B5 (Nat.le_refl _)) (oth j) (by omega) (by rw [HOO.out]; omega)).mono ?_; rintro e w6 ⟨rfl, b6⟩; rw [HOO.out]; have B6 : Below w3.heap.size w3 w6 := B5.trans (b6.mono B5.size); have k1 := And.intro ((B6.cell (p := ⟨p, 0, none⟩) pl).trans c0) (And.intro ((B6.cell (p := ⟨p, 1, none⟩) pl).trans c1) (And.intro ((B6.cell (p := ⟨p, 2, none⟩) pl).trans c2) (And.intro ((B6.cell (p := ⟨p, 3, none⟩) pl).trans c3) (And.intro ((B6.cell (p := ⟨tb, oth j, none⟩) tl).trans t1) ((B6.cell (p := ⟨tb, j, none⟩) tl).trans t2))))); clear b6))
    go_wp2_with fail
    go_ret
    exact ⟨rfl, B3.trans (B6.mono B3.size)⟩
end Go.Proofs.Ytcejjcopchkmeaa.Ro
