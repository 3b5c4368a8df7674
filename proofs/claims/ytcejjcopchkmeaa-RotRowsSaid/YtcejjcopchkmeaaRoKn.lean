/- Walks: known, of chapter 2. -/
import Derived.Test.YtcejjcopchkmeaaRoTu
import Derived.Test.YtcejjcopchkmeaaRoCa
import Derived.Test.YtcejjcopchkmeaaRoK
namespace Go.Proofs.Ytcejjcopchkmeaa.Ro
open Go.RowKit Go.Proofs Go.Maps
set_option linter.unusedVariables false
set_option maxRecDepth 100000
set_option linter.unusedSimpArgs false

theorem known_grown (c : Nat → Int) (h0 : 0 ≤ c 0 ∧ c 0 ≤ 2147483648) (h1 : 0 ≤ c 1 ∧ c 1 ≤ 2147483648) : Grown 2 2 (two 0 1) (two 0 1) c := Grown.edge1 rfl rfl rfl rfl h0 h1
theorem known_about : Rnd (ab (two 0 1)) 1 1 := ⟨by omega, rfl, fun i j h h' => by omega⟩
theorem known_face : Rnd (bh (two 0 1)) 0 2 := ⟨by omega, rfl, fun i j h h' => by
  rw [show i = 0 by omega, show j = 1 by omega]
  show 0 ≠ 1
  omega⟩

theorem field_N (N : Int) (A1 A2 A3 : Option Addr) (n1 c1 n2 c2 n3 c3 : Nat) (w : World) : (Instr.field 25 (.agg #[.int .i64 N, .slice A1 n1 c1, .slice A2 n2 c2, .slice A3 n3 c3]) 0).run Try.prog w = .ok (.int .i64 N) w := by
  kernel_rfl

set_option maxRecDepth 100000 in
set_option maxHeartbeats 12800000 in
theorem known_ok (w : World) : Calls Try.prog 15 #[] w fun e w' => e = .returned (.bool true) ∧ Below w.heap.size w w' := by
  have gr := known_grown (two 5 3) (by show (0 : Int) ≤ 5 ∧ (5 : Int) ≤ 2147483648; omega) (by show (0 : Int) ≤ 3 ∧ (3 : Int) ≤ 2147483648; omega)
  have pn := gr.plane
  have gd := gr.good
  have pa := gr.turns.perm
  have pb := pa.bh gd.even
  have G := Lib.hid gr
  have P1 : Plane 1 0 (fun _ => 0) (fun _ => 0) (fun _ => 0) := (Grown.start _ _ _).plane
  clear gr
  go_enter Try.func15, Try.ntmps15
  go_upto_region 2 with fail
  have R1 := fresh3 w w.heap.size (Nat.le_refl _) 0 1 0 1 5 3
  have B1 := below3 w (.cells #[.int .i64 0, .int .i64 1] 3) (.cells #[.int .i64 0, .int .i64 1] 3) (.cells #[.int .i64 5, .int .i64 3] 3)
  have s1 : (((w.alloc (.cells #[.int .i64 0, .int .i64 1] 3)).alloc (.cells #[.int .i64 0, .int .i64 1] 3)).alloc (.cells #[.int .i64 5, .int .i64 3] 3)).heap.size = w.heap.size + 1 + 1 + 1 := by simp
  generalize (((w.alloc (.cells #[.int .i64 0, .int .i64 1] 3)).alloc (.cells #[.int .i64 0, .int .i64 1] 3)).alloc (.cells #[.int .i64 5, .int .i64 3] 3)) = w1 at *
  have X2 : Box (w1.alloc (.cells #[.int .i64 2, .slice (some ⟨w.heap.size, 0, none⟩) 2 2, .slice (some ⟨w.heap.size + 1, 0, none⟩) 2 2, .slice (some ⟨w.heap.size + 1 + 1, 0, none⟩) 2 2] 25)) w1.heap.size 2 (.slice (some ⟨w.heap.size, 0, none⟩) 2 2) (.slice (some ⟨w.heap.size + 1, 0, none⟩) 2 2) (.slice (some ⟨w.heap.size + 1 + 1, 0, none⟩) 2 2) := heap_alloc_new _ _
  have b2 : Below w1.heap.size w1 (w1.alloc (.cells #[.int .i64 2, .slice (some ⟨w.heap.size, 0, none⟩) 2 2, .slice (some ⟨w.heap.size + 1, 0, none⟩) 2 2, .slice (some ⟨w.heap.size + 1 + 1, 0, none⟩) 2 2] 25)) := (Below.refl _ _).alloc (Nat.le_refl _) _
  have R2 := R1.below b2 (Nat.le_refl _)
  have B2 := B1.trans (b2.mono B1.size)
  rw [s1] at X2
  clear b2 R1 B1 s1
  generalize (w1.alloc (.cells #[.int .i64 2, .slice (some ⟨w.heap.size, 0, none⟩) 2 2, .slice (some ⟨w.heap.size + 1, 0, none⟩) 2 2, .slice (some ⟨w.heap.size + 1 + 1, 0, none⟩) 2 2] 25)) = w2 at *
  clear w1
  obtain ⟨g, hg⟩ : ∃ g, g = w.heap.size := ⟨_, rfl⟩
  rw [← hg] at X2 R2 ⊢
  clear hg
  have pl := blk_lt X2
  have c0 : w2.cell? ⟨g + 1 + 1 + 1, 0, none⟩ = some (.int .i64 2) := blk_cell X2 0
  have c1 : w2.cell? ⟨g + 1 + 1 + 1, 1, none⟩ = some (.slice (some ⟨g, 0, none⟩) 2 2) := blk_cell X2 1
  have c2 : w2.cell? ⟨g + 1 + 1 + 1, 2, none⟩ = some (.slice (some ⟨g + 1, 0, none⟩) 2 2) := blk_cell X2 2
  have c3 : w2.cell? ⟨g + 1 + 1 + 1, 3, none⟩ = some (.slice (some ⟨g + 1 + 1, 0, none⟩) 2 2) := blk_cell X2 3
  go_wp2_with fail
  refine (faces_ok _ 2 _ _ _ 2 _ _ _ R2.ot.rd R2.ox.rd R2.oc.rd gd pb).mono ?_
  rintro e w3 ⟨fv, fo, fk, rfl, F3, -, O3, b3⟩
  have eu := pn.euler _ _ O3
  obtain ⟨FA, fc, rfl, -⟩ := id F3.rd
  have ek : (((max fk 1 : Nat)) : Int) = 1 := by omega
  rw [ek]
  have R3 := R2.below b3 (Nat.le_refl _)
  have X3 := X2.below b3 (Nat.le_refl _)
  have B3 := B2.trans (b3.mono B2.size)
  clear b3 R2 X2 B2 c0 c1 c2 c3 pl O3 F3 eu ek
  have pl := blk_lt X3
  have c0 : w3.cell? ⟨g + 1 + 1 + 1, 0, none⟩ = some (.int .i64 2) := blk_cell X3 0
  have c1 : w3.cell? ⟨g + 1 + 1 + 1, 1, none⟩ = some (.slice (some ⟨g, 0, none⟩) 2 2) := blk_cell X3 1
  have c2 : w3.cell? ⟨g + 1 + 1 + 1, 2, none⟩ = some (.slice (some ⟨g + 1, 0, none⟩) 2 2) := blk_cell X3 2
  have c3 : w3.cell? ⟨g + 1 + 1 + 1, 3, none⟩ = some (.slice (some ⟨g + 1 + 1, 0, none⟩) 2 2) := blk_cell X3 3
  go_wp2_with fail
  refine (parts_ok _ 2 _ _ _ 2 _ _ _ R3.ot.rd R3.ox.rd R3.oc.rd gd).mono ?_
  rintro e w4 ⟨pv, po, pk, rfl, P4, -, O4, b4⟩
  obtain ⟨PA, pc, rfl, -⟩ := id P4.rd
  have ek := pn.whole _ _ O4
  rw [ek]
  have R4 := R3.below b4 (Nat.le_refl _)
  have X4 := X3.below b4 (Nat.le_refl _)
  have B4 := B3.trans (b4.mono B3.size)
  clear b4 R3 X3 B3 c0 c1 c2 c3 pl O4 P4 ek
  have pl := blk_lt X4
  have c0 : w4.cell? ⟨g + 1 + 1 + 1, 0, none⟩ = some (.int .i64 2) := blk_cell X4 0
  have c1 : w4.cell? ⟨g + 1 + 1 + 1, 1, none⟩ = some (.slice (some ⟨g, 0, none⟩) 2 2) := blk_cell X4 1
  have c2 : w4.cell? ⟨g + 1 + 1 + 1, 2, none⟩ = some (.slice (some ⟨g + 1, 0, none⟩) 2 2) := blk_cell X4 2
  have c3 : w4.cell? ⟨g + 1 + 1 + 1, 3, none⟩ = some (.slice (some ⟨g + 1 + 1, 0, none⟩) 2 2) := blk_cell X4 3
  go_upto_region 4 with fail
  go_region_held3 (fun w' => w'.cell? ⟨g + 1 + 1 + 1, 0, none⟩ = some (.int .i64 2) ∧ w'.cell? ⟨g + 1 + 1 + 1, 1, none⟩ = some (.slice (some ⟨g, 0, none⟩) 2 2) ∧ w'.cell? ⟨g + 1 + 1 + 1, 2, none⟩ = some (.slice (some ⟨g + 1, 0, none⟩) 2 2) ∧ w'.cell? ⟨g + 1 + 1 + 1, 3, none⟩ = some (.slice (some ⟨g + 1 + 1, 0, none⟩) 2 2))
    (first | with_reducible exact k1 | go_keep)
    (first
      | (go_at_call 31; refine (about_ok _ 2 _ _ _ 2 (two 0 1) (two 0 1) (two 5 3) (R4.below (w' := w4.drew) (Below.refl _ w4).drew (Nat.le_refl _)).ot.rd (R4.below (w' := w4.drew) (Below.refl _ w4).drew (Nat.le_refl _)).ox.rd (R4.below (w' := w4.drew) (Below.refl _ w4).drew (Nat.le_refl _)).oc.rd gd pa 1 (by omega)).mono ?_; rintro e w5 ⟨ab1, ak, acur, rfl, -, -, -, Ra, b5⟩; have B5 : Below w4.heap.size w4 w5 := (Below.refl _ w4).drew.trans (b5.mono (Nat.le_refl _)); have ea := Ra.one known_about; subst ea; have k1 := And.intro ((B5.cell (p := ⟨g + 1 + 1 + 1, 0, none⟩) pl).trans c0) (And.intro ((B5.cell (p := ⟨g + 1 + 1 + 1, 1, none⟩) pl).trans c1) (And.intro ((B5.cell (p := ⟨g + 1 + 1 + 1, 2, none⟩) pl).trans c2) ((B5.cell (p := ⟨g + 1 + 1 + 1, 3, none⟩) pl).trans c3))); clear b5)
      | (go_at_call 33; refine (face_ok w5 2 _ _ _ 2 (two 0 1) (two 0 1) (two 5 3) (R4.below B5 (Nat.le_refl _)).ot.rd (R4.below B5 (Nat.le_refl _)).ox.rd (R4.below B5 (Nat.le_refl _)).oc.rd gd pb 0 (by omega)).mono ?_; rintro e w6 ⟨fb1, fkk, fcur, rfl, -, -, -, Rf, b6⟩; have B6 : Below w4.heap.size w4 w6 := B5.trans (b6.mono B5.size); have ef := Rf.one known_face; subst ef; have k1 := And.intro ((B6.cell (p := ⟨g + 1 + 1 + 1, 0, none⟩) pl).trans c0) (And.intro ((B6.cell (p := ⟨g + 1 + 1 + 1, 1, none⟩) pl).trans c1) (And.intro ((B6.cell (p := ⟨g + 1 + 1 + 1, 2, none⟩) pl).trans c2) ((B6.cell (p := ⟨g + 1 + 1 + 1, 3, none⟩) pl).trans c3))); clear b6))
  go_upto_region 5 with fail
  have R7 := R4.below B6 (Nat.le_refl _)
  have X7 := X4.below B6 (Nat.le_refl _)
  have B7 := B4.trans (B6.mono B4.size)
  clear R4 X4 B4 B6 B5 k1 c0 c1 c2 c3 pl
  generalize w6 = w7 at *
  have pl := blk_lt X7
  have c0 : w7.cell? ⟨g + 1 + 1 + 1, 0, none⟩ = some (.int .i64 2) := blk_cell X7 0
  have c1 : w7.cell? ⟨g + 1 + 1 + 1, 1, none⟩ = some (.slice (some ⟨g, 0, none⟩) 2 2) := blk_cell X7 1
  have c2 : w7.cell? ⟨g + 1 + 1 + 1, 2, none⟩ = some (.slice (some ⟨g + 1, 0, none⟩) 2 2) := blk_cell X7 2
  have c3 : w7.cell? ⟨g + 1 + 1 + 1, 3, none⟩ = some (.slice (some ⟨g + 1 + 1, 0, none⟩) 2 2) := blk_cell X7 3
  go_wp2_with fail
  refine (check_ok _ 1 _ _ _ 0 (fun _ => 0) (fun _ => 0) (fun _ => 0) (Ow.nil _ _).rd (Ow.nil _ _).rd (Ow.nil _ _).rd P1).mono ?_
  rintro e w8 ⟨rfl, b8⟩
  have R8 := R7.below b8 (Nat.le_refl _)
  have X8 := X7.below b8 (Nat.le_refl _)
  have B8 := B7.trans (b8.mono B7.size)
  clear b8 R7 X7 B7 c0 c1 c2 c3 pl
  have pl := blk_lt X8
  have c0 : w8.cell? ⟨g + 1 + 1 + 1, 0, none⟩ = some (.int .i64 2) := blk_cell X8 0
  have c1 : w8.cell? ⟨g + 1 + 1 + 1, 1, none⟩ = some (.slice (some ⟨g, 0, none⟩) 2 2) := blk_cell X8 1
  have c2 : w8.cell? ⟨g + 1 + 1 + 1, 2, none⟩ = some (.slice (some ⟨g + 1, 0, none⟩) 2 2) := blk_cell X8 2
  have c3 : w8.cell? ⟨g + 1 + 1 + 1, 3, none⟩ = some (.slice (some ⟨g + 1 + 1, 0, none⟩) 2 2) := blk_cell X8 3
  go_wp2_with fail
  refine (check_ok _ 2 _ _ _ 2 (two 0 1) (two 0 1) (two 5 3) R8.ot.rd R8.ox.rd R8.oc.rd pn).mono ?_
  rintro e w9 ⟨rfl, b9⟩
  have R9 := R8.below b9 (Nat.le_refl _)
  have X9 := X8.below b9 (Nat.le_refl _)
  have B9 := B8.trans (b9.mono B8.size)
  clear b9 R8 X8 B8 c0 c1 c2 c3 pl
  have pl := blk_lt X9
  have c0 : w9.cell? ⟨g + 1 + 1 + 1, 0, none⟩ = some (.int .i64 2) := blk_cell X9 0
  have c1 : w9.cell? ⟨g + 1 + 1 + 1, 1, none⟩ = some (.slice (some ⟨g, 0, none⟩) 2 2) := blk_cell X9 1
  have c2 : w9.cell? ⟨g + 1 + 1 + 1, 2, none⟩ = some (.slice (some ⟨g + 1, 0, none⟩) 2 2) := blk_cell X9 2
  have c3 : w9.cell? ⟨g + 1 + 1 + 1, 3, none⟩ = some (.slice (some ⟨g + 1 + 1, 0, none⟩) 2 2) := blk_cell X9 3
  go_wp2_with fail
  refine (head_ok _ 2 _ _ _ 2 (two 0 1) R9.ot.rd 0 (by omega) (by show 1 < 2; omega)).mono ?_
  rintro e w10 ⟨rfl, b10⟩
  have h1 : two 0 1 (oth 0) = 1 := rfl
  rw [h1]
  have R10 := R9.below b10 (Nat.le_refl _)
  have X10 := X9.below b10 (Nat.le_refl _)
  have B10 := B9.trans (b10.mono B9.size)
  clear b10 R9 X9 B9 c0 c1 c2 c3 pl
  have pl := blk_lt X10
  have c0 : w10.cell? ⟨g + 1 + 1 + 1, 0, none⟩ = some (.int .i64 2) := blk_cell X10 0
  have c1 : w10.cell? ⟨g + 1 + 1 + 1, 1, none⟩ = some (.slice (some ⟨g, 0, none⟩) 2 2) := blk_cell X10 1
  have c2 : w10.cell? ⟨g + 1 + 1 + 1, 2, none⟩ = some (.slice (some ⟨g + 1, 0, none⟩) 2 2) := blk_cell X10 2
  have c3 : w10.cell? ⟨g + 1 + 1 + 1, 3, none⟩ = some (.slice (some ⟨g + 1 + 1, 0, none⟩) 2 2) := blk_cell X10 3
  clear h1
  go_wp2_with fail
  refine (turn_ok _ 2 _ _ _ 2 (two 0 1) (two 0 1) (two 5 3) R10.ot.rd R10.ox.rd R10.oc.rd (by omega) gd.next).mono ?_
  rintro e w11 ⟨T', X', C', rfl, RT, b11⟩
  obtain ⟨TA, tp, rfl, -⟩ := id RT.ot.rd
  obtain ⟨XA, xp, rfl, -⟩ := id RT.ox.rd
  obtain ⟨CA, cp, rfl, -⟩ := id RT.oc.rd
  clear RT
  have hf := field_N 2 TA XA CA 2 tp 2 xp 2 cp w11
  have R11 := R10.below b11 (Nat.le_refl _)
  have X11 := X10.below b11 (Nat.le_refl _)
  have B11 := B10.trans (b11.mono B10.size)
  clear b11 R10 X10 B10 c0 c1 c2 c3 pl
  have pl := blk_lt X11
  have c0 : w11.cell? ⟨g + 1 + 1 + 1, 0, none⟩ = some (.int .i64 2) := blk_cell X11 0
  have c1 : w11.cell? ⟨g + 1 + 1 + 1, 1, none⟩ = some (.slice (some ⟨g, 0, none⟩) 2 2) := blk_cell X11 1
  have c2 : w11.cell? ⟨g + 1 + 1 + 1, 2, none⟩ = some (.slice (some ⟨g + 1, 0, none⟩) 2 2) := blk_cell X11 2
  have c3 : w11.cell? ⟨g + 1 + 1 + 1, 3, none⟩ = some (.slice (some ⟨g + 1 + 1, 0, none⟩) 2 2) := blk_cell X11 3
  go_wp2_with fail
  go_ret
  exact ⟨rfl, B11⟩
end Go.Proofs.Ytcejjcopchkmeaa.Ro
