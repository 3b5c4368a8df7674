/- Walks: known, of the laws of chapter 6. -/
import Derived.Test.YtchlccendggfpaaPaZ
import Derived.Test.YtchlccendggfpaaPaM
import Derived.Test.YtchlccendggfpaaPaU
namespace Go.Proofs.Ytchlccendggfpaa.Ro
open Go.RowKit Go.Proofs Go.Maps
set_option linter.unusedVariables false
set_option linter.unusedSimpArgs false

/-- a row of three, as a function -/
def tri {A : Type} (a b c : A) : Nat → A
  | 0 => a
  | 1 => b
  | _ => c
/-- the chapter's arcs -/
def kS : ArcsF := ⟨tri 0 1 0, tri 1 2 2, tri 5 2 9⟩
theorem three {i : Nat} (h : i < 3) : i = 0 ∨ i = 1 ∨ i = 2 := by omega
theorem kS_in : ArcsIn kS 3 3 4294967296 := by
  refine ⟨fun i h => ?_, fun i h => ?_, fun i h => ?_, fun i h => ?_⟩ <;> rcases three h with rfl | rfl | rfl <;> decide
theorem kS_low : ∀ i, i < 3 → 0 ≤ kS.ln i := fun i h => by rcases three h with rfl | rfl | rfl <;> decide
theorem kS_sound : Sound kS 3 0 3 2 (tri 0 5 7) := by
  have w1 : Way kS 3 0 1 5 1 := Way.snoc (S := kS) (i := 0) .nil (by omega)
  have w2 : Way kS 3 0 2 7 2 := Way.snoc (S := kS) (i := 1) w1 (by omega)
  refine ⟨fun v h => ?_, by decide⟩
  rcases three h with rfl | rfl | rfl
  · exact .inr ⟨0, by omega, .nil⟩
  · exact .inr ⟨1, by omega, w1⟩
  · exact .inr ⟨2, by omega, w2⟩
theorem kS_fix : Fix kS 3 (tri 0 5 7) := fun i h _ => by
  rcases three h with rfl | rfl | rfl <;> decide
theorem kS_sound2 : Sound2 kS 3 2 3 2 (tri 7 2 0) (tri 2 1 0) := by
  have w1 : Way kS.rev 3 2 1 2 1 := Way.snoc (S := kS.rev) (i := 1) .nil (by omega)
  have w2 : Way kS.rev 3 2 0 7 2 := Way.snoc (S := kS.rev) (i := 0) w1 (by omega)
  refine ⟨fun v h => ?_, by decide⟩
  rcases three h with rfl | rfl | rfl
  · exact .inr ⟨2, by omega, rfl, w2⟩
  · exact .inr ⟨1, by omega, rfl, w1⟩
  · exact .inr ⟨0, by omega, rfl, .nil⟩
theorem kS_best : Best kS 3 2 3 (tri 7 2 0) (tri 2 1 0) :=
  Fix2.best (fun i h _ => by rcases three h with rfl | rfl | rfl <;> decide) kS_sound2 kS_in (by omega) (by unfold far; omega) (by omega)
theorem kS_trail : Trail kS 3 (tri 7 2 0) (tri 2 1 0) 0 2 2 (tri 0 1 2) (tri 0 1 1) := by
  have two : ∀ {i : Nat}, i < 2 → i = 0 ∨ i = 1 := fun h => by omega
  refine ⟨rfl, fun i h => ?_, fun i h => ?_, fun i h => ?_⟩
  · rcases two h with rfl | rfl
    · exact ⟨by decide, rfl, by decide, rfl, rfl, fun j hj => by change j < 0 at hj; omega⟩
    · exact ⟨by decide, rfl, by decide, rfl, rfl, fun j hj => by
        have : j = 0 := by change j < 1 at hj; omega
        subst this
        rintro ⟨e, _⟩
        exact absurd e (by decide)⟩
  · rcases two h with rfl | rfl <;> decide
  · rcases two h with rfl | rfl <;> rfl
theorem Way.none {S : ArcsF} {s v m : Nat} {c : Int} (h : Way S 0 s v c m) : c = 0 := by
  cases h with
  | nil => rfl
  | snoc _ hi => omega
theorem within_nat {d m : Int} (h : 0 < m) : ∃ j : Nat, d % m = (j : Int) ∧ (j : Int) < m := by
  have h1 := Int.emod_nonneg d (show m ≠ 0 by omega)
  have h2 := Int.emod_lt_of_pos d h
  exact ⟨(d % m).toNat, by omega, by omega⟩
theorem noNeg_of {S : ArcsF} {k s : Nat} (h0 : ∀ i, i < k → 0 ≤ S.ln i) : NoNeg S k s := fun v c m c' m' _ w => w.nonneg h0
theorem RdA.nil (w : World) (S : ArcsF) : RdA w (.slice none 0 0) 0 S := ⟨none, 0, rfl, fun h => by omega⟩

set_option maxRecDepth 100000 in
set_option maxHeartbeats 6400000 in
theorem known6_ok (w : World) :
    Calls Try.prog 13 #[] w fun e w' => e = .returned (.bool true) ∧ Below w.heap.size w w' := by
  go_enter Try.func13, Try.ntmps13
  go_wp2_with fail
  have hV : RdA (w.alloc (.cells #[.int .i64 0, .int .i64 1, .int .i64 5, .int .i64 1, .int .i64 2, .int .i64 2, .int .i64 0, .int .i64 2, .int .i64 9] 30)) (.slice (some ⟨w.heap.size, 0, none⟩) 3 3) 3 kS := by
    refine ⟨_, 3, rfl, fun _ => ⟨w.heap.size, rfl, by simp, fun i hi => ?_⟩⟩
    rw [blk_cell (heap_alloc_new w _), blk_cell (heap_alloc_new w _), blk_cell (heap_alloc_new w _)]
    rcases three hi with rfl | rfl | rfl <;> exact ⟨rfl, rfl, rfl⟩
  have B1 := below_new w (.cells #[.int .i64 0, .int .i64 1, .int .i64 5, .int .i64 1, .int .i64 2, .int .i64 2, .int .i64 0, .int .i64 2, .int .i64 9] 30)
  generalize w.alloc (.cells #[.int .i64 0, .int .i64 1, .int .i64 5, .int .i64 1, .int .i64 2, .int .i64 2, .int .i64 0, .int .i64 2, .int .i64 9] 30) = w1 at *
  refine (from_any w1 3 3 0 _ kS hV kS_in kS_low (by omega) (by omega) (by omega)).mono ?_
  rintro e w2 ⟨bd, cd, d, t, rfl, Od, hbd, SD, ht, FX, b2⟩
  have ed : ∀ v, v < 3 → d v = tri 0 5 7 v := FX.one SD kS_fix kS_sound kS_in (by omega) (by unfold far; omega) (by unfold far; omega) (by omega)
  have HD := Lib.hid (And.intro SD (And.intro FX ht))
  have Od := Od.congr ed
  have B2 := B1.trans (b2.mono B1.size)
  have V2 := hV.below b2 (Nat.le_refl _)
  clear SD FX ed b2 hV ht
  go_wp2_with fail
  refine (way_any w2 3 3 0 2 _ kS V2 kS_in kS_low (by omega) (by omega) (by omega) (by omega)).mono ?_
  rintro e w3 ⟨b3, H⟩
  have hw : ∃ V, e = .returned (.tuple #[V, .bool true]) ∧ OwV w3 w2.heap.size V 2 (tri 0 1 1) := by
    rcases H with ⟨hn, rfl⟩ | ⟨D, F, V, m, p, r, b, hf, rfl, T, hp, O⟩
    · exact absurd (kS_best.way 0 (by omega) (by decide)).choose_spec.2 (hn _ _)
    · obtain ⟨rfl, er⟩ := kS_trail.one T rfl hp kS_in (by omega) kS_best b
      refine ⟨V, rfl, ?_⟩
      rcases O with ⟨h, _⟩ | ⟨h0, b, c, rfl, OS, hb⟩
      · cases h
      · exact .inr ⟨h0, b, c, rfl, OS.congr fun j hj => by
          have := er j hj
          rw [← this]
          have : j = 0 ∨ j = 1 := by omega
          rcases this with rfl | rfl <;> rfl, hb⟩
  obtain ⟨V, rfl, O3⟩ := hw
  clear H
  rcases O3 with ⟨h, _⟩ | ⟨_, bw, cw, rfl, OS, hbw⟩
  · cases h
  have B3 := B2.trans (b3.mono B2.size)
  have V3 := V2.below b3 (Nat.le_refl _)
  have Od3 := Od.below b3 (Nat.le_refl _)
  clear b3 Od V2 B2 B1 hbd hbw
  go_wp2_with fail
  refine (any_any w3 3 3 0 _ kS V3 kS_in (by omega) (by omega) (by omega)).mono ?_
  rintro e w4 ⟨b4, ⟨be, ce, d2, t2, rfl, Oe, hbe, SE, ht2, FE⟩ | ⟨_, _, _, _, _, _, RF⟩⟩
  rotate_left
  · exact absurd (noNeg_of kS_low) RF.bad
  have ee : ∀ v, v < 3 → d2 v = tri 0 5 7 v := FE.one SE kS_fix kS_sound kS_in (by omega) (by unfold far; omega) (by unfold far; omega) (by omega)
  have Oe := Oe.congr ee
  have B4 := B3.trans (b4.mono B3.size)
  have V4 := V3.below b4 (Nat.le_refl _)
  have Od4 := Od3.below b4 (Nat.le_refl _)
  have OS4 := OS.below b4 (Nat.le_refl _)
  clear b4 Od3 V3 B3 OS SE FE ee ht2 hbe
  go_wp2_with fail
  refine (from_any w4 1 0 0 _ kS (RdA.nil w4 kS) ⟨fun i h => by omega, fun i h => by omega, fun i h => by omega, fun i h => by omega⟩ (fun i h => by omega) (by omega) (by omega) (by omega)).mono ?_
  rintro e w5 ⟨bo, co, d3, t3, rfl, Oo, hbo, SO, ht3, FO, b5⟩
  have e0 : ∀ v, v < 1 → d3 v = 0 := fun v hv => by
    obtain rfl : v = 0 := by omega
    rcases SO.each 0 (by omega) with q | ⟨m, _, w⟩
    · have := SO.here; unfold far at q; omega
    · exact w.none
  have Oo := Oo.congr e0
  have B5 := B4.trans (b5.mono B4.size)
  have V5 := V4.below b5 (Nat.le_refl _)
  have Od5 := Od4.below b5 (Nat.le_refl _)
  have OS5 := OS4.below b5 (Nat.le_refl _)
  have Oe5 := Oe.below b5 (Nat.le_refl _)
  clear b5 Od4 V4 B4 OS4 Oe SO FO e0 ht3 hbo
  have c1 := Oo.cell (j := 0) (by omega)
  have c2 : w5.cell? ⟨bd, 2, none⟩ = some (.int .i64 7) := Od5.cell (j := 2) (by omega)
  have c3 : w5.cell? ⟨bw, 1, none⟩ = some (.int .i64 1) := OS5.cell (j := 1) (by omega)
  go_wp2_with fail
  refine (ints6_any w5 _ _ 3 3 _ _ (by omega) (by omega) Od5.rd Oe5.rd).mono ?_
  rintro e w6 ⟨rfl, b6⟩
  have es : sameB 3 3 (tri 0 5 7) (tri 0 5 7) = true := sameB_true.mpr ⟨rfl, fun _ _ => rfl⟩
  rw [es]
  have B6 := B5.trans (b6.mono B5.size)
  have V6 := V5.below b6 (Nat.le_refl _)
  have Od6 := Od5.below b6 (Nat.le_refl _)
  clear b6 Od5 V5 B5 OS5 Oe5 Oo c1 c2 c3 es
  go_wp2_with fail
  refine (right_any w6 3 3 0 3 _ _ kS _ V6 Od6.rd kS_in (by omega) (by omega) (by omega) (by omega)).mono ?_
  rintro e w7 ⟨b7, ⟨d7, t7, S7, ht7, F7, rfl⟩ | ⟨hn, _⟩⟩
  · have e7 : sameB 3 3 d7 (tri 0 5 7) = true := sameB_true.mpr ⟨rfl, F7.one S7 kS_fix kS_sound kS_in (by omega) (by unfold far; omega) (by unfold far; omega) (by omega)⟩
    rw [e7]
    have B7 := B6.trans (b7.mono B6.size)
    clear e7 S7 F7 ht7 b7
    go_wp2_with fail
    go_ret
    exact ⟨rfl, B7⟩
  · exact absurd (noNeg_of kS_low) hn
end Go.Proofs.Ytchlccendggfpaa.Ro
