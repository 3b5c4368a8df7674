/- Walks: Shared, of the reference's chapter 3. -/
import Derived.Test.YtbnghpemlcmogaaRoMt
import Derived.Test.YtbnghpemlcmogaaRoJ2
namespace Go.Proofs.Ytbnghpemlcmogaa.Ro
open Go.RowKit Go.Proofs Go.Maps
set_option linter.unusedVariables false
set_option linter.unusedSimpArgs false

/-- has a round a dart that begins at a vertex -/
def Meets (m : Nat) (o t : Nat → Int) (f v : Int) : Prop := ∃ d, d < m ∧ o d = f ∧ t d = v
/-- what Shared tells of rounds -/
def Shares (m : Nat) (o t : Nat → Int) (k : Nat) (s v r : Int) : Bool → Prop
  | true => s ≠ v ∧ ∃ f : Nat, r = (f : Int) ∧ f < k ∧ Meets m o t f s ∧ Meets m o t f v ∧ ∀ g : Nat, g < f → ¬ (Meets m o t g s ∧ Meets m o t g v)
  | false => r = 0 ∧ (s = v ∨ ∀ g : Nat, g < k → ¬ (Meets m o t g s ∧ Meets m o t g v))
def SharedPost (B : Nat) (w : World) (m : Nat) (x t : Nat → Int) (s v : Int) (e : Ending) (w' : World) : Prop :=
  ∃ o k r b, Orb (bh x) m o k ∧ e = .returned (.tuple #[.int .i64 r, .bool b]) ∧ Shares m o t (max k 1) s v r b ∧ Below B w w'

set_option maxHeartbeats 3200000 in
theorem refShared_ok (w : World) (N : Int) (T X C : Value) (m : Nat) (t x : Nat → Int) (hT : Rd w T m t) (hX : Rd w X m x) (hm : m ≤ 240) (hev : m % 2 = 0) (hn : ∀ d, d < m → 0 ≤ x d) (pf : Perm (bh x) m) (s v : Int) :
    Calls Try.prog 23 #[.agg #[.int .i64 N, T, X, C], .int .i64 s, .int .i64 v] w (SharedPost w.heap.size w m x t s v) := by
  obtain ⟨TA, tp, rfl, -⟩ := id hT
  obtain ⟨XA, xp, rfl, -⟩ := id hX
  go_enter Try.func23, Try.ntmps23
  go_wp2_with fail
  have B1 : Below w.heap.size w (w.alloc (.cells #[.int .i64 N, .slice TA m tp, .slice XA m xp, C] 25)) := (Below.refl _ w).alloc (Nat.le_refl _) _
  have X1 : (w.alloc (.cells #[.int .i64 N, .slice TA m tp, .slice XA m xp, C] 25)).heap[w.heap.size]? = some (.cells #[.int .i64 N, .slice TA m tp, .slice XA m xp, C] 25 (0, 0)) := heap_alloc_new _ _
  generalize (w.alloc (.cells #[.int .i64 N, .slice TA m tp, .slice XA m xp, C] 25)) = w1 at *
  have c0 : w1.cell? ⟨w.heap.size, 0, none⟩ = some (.int .i64 N) := blk_cell X1 0
  have c1 : w1.cell? ⟨w.heap.size, 1, none⟩ = some (.slice TA m tp) := blk_cell X1 1
  have c2 : w1.cell? ⟨w.heap.size, 2, none⟩ = some (.slice XA m xp) := blk_cell X1 2
  have c3 : w1.cell? ⟨w.heap.size, 3, none⟩ = some C := blk_cell X1 3
  refine (refFaces_ok _ N _ _ _ m t x (hT.below B1 (Nat.le_refl _)) (hX.below B1 (Nat.le_refl _)) (by omega) hev hn pf).mono ?_
  rintro e w2 ⟨fb, o, k, rfl, F2, nF, O, km, b2⟩
  have B2 := B1.trans (b2.mono B1.size)
  have X2 : w2.heap[w.heap.size]? = some (.cells #[.int .i64 N, .slice TA m tp, .slice XA m xp, C] 25 (0, 0)) := (b2.block _ (blk_lt X1)).trans X1
  obtain ⟨F, hF⟩ : ∃ F : Nat, F = max k 1 := ⟨_, rfl⟩
  rw [← hF]
  have HF := Lib.hid hF
  have hFm : F ≤ 240 := by omega
  clear hF c0 c1 c2 c3 X1 b2 B1
  go_wp2_with fail
  obtain ⟨p, hp⟩ : ∃ p, p = w.heap.size := ⟨_, rfl⟩
  rw [← hp] at X2 ⊢
  have hle : p ≤ w.heap.size := by omega
  clear hp
  have R2 := F2.rd
  have lp : p < w2.heap.size := blk_lt X2
  have OO := Lib.hid O
  clear F2 O
  go_loopw [10] (fun u wr => ∃ i : Nat, u = .int .i64 (i : Int) ∧ i ≤ F ∧ (∀ g : Nat, g < i → ¬ (Meets m o t g s ∧ Meets m o t g v)) ∧ Below w2.heap.size w2 wr) (fun u _ => F - (intOf u).toNat)
  case atStart => exact ⟨0, rfl, Nat.zero_le _, fun j h => by omega, Below.refl _ _⟩
  case round =>
    obtain ⟨i, rfl, hi, hno, E⟩ := hrel
    have HN := Lib.hid hno
    clear hno
    have Xr : wr.heap[p]? = some (.cells #[.int .i64 N, .slice TA m tp, .slice XA m xp, C] 25 (0, 0)) := (E.block p lp).trans X2
    have Rr := R2.below E (Nat.le_refl _)
    have BB := B2.trans (E.mono B2.size)
    have Tr := hT.below BB (Nat.le_refl _)
    have c0 : wr.cell? ⟨p, 0, none⟩ = some (.int .i64 N) := blk_cell Xr 0
    have c1 : wr.cell? ⟨p, 1, none⟩ = some (.slice TA m tp) := blk_cell Xr 1
    have c2 : wr.cell? ⟨p, 2, none⟩ = some (.slice XA m xp) := blk_cell Xr 2
    have c3 : wr.cell? ⟨p, 3, none⟩ = some C := blk_cell Xr 3
    by_cases hlt : i < F
    · have d1 : (i : Int) < (F : Int) := by omega
      by_cases hsv : s = v
      · have q0 : (s != v) = false := by simpa using hsv
        have HS := Lib.hid hsv
        clear hsv
        go_wp2_with fail
        go_ret2
        exact ⟨o, k, 0, false, OO.out, rfl, ⟨rfl, .inl HS.out⟩, by first | exact BB | exact BB.mono hle⟩
      · have q0 : (s != v) = true := by simpa using hsv
        have HS := Lib.hid hsv
        clear hsv
        go_wp2_with fail
        refine (meets_any wr N _ _ _ _ m t o (i : Int) s Tr Rr (by omega)).mono ?_
        rintro e w5 ⟨b, rfl, hb, b5⟩
        have E5 := E.trans (b5.mono E.size)
        have X5 : w5.heap[p]? = some (.cells #[.int .i64 N, .slice TA m tp, .slice XA m xp, C] 25 (0, 0)) := (E5.block p lp).trans X2
        have R5 := R2.below E5 (Nat.le_refl _)
        have B5 := B2.trans (E5.mono B2.size)
        have T5 := hT.below B5 (Nat.le_refl _)
        clear c0 c1 c2 c3 Xr Rr Tr BB E b5
        have c0 : w5.cell? ⟨p, 0, none⟩ = some (.int .i64 N) := blk_cell X5 0
        have c1 : w5.cell? ⟨p, 1, none⟩ = some (.slice TA m tp) := blk_cell X5 1
        have c2 : w5.cell? ⟨p, 2, none⟩ = some (.slice XA m xp) := blk_cell X5 2
        have c3 : w5.cell? ⟨p, 3, none⟩ = some C := blk_cell X5 3
        have HM := Lib.hid hb
        clear hb
        cases b with
        | false =>
          have H2 : Hid (∀ g : Nat, g < i + 1 → ¬ (Meets m o t g s ∧ Meets m o t g v)) := Lib.hid fun g hg => by
            rcases Nat.lt_or_ge g i with q | q
            · exact HN.out g q
            · rw [show g = i by omega]; exact fun h => by have := HM.out.2 h.1; simp at this
          go_wp2_with fail
          go_roundw
          case rel => exact ⟨i + 1, by simp, by omega, H2.out, E5⟩
          case measure => simp [intOf]; omega
        | true =>
          go_wp2_with fail
          refine (meets_any w5 N _ _ _ _ m t o (i : Int) v T5 R5 (by omega)).mono ?_
          rintro e w6 ⟨b, rfl, hb, b6⟩
          have E6 := E5.trans (b6.mono E5.size)
          have B6 := B2.trans (E6.mono B2.size)
          have HV := Lib.hid hb
          clear hb c0 c1 c2 c3 X5 R5 T5 b6
          cases b with
          | false =>
            have H2 : Hid (∀ g : Nat, g < i + 1 → ¬ (Meets m o t g s ∧ Meets m o t g v)) := Lib.hid fun g hg => by
              rcases Nat.lt_or_ge g i with q | q
              · exact HN.out g q
              · rw [show g = i by omega]; exact fun h => by have := HV.out.2 h.2; simp at this
            go_wp2_with fail
            go_roundw
            case rel => exact ⟨i + 1, by simp, by omega, H2.out, E6⟩
            case measure => simp [intOf]; omega
          | true =>
            go_wp2_with fail
            go_ret2
            exact ⟨o, k, (i : Int), true, OO.out, rfl, ⟨HS.out, i, rfl, by rw [← HF.out]; exact hlt, HM.out.1 trivial, HV.out.1 trivial, HN.out⟩, by first | exact B6 | exact B6.mono hle⟩
    · have d1 : ¬ ((i : Int) < (F : Int)) := by omega
      obtain rfl : F = i := by omega
      go_wp2_with fail
      go_ret2
      exact ⟨o, k, 0, false, OO.out, rfl, ⟨rfl, .inr (by rw [← HF.out]; exact HN.out)⟩, by first | exact BB | exact BB.mono hle⟩
end Go.Proofs.Ytbnghpemlcmogaa.Ro
