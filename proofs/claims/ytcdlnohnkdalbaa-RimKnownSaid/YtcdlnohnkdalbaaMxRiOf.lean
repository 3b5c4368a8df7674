/- Walks: rim.of. -/
import Derived.Test.YtcdlnohnkdalbaaMg13
import Derived.Test.YtcdlnohnkdalbaaMg8
import Derived.Test.YtcdlnohnkdalbaaMxRoSp
namespace Go.Proofs.Ytcdlnohnkdalbaa.Ro
open Go.RowKit Go.Proofs Go.Maps
set_option linter.unusedVariables false
set_option maxRecDepth 100000
set_option linter.unusedSimpArgs false

/-- no split at all -/
def noSplit : Value := .agg #[.int .i64 0, .slice none 0 0, .slice none 0 0, .slice none 0 0, .slice none 0 0, .int .i64 0, .int .i64 0, .int .i64 0]
/-- what rim.of hands back -/
def OfPost (B : Nat) (w : World) (N : Nat) (T X C : Value) (m : Nat) (x t : Nat → Int) (s v : Int) (e : Ending) (w' : World) : Prop :=
  Below B w w' ∧
    ((∃ code, RimBad N m x t s v code ∧ e = .returned (.tuple #[noSplit, .int .i64 code])) ∨
     (InNet N s v ∧ s ≠ v ∧ ∃ (o : Nat → Int) (K f b cap : Nat), Over m x t s v o K f ∧
       e = .returned (.tuple #[.agg #[.int .i64 (N : Int), T, X, C, .slice (some ⟨b, 0, none⟩) m cap, .int .i64 ((K + 1 : Nat) : Int), .int .i64 (f : Int), .int .i64 (K : Int)], .int .i64 0]) ∧
       Ow w' (.slice (some ⟨b, 0, none⟩) m cap) m o ∧ B ≤ b))

set_option maxHeartbeats 6400000 in
theorem of_ok (w : World) (N : Nat) (T X C : Value) (m : Nat) (t x c : Nat → Int) (hT : Rd w T m t) (hX : Rd w X m x) (hC : Rd w C m c) (pn : Plane N m t x c) (s v : Int) (hs : Small s) (hv : Small v) :
    Calls Try.prog 33 #[.agg #[.int .i64 (N : Int), T, X, C], .int .i64 s, .int .i64 v] w (OfPost w.heap.size w N T X C m x t s v) := by
  have g := pn.good
  have hm := g.few
  have hN := g.most
  have pf := pn.turns.perm.bh g.even
  obtain ⟨TA, tp, rfl, rt⟩ := id hT
  obtain ⟨XA, xp, rfl, -⟩ := id hX
  obtain ⟨CA, cp, rfl, -⟩ := id hC
  have HT := Lib.hid rt
  clear rt
  go_enter Try.func33, Try.ntmps33
  go_wp2_with fail
  obtain ⟨w1, hw1, N1, B1⟩ := net_enter (N : Int) hT hX hC
  have sz1 : w1.heap.size = w.heap.size + 1 := by rw [← hw1]; simp
  rw [hw1]
  clear hw1
  have hz1 : w.heap.size < w1.heap.size := N1.lt
  have Q2 : (w1.alloc (.cells #[.int .i64 0, .slice none 0 0, .slice none 0 0, .slice none 0 0, .slice none 0 0, .int .i64 0, .int .i64 0, .int .i64 0] 57)).heap[w.heap.size + 1]? = some (.cells #[.int .i64 0, .slice none 0 0, .slice none 0 0, .slice none 0 0, .slice none 0 0, .int .i64 0, .int .i64 0, .int .i64 0] 57 (0, 0)) := by rw [← sz1]; exact heap_alloc_new _ _
  have b2 := below_new w1 (.cells #[.int .i64 0, .slice none 0 0, .slice none 0 0, .slice none 0 0, .slice none 0 0, .int .i64 0, .int .i64 0, .int .i64 0] 57)
  generalize (w1.alloc _) = w2 at *
  have N2 := N1.below b2 (Nat.le_refl _)
  have B2 := B1.trans (b2.mono B1.size)
  clear N1 B1 b2
  have lz := blk_lt Q2
  refine (check_ok _ N _ _ _ m t x c N2.rt N2.rx N2.rc pn).mono ?_
  rintro e w3 ⟨rfl, b3⟩
  have N3 := N2.below b3 (Nat.le_refl _)
  have B3 := B2.trans (b3.mono B2.size)
  have Q3 := (b3.block _ lz).trans Q2
  clear N2 B2 Q2 b3 lz
  have lz := blk_lt Q3
  have c0 := N3.c0
  have c1 := N3.c1
  have c2 := N3.c2
  have c3 := N3.c3
  have Q3 : SplitAt w3 (w.heap.size + 1) (.int .i64 0) (.slice none 0 0) (.slice none 0 0) (.slice none 0 0) (.slice none 0 0) (.int .i64 0) (.int .i64 0) (.int .i64 0) := Q3
  obtain ⟨y0, y1, y2, y3, y4, y5, y6, y7, z0, z1, z2, z3, z4, z5, z6, z7⟩ := Q3.facts
  have hcase : (s ≤ v ∧ s < 0) ∨ (s < v ∧ ¬ s < 0 ∧ (N : Int) ≤ v) ∨ (¬ s ≤ v ∧ v < 0) ∨ (¬ s ≤ v ∧ ¬ v < 0 ∧ (N : Int) ≤ s) ∨ (s = v ∧ ¬ s < 0 ∧ (N : Int) ≤ s) ∨ (s = v ∧ ¬ s < 0 ∧ ¬ (N : Int) ≤ s) ∨ (s ≠ v ∧ ¬ s < 0 ∧ ¬ v < 0 ∧ ¬ (N : Int) ≤ s ∧ ¬ (N : Int) ≤ v) := by omega
  rcases hcase with ⟨q1, q2⟩ | ⟨q1, q2, q3⟩ | ⟨q1, q2⟩ | ⟨q1, q2, q3⟩ | ⟨rfl, q2, q3⟩ | ⟨rfl, q2, q3⟩ | ⟨q1, q2, q5, q4, q3⟩
  · go_wp2_with fail
    obtain ⟨w4, e8, Q4, B4⟩ := no_split Q3 B3 (by omega)
    clear y0 y1 y2 y3 y4 y5 y6 y7 z0 z1 z2 z3 z4 z5 z6 z7 c0 c1 c2 c3
    obtain ⟨y0, y1, y2, y3, y4, y5, y6, y7, -⟩ := Q4.facts
    unfold put8 at e8
    rw [e8]
    clear e8 Q3
    exact bodyPost_ret (v := .tuple #[noSplit, .int .i64 3]) (by simp [results, Try.results33, go_sem, noSplit, y0, y1, y2, y3, y4, y5, y6, y7]) rfl ⟨B4, .inl ⟨3, .inl ⟨by unfold InNet; omega, rfl⟩, rfl⟩⟩
  · have q4 : s ≤ v := by omega
    have q5 : ¬ v ≤ s := by omega
    go_wp2_with fail
    obtain ⟨w4, e8, Q4, B4⟩ := no_split Q3 B3 (by omega)
    clear y0 y1 y2 y3 y4 y5 y6 y7 z0 z1 z2 z3 z4 z5 z6 z7 c0 c1 c2 c3
    obtain ⟨y0, y1, y2, y3, y4, y5, y6, y7, -⟩ := Q4.facts
    unfold put8 at e8
    rw [e8]
    clear e8 Q3
    exact bodyPost_ret (v := .tuple #[noSplit, .int .i64 3]) (by simp [results, Try.results33, go_sem, noSplit, y0, y1, y2, y3, y4, y5, y6, y7]) rfl ⟨B4, .inl ⟨3, .inl ⟨by unfold InNet; omega, rfl⟩, rfl⟩⟩
  · go_wp2_with fail
    obtain ⟨w4, e8, Q4, B4⟩ := no_split Q3 B3 (by omega)
    clear y0 y1 y2 y3 y4 y5 y6 y7 z0 z1 z2 z3 z4 z5 z6 z7 c0 c1 c2 c3
    obtain ⟨y0, y1, y2, y3, y4, y5, y6, y7, -⟩ := Q4.facts
    unfold put8 at e8
    rw [e8]
    clear e8 Q3
    exact bodyPost_ret (v := .tuple #[noSplit, .int .i64 3]) (by simp [results, Try.results33, go_sem, noSplit, y0, y1, y2, y3, y4, y5, y6, y7]) rfl ⟨B4, .inl ⟨3, .inl ⟨by unfold InNet; omega, rfl⟩, rfl⟩⟩
  · go_wp2_with fail
    obtain ⟨w4, e8, Q4, B4⟩ := no_split Q3 B3 (by omega)
    clear y0 y1 y2 y3 y4 y5 y6 y7 z0 z1 z2 z3 z4 z5 z6 z7 c0 c1 c2 c3
    obtain ⟨y0, y1, y2, y3, y4, y5, y6, y7, -⟩ := Q4.facts
    unfold put8 at e8
    rw [e8]
    clear e8 Q3
    exact bodyPost_ret (v := .tuple #[noSplit, .int .i64 3]) (by simp [results, Try.results33, go_sem, noSplit, y0, y1, y2, y3, y4, y5, y6, y7]) rfl ⟨B4, .inl ⟨3, .inl ⟨by unfold InNet; omega, rfl⟩, rfl⟩⟩
  · go_wp2_with fail
    obtain ⟨w4, e8, Q4, B4⟩ := no_split Q3 B3 (by omega)
    clear y0 y1 y2 y3 y4 y5 y6 y7 z0 z1 z2 z3 z4 z5 z6 z7 c0 c1 c2 c3
    obtain ⟨y0, y1, y2, y3, y4, y5, y6, y7, -⟩ := Q4.facts
    unfold put8 at e8
    rw [e8]
    clear e8 Q3
    exact bodyPost_ret (v := .tuple #[noSplit, .int .i64 3]) (by simp [results, Try.results33, go_sem, noSplit, y0, y1, y2, y3, y4, y5, y6, y7]) rfl ⟨B4, .inl ⟨3, .inl ⟨by unfold InNet; omega, rfl⟩, rfl⟩⟩
  · have d1 : decide (s < 0) = false := by simp; omega
    have d2 : decide ((N : Int) ≤ s) = false := by simp; omega
    go_wp2_with fail
    obtain ⟨w4, e8, Q4, B4⟩ := no_split Q3 B3 (by omega)
    clear y0 y1 y2 y3 y4 y5 y6 y7 z0 z1 z2 z3 z4 z5 z6 z7 c0 c1 c2 c3
    obtain ⟨y0, y1, y2, y3, y4, y5, y6, y7, -⟩ := Q4.facts
    unfold put8 at e8
    rw [e8]
    clear e8 Q3
    exact bodyPost_ret (v := .tuple #[noSplit, .int .i64 9]) (by simp [results, Try.results33, go_sem, noSplit, y0, y1, y2, y3, y4, y5, y6, y7]) rfl ⟨B4, .inl ⟨9, .inr (.inl ⟨by unfold InNet; omega, rfl, rfl⟩), rfl⟩⟩
  · have d1 : decide (s < 0) = false := by simp; omega
    have d2 : decide ((N : Int) ≤ s) = false := by simp; omega
    have d3 : decide (v < 0) = false := by simp; omega
    have d4 : decide ((N : Int) ≤ v) = false := by simp; omega
    have d5 : decide (s = v) = false := by simp; omega
    have n1 : ¬ w.heap.size = w3.heap.size := by omega
    have n2 : ¬ w3.heap.size = w.heap.size := by omega
    have n3 : ¬ w3.heap.size = w.heap.size + 1 := by omega
    have n4 : ¬ w.heap.size + 1 = w3.heap.size := by omega
    have q6 : (s ≤ v ∧ ¬ v ≤ s) ∨ (v ≤ s ∧ ¬ s ≤ v) := by omega
    rcases q6 with ⟨q6, q7⟩ | ⟨q6, q7⟩
    all_goals
        go_upto_region 6 with fail
        have sz4 : (w3.alloc (.cells #[.int .i64 (N : Int), .slice TA m tp, .slice XA m xp, .slice CA m cp, .slice none 0 0, .int .i64 0, .int .i64 0, .int .i64 0] 57)).heap.size = w3.heap.size + 1 := by simp
        have V4 : SplitAt (w3.alloc (.cells #[.int .i64 (N : Int), .slice TA m tp, .slice XA m xp, .slice CA m cp, .slice none 0 0, .int .i64 0, .int .i64 0, .int .i64 0] 57)) w3.heap.size (.int .i64 (N : Int)) (.slice TA m tp) (.slice XA m xp) (.slice CA m cp) (.slice none 0 0) (.int .i64 0) (.int .i64 0) (.int .i64 0) := heap_alloc_new _ _
        have b4 := below_new w3 (.cells #[.int .i64 (N : Int), .slice TA m tp, .slice XA m xp, .slice CA m cp, .slice none 0 0, .int .i64 0, .int .i64 0, .int .i64 0] 57)
        generalize (w3.alloc (.cells #[.int .i64 (N : Int), .slice TA m tp, .slice XA m xp, .slice CA m cp, .slice none 0 0, .int .i64 0, .int .i64 0, .int .i64 0] 57)) = w4 at V4 b4 sz4 ⊢
        clear y0 y1 y2 y3 y4 y5 y6 y7 z0 z1 z2 z3 z4 z5 z6 z7 c0 c1 c2 c3
        have N4 := N3.below b4 (Nat.le_refl _)
        have Q4 := SplitAt.below Q3 b4 (Nat.le_refl _)
        have B4 := B3.trans (b4.mono B3.size)
        clear N3 Q3 b4
        have c0 := N4.c0
        have c1 := N4.c1
        have c2 := N4.c2
        have c3 := N4.c3
        go_wp2_with fail
        refine (split_ok _ N _ _ _ m t x c N4.rt N4.rx N4.rc g pf s v).mono ?_
        rintro e w5 ⟨o, k, O, b5, hsp⟩
        have hB5 : w.heap.size ≤ w4.heap.size := by omega
        have N5 := N4.below b5 (Nat.le_refl _)
        have Q5 := SplitAt.below Q4 b5 (Nat.le_refl _)
        have V5 := SplitAt.below V4 b5 (Nat.le_refl _)
        have B5 := B4.trans (b5.mono hB5)
        clear N4 Q4 V4 b5 c0 c1 c2 c3
        obtain ⟨y0, y1, y2, y3, y4, y5, y6, y7, z0, z1, z2, z3, z4, z5, z6, z7⟩ := Q5.facts
        obtain ⟨v0, v1, v2, v3, v4, v5, v6, v7, u0, u1, u2, u3, u4, u5, u6, u7⟩ := V5.facts
        obtain ⟨K, hK⟩ : ∃ K, K = max k 1 := ⟨_, rfl⟩
        rw [← hK] at hsp
        rcases hsp with ⟨hsh, rfl⟩ | ⟨f, e0, l, a, r, b, cap, hsh, hH, rfl, hO, hb⟩
        · rw [hK] at hsh
          have HO := Lib.hid (And.intro O hsh)
          clear hK
          clear O hsh
          clear y0 y1 y2 y3 y4 y5 y6 y7 z0 z1 z2 z3 z4 z5 z6 z7
          go_upto_region 8 with fail
          obtain ⟨w6, h6, V6, Q6, B6, -⟩ := put47_of (.slice none 0 0) (.int .i64 0) (.int .i64 0) (.int .i64 0) V5 Q5 (by omega) B5 (by omega)
          unfold put47 at h6
          rw [h6]
          clear h6 v0 v1 v2 v3 v4 v5 v6 v7 u0 u1 u2 u3 u4 u5 u6 u7 V5 Q5 V6
          obtain ⟨y0, y1, y2, y3, y4, y5, y6, y7, z0, z1, z2, z3, z4, z5, z6, z7⟩ := Q6.facts
          go_wp2_with fail
          obtain ⟨w7, e8, Q7, B7⟩ := no_split Q6 B6 (by omega)
          clear y0 y1 y2 y3 y4 y5 y6 y7 z0 z1 z2 z3 z4 z5 z6 z7
          obtain ⟨y0, y1, y2, y3, y4, y5, y6, y7, -⟩ := Q7.facts
          unfold put8 at e8
          rw [e8]
          clear e8 Q6
          exact bodyPost_ret (v := .tuple #[noSplit, .int .i64 10]) (by simp [results, Try.results33, go_sem, noSplit, y0, y1, y2, y3, y4, y5, y6, y7]) rfl ⟨B7, .inl ⟨10, .inr (.inr ⟨by unfold InNet; omega, by omega, ⟨o, k, HO.out.1, HO.out.2⟩, rfl⟩), rfl⟩⟩
        · have HO : Hid (Over m x t s v (halfO x o (K : Int) e0 a r l) K f) := Lib.hid ⟨o, k, e0, l, a, r, ⟨O, by rw [← hK]; exact hsh, hH⟩, hK, rfl⟩
          generalize halfO x o (K : Int) e0 a r l = oo at *
          clear O hsh hH hK
          clear y0 y1 y2 y3 y4 y5 y6 y7 z0 z1 z2 z3 z4 z5 z6 z7
          have HW := Lib.hid hO
          clear hO
          go_upto_region 8 with fail
          obtain ⟨w6, h6, V6, Q6, B6, ne6⟩ := put47_of (.slice (some ⟨b, 0, none⟩) m cap) (.int .i64 ((K : Int) + 1)) (.int .i64 (f : Int)) (.int .i64 (K : Int)) V5 Q5 (by omega) B5 (by omega)
          have O6 : Ow w6 (.slice (some ⟨b, 0, none⟩) m cap) m oo := HW.out.keep fun z hz => ne6 z (by have e : some b = some z := hz; injection e with e; omega)
          unfold put47 at h6
          rw [h6]
          clear h6 v0 v1 v2 v3 v4 v5 v6 v7 u0 u1 u2 u3 u4 u5 u6 u7 V5 Q5 ne6 HW
          obtain ⟨v0, v1, v2, v3, v4, v5, v6, v7, -⟩ := V6.facts
          obtain ⟨y0, y1, y2, y3, y4, y5, y6, y7, z0, z1, z2, z3, z4, z5, z6, z7⟩ := Q6.facts
          go_wp2_with fail
          obtain ⟨w8, e8, Q8, B8, n8⟩ := put8_of (.int .i64 (N : Int)) (.slice TA m tp) (.slice XA m xp) (.slice CA m cp) (.slice (some ⟨b, 0, none⟩) m cap) (.int .i64 ((K : Int) + 1)) (.int .i64 (f : Int)) (.int .i64 (K : Int)) Q6 B6 (by omega)
          have O8 : Ow w8 (.slice (some ⟨b, 0, none⟩) m cap) m oo := O6.keep fun z hz => n8 z (by have e : some b = some z := hz; injection e with e; omega)
          clear y0 y1 y2 y3 y4 y5 y6 y7 z0 z1 z2 z3 z4 z5 z6 z7
          obtain ⟨y0, y1, y2, y3, y4, y5, y6, y7, -⟩ := Q8.facts
          unfold put8 at e8
          rw [e8]
          clear e8 Q6 n8
          exact bodyPost_ret (v := .tuple #[.agg #[.int .i64 (N : Int), .slice TA m tp, .slice XA m xp, .slice CA m cp, .slice (some ⟨b, 0, none⟩) m cap, .int .i64 ((K : Int) + 1), .int .i64 (f : Int), .int .i64 (K : Int)], .int .i64 0]) (by simp [results, Try.results33, go_sem, y0, y1, y2, y3, y4, y5, y6, y7]) rfl ⟨B8, .inr ⟨⟨by omega, by omega, by omega, by omega⟩, q1, oo, K, f, b, cap, HO.out, rfl, O8, by omega⟩⟩
end Go.Proofs.Ytcdlnohnkdalbaa.Ro
