/- The walk of HeapRises: taken one by one items rise, by rank, then key; each that was put is taken once. -/
import Derived.Deep.CutBlock
import Derived.Deep.CutRange
import Derived.Test.YtnbemaijhmgooaaHpAr
namespace Go.Proofs.Ytnbemaijhmgooaa.Hp
open Go.RowKit Go.Maps Go.Proofs
set_option linter.unusedVariables false
set_option linter.unusedSimpArgs false

theorem below_draws (w : World) (n : Nat) : Below w.heap.size w (w.drewN n) := ⟨rfl, rfl, rfl, Nat.le_refl _, fun _ _ => rfl⟩

set_option maxRecDepth 100000 in
set_option maxHeartbeats 12800000 in
theorem rises_walk (A : Option Addr) (len cap : Nat) (zs : List Int) (w : World) (ha : ArgIs w A len zs) (hl : len ≤ 9223372036854775807) :
    Calls Try.prog 3 #[.slice A len cap] w fun e w' => e = .returned (.bool true) ∧ Below w.heap.size w w' := by
  go_enter Try.func3, Try.ntmps3
  go_wp2_with fail
  refine (known_any _).mono ?_
  rintro e w1 ⟨rfl, b1⟩
  go_wp2_with fail
  refine (new_any _).mono ?_
  rintro e w2 ⟨g, F, rfl, h2, hF, b2⟩
  have O2 : Own w g (fun _ => True) w2 F (fun _ => none) 0 := Own.start h2 b1 hF b2 trivial
  clear h2 hF b1 b2
  go_wp2_with fail
  rw [zero_ints]
  go_wp2_with fail
  rw [zero_bools]
  go_upto_block 0 with fail
  obtain ⟨w3, hw3⟩ : ∃ W, W = (w2.alloc (.cells ints 26)).alloc (.cells bools 27) := ⟨_, rfl⟩
  have O3 : Own w g (fun _ => True) w3 F (fun _ => none) 0 := by rw [hw3]; exact (O2.later ((Below.refl _ _).alloc (Nat.le_refl _) _)).later ((Below.refl _ _).alloc (Nat.le_refl _) _)
  have A3 : Ars w w2.heap.size (w2.heap.size + 1) w3 F (fun _ => none) := by
    have hs : (w2.alloc (.cells ints 26)).heap.size = w2.heap.size + 1 := by simp
    have l2 := O2.below.size
    refine ⟨⟨fun _ => 0, ?_, fun i v _ q => by cases q⟩, ?_, fun q => ?_, fun q => ?_, by omega, l2, by omega⟩
    · rw [hw3]
      exact (Arr.new w2 ints (fun i hi => by simp [ints, hi])).keep (Below.heap_alloc _ _ _ (by omega))
    · rw [hw3]
      have b := Arr.new (c := fun _ => .bool false) (T := 27) (w2.alloc (.cells ints 26)) bools (fun i hi => by simp [bools, hi])
      rw [hs] at b
      exact b
    · have := O2.heap.lt q; omega
    · have := O2.heap.lt q; omega
  clear O2
  rw [← hw3]
  clear hw3
  generalize w2.heap.size + 1 = y5 at *
  generalize w2.heap.size = y4 at *
  go_cut [6] (fun u wc => ∃ (F : Nat → Prop) (f : Int → Option Int) (n : Nat), u = .int .i64 (n : Int) ∧ n ≤ 9223372036854775807 ∧ Own w g (fun _ => True) wc F f n ∧ Ars w y4 y5 wc F f)
  case first =>
   go_wp2_with fail
   go_loopw [6, 7] (fun u v wr => ∃ (i : Nat) (F : Nat → Prop) (f : Int → Option Int) (n : Nat), u = .int .i64 (n : Int) ∧ v = .int .i64 (i : Int) ∧ i ≤ len ∧ n ≤ i ∧ Own w g (fun _ => True) wr F f n ∧ Ars w y4 y5 wr F f) (fun _ v _ => len - (intOf v).toNat)
   case atStart => exact ⟨0, F, _, 0, rfl, rfl, Nat.zero_le _, Nat.zero_le _, O3, A3⟩
   case round =>
     clear O3 A3
     obtain ⟨i, F, f, n, rfl, rfl, hi, hn, O, A0⟩ := hrel
     by_cases hlt : i < len ∧ i < 200
     · obtain ⟨h1, h3⟩ := hlt
       obtain ⟨x, rfl, hx, hzl, hc⟩ := ha (by omega)
       have c0 := (hc i h1).1
       have sm := (hc i h1).2
       have cr : wr.cell? (x.add i) = some (.int .i64 (zs.getD i 0)) := (O.below.cell (by rw [block_add]; exact hx)).trans c0
       clear c0 hc
       have d1 : (i : Int) < (len : Int) := by omega
       have d2 : (i : Int) < 200 := by omega
       go_wp2_with fail
       refine (within_any _ (zs.getD i 0) 1099511627776 sm (by omega) (by omega)).mono ?_
       rintro e w4 ⟨rfl, rfl⟩
       have m1 := Int.emod_nonneg (zs.getD i 0) (b := 1099511627776) (by omega)
       have m2 := Int.emod_lt_of_pos (zs.getD i 0) (b := 1099511627776) (by omega)
       generalize (zs.getD i 0 % 1099511627776) = k at *
       clear cr sm
       obtain ⟨j, hj⟩ : ∃ j : Nat, k % 300 = (j : Int) := ⟨(k % 300).toNat, by have := Int.emod_nonneg k (b := 300) (by omega); omega⟩
       have hj3 : j < 300 := by omega
       have hk : Key (j : Int) := ⟨by omega, by omega⟩
       obtain ⟨r, r1, r2⟩ := A0.ranks
       have z4 := r1.frozen j
       have z5 := A0.has.frozen j
       have c4 := r1.cell hj3
       have c5 := A0.has.cell hj3
       have c6 : (wr.setCell ⟨y4, j, none⟩ (.int .i64 (k / 300 % 50))).cell? ⟨y5, j, none⟩ = some (.bool (f (j : Int)).isSome) := (A0.has.far (p := ⟨y4, j, none⟩) (Ne.symm A0.ne) _).cell hj3
       have z6 := (A0.has.far (p := ⟨y4, j, none⟩) (Ne.symm A0.ne) (.int .i64 (k / 300 % 50))).frozen j
       have l4 := A0.lt4
       have l5 := A0.lt5
       have ln : (n : Int) < 9223372036854775807 := by omega
       clear r1 r2 hi
       have i4 := fun w => at_ints w y4 j hj3
       have i5 := fun w => at_bools w y5 j hj3
       have A1 := A0.put hj3 (k / 300 % 50)
       have O1 := (O.set (p := ⟨y4, j, none⟩) A0.notF4 A0.le4 (.int .i64 (k / 300 % 50))).set (p := ⟨y5, j, none⟩) A0.notF5 A0.le5 (.bool true)
       clear O A0
       cases hf : f (j : Int) with
       | none =>
         rw [hf] at c5 c6
         have hb : bump f (j : Int) n = n + 1 := by simp [bump, hf]
         have HB := Lib.hid hb
         clear hf hb
         go_wp2_with fail
         clear c4 c5 c6 z4 z5 z6
         generalize (wr.setCell ⟨y4, j, none⟩ (.int .i64 (k / 300 % 50))).setCell ⟨y5, j, none⟩ (.bool true) = w5 at *
         refine (put_any _ g F f n (j : Int) (k / 300 % 50) O1.heap hk).mono ?_
         rintro e w6 ⟨rfl, F6, h6, hF6, T6⟩
         rw [HB.out] at h6
         have O6 := O1.turned (Q' := fun _ => True) h6 hF6 T6 trivial
         have A6 := A1.turned hF6 T6
         clear h6 hF6 T6 O1 A1
         go_wp2_with fail
         go_roundw
         case rel => exact ⟨i + 1, _, _, n + 1, by simp, by simp, by omega, by omega, O6, A6⟩
         case measure => simp [intOf]; omega
       | some v =>
         rw [hf] at c5 c6
         have hb : bump f (j : Int) n = n := by simp [bump, hf]
         have HB := Lib.hid hb
         clear hf hb
         go_wp2_with fail
         clear c4 c5 c6 z4 z5 z6
         generalize (wr.setCell ⟨y4, j, none⟩ (.int .i64 (k / 300 % 50))).setCell ⟨y5, j, none⟩ (.bool true) = w5 at *
         refine (put_any _ g F f n (j : Int) (k / 300 % 50) O1.heap hk).mono ?_
         rintro e w6 ⟨rfl, F6, h6, hF6, T6⟩
         rw [HB.out] at h6
         have O6 := O1.turned (Q' := fun _ => True) h6 hF6 T6 trivial
         have A6 := A1.turned hF6 T6
         clear h6 hF6 T6 O1 A1
         go_wp2_with fail
         go_roundw
         case rel => exact ⟨i + 1, _, _, n, by simp, by simp, by omega, by omega, O6, A6⟩
         case measure => simp [intOf]; omega
     · have hlt2 : ¬ ((i : Int) < (len : Int)) ∨ (i : Int) < (len : Int) ∧ ¬ ((i : Int) < 200) := by omega
       clear hlt ha
       have ln : n ≤ 9223372036854775807 := by omega
       rcases hlt2 with d1 | ⟨d1, d2⟩
       all_goals
         go_wp2_with fail
         go_meet
         exact ⟨F, f, n, rfl, ln, O, A0⟩
  case rest =>
    clear O3 A3 ha
    obtain ⟨F, f, n, rfl, ln, O, A0⟩ := hcut
    go_wp2_with fail
    have O4 := O.later ((Below.refl _ wc).alloc (Nat.le_refl _) (.cells #[.int .i64 0, .int .i64 0] 31))
    have A4 := A0.later ((Below.refl _ wc).alloc (Nat.le_refl _) (.cells #[.int .i64 0, .int .i64 0] 31))
    have L4 : Last w y4 y5 wc.heap.size (wc.alloc (.cells #[.int .i64 0, .int .i64 0] 31)) F (0, 0) := by
      refine ⟨heap_alloc_new _ _, fun q => ?_, ?_, ?_, O.below.size⟩
      · have := O.heap.lt q; omega
      · have := A0.lt4; omega
      · have := A0.lt5; omega
    clear O A0
    generalize (wc.alloc (.cells #[.int .i64 0, .int .i64 0] 31)) = w4 at *
    generalize wc.heap.size = y9 at *
    go_loopw [10] (fun u wr => ∃ (i : Nat) (F : Nat → Prop) (f : Int → Option Int) (l : It), u = .int .i64 (i : Int) ∧ i ≤ n ∧ Own w g (fun _ => True) wr F f (n - i) ∧ Ars w y4 y5 wr F f ∧ Last w y4 y5 y9 wr F l ∧ (0 < i → Over l f)) (fun u _ => n - (intOf u).toNat)
    case atStart => exact ⟨0, F, f, (0, 0), rfl, Nat.zero_le _, O4, A4, L4, fun q => by omega⟩
    case round =>
      clear O4 A4 L4
      obtain ⟨i, F, f, l, rfl, hi, O, A0, L, hl2⟩ := hrel
      by_cases hlt : i < n
      · have d1 : (i : Int) < (n : Int) := by omega
        go_wp2_with fail
        refine (take_any _ g F f (n - i) O.heap).mono ?_
        rintro e1 w6 ⟨x, is, rfl, hL, F6, h6, hF6, T6⟩
        obtain ⟨rfl, hx⟩ := hL.yes (by omega)
        have hkx : 0 ≤ x.1 ∧ x.1 < 300 := by
          obtain ⟨v, bm, G, m, h1, h2, h3, h4, h5, rfl⟩ := O.heap
          have := h5 _ _ hx.1
          exact ⟨by omega, by omega⟩
        obtain ⟨x1, x2⟩ := x
        simp only at hkx
        obtain ⟨q, rfl⟩ : ∃ q : Nat, x1 = (q : Int) := ⟨x1.toNat, by omega⟩
        have hq : q < 300 := by omega
        have hov := Lib.hid (Over.taken hx)
        have hin : f (q : Int) = some x2 := hx.1
        have hq2 : (q : Int) < 300 := hkx.2
        have O7 := (O.turned (Q' := fun _ => True) h6 hF6 T6 trivial).later ((Below.refl _ w6).alloc (Nat.le_refl _) (.cells #[.int .i64 (q : Int), .int .i64 x2] 31))
        have A7 := (A0.turned hF6 T6).later ((Below.refl _ w6).alloc (Nat.le_refl _) (.cells #[.int .i64 (q : Int), .int .i64 x2] 31))
        have L7 := (L.turned hF6 T6).later ((Below.refl _ w6).alloc (Nat.le_refl _) (.cells #[.int .i64 (q : Int), .int .i64 x2] 31))
        have xb : (w6.alloc (.cells #[.int .i64 (q : Int), .int .i64 x2] 31)).heap[w6.heap.size]? = some (.cells #[.int .i64 (q : Int), .int .i64 x2] 31 (0, 0)) := heap_alloc_new _ _
        have n5 : w6.heap.size ≠ y5 := by have := (A0.turned hF6 T6).lt5; omega
        have n9 : w6.heap.size ≠ y9 := by have := blk_lt (L.turned hF6 T6).blk; omega
        have hlo : 0 < i → l.2 < x2 ∨ l.2 = x2 ∧ l.1 < (q : Int) := fun c => hl2 c _ _ hin
        clear h6 hF6 T6 O A0 L hL hx hl2 hkx
        go_wp2_with fail
        generalize (w6.alloc (.cells #[.int .i64 (q : Int), .int .i64 x2] 31)) = w7 at *
        generalize w6.heap.size = y11 at *
        have x0 : w7.cell? ⟨y11, 0, none⟩ = some (.int .i64 (q : Int)) := blk_cell xb 0
        have x1 : w7.cell? ⟨y11, 1, none⟩ = some (.int .i64 x2) := blk_cell xb 1
        have l0 : w7.cell? ⟨y9, 0, none⟩ = some (.int .i64 l.1) := blk_cell L7.blk 0
        have l1 : w7.cell? ⟨y9, 1, none⟩ = some (.int .i64 l.2) := blk_cell L7.blk 1
        have c5 : w7.cell? ⟨y5, q, none⟩ = some (.bool true) := by have := A7.has.cell hq; simpa [hin] using this
        have c4 : w7.cell? ⟨y4, q, none⟩ = some (.int .i64 x2) := by
          obtain ⟨r, r1, r2⟩ := A7.ranks
          have := r1.cell hq
          rwa [r2 q x2 hq hin] at this
        have i4 := fun w => at_ints w y4 q hq
        have i5 := fun w => at_bools w y5 q hq
        have z5 := A7.has.frozen q
        have z9 := fun j => blk_frozen L7.blk j
        have d5 : (x2 != x2) = false := by simp
        have g1 : decide ((q : Int) < 0) = false := by simp
        have g2 : decide ((q : Int) ≥ 300) = false := by simp; omega
        have g3 : decide (300 ≤ (q : Int)) = false := by simp; omega
        clear hin
        have hcase : i = 0 ∨ (0 < i ∧ l.2 < x2) ∨ (0 < i ∧ l.2 = x2 ∧ l.1 < (q : Int)) := by omega
        clear hlo
        go_upto_region 23 with fail
        go_cut [121] from 59 to 125 (fun u wx => u = .bool false ∧ Own w g (fun _ => True) wx F6 (upd f (q : Int) none) (n - i - 1) ∧ Ars w y4 y5 wx F6 f ∧ Last w y4 y5 y9 wx F6 l ∧ wx.heap[y11]? = some (.cells #[.int .i64 (q : Int), .int .i64 x2] 31 (0, 0)))
        case first =>
          rcases hcase with c | ⟨c, c1⟩ | ⟨c, c1, c2⟩
          · subst c
            go_big_quiet (fail)
            go_wp2
            go_meet
            exact ⟨by simp, O7.later (below_draws _ _), A7.later (below_draws _ _), L7.later (below_draws _ _), xb⟩
          · have p1 : decide ((i : Int) > 0) = true := by simp; omega
            have p2 : decide (x2 < l.2) = false := by simp; omega
            have p3 : (x2 == l.2) = false := by simp; omega
            have c3 : (0 : Int) < (i : Int) := by omega
            go_big_quiet (fail)
            go_wp2
            go_meet
            exact ⟨by simp, O7.later (below_draws _ _), A7.later (below_draws _ _), L7.later (below_draws _ _), xb⟩
          · have p1 : decide ((i : Int) > 0) = true := by simp; omega
            have p2 : decide (x2 < l.2) = false := by simp; omega
            have p3 : (x2 == l.2) = true := by simp; omega
            have p4 : decide ((q : Int) ≤ l.1) = false := by simp; omega
            have c3 : (0 : Int) < (i : Int) := by omega
            go_big_quiet (fail)
            go_wp2
            go_meet
            exact ⟨by simp, O7.later (below_draws _ _), A7.later (below_draws _ _), L7.later (below_draws _ _), xb⟩
        case rest =>
          clear hcase O7 A7 L7 xb x0 x1 l0 l1 c5 c4 z5 z9
          obtain ⟨rfl, O7, A7, L7, xb⟩ := hcut
          have x0 : wc.cell? ⟨y11, 0, none⟩ = some (.int .i64 (q : Int)) := blk_cell xb 0
          have x1 : wc.cell? ⟨y11, 1, none⟩ = some (.int .i64 x2) := blk_cell xb 1
          have l0 : wc.cell? ⟨y9, 0, none⟩ = some (.int .i64 l.1) := blk_cell L7.blk 0
          have l1 : wc.cell? ⟨y9, 1, none⟩ = some (.int .i64 l.2) := blk_cell L7.blk 1
          have c5 := A7.has.cell hq
          have z5 := A7.has.frozen q
          have z9 := fun j => blk_frozen L7.blk j
          have n95 : y9 ≠ y5 := L7.ne5
          go_wp2_with fail
          go_roundw
          case rel =>
            refine ⟨i + 1, F6, upd f (q : Int) none, ((q : Int), x2), by simp, by omega, ?_, ?_, ?_, fun _ => hov.out⟩
            · exact ((O7.set (p := ⟨y5, q, none⟩) A7.notF5 A7.le5 (.bool false)).set (p := ⟨y9, 0, none⟩) L7.notF L7.le9 (.int .i64 (q : Int))).set (p := ⟨y9, 1, none⟩) L7.notF L7.le9 (.int .i64 x2)
            · exact ((A7.strike hq).keep (w' := (wc.setCell ⟨y5, q, none⟩ (.bool false)).setCell ⟨y9, 0, none⟩ (.int .i64 (q : Int))) (Below.heap_setCell _ _ _ _ L7.ne4.symm) (Below.heap_setCell _ _ _ _ L7.ne5.symm)).keep (Below.heap_setCell _ _ _ _ L7.ne4.symm) (Below.heap_setCell _ _ _ _ L7.ne5.symm)
            · have b := blk_set (blk_set (blk_far L7.blk (p := ⟨y5, q, none⟩) L7.ne5 (.bool false)) 0 (.int .i64 (q : Int))) 1 (.int .i64 x2)
              exact ⟨b, L7.notF, L7.ne4, L7.ne5, L7.le9⟩
          case measure => simp [intOf]; omega
      · have d1 : ¬ (i : Int) < (n : Int) := by omega
        obtain rfl : i = n := by omega
        rw [Nat.sub_self] at O
        clear hlt hi
        go_wp2_with fail
        refine (take_any _ g F f 0 O.heap).mono ?_
        rintro e1 w6 ⟨x, is, rfl, hL, F6, h6, hF6, T6⟩
        obtain ⟨rfl, rfl⟩ := hL.no
        have O6 := (O.turned (Q' := fun _ => True) h6 hF6 T6 trivial).later ((Below.refl _ w6).alloc (Nat.le_refl _) (.cells #[.int .i64 0, .int .i64 0] 31))
        clear h6 hF6 T6 O A0 L hL
        go_wp2_with fail
        refine (len_any _ g F6 _ _ O6.heap).mono ?_
        rintro e1 w7 ⟨rfl, rfl⟩
        go_wp2
        go_ret
        exact ⟨by simp, O6.below⟩
end Go.Proofs.Ytnbemaijhmgooaa.Hp
