/- The walk of HeapApart: two heaps do not touch one another. -/
import Derived.Test.YtnbemaijhmgooaaHpPlays
namespace Go.Proofs.Ytnbemaijhmgooaa.Hp
open Go.RowKit Go.Maps Go.Proofs
set_option linter.unusedVariables false
set_option linter.unusedSimpArgs false

/-- two pairs, mutually apart: the first is at work, the second stays -/
structure Four (w : World) (g x i y : Nat) (G : Nat → Prop) (fo : Int → Option Int) (mo : Nat) (Y : Nat → Prop) (wr : World) (F : Nat → Prop) (f : Int → Option Int) (n : Nat) (X : Nat → Prop) (p : Int → Option Int) (q : Nat) : Prop where
  two : Two w g x wr F f n X p q
  other : Two w i y wr G fo mo Y fo mo
  fg : ∀ k, F k → ¬ G k ∧ ¬ Y k
  xg : ∀ k, X k → ¬ G k ∧ ¬ Y k

section
variable {w wr w' : World} {g x i y n q n' mo : Nat} {F X F' G Y : Nat → Prop} {f p f' fo : Int → Option Int}
theorem Four.heap (h : Four w g x i y G fo mo Y wr F f n X p q) : HeapIs wr g F f n := h.two.heap
theorem Four.ref (h : Four w g x i y G fo mo Y wr F f n X p q) : RefIs wr x X p q := h.two.ref
theorem Four.below (h : Four w g x i y G fo mo Y wr F f n X p q) : Below w.heap.size w wr := h.two.below
theorem Four.swap (h : Four w g x i y G fo mo Y wr F f n X f n) : Four w i y g x F f n X wr G fo mo Y fo mo :=
  ⟨h.other, h.two, fun k q => ⟨fun e => (h.fg k e).1 q, fun e => (h.xg k e).1 q⟩, fun k q => ⟨fun e => (h.fg k e).2 q, fun e => (h.xg k e).2 q⟩⟩
theorem Four.later (h : Four w g x i y G fo mo Y wr F f n X p q) (hb : Below wr.heap.size wr w') : Four w g x i y G fo mo Y w' F f n X p q :=
  ⟨h.two.later hb, h.other.later hb, h.fg, h.xg⟩
theorem Two.still (h : Two w i y wr G fo mo Y p q) (ht : Turn F wr w') (hw : ∀ k, F k → w.heap.size ≤ k) (hg : ∀ k, G k → ¬ F k) (hy : ∀ k, Y k → ¬ F k) : Two w i y w' G fo mo Y p q :=
  ⟨h.heap.turn ht hg, h.ref.turn ht hy, h.apart, h.newF, h.newX, h.below.trans (ht.below hw h.below.size)⟩
theorem Four.heapTurned (h : Four w g x i y G fo mo Y wr F f n X p q) (h' : HeapIs w' g F' f' n') (hF : ∀ k, F' k → F k ∨ wr.heap.size ≤ k) (ht : Turn F wr w') : Four w g x i y G fo mo Y w' F' f' n' X p q := by
  refine ⟨h.two.heapTurned h' hF ht, h.other.still ht h.two.newF (fun k q e => (h.fg k e).1 q) (fun k q e => (h.fg k e).2 q), fun k q => ?_, h.xg⟩
  rcases hF k q with e | e
  · exact h.fg k e
  · exact ⟨fun c => by have := h.other.heap.lt c; omega, fun c => by have := h.other.ref.lt c; omega⟩
theorem Four.refTurned (h : Four w g x i y G fo mo Y wr F f n X p q) (h' : RefIs w' x F' f' n') (hF : ∀ k, F' k → X k ∨ wr.heap.size ≤ k) (ht : Turn X wr w') : Four w g x i y G fo mo Y w' F f n F' f' n' := by
  refine ⟨h.two.refTurned h' hF ht, h.other.still ht h.two.newX (fun k q e => (h.xg k e).1 q) (fun k q e => (h.xg k e).2 q), h.fg, fun k q => ?_⟩
  rcases hF k q with e | e
  · exact h.xg k e
  · exact ⟨fun c => by have := h.other.heap.lt c; omega, fun c => by have := h.other.ref.lt c; omega⟩
end

def FourPost (w : World) (g x i y : Nat) (G : Nat → Prop) (fo : Int → Option Int) (mo : Nat) (Y : Nat → Prop) (e : Ending) (w' : World) : Prop :=
  e = .returned (.bool true) ∧ ∃ F f n X, Four w g x i y G fo mo Y w' F f n X f n

set_option maxRecDepth 100000 in
set_option maxHeartbeats 12800000 in
theorem step_four (w : World) (g x i y : Nat) (G : Nat → Prop) (fo : Int → Option Int) (mo : Nat) (Y : Nat → Prop) (wr : World) (F : Nat → Prop) (f : Int → Option Int) (n : Nat) (X : Nat → Prop) (k raw : Int) (h : Four w g x i y G fo mo Y wr F f n X f n) (hk : 0 ≤ k ∧ k < 1099511627776) (hr : Small raw) :
    Calls Try.prog 22 #[.pointer (some ⟨g, 0, none⟩), .pointer (some ⟨x, 0, none⟩), .int .i64 k, .int .i64 raw] wr (FourPost w g x i y G fo mo Y) := by
  obtain ⟨k0, k1⟩ := hk
  go_enter Try.func22, Try.ntmps22
  go_upto_if 26 with fail
  go_cut [10] (fun u wc => ∃ key, u = .int .i64 key ∧ Four w g x i y G fo mo Y wc F f n X f n)
  case first =>
    by_cases hz : k / 16 % 37 = 0
    · have hb : (k / 16 % 37 == 0) = true := by simp [hz]
      have hq : k / 16 / 37 % 4 = 0 ∨ k / 16 / 37 % 4 = 1 ∨ k / 16 / 37 % 4 = 2 ∨ k / 16 / 37 % 4 = 3 := by omega
      clear hz
      rcases hq with e | e | e | e
      all_goals
        go_wp2_with fail
        go_meet
        exact ⟨_, rfl, h.later ((Below.refl _ _).alloc (Nat.le_refl _) _)⟩
    · have hb : (k / 16 % 37 == 0) = false := by simp [hz]
      go_wp2_with fail
      go_meet
      exact ⟨_, rfl, h⟩
  case rest =>
    obtain ⟨key, rfl, h2⟩ := hcut
    clear h
    go_upto_if 39 with fail
    go_cut [11] (fun u wc => ∃ rank, u = .int .i64 rank ∧ Four w g x i y G fo mo Y wc F f n X f n)
    case first =>
      by_cases hz : k / 16 % 41 = 0
      · have hb : (k / 16 % 41 == 0) = true := by simp [hz]
        go_wp2_with fail
        go_meet
        exact ⟨_, rfl, h2⟩
      · have hb : (k / 16 % 41 == 0) = false := by simp [hz]
        go_wp2_with fail
        go_meet
        exact ⟨_, rfl, h2⟩
    clear h2
    obtain ⟨rank, rfl, h3⟩ := hcut
    have hm : (k % 16 = 0 ∨ k % 16 = 1 ∨ k % 16 = 2 ∨ k % 16 = 3 ∨ k % 16 = 4 ∨ k % 16 = 5 ∨ k % 16 = 6 ∨ k % 16 = 7) ∨ (k % 16 = 8 ∨ k % 16 = 9 ∨ k % 16 = 10) ∨ (k % 16 = 11 ∨ k % 16 = 12) ∨ (k % 16 = 13 ∨ k % 16 = 14 ∨ k % 16 = 15) := by omega
    rcases hm with hm | hm | hm | hm
    · rcases hm with e | e | e | e | e | e | e | e
      all_goals
        by_cases hkey : Key key
        · go_wp2_with fail
          refine (put_any _ g F f n key rank h3.heap hkey).mono ?_
          rintro e1 w4 ⟨rfl, F4, h4, hF4, T4⟩
          have h5 := h3.heapTurned h4 hF4 T4
          clear h4 hF4 T4
          go_wp2_with fail
          refine (putR_any _ x X f n key rank h5.ref hkey).mono ?_
          rintro e2 w6 ⟨rfl, X6, h6, hX6, T6⟩
          have h7 := h5.refTurned h6 hX6 T6
          clear h6 hX6 T6 h5
          go_wp2_with fail
          go_ret
          exact ⟨by simp, _, _, _, _, h7⟩
        · go_wp2_with fail
          refine (put_out _ g key rank hkey).mono ?_
          rintro e1 w4 ⟨rfl, rfl⟩
          go_wp2_with fail
          refine (putR_out _ x key rank hkey).mono ?_
          rintro e2 w6 ⟨rfl, rfl⟩
          go_wp2_with fail
          go_ret
          exact ⟨by simp, _, _, _, _, h3⟩
    · rcases hm with e | e | e
      all_goals
        go_wp2_with fail
        refine (take_any _ g F f n h3.heap).mono ?_
        rintro e1 w4 ⟨a, p, rfl, ha, F4, h4, hF4, T4⟩
        have h5 := (h3.heapTurned h4 hF4 T4).later ((Below.refl _ w4).alloc (Nat.le_refl _) (.cells #[.int .i64 a.1, .int .i64 a.2] 31))
        have x0 : (w4.alloc (.cells #[.int .i64 a.1, .int .i64 a.2] 31)).cell? ⟨w4.heap.size, 0, none⟩ = some (.int .i64 a.1) := new_cell rfl _ _ _ 0
        have x1 : (w4.alloc (.cells #[.int .i64 a.1, .int .i64 a.2] 31)).cell? ⟨w4.heap.size, 1, none⟩ = some (.int .i64 a.2) := new_cell rfl _ _ _ 1
        have xl : w4.heap.size < (w4.alloc (.cells #[.int .i64 a.1, .int .i64 a.2] 31)).heap.size := by simp
        have xF : ¬ X w4.heap.size := fun q => by have := (h3.heapTurned h4 hF4 T4).ref.lt q; omega
        clear h4 hF4 T4 h3
        go_wp2_with fail
        generalize (w4.alloc (.cells #[.int .i64 a.1, .int .i64 a.2] 31)) = w5 at *
        generalize w4.heap.size = z at *
        refine (takeR_any _ x X f n h5.ref).mono ?_
        rintro e2 w6 ⟨b, q, rfl, hb, X6, h6, hX6, T6⟩
        obtain ⟨rfl, rfl⟩ := leastIs_one ha hb
        have h7 := (h5.refTurned h6 hX6 T6).later ((Below.refl _ w6).alloc (Nat.le_refl _) (.cells #[.int .i64 a.1, .int .i64 a.2] 31))
        have y0 := (cell_turn (i := 0) T6 xl xF).trans x0
        have y1 := (cell_turn (i := 1) T6 xl xF).trans x1
        have yl := Nat.lt_of_lt_of_le xl T6.size
        clear h6 hX6 T6 h5 x0 x1 xl xF ha hb
        cases p
        · go_wp2_with fail
          go_ret
          exact ⟨by simp, _, _, _, _, h7⟩
        · go_wp2_with fail
          go_ret
          exact ⟨by simp, _, _, _, _, h7⟩
    · rcases hm with e | e
      all_goals
        cases hf : f key with
        | none =>
          have d1 := drop_no wc g F f n key h3.heap hf
          have d2 := dropR_no wc x X f n key h3.ref hf
          have D1 := Lib.hid d1
          have D2 := Lib.hid d2
          clear d1 d2 hf
          go_wp2_with fail
          refine D1.out.mono ?_
          rintro e1 w4 ⟨rfl, rfl⟩
          go_wp2_with fail
          refine D2.out.mono ?_
          rintro e2 w6 ⟨rfl, rfl⟩
          go_wp2_with fail
          go_ret
          exact ⟨by simp, _, _, _, _, h3⟩
        | some r =>
          have HF := Lib.hid hf
          clear hf
          go_wp2_with fail
          refine (drop_any _ g F f n key r h3.heap HF.out).mono ?_
          rintro e1 w4 ⟨rfl, F4, h4, hF4, T4⟩
          have h5 := h3.heapTurned h4 hF4 T4
          clear h4 hF4 T4
          go_wp2_with fail
          refine (dropR_any _ x X f n key r h5.ref HF.out).mono ?_
          rintro e2 w6 ⟨rfl, X6, h6, hX6, T6⟩
          have h7 := h5.refTurned h6 hX6 T6
          clear h6 hX6 T6 h5
          go_wp2_with fail
          go_ret
          exact ⟨by simp, _, _, _, _, h7⟩
    · rcases hm with e | e | e
      all_goals
        go_wp2_with fail
        refine (rank_any _ g F f n key h3.heap).mono ?_
        rintro e1 w4 ⟨rfl, rfl⟩
        go_wp2_with fail
        refine (rankR_any _ x X f n key h3.ref).mono ?_
        rintro e2 w6 ⟨rfl, rfl⟩
        cases f key
        · go_wp2_with fail
          go_ret
          exact ⟨by simp, _, _, _, _, h3⟩
        · go_wp2_with fail
          go_ret
          exact ⟨by simp, _, _, _, _, h3⟩

set_option maxRecDepth 100000 in
set_option maxHeartbeats 12800000 in
theorem apart_walk (A : Option Addr) (len cap : Nat) (zs : List Int) (A' : Option Addr) (len' cap' : Nat) (zs' : List Int) (raw : Int) (w : World) (ha : ArgIs w A len zs) (hl : len ≤ 9223372036854775807) (ha' : ArgIs w A' len' zs') (hl' : len' ≤ 9223372036854775807) (wr : Small raw) :
    Calls Try.prog 10 #[.slice A len cap, .slice A' len' cap', .int .i64 raw] w fun e w' => e = .returned (.bool true) ∧ Below w.heap.size w w' := by
  have hraw := wr
  clear wr
  go_enter Try.func10, Try.ntmps10
  go_wp2_with fail
  refine (known_any _).mono ?_
  rintro e w1 ⟨rfl, b1⟩
  go_wp2_with fail
  refine (new_any _).mono ?_
  rintro e w2 ⟨g, F, rfl, h2, hF, b2⟩
  go_wp2_with fail
  refine (newR_any _).mono ?_
  rintro e w3 ⟨x, X, rfl, h3, hX, b3⟩
  have O3 := Two.start b1 h2 hF b2 h3 hX b3
  clear h2 hF b1 b2 h3 hX b3
  go_wp2_with fail
  refine (new_any _).mono ?_
  rintro e w4 ⟨i, G, rfl, h4, hG, b4⟩
  go_wp2_with fail
  refine (newR_any _).mono ?_
  rintro e w5 ⟨y, Y, rfl, h5, hY, b5⟩
  have P5 := Two.start O3.below h4 hG b4 h5 hY b5
  have O5 : Four w g x i y G (fun _ => none) 0 Y w5 F (fun _ => none) 0 X (fun _ => none) 0 := by
    refine ⟨(O3.later b4).later b5, P5, fun k q => ⟨fun e => ?_, fun e => ?_⟩, fun k q => ⟨fun e => ?_, fun e => ?_⟩⟩
    · have := O3.heap.lt q; have := hG k e; omega
    · have := O3.heap.lt q; have := hY k e; have := b4.size; omega
    · have := O3.ref.lt q; have := hG k e; omega
    · have := O3.ref.lt q; have := hY k e; have := b4.size; omega
  clear h4 hG b4 h5 hY b5 P5 O3
  go_wp2_with fail
  go_loopw [11] (fun u wr => ∃ (j : Nat) (F : Nat → Prop) (f : Int → Option Int) (n : Nat) (X : Nat → Prop) (G : Nat → Prop) (fo : Int → Option Int) (mo : Nat) (Y : Nat → Prop), u = .int .i64 (j : Int) ∧ j ≤ 60 ∧ Four w g x i y G fo mo Y wr F f n X f n) (fun u _ => 60 - (intOf u).toNat)
  case atStart => exact ⟨0, F, _, 0, X, G, _, 0, Y, rfl, Nat.zero_le _, O5⟩
  case round =>
    clear O5
    obtain ⟨j, F, f, n, X, G, fo, mo, Y, rfl, hj, O⟩ := hrel
    by_cases hlt : j < 60
    · have d1 : (j : Int) < 60 := by omega
      by_cases h1 : j < len
      · obtain ⟨v, rfl, hx, hzl, hc⟩ := ha (by omega)
        have c0 := (hc j h1).1
        have sm := (hc j h1).2
        have cr : wr.cell? (v.add j) = some (.int .i64 (zs.getD j 0)) := (O.below.cell (by rw [block_add]; exact hx)).trans c0
        clear c0 hc
        have d2 : (j : Int) < (len : Int) := by omega
        go_wp2_with fail
        refine (within_any _ (zs.getD j 0) 1099511627776 sm (by omega) (by omega)).mono ?_
        rintro e w4 ⟨rfl, rfl⟩
        have m1 := Int.emod_nonneg (zs.getD j 0) (b := 1099511627776) (by omega)
        have m2 := Int.emod_lt_of_pos (zs.getD j 0) (b := 1099511627776) (by omega)
        generalize (zs.getD j 0 % 1099511627776) = k at *
        go_wp2_with fail
        refine (step_four w g x i y G fo mo Y wr F f n X k raw O ⟨m1, m2⟩ hraw).mono ?_
        rintro e w5 ⟨rfl, F5, f5, n5, X5, O5⟩
        clear O cr sm m1 m2
        by_cases h2 : j < len'
        · obtain ⟨v', rfl, hx', hzl', hc'⟩ := ha' (by omega)
          have c0 := (hc' j h2).1
          have sm := (hc' j h2).2
          have cr : w5.cell? (v'.add j) = some (.int .i64 (zs'.getD j 0)) := (O5.below.cell (by rw [block_add]; exact hx')).trans c0
          clear c0 hc'
          have d3 : (j : Int) < (len' : Int) := by omega
          go_wp2_with fail
          refine (within_any _ (zs'.getD j 0) 1099511627776 sm (by omega) (by omega)).mono ?_
          rintro e w4 ⟨rfl, rfl⟩
          have m1 := Int.emod_nonneg (zs'.getD j 0) (b := 1099511627776) (by omega)
          have m2 := Int.emod_lt_of_pos (zs'.getD j 0) (b := 1099511627776) (by omega)
          generalize (zs'.getD j 0 % 1099511627776) = k' at *
          go_wp2_with fail
          refine (step_four w i y g x F5 f5 n5 X5 w5 G fo mo Y k' raw O5.swap ⟨m1, m2⟩ hraw).mono ?_
          rintro e w6 ⟨rfl, G6, fo6, mo6, Y6, O6⟩
          clear O5 cr sm m1 m2
          go_wp2_with fail
          go_roundw
          case rel => exact ⟨j + 1, _, _, _, _, _, _, _, _, by simp, by omega, O6.swap⟩
          case measure => simp [intOf]; omega
        · have d3 : ¬ (j : Int) < (len' : Int) := by omega
          go_wp2_with fail
          go_roundw
          case rel => exact ⟨j + 1, _, _, _, _, _, _, _, _, by simp, by omega, O5⟩
          case measure => simp [intOf]; omega
      · have d2 : ¬ (j : Int) < (len : Int) := by omega
        by_cases h2 : j < len'
        · obtain ⟨v', rfl, hx', hzl', hc'⟩ := ha' (by omega)
          have c0 := (hc' j h2).1
          have sm := (hc' j h2).2
          have cr : wr.cell? (v'.add j) = some (.int .i64 (zs'.getD j 0)) := (O.below.cell (by rw [block_add]; exact hx')).trans c0
          clear c0 hc'
          have d3 : (j : Int) < (len' : Int) := by omega
          go_wp2_with fail
          refine (within_any _ (zs'.getD j 0) 1099511627776 sm (by omega) (by omega)).mono ?_
          rintro e w4 ⟨rfl, rfl⟩
          have m1 := Int.emod_nonneg (zs'.getD j 0) (b := 1099511627776) (by omega)
          have m2 := Int.emod_lt_of_pos (zs'.getD j 0) (b := 1099511627776) (by omega)
          generalize (zs'.getD j 0 % 1099511627776) = k' at *
          go_wp2_with fail
          refine (step_four w i y g x F f n X wr G fo mo Y k' raw O.swap ⟨m1, m2⟩ hraw).mono ?_
          rintro e w6 ⟨rfl, G6, fo6, mo6, Y6, O6⟩
          clear O cr sm m1 m2
          go_wp2_with fail
          go_roundw
          case rel => exact ⟨j + 1, _, _, _, _, _, _, _, _, by simp, by omega, O6.swap⟩
          case measure => simp [intOf]; omega
        · have d3 : ¬ (j : Int) < (len' : Int) := by omega
          go_wp2_with fail
          go_roundw
          case rel => exact ⟨j + 1, _, _, _, _, _, _, _, _, by simp, by omega, O⟩
          case measure => simp [intOf]; omega
    · have d1 : ¬ (j : Int) < 60 := by omega
      clear ha ha' hlt
      go_wp2_with fail
      refine (len_any _ g F f n O.heap).mono ?_
      rintro e w6 ⟨rfl, rfl⟩
      go_wp2_with fail
      refine (lenR_any _ x X f n O.ref).mono ?_
      rintro e w7 ⟨rfl, rfl⟩
      have d3 : ((n : Int) == (n : Int)) = true := by simp
      go_wp2_with fail
      refine (len_any _ i G fo mo O.other.heap).mono ?_
      rintro e w6 ⟨rfl, rfl⟩
      go_wp2_with fail
      refine (lenR_any _ y Y fo mo O.other.ref).mono ?_
      rintro e w7 ⟨rfl, rfl⟩
      go_wp2
      go_ret
      exact ⟨by simp, O.below⟩
end Go.Proofs.Ytnbemaijhmgooaa.Hp
