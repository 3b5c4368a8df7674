/- Walks: a heap and the reference's side by side; one step on both. -/
import Derived.Test.YtnbemaijhmgooaaHpRT
namespace Go.Proofs.Ytnbemaijhmgooaa.Hp
open Go.RowKit Go.Maps Go.Proofs
set_option linter.unusedVariables false
set_option linter.unusedSimpArgs false

/-- a heap at g and a reference's heap at x, both of the call's own, apart -/
structure Two (w : World) (g x : Nat) (wr : World) (F : Nat → Prop) (f : Int → Option Int) (n : Nat) (X : Nat → Prop) (p : Int → Option Int) (q : Nat) : Prop where
  heap : HeapIs wr g F f n
  ref : RefIs wr x X p q
  apart : ∀ k, F k → ¬ X k
  newF : ∀ k, F k → w.heap.size ≤ k
  newX : ∀ k, X k → w.heap.size ≤ k
  below : Below w.heap.size w wr

section
variable {w wr w' : World} {g x n q n' : Nat} {F X F' : Nat → Prop} {f p f' : Int → Option Int}
theorem Two.later (h : Two w g x wr F f n X p q) (hb : Below wr.heap.size wr w') : Two w g x w' F f n X p q :=
  ⟨h.heap.below hb, h.ref.below hb, h.apart, h.newF, h.newX, h.below.trans (hb.mono h.below.size)⟩
theorem Two.drew (h : Two w g x wr F f n X p q) : Two w g x wr.drew F f n X p q := h.later (Below.refl _ _).drew
theorem Two.heapTurned (h : Two w g x wr F f n X p q) (h' : HeapIs w' g F' f' n') (hF : ∀ k, F' k → F k ∨ wr.heap.size ≤ k) (ht : Turn F wr w') : Two w g x w' F' f' n' X p q := by
  refine ⟨h', h.ref.turn ht fun k hx hf => h.apart k hf hx, fun k hf hx => ?_, fun k hf => (hF k hf).elim (h.newF k) (fun e => Nat.le_trans h.below.size e), h.newX, h.below.trans (ht.below h.newF h.below.size)⟩
  rcases hF k hf with e | e
  · exact h.apart k e hx
  · have := h.ref.lt hx; omega
theorem Two.refTurned (h : Two w g x wr F f n X p q) (h' : RefIs w' x F' f' n') (hF : ∀ k, F' k → X k ∨ wr.heap.size ≤ k) (ht : Turn X wr w') : Two w g x w' F f n F' f' n' := by
  refine ⟨h.heap.turn ht fun k hf hx => h.apart k hf hx, h', fun k hf hx => ?_, h.newF, fun k hf => (hF k hf).elim (h.newX k) (fun e => Nat.le_trans h.below.size e), h.below.trans (ht.below h.newX h.below.size)⟩
  rcases hF k hx with e | e
  · exact h.apart k hf e
  · have := h.heap.lt hf; omega
end

theorem bump_same (f : Int → Option Int) (k : Int) (n : Nat) : bump f k n = bump f k n := rfl

def StepPost (w : World) (g x : Nat) (wr : World) (e : Ending) (w' : World) : Prop :=
  e = .returned (.bool true) ∧ ∃ F f n X, Two w g x w' F f n X f n

theorem leastIs_one {f : Int → Option Int} {n : Nat} {a b : It} {p q : Bool} (h : LeastIs f n a p) (k : LeastIs f n b q) : a = b ∧ p = q := by
  rcases h with ⟨h1, h2, h3⟩ | ⟨h1, h2, h3⟩ <;> rcases k with ⟨k1, k2, k3⟩ | ⟨k1, k2, k3⟩
  · exact ⟨h3.one k3, by rw [h2, k2]⟩
  · omega
  · omega
  · exact ⟨by rw [h3, k3], by rw [h2, k2]⟩

set_option maxRecDepth 100000 in
set_option maxHeartbeats 12800000 in
theorem step_any (w : World) (g x : Nat) (wr : World) (F : Nat → Prop) (f : Int → Option Int) (n : Nat) (X : Nat → Prop) (k raw : Int) (h : Two w g x wr F f n X f n) (hk : 0 ≤ k ∧ k < 1099511627776) (hr : Small raw) :
    Calls Try.prog 22 #[.pointer (some ⟨g, 0, none⟩), .pointer (some ⟨x, 0, none⟩), .int .i64 k, .int .i64 raw] wr (StepPost w g x wr) := by
  obtain ⟨k0, k1⟩ := hk
  go_enter Try.func22, Try.ntmps22
  go_upto_if 26 with fail
  go_cut [10] (fun u wc => ∃ key, u = .int .i64 key ∧ Two w g x wc F f n X f n)
  case first =>
    by_cases hz : k / 16 % 37 = 0
    · have hb : (k / 16 % 37 == 0) = true := by simp [hz]
      have hq : k / 16 / 37 % 4 = 0 ∨ k / 16 / 37 % 4 = 1 ∨ k / 16 / 37 % 4 = 2 ∨ k / 16 / 37 % 4 = 3 := by omega
      clear hz
      rcases hq with e | e | e | e
      all_goals
        go_wp2_with fail
        go_meet
        exact ⟨_, rfl, h.later ((Below.refl _ _).alloc (Nat.le_refl _) _)⟩
    · have hb : (k / 16 % 37 == 0) = false := by simp [hz]
      go_wp2_with fail
      go_meet
      exact ⟨_, rfl, h⟩
  case rest =>
    obtain ⟨key, rfl, h2⟩ := hcut
    clear h
    go_upto_if 39 with fail
    go_cut [11] (fun u wc => ∃ rank, u = .int .i64 rank ∧ Two w g x wc F f n X f n)
    case first =>
      by_cases hz : k / 16 % 41 = 0
      · have hb : (k / 16 % 41 == 0) = true := by simp [hz]
        go_wp2_with fail
        go_meet
        exact ⟨_, rfl, h2⟩
      · have hb : (k / 16 % 41 == 0) = false := by simp [hz]
        go_wp2_with fail
        go_meet
        exact ⟨_, rfl, h2⟩
    clear h2
    obtain ⟨rank, rfl, h3⟩ := hcut
    have hm : (k % 16 = 0 ∨ k % 16 = 1 ∨ k % 16 = 2 ∨ k % 16 = 3 ∨ k % 16 = 4 ∨ k % 16 = 5 ∨ k % 16 = 6 ∨ k % 16 = 7) ∨ (k % 16 = 8 ∨ k % 16 = 9 ∨ k % 16 = 10) ∨ (k % 16 = 11 ∨ k % 16 = 12) ∨ (k % 16 = 13 ∨ k % 16 = 14 ∨ k % 16 = 15) := by omega
    rcases hm with hm | hm | hm | hm
    · rcases hm with e | e | e | e | e | e | e | e
      all_goals
        by_cases hkey : Key key
        · go_wp2_with fail
          refine (put_any _ g F f n key rank h3.heap hkey).mono ?_
          rintro e1 w4 ⟨rfl, F4, h4, hF4, T4⟩
          have h5 := h3.heapTurned h4 hF4 T4
          clear h4 hF4 T4
          go_wp2_with fail
          refine (putR_any _ x X f n key rank h5.ref hkey).mono ?_
          rintro e2 w6 ⟨rfl, X6, h6, hX6, T6⟩
          have h7 := h5.refTurned h6 hX6 T6
          clear h6 hX6 T6 h5
          go_wp2_with fail
          go_ret
          exact ⟨by simp, _, _, _, _, h7⟩
        · go_wp2_with fail
          refine (put_out _ g key rank hkey).mono ?_
          rintro e1 w4 ⟨rfl, rfl⟩
          go_wp2_with fail
          refine (putR_out _ x key rank hkey).mono ?_
          rintro e2 w6 ⟨rfl, rfl⟩
          go_wp2_with fail
          go_ret
          exact ⟨by simp, _, _, _, _, h3⟩
    · rcases hm with e | e | e
      all_goals
        go_wp2_with fail
        refine (take_any _ g F f n h3.heap).mono ?_
        rintro e1 w4 ⟨a, p, rfl, ha, F4, h4, hF4, T4⟩
        have h5 := (h3.heapTurned h4 hF4 T4).later ((Below.refl _ w4).alloc (Nat.le_refl _) (.cells #[.int .i64 a.1, .int .i64 a.2] 31))
        have x0 : (w4.alloc (.cells #[.int .i64 a.1, .int .i64 a.2] 31)).cell? ⟨w4.heap.size, 0, none⟩ = some (.int .i64 a.1) := new_cell rfl _ _ _ 0
        have x1 : (w4.alloc (.cells #[.int .i64 a.1, .int .i64 a.2] 31)).cell? ⟨w4.heap.size, 1, none⟩ = some (.int .i64 a.2) := new_cell rfl _ _ _ 1
        have xl : w4.heap.size < (w4.alloc (.cells #[.int .i64 a.1, .int .i64 a.2] 31)).heap.size := by simp
        have xF : ¬ X w4.heap.size := fun q => by have := (h3.heapTurned h4 hF4 T4).ref.lt q; omega
        clear h4 hF4 T4 h3
        go_wp2_with fail
        generalize (w4.alloc (.cells #[.int .i64 a.1, .int .i64 a.2] 31)) = w5 at *
        generalize w4.heap.size = y at *
        refine (takeR_any _ x X f n h5.ref).mono ?_
        rintro e2 w6 ⟨b, q, rfl, hb, X6, h6, hX6, T6⟩
        obtain ⟨rfl, rfl⟩ := leastIs_one ha hb
        have h7 := (h5.refTurned h6 hX6 T6).later ((Below.refl _ w6).alloc (Nat.le_refl _) (.cells #[.int .i64 a.1, .int .i64 a.2] 31))
        have y0 := (cell_turn (i := 0) T6 xl xF).trans x0
        have y1 := (cell_turn (i := 1) T6 xl xF).trans x1
        have yl := Nat.lt_of_lt_of_le xl T6.size
        clear h6 hX6 T6 h5 x0 x1 xl xF ha hb
        cases p
        · go_wp2_with fail
          go_ret
          exact ⟨by simp, _, _, _, _, h7⟩
        · go_wp2_with fail
          go_ret
          exact ⟨by simp, _, _, _, _, h7⟩
    · rcases hm with e | e
      all_goals
        cases hf : f key with
        | none =>
          have d1 := drop_no wc g F f n key h3.heap hf
          have d2 := dropR_no wc x X f n key h3.ref hf
          have D1 := Lib.hid d1
          have D2 := Lib.hid d2
          clear d1 d2 hf
          go_wp2_with fail
          refine D1.out.mono ?_
          rintro e1 w4 ⟨rfl, rfl⟩
          go_wp2_with fail
          refine D2.out.mono ?_
          rintro e2 w6 ⟨rfl, rfl⟩
          go_wp2_with fail
          go_ret
          exact ⟨by simp, _, _, _, _, h3⟩
        | some r =>
          have HF := Lib.hid hf
          clear hf
          go_wp2_with fail
          refine (drop_any _ g F f n key r h3.heap HF.out).mono ?_
          rintro e1 w4 ⟨rfl, F4, h4, hF4, T4⟩
          have h5 := h3.heapTurned h4 hF4 T4
          clear h4 hF4 T4
          go_wp2_with fail
          refine (dropR_any _ x X f n key r h5.ref HF.out).mono ?_
          rintro e2 w6 ⟨rfl, X6, h6, hX6, T6⟩
          have h7 := h5.refTurned h6 hX6 T6
          clear h6 hX6 T6 h5
          go_wp2_with fail
          go_ret
          exact ⟨by simp, _, _, _, _, h7⟩
    · rcases hm with e | e | e
      all_goals
        go_wp2_with fail
        refine (rank_any _ g F f n key h3.heap).mono ?_
        rintro e1 w4 ⟨rfl, rfl⟩
        go_wp2_with fail
        refine (rankR_any _ x X f n key h3.ref).mono ?_
        rintro e2 w6 ⟨rfl, rfl⟩
        cases f key
        · go_wp2_with fail
          go_ret
          exact ⟨by simp, _, _, _, _, h3⟩
        · go_wp2_with fail
          go_ret
          exact ⟨by simp, _, _, _, _, h3⟩
end Go.Proofs.Ytnbemaijhmgooaa.Hp
