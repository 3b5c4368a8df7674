/- Walks: what all the laws of the heap use: a number brought within bounds; the chapter's example; slices that came in. -/
import Derived.Test.YtnbemaijhmgooaaHpT
namespace Go.Proofs.Ytnbemaijhmgooaa.Hp
open Go.RowKit Go.Maps Go.Proofs
set_option linter.unusedVariables false
set_option linter.unusedSimpArgs false

/-- a slice of whole numbers that came in -/
def ArgIs (w : World) (A : Option Addr) (n : Nat) (zs : List Int) : Prop :=
  0 < n → ∃ x, A = some x ∧ x.block < w.heap.size ∧ n ≤ zs.length ∧ ∀ i, i < n → w.cell? (x.add i) = some (.int .i64 (zs.getD i 0)) ∧ Small (zs.getD i 0)
theorem block_add (a : Addr) (n : Nat) : (a.add n).block = a.block := by unfold Addr.add; split <;> rfl
theorem ArgIs.below {w w' : World} {A : Option Addr} {n : Nat} {zs : List Int} (h : ArgIs w A n zs) {B : Nat} (hb : Below B w w') (hB : w.heap.size ≤ B) : ArgIs w' A n zs := by
  intro hn
  obtain ⟨x, e, hx, hl, hc⟩ := h hn
  refine ⟨x, e, Nat.lt_of_lt_of_le hx hb.size, hl, fun i hi => ⟨?_, (hc i hi).2⟩⟩
  rw [hb.cell (by rw [block_add]; omega)]
  exact (hc i hi).1
theorem small_bounds {k : Int} (h : Small k) : -9223372036854775808 ≤ k ∧ k ≤ 9223372036854775807 := by
  unfold Small at h
  simp [Lit.wf, IntKind.min, IntKind.max, IntKind.signed, IntKind.bits] at h
  omega

theorem within_any (w : World) (a n : Int) (ha : Small a) (hn : 0 < n) (hm : n ≤ 1125899906842624) :
    Calls Try.prog 14 #[.int .i64 a, .int .i64 n] w fun e w' => e = .returned (.int .i64 (a % n)) ∧ w = w' := by
  have hb := small_bounds ha
  have h1 := Int.tmod_lt_of_pos a hn
  have h2 := Int.lt_tmod_of_pos a hn
  have h0 : (n == 0) = false := by simp; omega
  by_cases h : Int.tmod a n < 0
  · have d : decide (Int.tmod a n < 0) = true := by simpa using h
    have e : Int.tmod a n + n = a % n := by
      have := Int.emod_emod_of_dvd a (Int.dvd_refl n)
      have h3 : (Int.tmod a n + n) % n = a % n := by
        rw [Int.add_emod_right]
        have := Int.mul_tdiv_add_tmod a n
        conv => rhs; rw [← this]
        rw [Int.mul_add_emod_self_left]
      rw [← h3]
      exact (Int.emod_eq_of_lt (by omega) (by omega)).symm
    have E := Lib.hid e
    clear e h
    go_enter Try.func14, Try.ntmps14
    go_wp2
    go_ret
    exact ⟨by rw [← E.out]; rfl, rfl⟩
  · have d : decide (Int.tmod a n < 0) = false := by simpa using h
    have e : Int.tmod a n = a % n := by
      have h3 : (Int.tmod a n) % n = a % n := by
        have := Int.mul_tdiv_add_tmod a n
        conv => rhs; rw [← this]
        rw [Int.mul_add_emod_self_left]
      rw [← h3]
      exact (Int.emod_eq_of_lt (by omega) (by omega)).symm
    have E := Lib.hid e
    clear e h
    go_enter Try.func14, Try.ntmps14
    go_wp2
    go_ret
    exact ⟨by rw [← E.out]; rfl, rfl⟩

theorem nothing_least {x : It} {is : Bool} (h : LeastIs (fun _ => none) 0 x is) : x = (0, 0) ∧ is = false := by
  rcases h with ⟨h, _⟩ | ⟨_, h1, h2⟩
  · omega
  · exact ⟨h2, h1⟩

set_option maxHeartbeats 800000 in
theorem known_any (w : World) : Calls Try.prog 12 #[] w fun e w' => e = .returned (.bool true) ∧ Below w.heap.size w w' := by
  go_enter Try.func12, Try.ntmps12
  go_wp2_with fail
  refine (new_any _).mono ?_
  rintro e w1 ⟨g, F, rfl, h1, hF, b1⟩
  go_wp2_with fail
  refine (least_any _ g F _ 0 h1).mono ?_
  rintro e w2 ⟨x, is, rfl, hL, b2⟩
  obtain ⟨rfl, rfl⟩ := nothing_least hL
  have h2 := h1.below b2
  have B2 := b1.trans (b2.mono b1.size)
  go_wp2_with fail
  have h3 := h2.below ((Below.refl _ w2).alloc (Nat.le_refl _) (.cells #[.int .i64 0, .int .i64 0] 31))
  have B3 := B2.alloc B2.size (.cells #[.int .i64 0, .int .i64 0] 31)
  generalize (w2.alloc (.cells #[.int .i64 0, .int .i64 0] 31)) = w3 at *
  generalize w2.heap.size = y at *
  refine (put_any _ g F _ 0 5 7 h3 (by unfold Key; omega)).mono ?_
  rintro e w4 ⟨rfl, F4, h4, hF4, T4⟩
  have G4 : ∀ k, F4 k → w.heap.size ≤ k := fun k q => (hF4 k q).elim (hF k) (fun q => Nat.le_trans B3.size q)
  have B4 := B3.trans (T4.below hF B3.size)
  go_wp2_with fail
  refine (put_out _ g 300 1 (by unfold Key; omega)).mono ?_
  rintro e w5 ⟨rfl, rfl⟩
  go_wp2_with fail
  refine (take_any _ g F4 _ _ h4).mono ?_
  rintro e w6 ⟨x, is, rfl, hL, F6, h6, hF6, T6⟩
  have G6 : ∀ k, F6 k → w.heap.size ≤ k := fun k q => (hF6 k q).elim (G4 k) (fun q => Nat.le_trans B4.size q)
  have B6 := B4.trans (T6.below G4 B4.size)
  have hx : x = (5, 7) ∧ is = true := by
    rcases hL with ⟨_, h, q⟩ | ⟨q, _⟩
    · refine ⟨?_, h⟩
      have := q.1
      unfold upd at this
      split at this
      · exact Prod.ext (by assumption) (by simpa using this.symm)
      · simp at this
    · simp [bump] at q
  obtain ⟨rfl, rfl⟩ := hx
  go_wp2_with fail
  have h7 := h6.below ((Below.refl _ w6).alloc (Nat.le_refl _) (.cells #[.int .i64 5, .int .i64 7] 31))
  have B7 := B6.alloc B6.size (.cells #[.int .i64 5, .int .i64 7] 31)
  rw [show bump (fun _ => none) 5 0 - 1 = 0 from rfl] at h7
  refine (len_any _ g F6 _ 0 h7).mono ?_
  rintro e w8 ⟨rfl, rfl⟩
  go_wp2
  go_ret
  exact ⟨rfl, B7⟩
/-- the heap g, of the call's own, and what is told of its keys -/
structure Own (w : World) (g : Nat) (Q : (Int → Option Int) → Prop) (wr : World) (F : Nat → Prop) (f : Int → Option Int) (n : Nat) : Prop where
  heap : HeapIs wr g F f n
  told : Q f
  new : ∀ k, F k → w.heap.size ≤ k
  below : Below w.heap.size w wr
theorem Own.start {w w1 wr : World} {g : Nat} {F : Nat → Prop} {Q : (Int → Option Int) → Prop} (h : HeapIs wr g F (fun _ => none) 0) (b : Below w.heap.size w w1) (hF : ∀ k, F k → w1.heap.size ≤ k) (hb : Below w1.heap.size w1 wr) (hQ : Q fun _ => none) : Own w g Q wr F (fun _ => none) 0 :=
  ⟨h, hQ, fun k q => Nat.le_trans b.size (hF k q), b.trans (hb.mono b.size)⟩
theorem Own.turned {w wr w' : World} {g n n' : Nat} {F F' : Nat → Prop} {f f' : Int → Option Int} {Q Q' : (Int → Option Int) → Prop} (h : Own w g Q wr F f n) (h' : HeapIs w' g F' f' n') (hF : ∀ k, F' k → F k ∨ wr.heap.size ≤ k) (ht : Turn F wr w') (hQ : Q' f') : Own w g Q' w' F' f' n' :=
  ⟨h', hQ, fun k q => (hF k q).elim (h.new k) (fun q => Nat.le_trans h.below.size q), h.below.trans (ht.below h.new h.below.size)⟩
theorem Own.later {w wr w' : World} {g n : Nat} {F : Nat → Prop} {f : Int → Option Int} {Q : (Int → Option Int) → Prop} (h : Own w g Q wr F f n) (hb : Below wr.heap.size wr w') : Own w g Q w' F f n :=
  ⟨h.heap.below hb, h.told, h.new, h.below.trans (hb.mono h.below.size)⟩

theorem mod_key (a : Int) : Key (a % 300) := ⟨Int.emod_nonneg _ (by omega), Int.emod_lt_of_pos _ (by omega)⟩
theorem LeastIs.yes {f : Int → Option Int} {n : Nat} {x : It} {is : Bool} (h : LeastIs f n x is) (hn : 0 < n) : is = true ∧ Least f x := by
  rcases h with ⟨_, h, q⟩ | ⟨q, _⟩
  · exact ⟨h, q⟩
  · omega
theorem LeastIs.no {f : Int → Option Int} {x : It} {is : Bool} (h : LeastIs f 0 x is) : is = false ∧ x = (0, 0) := by
  rcases h with ⟨h, _⟩ | ⟨_, q, r⟩
  · omega
  · exact ⟨q, r⟩
end Go.Proofs.Ytnbemaijhmgooaa.Hp
