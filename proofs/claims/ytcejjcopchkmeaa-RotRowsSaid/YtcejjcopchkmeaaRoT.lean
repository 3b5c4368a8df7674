/- Walks: orbits, over the step about a vertex. -/
import Derived.Test.YtcejjcopchkmeaaRoN
import Derived.Test.YtcejjcopchkmeaaRoOa
namespace Go.Proofs.Ytcejjcopchkmeaa.Ro
open Go.RowKit Go.Proofs
set_option linter.unusedVariables false
set_option maxRecDepth 100000
set_option linter.unusedSimpArgs false

set_option maxHeartbeats 3200000 in
theorem orbits_turns (w : World) (p : Nat) (N : Int) (T X C : Value) (m : Nat) (x : Nat → Int) (hb : Box w p N T X C) (hx : Rd w X m x) (hm : m ≤ 999) (hev : m % 2 = 0) (f : Nat → Nat) (hf : ∀ d, d < m → x d = (f d : Int)) (pf : Perm f m) :
    Calls Try.prog 44 #[.int .i64 (m : Int), .func (.func 52) #[] #[.pointer (some ⟨p, 0, none⟩)]] w
      fun e w' => ∃ v o c, e = .returned (.tuple #[v, .int .i64 ((c : Nat) : Int), .bool true]) ∧ Ow w' v m o ∧ (∀ k, v.ownBlock = some k → w.heap.size ≤ k) ∧ Orb f m o c ∧ Below w.heap.size w w' := by
  go_enter Try.func44, Try.ntmps44
  go_wp2_with fail
  go_step3
  go_wp2_with fail
  have c0 : (w.alloc (.cells #[.int .i64 (-1)] 3)).cell? ⟨w.heap.size, 0, none⟩ = some (.int .i64 (-1)) := by rw [blk_cell (heap_alloc_new w _)]; rfl
  refine (repeat_any _ w.heap.size m (by omega) c0 (by simp)).mono ?_
  rintro e w2 ⟨cap, rfl, O2, b2⟩
  have B2 : Below w.heap.size w w2 := ((Below.refl _ w).alloc (Nat.le_refl _) _).trans (b2.mono (by simp))
  clear b2 c0
  go_wp2_with fail
  have hsz : (w.alloc (.cells #[.int .i64 (-1)] 3)).heap.size = w.heap.size + 1 := by simp
  rw [hsz] at O2
  clear hsz
  have hbB : w.heap.size ≤ w.heap.size + 1 := by omega
  generalize w.heap.size + 1 = b at *
  go_step3
  go_wp2_with fail
  go_loopw [8, 15] (fun u v wr => ∃ (i c : Nat) (o : Nat → Int), u = .int .i64 (c : Int) ∧ v = .int .i64 (i : Int) ∧ i ≤ m ∧ c ≤ i ∧ Part f m i o c ∧ Ow wr (.slice (some ⟨b, 0, none⟩) m cap) m o ∧ Below w.heap.size w wr) (fun _ v _ => m - (intOf v).toNat)
  case atStart => exact ⟨0, 0, _, rfl, rfl, Nat.zero_le _, Nat.le_refl _, Part.start f m, O2, B2⟩
  case round =>
    clear O2 B2
    obtain ⟨i, c, o, rfl, rfl, hi, hci, P, O, B⟩ := hrel
    by_cases hlt : i < m
    · have d1 : (i : Int) < (m : Int) := by omega
      have co := O.cell hlt
      rcases P.some i hlt with h0 | ⟨h0, h1⟩
      · rw [h0] at co
        go_wp2_with fail
        clear co
        go_loopg [10] (neg o m) (fun n u wr => ∃ (k a : Nat) (o' : Nat → Int), u = .int .i64 (a : Int) ∧ neg o' m = n ∧ Chain f m o i c k a o' ∧ Ow wr (.slice (some ⟨b, 0, none⟩) m cap) m o' ∧ Below w.heap.size w wr)
        case atStart => exact ⟨0, i, o, rfl, rfl, Chain.start f m o i c, O, B⟩
        case round =>
          clear O B
          obtain ⟨k, a, o', rfl, hn, Ch, O, B⟩ := hrel
          have hl := Ch.lt pf hlt
          have d2 : (a : Int) < (m : Int) := by omega
          have co := O.cell hl
          have zf := O.frozen a
          by_cases hneg : o' a < 0
          · have d3 : decide (o' a < 0) = true := by simp [hneg]
            have O3 := O.set hl (c : Int)
            have B3 := B.setCell (p := ⟨b, a, none⟩) hbB (.int .i64 (c : Int))
            have Ch3 := Lib.hid (Ch.step pf hlt P hneg)
            have hm3 := neg_upd (o := o') (a := a) (u := (c : Int)) (by omega) hneg hl
            have HN := Lib.hid hneg
            clear O B Ch hneg
            go_wp2_with fail
            generalize wr.setCell ⟨b, a, none⟩ (.int .i64 (c : Int)) = w4 at *
            refine (turns1_any _ p N T X C m x (hb.below B3 (Nat.le_refl _)) (hx.below B3 (Nat.le_refl _)) a hl).mono ?_
            rintro e w5 ⟨rfl, b5⟩
            have hfa := hf a hl
            rw [hfa]
            have O5 := O3.below b5 (Nat.le_refl _)
            have B5 := B3.trans (b5.mono B3.size)
            clear O3 B3 b5 co zf hfa
            go_wp2_with fail
            go_roundg (neg (upd o' a (c : Int)) m)
            case measure => omega
            case rel => exact ⟨k + 1, f a, _, rfl, rfl, Ch3.out, O5, B5⟩
          · have d3 : decide (o' a < 0) = false := by simp [hneg]
            have d4 : ¬ (o' a < 0) := hneg
            obtain ⟨e1, _⟩ := Ch.back pf hlt P h0 (by omega)
            have P5 := Lib.hid (Ch.done pf hlt P h0 (by omega))
            subst e1
            have ln : (c : Int) < 9223372036854775807 := by omega
            clear Ch P hneg
            go_wp2_with fail
            go_roundw
            case rel => exact ⟨a + 1, c + 1, o', by simp, by simp, by omega, by omega, P5.out, O, B⟩
            case measure => simp [intOf]; omega
      · have d2 : decide (o i ≥ 0) = true := by simp [h0]
        have P' := Lib.hid (P.skip h0)
        clear P
        go_wp2_with fail
        go_roundw
        case rel => exact ⟨i + 1, c, o, rfl, by simp, by omega, by omega, P'.out, O, B⟩
        case measure => simp [intOf]; omega
    · have d1 : ¬ ((i : Int) < (m : Int)) := by omega
      obtain rfl : i = m := by omega
      go_wp2
      go_ret3
      exact ⟨_, o, c, rfl, O, fun k hk => by simp [Value.ownBlock] at hk; omega, P.orb, B⟩
end Go.Proofs.Ytcejjcopchkmeaa.Ro
