/- The walk of HeapKeys: keys from 0 to 299 may be, others change nothing. -/
import Derived.Test.YtnbemaijhmgooaaHpC
namespace Go.Proofs.Ytnbemaijhmgooaa.Hp
open Go.RowKit Go.Maps Go.Proofs
set_option linter.unusedVariables false
set_option linter.unusedSimpArgs false

set_option maxHeartbeats 1600000 in
theorem keys_walk (key rank : Int) (A : Option Addr) (len cap : Nat) (zs : List Int) (w : World) (wk : Small key) (wr : Small rank) (ha : ArgIs w A len zs) (hl : len ≤ 9223372036854775807) :
    Calls Try.prog 11 #[.int .i64 key, .int .i64 rank, .slice A len cap] w fun e w' => e = .returned (.bool true) ∧ Below w.heap.size w w' := by
  go_enter Try.func11, Try.ntmps11
  go_wp2_with fail
  refine (known_any _).mono ?_
  rintro e w1 ⟨rfl, b1⟩
  go_wp2_with fail
  refine (new_any _).mono ?_
  rintro e w2 ⟨g, F, rfl, h2, hF, b2⟩
  have O2 : Own w g (fun _ => True) w2 F (fun _ => none) 0 := Own.start h2 b1 hF b2 trivial
  clear h2 hF b1 b2
  go_wp2_with fail
  go_loopw [8] (fun u wr => ∃ (i : Nat) (F : Nat → Prop) (f : Int → Option Int) (n : Nat), u = .int .i64 (i : Int) ∧ i ≤ len ∧ Own w g (fun _ => True) wr F f n) (fun u _ => len - (intOf u).toNat)
  case atStart => exact ⟨0, F, _, 0, rfl, Nat.zero_le _, O2⟩
  case round =>
    obtain ⟨i, F, f, n, rfl, hi, O⟩ := hrel
    clear O2
    by_cases hlt : i < len ∧ i < 20
    · obtain ⟨h1, h3⟩ := hlt
      obtain ⟨x, rfl, hx, hzl, hc⟩ := ha (by omega)
      have c0 := (hc i h1).1
      have sm := (hc i h1).2
      have cr : wr.cell? (x.add i) = some (.int .i64 (zs.getD i 0)) := (O.below.cell (by rw [block_add]; exact hx)).trans c0
      clear c0 hc
      have d1 : (i : Int) < (len : Int) := by omega
      have d2 : (i : Int) < 20 := by omega
      go_wp2_with fail
      refine (within_any _ (zs.getD i 0) 300 sm (by omega) (by omega)).mono ?_
      rintro e w3 ⟨rfl, rfl⟩
      go_wp2_with fail
      refine (put_any _ g F f n _ 5 O.heap (mod_key _)).mono ?_
      rintro e w4 ⟨rfl, F4, h4, hF4, T4⟩
      have O4 := O.turned (Q' := fun _ => True) h4 hF4 T4 trivial
      clear h4 hF4 T4 O cr sm
      go_wp2_with fail
      go_roundw
      case rel => exact ⟨i + 1, _, _, _, by simp, by omega, O4⟩
      case measure => simp [intOf]; omega
    · have hlt2 : ¬ ((i : Int) < (len : Int)) ∨ (i : Int) < (len : Int) ∧ ¬ ((i : Int) < 20) := by omega
      clear hlt ha
      have hn3 := O.heap.le
      rcases hlt2 with d1 | ⟨d1, d2⟩
      all_goals
        go_wp2_with fail
        refine (len_any _ g F f n O.heap).mono ?_
        rintro e w5 ⟨rfl, rfl⟩
        go_wp2_with fail
        refine (rank_any _ g F f n key O.heap).mono ?_
        rintro e w6 ⟨rfl, rfl⟩
        go_wp2_with fail
        by_cases hk : Key key
        · have k1 : (0 : Int) ≤ key := hk.1
          have k2 : key < 300 := hk.2
          refine (put_any _ g F f n key rank O.heap hk).mono ?_
          rintro e w7 ⟨rfl, F7, h7, hF7, T7⟩
          have O7 := O.turned (Q' := fun _ => True) h7 hF7 T7 trivial
          clear h7 hF7 T7 O
          go_wp2_with fail
          refine (rank_any _ g F7 _ _ key O7.heap).mono ?_
          rintro e w8 ⟨rfl, rfl⟩
          rw [upd_same]
          simp only [Option.getD_some, Option.isSome_some]
          cases hf : f key with
          | none =>
            have hb : bump f key n = n + 1 := by unfold bump; rw [hf]; rfl
            rw [hb] at O7
            clear hb hf
            go_wp2_with fail
            refine (len_any _ g F7 _ _ O7.heap).mono ?_
            rintro e w9 ⟨rfl, rfl⟩
            go_wp2
            go_ret
            exact ⟨by simp, O7.below⟩
          | some r =>
            have hb : bump f key n = n := by unfold bump; rw [hf]; rfl
            rw [hb] at O7
            clear hb hf
            have hne : ((n : Int) == (n : Int) + 1) = false := by simp; omega
            go_wp2_with fail
            refine (len_any _ g F7 _ _ O7.heap).mono ?_
            rintro e w9 ⟨rfl, rfl⟩
            go_wp2
            go_ret
            exact ⟨by simp, O7.below⟩
        · have hf : f key = none := by
            cases hf : f key with
            | none => rfl
            | some r =>
              obtain ⟨v, bm, G, m, h1, h2, h3, h4, h5, rfl⟩ := O.heap
              exact absurd (h5 _ _ hf) hk
          have hne : ((n : Int) == (n : Int) + 1) = false := by simp; omega
          refine (put_out _ g key rank hk).mono ?_
          rintro e w7 ⟨rfl, rfl⟩
          have hk2 : ¬ (0 : Int) ≤ key ∨ ((0 : Int) ≤ key ∧ ¬ key < 300) := by unfold Key at hk; omega
          rcases hk2 with k1 | ⟨k1, k2⟩
          all_goals
            go_wp2_with fail
            refine (rank_any _ g F _ _ key O.heap).mono ?_
            rintro e w8 ⟨rfl, rfl⟩
            rw [hf]
            simp only [Option.getD_none, Option.isSome_none]
            go_wp2_with fail
            refine (len_any _ g F _ _ O.heap).mono ?_
            rintro e w9 ⟨rfl, rfl⟩
            go_wp2
            go_ret
            exact ⟨by simp, O.below⟩
end Go.Proofs.Ytnbemaijhmgooaa.Hp
