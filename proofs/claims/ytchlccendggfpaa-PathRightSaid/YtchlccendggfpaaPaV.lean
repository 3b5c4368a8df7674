/- Walks: slices.Reverse, slices.Clip, slices.Equal of whole numbers. -/
import Derived.Test.YtchlccendggfpaaPaE
import Derived.Test.YtchlccendggfpaaHpU
import Derived.Outline
import Derived.WalkMore
namespace Go.Proofs.Ytchlccendggfpaa.Ro
open Go.RowKit Go.Proofs
set_option linter.unusedVariables false
set_option linter.unusedSimpArgs false

/-- a row of which j numbers of each end were exchanged -/
def rvs (n : Nat) (x : Nat → Int) (j : Nat) : Nat → Int := fun q => if q < j ∨ n ≤ q + j then x (n - 1 - q) else x q
theorem rvs_step {n j p : Nat} {x : Nat → Int} (h : p + j + 1 = n) (hj : j < p) : ∀ q, q < n → upd (upd (rvs n x j) j (rvs n x j p)) p (rvs n x j j) q = rvs n x (j + 1) q := fun q hq => by
  have e1 : rvs n x j p = x p := if_neg (by omega)
  have e2 : rvs n x j j = x j := if_neg (by omega)
  rw [e1, e2]
  by_cases a : q = p
  · subst a
    rw [upd_same]
    show x j = rvs n x (j + 1) q
    unfold rvs
    rw [if_pos (by omega), show n - 1 - q = j by omega]
  · rw [upd_ne a]
    by_cases c : q = j
    · subst c
      rw [upd_same]
      unfold rvs
      rw [if_pos (by omega), show n - 1 - q = p by omega]
    · rw [upd_ne c]
      unfold rvs
      by_cases d : q < j ∨ n ≤ q + j
      · rw [if_pos d, if_pos (by omega)]
      · rw [if_neg d, if_neg (by omega)]

set_option maxRecDepth 100000 in
set_option maxHeartbeats 3200000 in
theorem reverse_any (w : World) (b n cap : Nat) (x : Nat → Int) (h0 : 0 < n) (hn : n ≤ 1000) (O : Ow w (.slice (some ⟨b, 0, none⟩) n cap) n x) :
    Calls Try.prog 35 #[.slice (some ⟨b, 0, none⟩) n cap] w fun e w' => e = .returned (.tuple #[]) ∧ Hp.Turn (fun k => k = b) w w' ∧ Ow w' (.slice (some ⟨b, 0, none⟩) n cap) n (fun j => x (n - 1 - j)) := by
  have O0 : Ow w (.slice (some ⟨b, 0, none⟩) n cap) n (rvs n x 0) := O.congr fun q hq => by unfold rvs; rw [if_neg (by omega)]
  have lb := O.lt (k := b) rfl
  clear O
  go_enter Try.func35, Try.ntmps35
  go_wp2_with fail
  go_loopw [2, 3] (fun u2 u3 wr => ∃ j p : Nat, u2 = .int .i64 (j : Int) ∧ u3 = .int .i64 (p : Int) ∧ p + j + 1 ≤ n ∧ n ≤ p + j + 1 ∧ j ≤ p + 1 ∧ Ow wr (.slice (some ⟨b, 0, none⟩) n cap) n (rvs n x j) ∧ Hp.Turn (fun k => k = b) w wr) (fun _ u3 _ => (intOf u3).toNat)
  case atStart => exact ⟨0, n - 1, rfl, by have : ((n - 1 : Nat) : Int) = (n : Int) - 1 := by omega
                                           rw [this], by omega, by omega, by omega, O0, Hp.Turn.refl _ _⟩
  case round =>
    clear O0
    obtain ⟨j, p, rfl, rfl, h1, h2, h3, O, T⟩ := hrel
    by_cases hlt : j < p
    · have d1 : (j : Int) < (p : Int) := by omega
      have d2 : (1 : Int) ≤ (p : Int) := by omega
      have i1 : (j : Int) < (n : Int) := by omega
      have i2 : (p : Int) < (n : Int) := by omega
      have ne1 : ¬ (j = p) := by omega
      have ne2 : ¬ (p = j) := by omega
      have cj := O.cell (j := j) (by omega)
      have cp := O.cell (j := p) (by omega)
      have fj := O.frozen j
      have fp := O.frozen p
      have O2 := ((O.set (i := j) (by omega) (rvs n x j p)).set (i := p) (by omega) (rvs n x j j)).congr (rvs_step (by omega) hlt)
      have T2 := (T.setCell (p := ⟨b, j, none⟩) (.inl rfl) (.int .i64 (rvs n x j p))).setCell (p := ⟨b, p, none⟩) (.inl rfl) (.int .i64 (rvs n x j j))
      have HOT := Lib.hid (And.intro O2 T2)
      have e1 : Hid (((p - 1 : Nat) : Int) = (p : Int) - 1) := Lib.hid (by omega)
      clear O2 T2 O T
      generalize rvs n x j p = xp at *
      generalize rvs n x j j = xj at *
      go_wp2_with fail
      go_region
      all_goals
        go_wp2_with fail
        go_roundw
        case rel => exact ⟨j + 1, p - 1, by simp, by rw [e1.out], by omega, by omega, by omega, HOT.out.1.keep fun _ _ => rfl, HOT.out.2.drew⟩
        case measure => simp [intOf]; omega
    · have d1 : ¬ ((j : Int) < (p : Int)) := by omega
      go_wp2_with fail
      go_end0
      exact ⟨rfl, T, O.congr fun q hq => by
        unfold rvs
        by_cases c : q < j ∨ n ≤ q + j
        · rw [if_pos c]
        · rw [if_neg c, show n - 1 - q = q by omega]⟩

theorem clip_any (w : World) (b n cap : Nat) (hn : n ≤ cap) :
    Calls Try.prog 36 #[.slice (some ⟨b, 0, none⟩) n cap] w fun e w' => e = .returned (.slice (some ⟨b, 0, none⟩) n n) ∧ w = w' := by
  have c1 : (n : Int) ≤ (cap : Int) := by omega
  go_enter Try.func36, Try.ntmps36
  go_wp2_with fail
  go_ret
  exact ⟨rfl, rfl⟩
theorem clip_nil (w : World) :
    Calls Try.prog 36 #[.slice none 0 0] w fun e w' => e = .returned (.slice none 0 0) ∧ w = w' := by
  go_enter Try.func36, Try.ntmps36
  go_wp2_with fail
  go_ret
  exact ⟨rfl, rfl⟩
end Go.Proofs.Ytchlccendggfpaa.Ro
