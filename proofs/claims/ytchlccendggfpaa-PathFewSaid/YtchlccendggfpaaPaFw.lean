/- Plain laws: the six nets of the law PathFew. -/
import Derived.Test.YtchlccendggfpaaPaJ
namespace Go.Proofs.Ytchlccendggfpaa.Ro
set_option linter.unusedVariables false
set_option linter.unusedSimpArgs false

def fnet (j : Nat) : List (Nat × Nat × Int) := [[(0, 1, 0), (1, 2, 0), (0, 2, 0)], [(0, 2, 2), (0, 1, 1), (1, 2, 1)], [(0, 2, 1), (0, 2, 1)], [(1, 2, 0), (0, 1, 0), (0, 1, 0)], [(0, 0, 0), (0, 1, 0), (1, 0, 0), (1, 2, 4)], [(0, 1, 1), (1, 2, 2), (0, 1, 2), (1, 2, 1)]].getD j []
def fk (j : Nat) : Nat := (fnet j).length
def fS (j : Nat) : ArcsF := ⟨fun i => ((fnet j).getD i (0, 0, 0)).1, fun i => ((fnet j).getD i (0, 0, 0)).2.1, fun i => ((fnet j).getD i (0, 0, 0)).2.2⟩
def frow (j : Nat) : List Nat := [[2], [0], [0], [1, 0], [1, 3], [0, 3]].getD j []
def fm (j : Nat) : Nat := (frow j).length
def fr (j : Nat) : Nat → Nat := fun i => (frow j).getD i 0
def fD (j : Nat) : Nat → Int := fun v => ([[0, 0, 0], [2, 1, 0], [1, 1152921504606846976, 0], [0, 0, 0], [4, 4, 0], [2, 1, 0]].getD j [] : List Int).getD v 0
def fF (j : Nat) : Nat → Int := fun v => ([[1, 1, 0], [1, 1, 0], [1, 1152921504606846976, 0], [2, 1, 0], [2, 1, 0], [2, 1, 0]].getD j [] : List Int).getD v 0
def fp (j : Nat) : Nat → Nat := fun v => ([[0, 2], [0, 2], [0, 2], [0, 1, 2], [0, 1, 2], [0, 1, 2]].getD j [] : List Nat).getD v 0
theorem f_k : ∀ j, j < 6 → fk j ≤ 4 := by decide +kernel
theorem f_in0 : ∀ j, j < 6 → ∀ i, i < fk j → (fS j).fr i < 3 ∧ (fS j).th i < 3 ∧ 0 ≤ (fS j).ln i ∧ (fS j).ln i ≤ 4 ∧ (fS j).fr i ≠ 2 := by decide +kernel
theorem f_in {j : Nat} (hj : j < 6) : ArcsIn (fS j) (fk j) 3 4294967296 := by
  refine ⟨fun i hi => ?_, fun i hi => ?_, fun i hi => ?_, fun i hi => ?_⟩ <;> have := f_in0 j hj i hi <;> omega
theorem f_low {j : Nat} (hj : j < 6) : ∀ i, i < fk j → 0 ≤ (fS j).ln i := fun i hi => (f_in0 j hj i hi).2.2.1
theorem f_fix0 : ∀ j, j < 6 → ∀ i, i < fk j → fD j ((fS j).th i) ≠ 1152921504606846976 → fD j ((fS j).fr i) < fD j ((fS j).th i) + (fS j).ln i ∨ (fD j ((fS j).fr i) = fD j ((fS j).th i) + (fS j).ln i ∧ fF j ((fS j).fr i) ≤ fF j ((fS j).th i) + 1) := by decide +kernel
def goB (j v : Nat) : Bool := v == 2 || (fD j v == 1152921504606846976 && fF j v == 1152921504606846976) || (decide (1 ≤ fF j v) && decide (fF j v ≤ 3) && (List.range (fk j)).any fun i => (fS j).fr i == v && fD j v == fD j ((fS j).th i) + (fS j).ln i && fF j v == fF j ((fS j).th i) + 1)
theorem f_go1 : ∀ j, j < 6 → ∀ v, v < 3 → goB j v = true := by decide +kernel
theorem f_go0 (j : Nat) (hj : j < 6) (v : Nat) (hv : v < 3) (h2 : v ≠ 2) : (fD j v = 1152921504606846976 ∧ fF j v = 1152921504606846976) ∨ (1 ≤ fF j v ∧ fF j v ≤ 3 ∧ ∃ i, i < fk j ∧ (fS j).fr i = v ∧ fD j v = fD j ((fS j).th i) + (fS j).ln i ∧ fF j v = fF j ((fS j).th i) + 1) := by
  have h := f_go1 j hj v hv
  unfold goB at h
  simp only [Bool.or_eq_true, Bool.and_eq_true, beq_iff_eq, decide_eq_true_eq, List.any_eq_true, List.mem_range] at h
  rcases h with (h | h) | ⟨⟨h1, h3⟩, i, hi, ⟨h4, h5⟩, h6⟩
  · exact absurd h h2
  · exact .inl h
  · exact .inr ⟨h1, h3, i, hi, h4, h5, h6⟩
theorem f_here : ∀ j, j < 6 → fD j 2 = 0 ∧ fF j 2 = 0 ∧ fD j 0 ≠ 1152921504606846976 ∧ fp j 0 = 0 ∧ fp j (fm j) = 2 := by decide +kernel
theorem f_trail0 : ∀ j, j < 6 → ∀ i, i < fm j → fr j i < fk j ∧ (fS j).fr (fr j i) = fp j i ∧ fD j ((fS j).th (fr j i)) ≠ 1152921504606846976 ∧ fD j (fp j i) = fD j ((fS j).th (fr j i)) + (fS j).ln (fr j i) ∧ fF j (fp j i) = fF j ((fS j).th (fr j i)) + 1 ∧ fp j i ≠ 2 ∧ fp j (i + 1) = (fS j).th (fr j i) := by decide +kernel
theorem f_least0 : ∀ j, j < 6 → ∀ i, i < fm j → ∀ a, a < fr j i → ¬ ((fS j).fr a = fp j i ∧ fD j ((fS j).th a) ≠ 1152921504606846976 ∧ fD j (fp j i) = fD j ((fS j).th a) + (fS j).ln a ∧ fF j (fp j i) = fF j ((fS j).th a) + 1) := by decide +kernel
theorem f_sound {j : Nat} (hj : j < 6) : Sound2 (fS j) (fk j) 2 3 10 (fD j) (fF j) := by
  have h := f_here j hj
  have key : ∀ b : Nat, ∀ v, v < 3 → fF j v = b → b ≤ 3 → Way (fS j).rev (fk j) 2 v (fD j v) b := by
    intro b
    induction b with
    | zero =>
      intro v hv e hb
      by_cases q : v = 2
      · subst q; rw [h.1]; exact .nil
      · rcases f_go0 j hj v hv q with z | z <;> omega
    | succ b ih =>
      intro v hv e hb
      by_cases q : v = 2
      · subst q; have := h.2.1; omega
      · rcases f_go0 j hj v hv q with z | ⟨_, z, i, h1, h2, h3, h4⟩
        · omega
        · have hn := f_in0 j hj i h1
          have w := ih _ hn.2.1 (by omega) (by omega)
          have := Way.snoc (S := (fS j).rev) w h1
          have e3 : (fS j).rev.th i = v := h2
          rw [e3] at this
          rw [h3]
          exact this
  refine ⟨fun v hv => ?_, h.1, h.2.1⟩
  by_cases q : v = 2
  · subst q
    exact .inr ⟨0, by omega, by rw [h.2.1]; rfl, by rw [h.1]; exact .nil⟩
  · rcases f_go0 j hj v hv q with z | ⟨z1, z2, i, h1, h2, h3, h4⟩
    · exact .inl z
    · exact .inr ⟨(fF j v).toNat, by omega, by omega, key _ v hv (by omega) (by omega)⟩
theorem f_best {j : Nat} (hj : j < 6) : Best (fS j) (fk j) 2 3 (fD j) (fF j) :=
  Fix2.best (fun i hi h => f_fix0 j hj i hi h) (f_sound hj) (f_in hj) (by omega) (by unfold far; omega) (by omega)
theorem f_trail {j : Nat} (hj : j < 6) : Trail (fS j) (fk j) (fD j) (fF j) 0 2 (fm j) (fp j) (fr j) :=
  ⟨(f_here j hj).2.2.2.1, fun i hi => by
    obtain ⟨h1, h2, h3, h4, h5, h6, h7⟩ := f_trail0 j hj i hi
    exact ⟨h1, h2, h3, h4, h5, fun a ha => f_least0 j hj i hi a ha⟩, fun i hi => (f_trail0 j hj i hi).2.2.2.2.2.1, fun i hi => (f_trail0 j hj i hi).2.2.2.2.2.2⟩
theorem stuck {S : ArcsF} {k s v m : Nat} {c : Int} (h : ∀ i, i < k → S.fr i ≠ s) (w : Way S k s v c m) : v = s := by
  induction w with
  | nil => rfl
  | @snoc c m i w hi ih => exact absurd ih (h i hi)
theorem f_no {j : Nat} (hj : j < 6) : ∀ c m, ¬ Way (fS j).rev (fk j) 0 2 c m := fun c m w => by
  have w2 : Way (fS j) (fk j) 2 0 c m := w.back
  have := stuck (fun i hi => (f_in0 j hj i hi).2.2.2.2) w2
  omega
end Go.Proofs.Ytchlccendggfpaa.Ro
