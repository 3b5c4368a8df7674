/- Memory words: rows of truths. -/
import Derived.Test.YtcejjcopchkmeaaRoW
namespace Go.Proofs.Ytcejjcopchkmeaa.Ro
open Go.RowKit Go.Proofs
set_option linter.unusedVariables false
set_option maxRecDepth 100000
set_option linter.unusedSimpArgs false

/-- a row of n truths of the call's own -/
def OwB (w : World) (v : Value) (n : Nat) (x : Nat → Bool) : Prop :=
  ∃ xs, w.ownsRow 0 4 1 v n xs ∧ ∀ j, j < n → xs[j]? = some (.bool (x j))
section
variable {w w' : World} {v : Value} {n cap b B : Nat} {x : Nat → Bool}
theorem OwB.cell (h : OwB w (.slice (some ⟨b, 0, none⟩) n cap) n x) {j : Nat} (hj : j < n) : w.cell? ⟨b, j, none⟩ = some (.bool (x j)) := by
  obtain ⟨xs, h1, h2⟩ := h
  rw [h1.cellAt j (by omega)]; exact h2 j hj
theorem OwB.frozen (h : OwB w (.slice (some ⟨b, 0, none⟩) n cap) n x) (j : Nat) : w.frozen? ⟨b, j, none⟩ = false := by
  obtain ⟨xs, h1, h2⟩ := h
  exact h1.frozenAt j
theorem OwB.set (h : OwB w (.slice (some ⟨b, 0, none⟩) n cap) n x) {i : Nat} (hi : i < n) (u : Bool) : OwB (w.setCell ⟨b, i, none⟩ (.bool u)) (.slice (some ⟨b, 0, none⟩) n cap) n (upd x i u) := by
  obtain ⟨xs, h1, h2⟩ := h
  refine ⟨_, (h1.stored i _).1, fun j hj => ?_⟩
  have hl : xs.length = n * 1 := h1.1
  by_cases e : j = i
  · subst e; rw [upd_same, List.getElem?_set_self (by omega)]
  · rw [upd_ne e, List.getElem?_set_ne (by omega)]; exact h2 j hj
theorem OwB.keep (h : OwB w v n x) (hb : ∀ k, v.ownBlock = some k → w'.heap[k]? = w.heap[k]?) : OwB w' v n x := by
  obtain ⟨xs, ⟨h0, h1⟩, h2⟩ := h
  refine ⟨xs, ⟨h0, ?_⟩, h2⟩
  rcases h1 with h1 | ⟨b', cap', cur, rfl, q, hg, r⟩
  · exact .inl h1
  · exact .inr ⟨b', cap', cur, rfl, q, (hb b' rfl).trans hg, r⟩
theorem OwB.lt (h : OwB w v n x) {k : Nat} (hk : v.ownBlock = some k) : k < w.heap.size := by
  obtain ⟨xs, h1, _⟩ := h
  exact (h1.lt k hk).2
theorem OwB.congr {x' : Nat → Bool} (h : OwB w v n x) (e : ∀ j, j < n → x j = x' j) : OwB w v n x' := by
  obtain ⟨xs, h1, h2⟩ := h
  exact ⟨xs, h1, fun j hj => by rw [← e j hj]; exact h2 j hj⟩
theorem OwB.made (h : w.ownsRow 0 4 1 (.slice (some ⟨b, 0, none⟩) n n) n (List.replicate n (.bool false))) : OwB w (.slice (some ⟨b, 0, none⟩) n n) n (fun _ => false) :=
  ⟨_, h, fun j hj => by simp [hj]⟩
theorem OwB.below (h : OwB w v n x) (hb : Below B w w') (hB : w.heap.size ≤ B) : OwB w' v n x := h.keep fun k hk => hb.block k (Nat.lt_of_lt_of_le (h.lt hk) hB)
end

/-- how many are not done yet -/
def opn (done : Nat → Bool) : Nat → Nat
  | 0 => 0
  | m + 1 => opn done m + if done m = false then 1 else 0
theorem opn_far {o : Nat → Bool} {a : Nat} {u : Bool} : ∀ {m}, m ≤ a → opn (upd o a u) m = opn o m
  | 0, _ => rfl
  | m + 1, h => by unfold opn; rw [opn_far (m := m) (by omega), upd_ne (by omega)]
theorem opn_upd {o : Nat → Bool} {a : Nat} (ha : o a = false) : ∀ {m}, a < m → opn (upd o a true) m + 1 = opn o m
  | 0, h => by omega
  | m + 1, h => by
    unfold opn
    by_cases e : a = m
    · subst e
      rw [opn_far (Nat.le_refl _), upd_same, if_neg (by simp), if_pos ha]
    · have := opn_upd (m := m) ha (by omega)
      rw [upd_ne (show m ≠ a by omega)]; omega
end Go.Proofs.Ytcejjcopchkmeaa.Ro
