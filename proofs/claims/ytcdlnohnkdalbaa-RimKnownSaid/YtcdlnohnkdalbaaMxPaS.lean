/- Memory words: rows of truths; what From holds between two steps. -/
import Derived.Test.YtcdlnohnkdalbaaMg2
import Derived.Test.YtcdlnohnkdalbaaMg4
namespace Go.Proofs.Ytcdlnohnkdalbaa.Ro
open Go.RowKit Go.Proofs
set_option linter.unusedVariables false
set_option maxRecDepth 100000
set_option linter.unusedSimpArgs false

/-- a row of n truths of the call's own -/
def OwB (w : World) (v : Value) (n : Nat) (x : Nat → Bool) : Prop :=
  ∃ xs, w.ownsRow 0 4 1 v n xs ∧ ∀ j, j < n → xs[j]? = some (.bool (x j))
section
variable {w w' : World} {v : Value} {n cap b B : Nat} {x : Nat → Bool}
theorem OwB.cell (h : OwB w (.slice (some ⟨b, 0, none⟩) n cap) n x) {j : Nat} (hj : j < n) : w.cell? ⟨b, j, none⟩ = some (.bool (x j)) := by
  obtain ⟨xs, h1, h2⟩ := h
  rw [h1.cellAt j (by omega)]; exact h2 j hj
theorem OwB.frozen (h : OwB w (.slice (some ⟨b, 0, none⟩) n cap) n x) (j : Nat) : w.frozen? ⟨b, j, none⟩ = false := by
  obtain ⟨xs, h1, h2⟩ := h
  exact h1.frozenAt j
theorem OwB.set (h : OwB w (.slice (some ⟨b, 0, none⟩) n cap) n x) {i : Nat} (hi : i < n) (u : Bool) : OwB (w.setCell ⟨b, i, none⟩ (.bool u)) (.slice (some ⟨b, 0, none⟩) n cap) n (upd x i u) := by
  obtain ⟨xs, h1, h2⟩ := h
  refine ⟨_, (h1.stored i _).1, fun j hj => ?_⟩
  have hl : xs.length = n * 1 := h1.1
  by_cases e : j = i
  · subst e; rw [upd_same, List.getElem?_set_self (by omega)]
  · rw [upd_ne e, List.getElem?_set_ne (by omega)]; exact h2 j hj
theorem OwB.keep (h : OwB w v n x) (hb : ∀ k, v.ownBlock = some k → w'.heap[k]? = w.heap[k]?) : OwB w' v n x := by
  obtain ⟨xs, ⟨h0, h1⟩, h2⟩ := h
  refine ⟨xs, ⟨h0, ?_⟩, h2⟩
  rcases h1 with h1 | ⟨b', cap', cur, rfl, q, hg, r⟩
  · exact .inl h1
  · exact .inr ⟨b', cap', cur, rfl, q, (hb b' rfl).trans hg, r⟩
theorem OwB.lt (h : OwB w v n x) {k : Nat} (hk : v.ownBlock = some k) : k < w.heap.size := by
  obtain ⟨xs, h1, _⟩ := h
  exact (h1.lt k hk).2
theorem OwB.congr {x' : Nat → Bool} (h : OwB w v n x) (e : ∀ j, j < n → x j = x' j) : OwB w v n x' := by
  obtain ⟨xs, h1, h2⟩ := h
  exact ⟨xs, h1, fun j hj => by rw [← e j hj]; exact h2 j hj⟩
theorem OwB.made (h : w.ownsRow 0 4 1 (.slice (some ⟨b, 0, none⟩) n n) n (List.replicate n (.bool false))) : OwB w (.slice (some ⟨b, 0, none⟩) n n) n (fun _ => false) :=
  ⟨_, h, fun j hj => by simp [hj]⟩
theorem OwB.below (h : OwB w v n x) (hb : Below B w w') (hB : w.heap.size ≤ B) : OwB w' v n x := h.keep fun k hk => hb.block k (Nat.lt_of_lt_of_le (h.lt hk) hB)
end

/-- how many are not done yet -/
def opn (done : Nat → Bool) : Nat → Nat
  | 0 => 0
  | m + 1 => opn done m + if done m = false then 1 else 0
theorem opn_far {o : Nat → Bool} {a : Nat} {u : Bool} : ∀ {m}, m ≤ a → opn (upd o a u) m = opn o m
  | 0, _ => rfl
  | m + 1, h => by unfold opn; rw [opn_far (m := m) (by omega), upd_ne (by omega)]
theorem opn_upd {o : Nat → Bool} {a : Nat} (ha : o a = false) : ∀ {m}, a < m → opn (upd o a true) m + 1 = opn o m
  | 0, h => by omega
  | m + 1, h => by
    unfold opn
    by_cases e : a = m
    · subst e
      rw [opn_far (Nat.le_refl _), upd_same, if_neg (by simp), if_pos ha]
    · have := opn_upd (m := m) ha (by omega)
      rw [upd_ne (show m ≠ a by omega)]; omega
theorem opn_le (o : Nat → Bool) : ∀ m, opn o m ≤ m
  | 0 => Nat.le_refl _
  | m + 1 => by have := opn_le o m; unfold opn; split <;> omega

/-- what From holds: distances in block D, what is done in block E, the heap g; apart, of the call's own -/
structure PSt (w wr : World) (g D E cD n : Nat) (F : Nat → Prop) (d : Nat → Int) (done : Nat → Bool) (f : Int → Option Int) (hn : Nat) : Prop where
  dist : Ow wr (.slice (some ⟨D, 0, none⟩) n cD) n d
  seen : OwB wr (.slice (some ⟨E, 0, none⟩) n n) n done
  heap : Hp.HeapIs wr g F f hn
  de : D ≠ E
  fd : ¬ F D
  fe : ¬ F E
  base : ∀ k, F k → w.heap.size ≤ k
  bd : w.heap.size ≤ D
  be : w.heap.size ≤ E
  below : Below w.heap.size w wr
section
variable {w wr w' : World} {g D E cD n hn : Nat} {F : Nat → Prop} {d : Nat → Int} {done : Nat → Bool} {f : Int → Option Int}
theorem PSt.keep (h : PSt w wr g D E cD n F d done f hn) (hb : Below w.heap.size w w') (hk : ∀ k, k < wr.heap.size → wr.heap[k]? = w'.heap[k]? ∨ (k ≠ D ∧ k ≠ E ∧ ¬ F k)) : PSt w w' g D E cD n F d done f hn := by
  have same : ∀ k, k < wr.heap.size → (k = D ∨ k = E ∨ F k) → w'.heap[k]? = wr.heap[k]? := fun k h1 h2 => by
    rcases hk k h1 with q | ⟨q1, q2, q3⟩
    · exact q.symm
    · rcases h2 with z | z | z
      · exact absurd z q1
      · exact absurd z q2
      · exact absurd z q3
  exact ⟨h.dist.keep fun k hk => same k (h.dist.lt hk) (.inl (by have e : some D = some k := hk; injection e with e; exact e.symm)), h.seen.keep fun k hk => same k (h.seen.lt hk) (.inr (.inl (by have e : some E = some k := hk; injection e with e; exact e.symm))),
    h.heap.keep fun k hk => same k (h.heap.lt hk) (.inr (.inr hk)), h.de, h.fd, h.fe, h.base, h.bd, h.be, hb⟩
theorem PSt.alloc (h : PSt w wr g D E cD n F d done f hn) (o : Obj) : PSt w (wr.alloc o) g D E cD n F d done f hn :=
  h.keep (h.below.alloc h.below.size o) fun k hk => .inl (Below.heap_alloc _ _ _ hk).symm
theorem PSt.drewN (h : PSt w wr g D E cD n F d done f hn) (m : Nat) : PSt w (wr.drewN m) g D E cD n F d done f hn :=
  h.keep ⟨h.below.os, h.below.tape, h.below.output, h.below.size, h.below.block⟩ fun k hk => .inl rfl
theorem PSt.drew (h : PSt w wr g D E cD n F d done f hn) : PSt w wr.drew g D E cD n F d done f hn :=
  h.keep ⟨h.below.os, h.below.tape, h.below.output, h.below.size, h.below.block⟩ fun k hk => .inl rfl
theorem PSt.setD (h : PSt w wr g D E cD n F d done f hn) {i : Nat} (hi : i < n) (u : Int) : PSt w (wr.setCell ⟨D, i, none⟩ (.int .i64 u)) g D E cD n F (upd d i u) done f hn :=
  ⟨h.dist.set hi u, h.seen.keep fun k hk => Below.heap_setCell _ _ _ _ (by have e : some E = some k := hk; injection e with e; subst e; exact Ne.symm h.de),
    h.heap.keep fun k hk => Below.heap_setCell _ _ _ _ (fun e => h.fd (by have e : k = D := e; rw [← e]; exact hk)), h.de, h.fd, h.fe, h.base, h.bd, h.be, h.below.setCell (p := ⟨D, i, none⟩) h.bd _⟩
theorem PSt.setE (h : PSt w wr g D E cD n F d done f hn) {i : Nat} (hi : i < n) (u : Bool) : PSt w (wr.setCell ⟨E, i, none⟩ (.bool u)) g D E cD n F d (upd done i u) f hn :=
  ⟨h.dist.keep fun k hk => Below.heap_setCell _ _ _ _ (by have e : some D = some k := hk; injection e with e; subst e; exact h.de), h.seen.set hi u,
    h.heap.keep fun k hk => Below.heap_setCell _ _ _ _ (fun e => h.fe (by have e : k = E := e; rw [← e]; exact hk)), h.de, h.fd, h.fe, h.base, h.bd, h.be, h.below.setCell (p := ⟨E, i, none⟩) h.be _⟩
theorem PSt.next {f' : Int → Option Int} {hn' : Nat} (h : PSt w wr g D E cD n F d done f hn) (k : Hp.Next wr g F f' hn' w') : ∃ F', PSt w w' g D E cD n F' d done f' hn' ∧ Hp.Turn F wr w' ∧ (∀ k, F' k → F k ∨ wr.heap.size ≤ k) := by
  obtain ⟨F', h1, h2, h3⟩ := k
  have hD := h.dist.lt (k := D) rfl
  have hE := h.seen.lt (k := E) rfl
  have hb := h.below.size
  refine ⟨F', ⟨h.dist.keep fun k hk => h3.block k (h.dist.lt hk) (by have e : some D = some k := hk; injection e with e; subst e; exact h.fd), h.seen.keep fun k hk => h3.block k (h.seen.lt hk) (by have e : some E = some k := hk; injection e with e; subst e; exact h.fe), h1, h.de,
    fun q => (h2 _ q).elim h.fd fun z => by omega, fun q => (h2 _ q).elim h.fe fun z => by omega, fun k q => (h2 _ q).elim (h.base k) fun z => by omega, h.bd, h.be, h.below.trans ⟨h3.os, h3.tape, h3.output, h3.size, fun k hk => h3.block k (by omega) fun q => by have := h.base k q; omega⟩⟩, h3, h2⟩
end
end Go.Proofs.Ytcdlnohnkdalbaa.Ro
