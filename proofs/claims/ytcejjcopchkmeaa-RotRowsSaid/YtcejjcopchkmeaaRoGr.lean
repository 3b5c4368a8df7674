/- Rows that grow: a number appended; what a block holds. -/
import Derived.Test.YtcejjcopchkmeaaRoW
namespace Go.Proofs.Ytcejjcopchkmeaa.Ro
open Go.RowKit Go.Proofs Go.Maps
set_option linter.unusedVariables false
set_option maxRecDepth 100000
set_option linter.unusedSimpArgs false

theorem add_zero (a : Addr) : a.add 0 = a := by unfold Addr.add; simp

/-- a number appended -/
theorem wpList_grow {w : World} {ops : Array Oper} {rest : List Oper} {o : Oper} {a : Act} {Q : Exit → Act → World → Prop} (hgd : o.guard = none) (s x : Operand)
    (ho : o.op = .call { callee := .builtin .append, args := #[s, x], argTypes := #[22, 22] })
    (v : Value) (n : Nat) (g : Nat → Int) (hs : a.eval s = v) (h : Ow w v n g) (ad : Addr) (c : Nat) (k : Int) (hx : a.eval x = .slice (some ad) 1 c) (h0 : w.cell? ad = some (.int .i64 k)) (hn : n ≤ 100000)
    (hQ : ∀ b' c' w', Ow w' (.slice (some ⟨b', 0, none⟩) (n + 1) c') (n + 1) (upd g n k) → w.grownBy w' v.ownBlock → (some b' = v.ownBlock ∨ b' = w.heap.size) → wpList Try.prog ops Q rest (a.put o.dst (.slice (some ⟨b', 0, none⟩) (n + 1) c')) w') :
    wpList Try.prog ops Q (o :: rest) a w := by
  obtain ⟨i0, hi, hz0, hz1, hz2⟩ := info_parts (P := Try.prog) (e := 3) (z := .int .i64 0) (size := 1) (bytes := 8) (by kernel_rfl)
  obtain ⟨xs, hown, hxs⟩ := h
  have hl : xs.length = n * 1 := hown.1
  refine wpList_append_own_at w hgd s x 22 ho 0 3 i0 _ 1 8 Try.underlying22 hi hz0 hz1 hz2 rfl (by omega) v n xs hs hown ad 1 c [.int .i64 k] hx rfl ?_ (by simp [Value.oneCell']) (by unfold maxLen; omega) (by omega) (Nat.zero_le _) (fun v' w' h2 h3 _ h5 => ?_)
  rotate_left
  · have hrow : Ow w' v' (n + 1) (upd g n k) := ⟨_, h2, fun j hj => ?_⟩
    · obtain ⟨b', c', rfl, _⟩ := hrow.form (by omega)
      refine hQ b' c' w' hrow h3 ?_
      simpa [Value.ownBlock, eq_comm] using h5
    by_cases e : j = n
    · subst e
      rw [upd_same, List.getElem?_append_right (by omega), show j - xs.length = 0 from by omega]
      rfl
    · rw [upd_ne e, List.getElem?_append_left (by omega)]
      exact hxs j (by omega)
  · intro j u hu
    match j, hu with
    | 0, hu => simp at hu; subst hu; rw [add_zero]; exact h0
    | j + 1, hu => simp at hu

theorem Ow.cur {w : World} {b n cap : Nat} {x : Nat → Int} (h : Ow w (.slice (some ⟨b, 0, none⟩) n cap) n x) : n ≤ cap ∧ ∃ cur, w.heap[b]? = some (.cells cur 3 (0, 0)) ∧ ∀ j, j < n → cur[j]? = some (.int .i64 (x j)) := by
  have hc := fun j hj => h.cell (j := j) hj
  obtain ⟨xs, ⟨_, h1⟩, h2⟩ := h
  rcases h1 with ⟨e, _⟩ | ⟨b', cap', cur, e, _, hg, hnc, _⟩
  · simp at e
  · simp only [Value.slice.injEq, Option.some.injEq, Addr.mk.injEq, and_true, true_and] at e
    obtain ⟨rfl, rfl⟩ := e
    exact ⟨hnc, cur, hg, fun j hj => by rw [← blk_cell hg j]; exact hc j hj⟩

theorem Below.grown {B : Nat} {a w w' : World} (h : Below B a w) {r : Option Nat} (hg : w.grownBy w' r) (hB : B ≤ w.heap.size) (hr : ∀ k, r = some k → B ≤ k) : Below B a w' :=
  h.trans ⟨hg.os, hg.tape, hg.output, hg.size, fun k hk => hg.block k (by omega) (fun e => by have := hr k e.symm; omega)⟩

/-- a row of n whole numbers in a block of its own, whatever it may grow to -/
def OwS (w : World) (b n : Nat) (x : Nat → Int) : Prop := ∃ cur, w.heap[b]? = some (.cells cur 3 (0, 0)) ∧ ∀ j, j < n → cur[j]? = some (.int .i64 (x j))
section
variable {w w' : World} {b n cap B : Nat} {x : Nat → Int}
theorem Ow.own (h : Ow w (.slice (some ⟨b, 0, none⟩) n cap) n x) : n ≤ cap ∧ OwS w b n x := h.cur
theorem OwS.lt (h : OwS w b n x) : b < w.heap.size := by
  obtain ⟨cur, h1, _⟩ := h
  rcases Nat.lt_or_ge b w.heap.size with q | q
  · exact q
  · rw [Array.getElem?_eq_none q] at h1; cases h1
theorem OwS.keep (h : OwS w b n x) (hb : w'.heap[b]? = w.heap[b]?) : OwS w' b n x := by
  obtain ⟨cur, h1, h2⟩ := h
  exact ⟨cur, hb.trans h1, h2⟩
theorem OwS.below (h : OwS w b n x) (hb : Below B w w') (hB : w.heap.size ≤ B) : OwS w' b n x := h.keep (hb.block b (Nat.lt_of_lt_of_le h.lt hB))
theorem OwS.cell (h : OwS w b n x) {j : Nat} (hj : j < n) : w.cell? ⟨b, j, none⟩ = some (.int .i64 (x j)) := by
  obtain ⟨cur, h1, h2⟩ := h
  rw [blk_cell h1]; exact h2 j hj
theorem OwS.frozen (h : OwS w b n x) (j : Nat) : w.frozen? ⟨b, j, none⟩ = false := by
  obtain ⟨cur, h1, h2⟩ := h
  simp [World.frozen?, h1]
theorem OwS.congr {x' : Nat → Int} (h : OwS w b n x) (e : ∀ j, j < n → x j = x' j) : OwS w b n x' := by
  obtain ⟨cur, h1, h2⟩ := h
  exact ⟨cur, h1, fun j hj => by rw [h2 j hj, e j hj]⟩
theorem OwS.rd (h : OwS w b n x) : Rd w (.slice (some ⟨b, 0, none⟩) n cap) n x :=
  ⟨_, cap, rfl, fun _ => ⟨_, rfl, h.lt, fun i hi => by rw [add_head]; exact h.cell hi⟩⟩
end
end Go.Proofs.Ytcejjcopchkmeaa.Ro
