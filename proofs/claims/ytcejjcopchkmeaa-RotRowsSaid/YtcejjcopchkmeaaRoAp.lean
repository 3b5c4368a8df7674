/- A row appended to a row of the call's own. -/
import Derived.Test.YtcejjcopchkmeaaRoW
import Derived.Deep.AppendLies
namespace Go.Proofs.Ytcejjcopchkmeaa.Ro
open Go.RowKit Go.Proofs Go.Maps
set_option linter.unusedVariables false
set_option maxRecDepth 100000
set_option linter.unusedSimpArgs false

/-- a row behind a row -/
def cat (g : Nat → Int) (n : Nat) (y : Nat → Int) : Nat → Int := fun j => if j < n then g j else y (j - n)
theorem cat_lo {g y : Nat → Int} {n j : Nat} (h : j < n) : cat g n y j = g j := if_pos h
theorem cat_hi {g y : Nat → Int} {n j : Nat} (h : n ≤ j) : cat g n y j = y (j - n) := if_neg (by omega)

theorem wpList_app {w : World} {ops : Array Oper} {rest : List Oper} {o : Oper} {a : Act} {Q : Exit → Act → World → Prop} (hgd : o.guard = none) (s x : Operand)
    (ho : o.op = .call { callee := .builtin .append, args := #[s, x], argTypes := #[22, 22] })
    (v : Value) (n : Nat) (g : Nat → Int) (hs : a.eval s = v) (h : Ow w v n g) (ad : Addr) (k c : Nat) (y : Nat → Int) (hx : a.eval x = .slice (some ad) k c) (h0 : ∀ i, i < k → w.cell? (ad.add i) = some (.int .i64 (y i))) (hn : n + k ≤ 100000) (hk : 0 < n + k)
    (hQ : ∀ b' c' w', Ow w' (.slice (some ⟨b', 0, none⟩) (n + k) c') (n + k) (cat g n y) → w.grownBy w' v.ownBlock → (some b' = v.ownBlock ∨ b' = w.heap.size) → wpList Try.prog ops Q rest (a.put o.dst (.slice (some ⟨b', 0, none⟩) (n + k) c')) w') :
    wpList Try.prog ops Q (o :: rest) a w := by
  obtain ⟨i0, hi, hz0, hz1, hz2⟩ := info_parts (P := Try.prog) (e := 3) (z := .int .i64 0) (size := 1) (bytes := 8) (by kernel_rfl)
  obtain ⟨xs, hown, hxs⟩ := h
  have hl : xs.length = n * 1 := hown.1
  have hnew : ∀ j, ((List.range k).map fun i => Value.int .i64 (y i))[j]? = if j < k then some (.int .i64 (y j)) else none := fun j => by
    by_cases q : j < k
    · rw [if_pos q, List.getElem?_map, List.getElem?_range q]; rfl
    · rw [if_neg q, List.getElem?_eq_none (by simp; omega)]
  refine wpList_append_own_at w hgd s x 22 ho 0 3 i0 _ 1 8 Try.underlying22 hi hz0 hz1 hz2 rfl (by omega) v n xs hs hown ad k c ((List.range k).map fun i => Value.int .i64 (y i)) hx (by simp) ?_ ?_ (by unfold maxLen; omega) (by omega) (Nat.zero_le _) (fun v' w' h2 h3 _ h5 => ?_)
  rotate_left
  · intro u hu
    rw [List.mem_map] at hu
    obtain ⟨i, _, rfl⟩ := hu
    rfl
  · have hrow : Ow w' v' (n + k) (cat g n y) := ⟨_, h2, fun j hj => ?_⟩
    · obtain ⟨b', c', rfl, _⟩ := hrow.form hk
      refine hQ b' c' w' hrow h3 ?_
      simpa [Value.ownBlock, eq_comm] using h5
    rcases Nat.lt_or_ge j n with q | q
    · rw [cat_lo q, List.getElem?_append_left (by omega)]
      exact hxs j q
    · rw [cat_hi q, List.getElem?_append_right (by omega), hnew, if_pos (by omega), show j - xs.length = j - n by omega]
  · intro j u hu
    rw [hnew] at hu
    split at hu
    · injection hu with hu; rw [← hu]; exact h0 j ‹_›
    · cases hu
theorem step_app {w : World} {ops : Array Oper} {o : Oper} {a : Act} {K : Act → World → Prop} {Q : Exit → Act → World → Prop} {E : Prop} (hgd : o.guard = none) (s x : Operand)
    (ho : o.op = .call { callee := .builtin .append, args := #[s, x], argTypes := #[22, 22] })
    (v : Value) (n : Nat) (g : Nat → Int) (hs : a.eval s = v) (h : Ow w v n g) (ad : Addr) (k c : Nat) (y : Nat → Int) (hx : a.eval x = .slice (some ad) k c) (h0 : ∀ i, i < k → w.cell? (ad.add i) = some (.int .i64 (y i))) (hn : n + k ≤ 100000) (hk : 0 < k) (H : Nat) (hH : w.heap.size = H)
    (hQ : ∀ b' c' w', Ow w' (.slice (some ⟨b', 0, none⟩) (n + k) c') (n + k) (cat g n y) → w.grownBy w' v.ownBlock → (v.ownBlock = some b' ∨ b' = H) → b' < w'.heap.size → K (a.put o.dst (.slice (some ⟨b', 0, none⟩) (n + k) c')) w') :
    if Region.wanted o (yielded ops a.tmps) = true then Oper.wp Try.prog o a w K Q else E := by
  obtain ⟨i0, hi, hz0, hz1, hz2⟩ := info_parts (P := Try.prog) (e := 3) (z := .int .i64 0) (size := 1) (bytes := 8) (by kernel_rfl)
  obtain ⟨xs, hown, hxs⟩ := h
  have hl : xs.length = n * 1 := hown.1
  have hnew : ∀ j, ((List.range k).map fun i => Value.int .i64 (y i))[j]? = if j < k then some (.int .i64 (y j)) else none := fun j => by
    by_cases q : j < k
    · rw [if_pos q, List.getElem?_map, List.getElem?_range q]; rfl
    · rw [if_neg q, List.getElem?_eq_none (by simp; omega)]
  refine step_append_lies w hgd s x 22 ho 0 3 i0 _ 1 8 Try.underlying22 hi hz0 hz1 hz2 rfl (by omega) v n xs hs hown ad k c ((List.range k).map fun i => Value.int .i64 (y i)) hx (by simp) ?_ ?_ hk (by unfold maxLen; omega) (by omega) (Nat.zero_le _) H hH (fun b' c' w' h2 h3 h4 h5 => hQ b' c' w' ⟨_, h2, fun j hj => ?_⟩ h3 h4 h5)
  · intro j u hu
    rw [hnew] at hu
    split at hu
    · injection hu with hu; rw [← hu]; exact h0 j ‹_›
    · cases hu
  · intro u hu
    rw [List.mem_map] at hu
    obtain ⟨i, _, rfl⟩ := hu
    rfl
  · rcases Nat.lt_or_ge j n with q | q
    · rw [cat_lo q, List.getElem?_append_left (by omega)]
      exact hxs j q
    · rw [cat_hi q, List.getElem?_append_right (by omega), hnew, if_pos (by omega), show j - xs.length = j - n by omega]
theorem step_cop {w : World} {ops : Array Oper} {o : Oper} {a : Act} {K : Act → World → Prop} {Q : Exit → Act → World → Prop} {E : Prop} (hgd : o.guard = none) (s x : Operand)
    (ho : o.op = .call { callee := .builtin .append, args := #[s, x], argTypes := #[22, 22] })
    (v : Value) (g : Nat → Int) (hs : a.eval s = v) (h : Ow w v 0 g) (ad : Addr) (k c : Nat) (y : Nat → Int) (hx : a.eval x = .slice (some ad) k c) (h0 : ∀ i, i < k → w.cell? (ad.add i) = some (.int .i64 (y i))) (hn : k ≤ 100000) (hk : 0 < k) (H : Nat) (hH : w.heap.size = H)
    (hQ : ∀ b' c' w', Ow w' (.slice (some ⟨b', 0, none⟩) k c') k y → w.grownBy w' v.ownBlock → (v.ownBlock = some b' ∨ b' = H) → b' < w'.heap.size → K (a.put o.dst (.slice (some ⟨b', 0, none⟩) k c')) w') :
    if Region.wanted o (yielded ops a.tmps) = true then Oper.wp Try.prog o a w K Q else E := by
  refine step_app hgd s x ho v 0 g hs h ad k c y hx h0 (by omega) hk H hH (fun b' c' w' O g1 l z => ?_)
  rw [Nat.zero_add] at O ⊢
  exact hQ b' c' w' (O.congr fun i hi => by rw [cat_hi (Nat.zero_le _), Nat.sub_zero]) g1 l z
theorem wpList_cop {w : World} {ops : Array Oper} {rest : List Oper} {o : Oper} {a : Act} {Q : Exit → Act → World → Prop} (hgd : o.guard = none) (s x : Operand)
    (ho : o.op = .call { callee := .builtin .append, args := #[s, x], argTypes := #[22, 22] })
    (v : Value) (g : Nat → Int) (hs : a.eval s = v) (h : Ow w v 0 g) (ad : Addr) (k c : Nat) (y : Nat → Int) (hx : a.eval x = .slice (some ad) k c) (h0 : ∀ i, i < k → w.cell? (ad.add i) = some (.int .i64 (y i))) (hn : k ≤ 100000) (hk : 0 < k)
    (hQ : ∀ b' c' w', Ow w' (.slice (some ⟨b', 0, none⟩) k c') k y → w.grownBy w' v.ownBlock → (some b' = v.ownBlock ∨ b' = w.heap.size) → wpList Try.prog ops Q rest (a.put o.dst (.slice (some ⟨b', 0, none⟩) k c')) w') :
    wpList Try.prog ops Q (o :: rest) a w := by
  refine wpList_app hgd s x ho v 0 g hs h ad k c y hx h0 (by omega) (by omega) (fun b' c' w' O g1 l => ?_)
  rw [Nat.zero_add] at O ⊢
  exact hQ b' c' w' (O.congr fun i hi => by rw [cat_hi (Nat.zero_le _), Nat.sub_zero]) g1 l
/-- a row with no cells in it, made -/
theorem Ow.empty (w : World) (x : Nat → Int) : Ow (w.alloc (.cells #[] 3)) (.slice (some ⟨w.heap.size, 0, none⟩) 0 0) 0 x :=
  ⟨[], World.ownsRow_made w #[] 0 (Nat.zero_le _) (by unfold maxLen; omega) (by simp), fun j hj => by omega⟩
/-- a row that was written out -/
theorem Ow.lit (w : World) (n : Nat) (x : Nat → Int) (cur : Array Value) (hs : cur.size = n) (hn : n ≤ 1000) (h : ∀ j, j < n → cur[j]? = some (.int .i64 (x j))) : Ow (w.alloc (.cells cur 3)) (.slice (some ⟨w.heap.size, 0, none⟩) n n) n x := by
  refine ⟨cur.toList.take (n * 1), ⟨by simp [hs], .inr ⟨w.heap.size, n, cur, rfl, Nat.zero_le _, heap_alloc_new _ _, Nat.le_refl _, by unfold maxLen; omega, by simp [hs], rfl⟩⟩, fun j hj => ?_⟩
  rw [List.getElem?_take_of_lt (by omega), Array.getElem?_toList]
  exact h j hj
theorem Ow.lit1 (w : World) (x : Nat → Int) (u : Int) (h : x 0 = u) : Ow (w.alloc (.cells #[.int .i64 u] 3)) (.slice (some ⟨w.heap.size, 0, none⟩) 1 1) 1 x :=
  Ow.lit w 1 x _ rfl (by omega) fun j hj => by rw [show j = 0 by omega, h]; rfl
theorem Ow.lit2 (w : World) (x : Nat → Int) (u v : Int) (h : x 0 = u) (h1 : x 1 = v) : Ow (w.alloc (.cells #[.int .i64 u, .int .i64 v] 3)) (.slice (some ⟨w.heap.size, 0, none⟩) 2 2) 2 x :=
  Ow.lit w 2 x _ rfl (by omega) fun j hj => by
    rcases Nat.lt_or_ge j 1 with q | q
    · rw [show j = 0 by omega, h]; rfl
    · rw [show j = 1 by omega, h1]; rfl
end Go.Proofs.Ytcejjcopchkmeaa.Ro
