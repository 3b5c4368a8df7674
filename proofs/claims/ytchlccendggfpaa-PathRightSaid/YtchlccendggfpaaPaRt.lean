/- A number appended behind a guard; rows as sources. -/
import Derived.Test.YtchlccendggfpaaRoAp
import Derived.Test.YtchlccendggfpaaRoTk
namespace Go.Proofs.Ytchlccendggfpaa.Ro
open Go.RowKit Go.Proofs Go.Maps
set_option linter.unusedVariables false
set_option linter.unusedSimpArgs false

theorem wpList_g {P : Program} {ops : Array Oper} {rest : List Oper} {o : Oper} {a : Act} {w : World} {Q : Exit → Act → World → Prop} (hw : Region.wanted o (yielded ops a.tmps) = true)
    (h : ∀ K : Act → World → Prop, (∀ a w, wpList P ops Q rest a w → K a w) → o.wp P a w K Q) : wpList P ops Q (o :: rest) a w :=
  wpList_step fun K hK => by rw [if_pos hw]; exact h K hK
theorem wp_growI {w : World} {o : Oper} {a : Act} {K : Act → World → Prop} {Q : Exit → Act → World → Prop} (s x : Operand)
    (ho : o.op = .call { callee := .builtin .append, args := #[s, x], argTypes := #[22, 22] })
    (v : Value) (n : Nat) (g : Nat → Int) (hs : a.eval s = v) (h : Ow w v n g) (ad : Addr) (c : Nat) (k : Int) (hx : a.eval x = .slice (some ad) 1 c) (h0 : w.cell? ad = some (.int .i64 k)) (hn : n ≤ 100000)
    (hQ : ∀ b' c' w', Ow w' (.slice (some ⟨b', 0, none⟩) (n + 1) c') (n + 1) (upd g n k) → w.grownBy w' v.ownBlock → K (a.put o.dst (.slice (some ⟨b', 0, none⟩) (n + 1) c')) w') : o.wp Try.prog a w K Q := by
  obtain ⟨i0, hi, hz0, hz1, hz2⟩ := info_parts (P := Try.prog) (e := 3) (z := .int .i64 0) (size := 1) (bytes := 8) (by kernel_rfl)
  obtain ⟨xs, hown, hxs⟩ := h
  have hl : xs.length = n * 1 := hown.1
  obtain ⟨v', w', hrun, h2, h3, _, _⟩ := run_append_own_at (P := Try.prog) w 0 22 o.type 3 i0 _ 1 8 Try.underlying22 hi hz0 hz1 hz2 rfl (by omega) v n xs hown ad 1 c [.int .i64 k] rfl (fun j u hu => by
    match j, hu with
    | 0, hu => simp at hu; subst hu; rw [show ad.add 0 = ad by unfold Addr.add; simp]; exact h0
    | j + 1, hu => simp at hu) (by simp [Value.oneCell']) (by unfold maxLen; omega) (by omega) (Nat.zero_le _)
  have hrow : Ow w' v' (n + 1) (upd g n k) := ⟨_, h2, fun j hj => by
    by_cases e : j = n
    · subst e
      rw [upd_same, List.getElem?_append_right (by omega), show j - xs.length = 0 from by omega]
      rfl
    · rw [upd_ne e, List.getElem?_append_left (by omega)]
      exact hxs j (by omega)⟩
  obtain ⟨b', c', rfl, _⟩ := hrow.form (by omega)
  unfold Oper.wp execOp
  simp only [ho, resolve, invoke, builtin, Sem.run_bind, Sem.run_pure, Result.andThen_ok, List.map_toArray, List.map_cons, List.map_nil, hs, hx, hrun]
  exact hQ b' c' w' hrow h3
theorem fresh_int (w : World) (u : Int) : (w.alloc (.cells #[.int .i64 u] 3)).cell? ⟨w.heap.size, 0, none⟩ = some (.int .i64 u) := by rw [blk_cell (heap_alloc_new w _)]; rfl
/-- one of seven numbers -/
theorem seven_cell (w : World) (x0 x1 x2 x3 x4 x5 x6 : Int) {j : Nat} (hj : j < 7) : ∃ u : Int, ∀ w : World, (w.alloc (.cells #[.int .i64 x0, .int .i64 x1, .int .i64 x2, .int .i64 x3, .int .i64 x4, .int .i64 x5, .int .i64 x6] 3)).cell? ⟨w.heap.size, j, none⟩ = some (.int .i64 u) := by
  have : j = 0 ∨ j = 1 ∨ j = 2 ∨ j = 3 ∨ j = 4 ∨ j = 5 ∨ j = 6 := by omega
  rcases this with rfl | rfl | rfl | rfl | rfl | rfl | rfl
  · exact ⟨x0, fun w => by rw [blk_cell (heap_alloc_new w _)]; rfl⟩
  · exact ⟨x1, fun w => by rw [blk_cell (heap_alloc_new w _)]; rfl⟩
  · exact ⟨x2, fun w => by rw [blk_cell (heap_alloc_new w _)]; rfl⟩
  · exact ⟨x3, fun w => by rw [blk_cell (heap_alloc_new w _)]; rfl⟩
  · exact ⟨x4, fun w => by rw [blk_cell (heap_alloc_new w _)]; rfl⟩
  · exact ⟨x5, fun w => by rw [blk_cell (heap_alloc_new w _)]; rfl⟩
  · exact ⟨x6, fun w => by rw [blk_cell (heap_alloc_new w _)]; rfl⟩
end Go.Proofs.Ytchlccendggfpaa.Ro
