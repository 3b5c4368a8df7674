/- Arcs appended out of any row, nil too; in plain regions and in drawn ones. -/
import Derived.Test.YtchlccendggfpaaPaY
import Derived.Deep.RegionLaw
namespace Go.Proofs.Ytchlccendggfpaa.Ro
open Go.RowKit Go.Proofs Go.Maps
set_option linter.unusedVariables false
set_option linter.unusedSimpArgs false

/-- m arcs that are read, from an address on (or none) -/
def SrcA (w : World) (A : Option Addr) (m : Nat) (S : ArcsF) : Prop := (A = none ∧ m = 0) ∨ ∃ ad, A = some ad ∧ ∀ i, i < m * 3 → w.cell? (ad.add i) = some (arcCell S i)
theorem run_appA (w : World) (ty : TypeId) (v : Value) (n : Nat) (S : ArcsF) (h : OwA w v n S) (A : Option Addr) (m c : Nat) (S' : ArcsF) (hr : SrcA w A m S') (hn : n + m ≤ 100000) :
    ∃ v' w', (Builtin.append_ #[25, 25] ty #[v, .slice A m c]).run Try.prog w = .ok v' w' ∧ OwA w' v' (n + m) (catA S n S') ∧ w.grownBy w' v.ownBlock ∧ (v'.ownBlock = v.ownBlock ∨ v'.ownBlock = some w.heap.size) := by
  obtain ⟨i0, hi, hz0, hz1, hz2⟩ := info_parts (P := Try.prog) (e := 30) (z := .agg #[.int .i64 0, .int .i64 0, .int .i64 0]) (size := 3) (bytes := 24) (by kernel_rfl)
  rcases hr with ⟨rfl, rfl⟩ | ⟨ad, rfl, hc⟩
  · have hsame : OwA w v (n + 0) (catA S n S') := h.congr (S' := catA S n S') (fun j hj => ⟨(if_pos hj).symm, (if_pos hj).symm, (if_pos hj).symm⟩)
    obtain ⟨xs, hown, _⟩ := h
    refine ⟨v, w, ?_, hsame, World.grownBy.refl w _, .inl rfl⟩
    rcases hown.2 with ⟨rfl, rfl⟩ | ⟨g, cap, cur, rfl, _, _, hnc, _⟩
    · simp [Builtin.append_, run_underlying Try.underlying25, sizeOf, typeInfo, hi, Builtin.lenOf, Builtin.firstCells]
    · simp [Builtin.append_, run_underlying Try.underlying25, sizeOf, typeInfo, hi, Builtin.lenOf, Builtin.firstCells, hnc, storeCells]
  · obtain ⟨xs, hown, hxs⟩ := h
    have hl : xs.length = n * 3 := hown.1
    have hnew : ∀ j, ((List.range (m * 3)).map fun i => arcCell S' i)[j]? = if j < m * 3 then some (arcCell S' j) else none := fun j => by
      by_cases q : j < m * 3
      · rw [if_pos q, List.getElem?_map, List.getElem?_range q]; rfl
      · rw [if_neg q, List.getElem?_eq_none (by simp; omega)]
    obtain ⟨v', w', hrun, h2, h3, _, h5⟩ := run_append_own_at (P := Try.prog) w 0 25 ty 30 i0 _ 3 24 Try.underlying25 hi hz0 hz1 hz2 rfl (by omega) v n xs hown ad m c ((List.range (m * 3)).map fun i => arcCell S' i) (by simp) (fun j u hu => by
      rw [hnew] at hu
      split at hu
      · injection hu with hu; rw [← hu]; exact hc j ‹_›
      · cases hu) (fun u hu => by
      rw [List.mem_map] at hu
      obtain ⟨i, _, rfl⟩ := hu
      exact arcCell_one _ _) (by unfold maxLen; omega) (by omega) (Nat.zero_le _)
    refine ⟨v', w', hrun, ⟨_, h2, fun j hj => ?_⟩, h3, h5⟩
    rw [catA_cell]
    rcases Nat.lt_or_ge j (n * 3) with q | q
    · rw [if_pos q, List.getElem?_append_left (by omega)]
      exact hxs j q
    · rw [if_neg (by omega), List.getElem?_append_right (by omega), hnew, if_pos (by omega), show j - xs.length = j - n * 3 by omega]
theorem wp_appA2 {w : World} {o : Oper} {a : Act} {K : Act → World → Prop} {Q : Exit → Act → World → Prop} (s x : Operand)
    (ho : o.op = .call { callee := .builtin .append, args := #[s, x], argTypes := #[25, 25] })
    (v : Value) (n : Nat) (S : ArcsF) (hs : a.eval s = v) (h : OwA w v n S) (A : Option Addr) (m c : Nat) (S' : ArcsF) (hx : a.eval x = .slice A m c) (hr : SrcA w A m S') (hn : n + m ≤ 100000)
    (hQ : ∀ v' w', OwA w' v' (n + m) (catA S n S') → w.grownBy w' v.ownBlock → (v'.ownBlock = v.ownBlock ∨ v'.ownBlock = some w.heap.size) → K (a.put o.dst v') w') : o.wp Try.prog a w K Q := by
  obtain ⟨v', w', hrun, h2, h3, h4⟩ := run_appA w o.type v n S h A m c S' hr hn
  unfold Oper.wp execOp
  simp only [ho, resolve, invoke, builtin, Sem.run_bind, Sem.run_pure, Result.andThen_ok, List.map_toArray, List.map_cons, List.map_nil, hs, hx, hrun]
  exact hQ v' w' h2 h3 h4
theorem wpList_appA2 {w : World} {ops : Array Oper} {rest : List Oper} {o : Oper} {a : Act} {Q : Exit → Act → World → Prop} (hgd : o.guard = none) (s x : Operand)
    (ho : o.op = .call { callee := .builtin .append, args := #[s, x], argTypes := #[25, 25] })
    (v : Value) (n : Nat) (S : ArcsF) (hs : a.eval s = v) (h : OwA w v n S) (A : Option Addr) (m c : Nat) (S' : ArcsF) (hx : a.eval x = .slice A m c) (hr : SrcA w A m S') (hn : n + m ≤ 100000)
    (hQ : ∀ v' w', OwA w' v' (n + m) (catA S n S') → w.grownBy w' v.ownBlock → (v'.ownBlock = v.ownBlock ∨ v'.ownBlock = some w.heap.size) → wpList Try.prog ops Q rest (a.put o.dst v') w') : wpList Try.prog ops Q (o :: rest) a w :=
  wpList_plain hgd fun _ hK => wp_appA2 s x ho v n S hs h A m c S' hx hr hn fun v' w' h2 h3 h4 => hK _ _ (hQ v' w' h2 h3 h4)
theorem step_appA2 {w : World} {ops : Array Oper} {o : Oper} {a : Act} {K : Act → World → Prop} {Q : Exit → Act → World → Prop} {E : Prop} (hgd : o.guard = none) (s x : Operand)
    (ho : o.op = .call { callee := .builtin .append, args := #[s, x], argTypes := #[25, 25] })
    (v : Value) (n : Nat) (S : ArcsF) (hs : a.eval s = v) (h : OwA w v n S) (A : Option Addr) (m c : Nat) (S' : ArcsF) (hx : a.eval x = .slice A m c) (hr : SrcA w A m S') (hn : n + m ≤ 100000)
    (hQ : ∀ v' w', OwA w' v' (n + m) (catA S n S') → w.grownBy w' v.ownBlock → (v'.ownBlock = v.ownBlock ∨ v'.ownBlock = some w.heap.size) → K (a.put o.dst v') w') :
    if Region.wanted o (yielded ops a.tmps) = true then Oper.wp Try.prog o a w K Q else E := by
  have hw : Region.wanted o (yielded ops a.tmps) = true := by simp [Region.wanted, hgd]
  rw [if_pos hw]
  exact wp_appA2 s x ho v n S hs h A m c S' hx hr hn hQ
section
variable {w w' : World} {v : Value} {k m n : Nat} {S S' : ArcsF}
theorem OwA.empty (w : World) (S : ArcsF) : OwA (w.alloc (.cells #[] 30)) (.slice (some ⟨w.heap.size, 0, none⟩) 0 0) 0 S :=
  ⟨[], World.ownsRow_made w #[] 0 (Nat.zero_le _) (by unfold maxLen; omega) (by simp), fun j hj => by omega⟩
/-- a row of arcs as a source -/
theorem RdA.src {A : Option Addr} {c : Nat} (h : RdA w (.slice A k c) k S) : SrcA w A k S := by
  rcases Nat.eq_zero_or_pos k with rfl | hk
  · rcases A with _ | ad
    · exact .inl ⟨rfl, rfl⟩
    · exact .inr ⟨ad, rfl, fun i hi => by omega⟩
  · obtain ⟨b, cap, e, hb, _⟩ := h.arc hk
    injection e with e1 e2 e3
    subst e1
    refine .inr ⟨_, rfl, fun i hi => ?_⟩
    rw [add_head]
    obtain ⟨b', cap', e', _, h1, h2, h3⟩ := h.arc (i := i / 3) (by omega)
    injection e' with e1 e2 e3
    injection e1 with e1
    injection e1 with e1
    subst e1
    have : i % 3 = 0 ∨ i % 3 = 1 ∨ i % 3 = 2 := by omega
    rcases this with q | q | q
    · rw [show i = i / 3 * 3 by omega, arcCell_0]; exact h1
    · rw [show i = i / 3 * 3 + 1 by omega, arcCell_1]
      exact h2
    · rw [show i = i / 3 * 3 + 2 by omega, arcCell_2]
      exact h3
theorem OwA.lit (w : World) (k : Nat) (S : ArcsF) (cs : Array Value) (h : ∀ i, i < k * 3 → cs[i]? = some (arcCell S i)) : SrcA (w.alloc (.cells cs 30)) (some ⟨w.heap.size, 0, none⟩) k S :=
  .inr ⟨_, rfl, fun i hi => by rw [add_head, blk_cell (heap_alloc_new w _)]; exact h i hi⟩
end
end Go.Proofs.Ytchlccendggfpaa.Ro
