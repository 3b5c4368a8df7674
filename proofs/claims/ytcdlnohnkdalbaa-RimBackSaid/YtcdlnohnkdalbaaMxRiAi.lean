/- Whole numbers appended out of any row, nil too. -/
import Derived.Test.YtcdlnohnkdalbaaMg1
namespace Go.Proofs.Ytcdlnohnkdalbaa.Ro
open Go.RowKit Go.Proofs Go.Maps
set_option linter.unusedVariables false
set_option maxRecDepth 100000
set_option linter.unusedSimpArgs false

/-- m whole numbers that are read, from an address on (or none) -/
def SrcI (w : World) (A : Option Addr) (m : Nat) (y : Nat → Int) : Prop := (A = none ∧ m = 0) ∨ ∃ ad, A = some ad ∧ ∀ i, i < m → w.cell? (ad.add i) = some (.int .i64 (y i))
theorem Rd.srcI {w : World} {A : Option Addr} {c m : Nat} {y : Nat → Int} (h : Rd w (.slice A m c) m y) : SrcI w A m y := by
  obtain ⟨A', cap, e, r⟩ := h
  injection e with e1 e2 e3
  subst e1
  rcases Nat.eq_zero_or_pos m with rfl | hm
  · rcases A with _ | ad
    · exact .inl ⟨rfl, rfl⟩
    · exact .inr ⟨ad, rfl, fun i hi => by omega⟩
  · obtain ⟨ad, h1, _, h2⟩ := r hm
    exact .inr ⟨ad, h1, h2⟩
theorem run_appI (w : World) (ty : TypeId) (v : Value) (n : Nat) (g : Nat → Int) (h : Ow w v n g) (A : Option Addr) (m c : Nat) (y : Nat → Int) (hr : SrcI w A m y) (hn : n + m ≤ 100000) :
    ∃ v' w', (Builtin.append_ #[22, 22] ty #[v, .slice A m c]).run Try.prog w = .ok v' w' ∧ Ow w' v' (n + m) (cat g n y) ∧ w.grownBy w' v.ownBlock ∧ (v'.ownBlock = v.ownBlock ∨ v'.ownBlock = some w.heap.size) := by
  obtain ⟨i0, hi, hz0, hz1, hz2⟩ := info_parts (P := Try.prog) (e := 3) (z := .int .i64 0) (size := 1) (bytes := 8) (by kernel_rfl)
  rcases hr with ⟨rfl, rfl⟩ | ⟨ad, rfl, hc⟩
  · have hsame : Ow w v (n + 0) (cat g n y) := h.congr (x' := cat g n y) (fun j hj => (cat_lo hj).symm)
    obtain ⟨xs, hown, _⟩ := h
    refine ⟨v, w, ?_, hsame, World.grownBy.refl w _, .inl rfl⟩
    rcases hown.2 with ⟨rfl, rfl⟩ | ⟨g, cap, cur, rfl, _, _, hnc, _⟩
    · simp [Builtin.append_, run_underlying Try.underlying22, sizeOf, typeInfo, hi, Builtin.lenOf, Builtin.firstCells]
    · simp [Builtin.append_, run_underlying Try.underlying22, sizeOf, typeInfo, hi, Builtin.lenOf, Builtin.firstCells, hnc, storeCells]
  · obtain ⟨xs, hown, hxs⟩ := h
    have hl : xs.length = n * 1 := hown.1
    have hnew : ∀ j, ((List.range m).map fun i => Value.int .i64 (y i))[j]? = if j < m then some (.int .i64 (y j)) else none := fun j => by
      by_cases q : j < m
      · rw [if_pos q, List.getElem?_map, List.getElem?_range q]; rfl
      · rw [if_neg q, List.getElem?_eq_none (by simp; omega)]
    obtain ⟨v', w', hrun, h2, h3, _, h5⟩ := run_append_own_at (P := Try.prog) w 0 22 ty 3 i0 _ 1 8 Try.underlying22 hi hz0 hz1 hz2 rfl (by omega) v n xs hown ad m c ((List.range m).map fun i => Value.int .i64 (y i)) (by simp) (fun j u hu => by
      rw [hnew] at hu
      split at hu
      · injection hu with hu; rw [← hu]; exact hc j ‹_›
      · cases hu) (fun u hu => by
      rw [List.mem_map] at hu
      obtain ⟨i, _, rfl⟩ := hu
      rfl) (by unfold maxLen; omega) (by omega) (Nat.zero_le _)
    refine ⟨v', w', hrun, ⟨_, h2, fun j hj => ?_⟩, h3, h5⟩
    rcases Nat.lt_or_ge j n with q | q
    · rw [cat_lo q, List.getElem?_append_left (by omega)]
      exact hxs j q
    · rw [cat_hi q, List.getElem?_append_right (by omega), hnew, if_pos (by omega), show j - xs.length = j - n by omega]
theorem step_appI {w : World} {ops : Array Oper} {o : Oper} {a : Act} {K : Act → World → Prop} {Q : Exit → Act → World → Prop} {E : Prop} (hgd : o.guard = none) (s x : Operand)
    (ho : o.op = .call { callee := .builtin .append, args := #[s, x], argTypes := #[22, 22] })
    (v : Value) (n : Nat) (g : Nat → Int) (hs : a.eval s = v) (h : Ow w v n g) (A : Option Addr) (m c : Nat) (y : Nat → Int) (hx : a.eval x = .slice A m c) (hr : SrcI w A m y) (hn : n + m ≤ 100000)
    (hQ : ∀ v' w', Ow w' v' (n + m) (cat g n y) → w.grownBy w' v.ownBlock → (v'.ownBlock = v.ownBlock ∨ v'.ownBlock = some w.heap.size) → K (a.put o.dst v') w') :
    if Region.wanted o (yielded ops a.tmps) = true then Oper.wp Try.prog o a w K Q else E := by
  have hw : Region.wanted o (yielded ops a.tmps) = true := by simp [Region.wanted, hgd]
  rw [if_pos hw]
  obtain ⟨v', w', hrun, h2, h3, h4⟩ := run_appI w o.type v n g h A m c y hr hn
  unfold Oper.wp execOp
  simp only [ho, resolve, invoke, builtin, Sem.run_bind, Sem.run_pure, Result.andThen_ok, List.map_toArray, List.map_cons, List.map_nil, hs, hx, hrun]
  exact hQ v' w' h2 h3 h4
theorem Ow.sliced {w : World} {v : Value} {n : Nat} {g : Nat → Int} (h : Ow w v n g) : ∃ A c, v = .slice A n c := by
  obtain ⟨A, c, rfl, -⟩ := h.rd
  exact ⟨A, c, rfl⟩
end Go.Proofs.Ytcdlnohnkdalbaa.Ro
