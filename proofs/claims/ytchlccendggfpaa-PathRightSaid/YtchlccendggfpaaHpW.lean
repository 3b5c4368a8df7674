/- What a heap object is in memory: its struct, its row of items, its map; and how one's own blocks turn. -/
import Derived.Below
import Derived.Laws.OwnMore
import Derived.Deep.AppendLies
import Derived.Deep.Draws
import Derived.Maps.OwnSet
import Derived.Maps.AppendAt
import Derived.WalkSmall
import Derived.OwnWalk
import Derived.Test.YtchlccendggfpaaProg
import Derived.Test.YtchlccendggfpaaHpA
namespace Go.Proofs.Ytchlccendggfpaa.Hp
open Go.RowKit Go.Maps
set_option linter.unusedVariables false
set_option linter.unusedSimpArgs false

/-- of what was there only blocks of F may have turned -/
structure Turn (F : Nat → Prop) (w w' : World) : Prop where
  os : w'.os = w.os
  tape : w'.tape = w.tape
  output : w'.output = w.output
  size : w.heap.size ≤ w'.heap.size
  block : ∀ k, k < w.heap.size → ¬ F k → w'.heap[k]? = w.heap[k]?

section
variable {F F' : Nat → Prop} {a b c w w' : World}
theorem Turn.refl (F : Nat → Prop) (w : World) : Turn F w w := ⟨rfl, rfl, rfl, Nat.le_refl _, fun _ _ _ => rfl⟩
theorem Turn.trans (h : Turn F a b) (k : Turn F' b c) (hf : ∀ x, x < a.heap.size → F' x → F x) : Turn F a c :=
  ⟨k.os.trans h.os, k.tape.trans h.tape, k.output.trans h.output, Nat.le_trans h.size k.size, fun i hi hn => (k.block i (Nat.lt_of_lt_of_le hi h.size) fun q => hn (hf i hi q)).trans (h.block i hi hn)⟩
theorem Turn.mono (h : Turn F a b) (hf : ∀ x, F x → F' x) : Turn F' a b := ⟨h.os, h.tape, h.output, h.size, fun i hi hn => h.block i hi fun q => hn (hf i q)⟩
theorem Turn.drew (h : Turn F a w) : Turn F a w.drew := ⟨h.os, h.tape, h.output, h.size, h.block⟩
theorem Turn.drewN (h : Turn F a w) (n : Nat) : Turn F a (w.drewN n) := ⟨h.os, h.tape, h.output, h.size, h.block⟩
theorem Turn.alloc (h : Turn F a w) (o : Obj) : Turn F a (w.alloc o) :=
  ⟨h.os, h.tape, h.output, Nat.le_trans h.size (by simp), fun i hi hn => (Below.heap_alloc w o i (Nat.lt_of_lt_of_le hi h.size)).trans (h.block i hi hn)⟩
theorem Turn.setCell (h : Turn F a w) {p : Addr} (hp : F p.block ∨ a.heap.size ≤ p.block) (u : Value) : Turn F a (w.setCell p u) :=
  ⟨h.os, h.tape, h.output, by simpa [World.setCell] using h.size, fun i hi hn => (Below.heap_setCell w p u i (by
    rintro rfl
    rcases hp with hp | hp
    · exact hn hp
    · omega)).trans (h.block i hi hn)⟩
theorem Turn.grown (h : Turn F a w) {row : Option Nat} (hg : w.grownBy w' row) (hr : ∀ k, row = some k → F k ∨ a.heap.size ≤ k) : Turn F a w' :=
  ⟨hg.os.trans h.os, hg.tape.trans h.tape, hg.output.trans h.output, Nat.le_trans h.size hg.size, fun i hi hn => (hg.block i (Nat.lt_of_lt_of_le hi h.size) (by
    intro e
    rcases hr i e.symm with q | q
    · exact hn q
    · omega)).trans (h.block i hi hn)⟩
theorem Turn.map (h : Turn F a w) {m : Nat} (hm : w.mapTurned w' m) (hr : F m ∨ a.heap.size ≤ m) : Turn F a w' :=
  h.grown hm.grown (by rintro k e; injection e with e; subst e; exact hr)
theorem Turn.of_below {B : Nat} (h : Below B a b) (hF : ∀ k, k < a.heap.size → ¬ F k → k < B) : Turn F a b := ⟨h.os, h.tape, h.output, h.size, fun k hk hn => h.block k (hF k hk hn)⟩
theorem Turn.below {B : Nat} (h : Turn F a w) (hF : ∀ k, F k → B ≤ k) (hB : B ≤ a.heap.size) : Below B a w :=
  ⟨h.os, h.tape, h.output, h.size, fun k hk => h.block k (by omega) fun q => by have := hF k q; omega⟩
theorem Turn.below_all (h : Turn F a w) (hF : ∀ k, ¬ F k) : Below a.heap.size a w := h.below (fun k q => absurd q (hF k)) (Nat.le_refl _)
end

theorem blk_lt {w : World} {g : Nat} {o : Obj} (h : w.heap[g]? = some o) : g < w.heap.size := by
  rcases Nat.lt_or_ge g w.heap.size with hlt | hge
  · exact hlt
  · rw [Array.getElem?_eq_none hge] at h; cases h
theorem blk_cell {w : World} {g : Nat} {cs : Array Value} {t : TypeId} {fr : Nat × Nat} (h : w.heap[g]? = some (.cells cs t fr)) (i : Nat) : w.cell? ⟨g, i, none⟩ = cs[i]? := by simp [World.cell?, h]
theorem blk_frozen {w : World} {g : Nat} {cs : Array Value} {t : TypeId} (h : w.heap[g]? = some (.cells cs t (0, 0))) (i : Nat) : w.frozen? ⟨g, i, none⟩ = false := by simp [World.frozen?, h]
theorem blk_alloc {w : World} {g : Nat} {o x : Obj} (h : w.heap[g]? = some x) : (w.alloc o).heap[g]? = some x := (Below.heap_alloc w o g (blk_lt h)).trans h
theorem blk_far {w : World} {g : Nat} {x : Obj} (h : w.heap[g]? = some x) {p : Addr} (hp : g ≠ p.block) (u : Value) : (w.setCell p u).heap[g]? = some x := (Below.heap_setCell w p u g hp).trans h
theorem blk_set {w : World} {g : Nat} {cs : Array Value} {t : TypeId} {fr : Nat × Nat} (h : w.heap[g]? = some (.cells cs t fr)) (i : Nat) (u : Value) : (w.setCell ⟨g, i, none⟩ u).heap[g]? = some (.cells (cs.setIfInBounds i u) t fr) := by
  simp [World.setCell, Array.getElem?_modify, h]

/-! ### a row of items -/
def cells2 (x : It) : List Value := [.int .i64 x.1, .int .i64 x.2]
def RowIs (E : TypeId) (w : World) (v : Value) (n : Nat) (g : Nat → It) : Prop :=
  ∃ xs, w.ownsRow 0 E 2 v n xs ∧ ∀ j, j < n → xs[j * 2]? = some (.int .i64 (g j).1) ∧ xs[j * 2 + 1]? = some (.int .i64 (g j).2)

section
variable {E : TypeId} {w w' : World} {v : Value} {n cap b : Nat} {g : Nat → It}
theorem RowIs.nil (E : TypeId) (w : World) (g : Nat → It) : RowIs E w (.slice none 0 0) 0 g := ⟨[], World.ownsRow_nil _ _ _ _, fun j hj => by omega⟩
theorem RowIs.form (h : RowIs E w v n g) (hn : 0 < n) : ∃ b cap, v = .slice (some ⟨b, 0, none⟩) n cap ∧ b < w.heap.size := by
  obtain ⟨xs, h1, _⟩ := h
  obtain ⟨b, cap, e, _, hlt⟩ := h1.form hn
  exact ⟨b, cap, e, hlt⟩
theorem RowIs.blk (h : RowIs E w (.slice (some ⟨b, 0, none⟩) n cap) n g) : ∃ cur, w.heap[b]? = some (.cells cur E (0, 0)) ∧ n ≤ cap := by
  obtain ⟨xs, ⟨_, h1⟩, _⟩ := h
  rcases h1 with ⟨e, _⟩ | ⟨b', cap', cur, e, _, hg, hnc, _⟩
  · simp at e
  · simp only [Value.slice.injEq, Option.some.injEq, Addr.mk.injEq, and_true, true_and] at e
    obtain ⟨rfl, rfl⟩ := e
    exact ⟨cur, hg, hnc⟩
theorem RowIs.own_blk (h : RowIs E w v n g) (hb : v.ownBlock = some b) : ∃ cur, w.heap[b]? = some (.cells cur E (0, 0)) := by
  obtain ⟨xs, ⟨_, h1⟩, _⟩ := h
  rcases h1 with ⟨rfl, _⟩ | ⟨b', cap', cur, rfl, _, hg, hnc, _⟩
  · simp [Value.ownBlock] at hb
  · simp only [Value.ownBlock, Option.some.injEq] at hb; subst hb; exact ⟨cur, hg⟩
theorem RowIs.key (h : RowIs E w (.slice (some ⟨b, 0, none⟩) n cap) n g) {j : Nat} (hj : j < n) : w.cell? ⟨b, j * 2, none⟩ = some (.int .i64 (g j).1) := by
  obtain ⟨xs, h1, h2⟩ := h
  rw [h1.cellAt (j * 2) (by omega)]; exact (h2 j hj).1
theorem RowIs.rank (h : RowIs E w (.slice (some ⟨b, 0, none⟩) n cap) n g) {j : Nat} (hj : j < n) : w.cell? ⟨b, j * 2 + 1, none⟩ = some (.int .i64 (g j).2) := by
  obtain ⟨xs, h1, h2⟩ := h
  rw [h1.cellAt (j * 2 + 1) (by omega)]; exact (h2 j hj).2
theorem RowIs.frozen (h : RowIs E w (.slice (some ⟨b, 0, none⟩) n cap) n g) (j : Nat) : w.frozen? ⟨b, j, none⟩ = false := by
  obtain ⟨xs, h1, h2⟩ := h
  exact h1.frozenAt j
theorem RowIs.congr {g' : Nat → It} (h : RowIs E w v n g) (e : ∀ j, j < n → g j = g' j) : RowIs E w v n g' := by
  obtain ⟨xs, h1, h2⟩ := h
  exact ⟨xs, h1, fun j hj => by rw [← e j hj]; exact h2 j hj⟩
theorem RowIs.set (h : RowIs E w (.slice (some ⟨b, 0, none⟩) n cap) n g) {i : Nat} (hi : i < n) (x : It) :
    RowIs E ((w.setCell ⟨b, i * 2, none⟩ (.int .i64 x.1)).setCell ⟨b, i * 2 + 1, none⟩ (.int .i64 x.2)) (.slice (some ⟨b, 0, none⟩) n cap) n (upd g i x) := by
  obtain ⟨xs, h1, h2⟩ := h
  refine ⟨_, (((h1.stored (i * 2) _).1).stored (i * 2 + 1) _).1, fun j hj => ?_⟩
  have hl : xs.length = n * 2 := h1.1
  by_cases e : j = i
  · subst e; rw [upd_same]
    refine ⟨?_, ?_⟩
    · rw [List.getElem?_set_ne (by omega), List.getElem?_set_self (by omega)]
    · rw [List.getElem?_set_self (by simp; omega)]
  · rw [upd_ne e]
    refine ⟨?_, ?_⟩
    · rw [List.getElem?_set_ne (by omega), List.getElem?_set_ne (by omega)]; exact (h2 j hj).1
    · rw [List.getElem?_set_ne (by omega), List.getElem?_set_ne (by omega)]; exact (h2 j hj).2
/-- its block, or that it has none, is as it was -/
theorem RowIs.keep (h : RowIs E w v n g) (hb : ∀ k, v.ownBlock = some k → w'.heap[k]? = w.heap[k]?) : RowIs E w' v n g := by
  obtain ⟨xs, ⟨h0, h1⟩, h2⟩ := h
  refine ⟨xs, ⟨h0, ?_⟩, h2⟩
  rcases h1 with h1 | ⟨b', cap', cur, rfl, q, hg, r⟩
  · exact .inl h1
  · exact .inr ⟨b', cap', cur, rfl, q, (hb b' rfl).trans hg, r⟩
theorem RowIs.pop (h : RowIs E w (.slice (some ⟨b, 0, none⟩) (n + 1) cap) (n + 1) g) : RowIs E w (.slice (some ⟨b, 0, none⟩) n cap) n g := by
  obtain ⟨xs, ⟨h0, h1⟩, h2⟩ := h
  refine ⟨xs.take (n * 2), ⟨by rw [List.length_take, h0]; omega, ?_⟩, fun j hj => ?_⟩
  · rcases h1 with ⟨e, _⟩ | ⟨b', cap', cur, e, q, hg, hnc, hm, hs, ht⟩
    · simp at e
    · simp only [Value.slice.injEq, Option.some.injEq, Addr.mk.injEq, and_true, true_and] at e
      obtain ⟨rfl, rfl⟩ := e
      exact .inr ⟨b, cap, cur, rfl, q, hg, by omega, hm, hs, by rw [← ht, List.take_take]; congr 1; omega⟩
  · rw [List.getElem?_take_of_lt (by omega), List.getElem?_take_of_lt (by omega)]
    exact h2 j (by omega)
theorem RowIs.lt (h : RowIs E w v n g) {k : Nat} (hk : v.ownBlock = some k) : k < w.heap.size := by
  obtain ⟨xs, h1, _⟩ := h
  exact (h1.lt k hk).2
end

/-! ### a map of whole numbers -/
section
variable {P : Program} {K : TypeId} {w w' : World} {b : Nat} {m : Int → Option Int} {s : Nat}
def bump (m : Int → Option Int) (k : Int) (s : Nat) : Nat := if (m k).isSome then s else s + 1
def less1 (m : Int → Option Int) (k : Int) (s : Nat) : Nat := if (m k).isSome then s - 1 else s
theorem new_cell {w : World} {k : Nat} (hk : k = w.heap.size) (cs : Array Value) (t : TypeId) (fr : Nat × Nat) (i : Nat) : (w.alloc (.cells cs t fr)).cell? ⟨k, i, none⟩ = cs[i]? := by
  subst hk
  exact blk_cell (heap_alloc_new w _) i
theorem size_set (w : World) (p : Addr) (u : Value) : (w.setCell p u).heap.size = w.heap.size := by simp [World.setCell]
def Small (k : Int) : Prop := (Lit.int .i64 k).wf = true
/-- block b is a map of just s keys that answers as m does -/
def MapIs (P : Program) (K : TypeId) (w : World) (b : Nat) (m : Int → Option Int) (s : Nat) : Prop :=
  ∃ D : DataW Unit, w.ownsMap P K (plainElem P K) b s D ∧ size D = s ∧ ∀ k, Maps.has D (.int .i64 k) = (m k).isSome ∧ ∀ v, m k = some v → D.atKey (.int .i64 k) (.lit (.int .i64 0)) = .lit (.int .i64 v)

theorem MapIs.lt (h : MapIs P K w b m s) : b < w.heap.size := by
  obtain ⟨D, h1, _⟩ := h
  exact h1.lt
theorem MapIs.keep (h : MapIs P K w b m s) (e : w'.heap[b]? = w.heap[b]?) : MapIs P K w' b m s := by
  obtain ⟨D, ⟨es, clock, hb, r⟩, h2⟩ := h
  exact ⟨D, ⟨es, clock, e.trans hb, r⟩, h2⟩
theorem MapIs.ne_cells {g : Nat} {cs : Array Value} {t : TypeId} {fr : Nat × Nat} (h : MapIs P K w b m s) (hg : w.heap[g]? = some (.cells cs t fr)) : g ≠ b := by
  obtain ⟨D, ⟨es, clock, hb, r⟩, h2⟩ := h
  rintro rfl
  rw [hb] at hg; simp at hg
theorem MapIs.drew (h : MapIs P K w b m s) : MapIs P K w.drew b m s := h.keep rfl
theorem MapIs.new (P : Program) (K : TypeId) (w : World) : MapIs P K (w.alloc (.map #[] 0)) w.heap.size (fun _ => none) 0 :=
  ⟨.map [], World.ownsMap_made _ _ _ _, rfl, fun k => ⟨rfl, fun v hv => by simp at hv⟩⟩

theorem lit_ne {k q : Int} (h : q ≠ k) : (Lit.int .i64 q) ≠ .int .i64 k := by
  intro e; injection e with _ e; exact h e
theorem iskey (k : Int) : WideAt.IsKeyLit (.int .i64 k) := by simp [WideAt.IsKeyLit]
theorem MapIs.of_put {m : Int → Option Int} {s : Nat} {D : DataW Unit} {w : World} {n : Nat} {k v : Int} (hK : P.underlying K = some (.int .i64)) (h1 : w.ownsMap P K (plainElem P K) b s D) (h2 : size D = s)
    (h3 : ∀ k, Maps.has D (.int .i64 k) = (m k).isSome ∧ ∀ v, m k = some v → D.atKey (.int .i64 k) (.lit (.int .i64 0)) = .lit (.int .i64 v)) (hw : w'.ownsMap P K (plainElem P K) b n (D.put (.int .i64 k) (.lit (.int .i64 v)))) :
    MapIs P K w' b (upd m k (some v)) (if (m k).isSome then s else s + 1) := by
  have T := h1.tidy (int_keyed hK)
  have hsz : size (D.put (.int .i64 k) (.lit (.int .i64 v))) = if (m k).isSome then s else s + 1 := by
    rw [size_put T, (h3 k).1, h2]
  refine ⟨_, ?_, hsz, fun q => ?_⟩
  · obtain ⟨es, clock, hb, F, hs, e⟩ := hw
    refine ⟨es, clock, hb, F, ?_, e⟩
    rw [← hsz, e]
    simp [size, length_sorted]
  · by_cases e : q = k
    · subst e
      rw [upd_same, has_put_same h1.isMap (iskey _)]
      refine ⟨rfl, fun v' hv' => ?_⟩
      injection hv' with hv'
      subst hv'
      exact atKey_put_same h1.isMap (iskey _) _ _
    · rw [upd_ne e, has_put_other (lit_ne e)]
      refine ⟨(h3 q).1, fun v' hv' => ?_⟩
      rw [atKey_put_other (lit_ne e)]
      exact (h3 q).2 v' hv'

theorem MapIs.of_del {m : Int → Option Int} {s : Nat} {D : DataW Unit} {w : World} {n : Nat} {k : Int} (hK : P.underlying K = some (.int .i64)) (h1 : w.ownsMap P K (plainElem P K) b s D) (h2 : size D = s)
    (h3 : ∀ k, Maps.has D (.int .i64 k) = (m k).isSome ∧ ∀ v, m k = some v → D.atKey (.int .i64 k) (.lit (.int .i64 0)) = .lit (.int .i64 v)) (hw : w'.ownsMap P K (plainElem P K) b n (D.del (.int .i64 k))) :
    MapIs P K w' b (upd m k none) (if (m k).isSome then s - 1 else s) := by
  have T := h1.tidy (int_keyed hK)
  have hsz : size (D.del (.int .i64 k)) = if (m k).isSome then s - 1 else s := by
    have := size_del T (k := .int .i64 k)
    rw [(h3 k).1, h2] at this
    split <;> rename_i hh <;> simp [hh] at this <;> omega
  refine ⟨_, ?_, hsz, fun q => ?_⟩
  · obtain ⟨es, clock, hb, F, hs, e⟩ := hw
    refine ⟨es, clock, hb, F, ?_, e⟩
    rw [← hsz, e]
    simp [size, length_sorted]
  · by_cases e : q = k
    · subst e
      rw [upd_same, has_del_same]
      exact ⟨rfl, fun v' hv' => by simp at hv'⟩
    · rw [upd_ne e, has_del_other (lit_ne e)]
      refine ⟨(h3 q).1, fun v' hv' => ?_⟩
      rw [atKey_del_other (lit_ne e)]
      exact (h3 q).2 v' hv'
end

section
variable {P : Program} {K : TypeId} (w : World) {ops : Array Oper} {rest : List Oper} {o : Oper} {a : Act} {Q : Exit → Act → World → Prop}
theorem wpList_put (hg : o.guard = none) (mo xo vo : Operand) (t : TypeId) (hop : o.op = Op.mapUpdate t mo xo vo) (hK : P.underlying K = some (.int .i64)) (ht : P.underlying t = some (.map K K)) (b s : Nat) (m : Int → Option Int)
    (hm : a.eval mo = .map (some b)) (h : MapIs P K w b m s) (hs : s < maxLen) (k v : Int) (hx : a.eval xo = .int .i64 k) (hv : a.eval vo = .int .i64 v) (wk : Small k) (wv : Small v)
    (hQ : ∀ w', MapIs P K w' b (upd m k (some v)) (bump m k s) → w.mapTurned w' b → wpList P ops Q rest (a.put o.dst undef) w') : wpList P ops Q (o :: rest) a w := by
  obtain ⟨D, h1, h2, h3⟩ := h
  refine wpList_mapUpdate_in w hg mo xo vo t hop K K (int_keyed hK) ht _ b s D hm h1 hs _ _ _ hx hv (keyOf_int_mk hK wk) _ [] (plainElem_int hK wv) (fun w' hw ht' => hQ w' ?_ ht')
  exact MapIs.of_put hK h1 h2 h3 hw

theorem wpList_get (hg : o.guard = none) (mo xo : Operand) (t : TypeId) (hop : o.op = Op.lookup t mo xo true) (hK : P.underlying K = some (.int .i64)) (ht : P.underlying t = some (.map K K)) (hz : (zeroValue K).run P w = .ok (.int .i64 0) w) (b s : Nat) (m : Int → Option Int)
    (hm : a.eval mo = .map (some b)) (h : MapIs P K w b m s) (k : Int) (hx : a.eval xo = .int .i64 k) (wk : Small k)
    (hQ : wpList P ops Q rest (a.put o.dst (.tuple #[.int .i64 ((m k).getD 0), .bool (m k).isSome])) w) : wpList P ops Q (o :: rest) a w := by
  obtain ⟨D, h1, h2, h3⟩ := h
  refine wpList_lookup_own_ok_int w hg mo xo t hop K K .i64 (int_keyed hK) ht hK hz b s D hm h1 _ _ hx (keyOf_int_mk hK wk) (fun c hc wc => ?_)
  have e1 : c = (m k).getD 0 := by
    cases hm' : m k with
    | none =>
      have := (h3 k).1
      rw [hm'] at this
      rw [atKey_of_not_has this] at hc
      injection hc with hc; injection hc with _ hc; exact hc.symm
    | some v =>
      rw [(h3 k).2 v hm'] at hc
      injection hc with hc; injection hc with _ hc; exact hc.symm
  rw [(h3 k).1, e1]
  exact hQ

theorem wpList_strike (hg : o.guard = none) (mo xo : Operand) (t : TypeId) (hop : o.op = Op.call { callee := Callee.builtin Builtin.delete, args := #[mo, xo], argTypes := #[t, K] }) (hK : P.underlying K = some (.int .i64)) (ht : P.underlying t = some (.map K K)) (b s : Nat) (m : Int → Option Int)
    (hm : a.eval mo = .map (some b)) (h : MapIs P K w b m s) (k : Int) (hx : a.eval xo = .int .i64 k) (wk : Small k)
    (hQ : ∀ w', MapIs P K w' b (upd m k none) (less1 m k s) → w.mapTurned w' b → wpList P ops Q rest (a.put o.dst (.tuple #[])) w') : wpList P ops Q (o :: rest) a w := by
  obtain ⟨D, h1, h2, h3⟩ := h
  exact wpList_delete_own w hg mo xo t K hop K (int_keyed hK) ht _ b s D hm h1 _ _ hx (keyOf_int_mk hK wk) (fun w' hw ht' => hQ w' (MapIs.of_del hK h1 h2 h3 hw) ht')

theorem wpList_clear (hg : o.guard = none) (mo : Operand) (t : TypeId) (hop : o.op = Op.call { callee := Callee.builtin Builtin.clear, args := #[mo], argTypes := #[t] }) (ht : P.underlying t = some (.map K K)) (b s : Nat) (m : Int → Option Int)
    (hm : a.eval mo = .map (some b)) (h : MapIs P K w b m s)
    (hQ : ∀ w', MapIs P K w' b (fun _ => none) 0 → w.mapTurned w' b → wpList P ops Q rest (a.put o.dst (.tuple #[])) w') : wpList P ops Q (o :: rest) a w := by
  obtain ⟨D, ⟨es, clock, hb, F, hs, e⟩, h2, h3⟩ := h
  have hb' : (ChangeMaps.setBlock w b (.map #[] clock)).heap[b]? = some (.map #[] clock) := ChangeMaps.heap_setBlock_same hb _
  have hrun : (Builtin.clear_ #[t] o.type #[.map (some b)]).run P w = .ok (.tuple #[]) (ChangeMaps.setBlock w b (.map #[] clock)) := by
    simp [Builtin.clear_, run_underlying ht, MapKept.run_getObj_map hb, MapKept.run_setObj_map _ hb, Result.andThen, ChangeMaps.setBlock]
  refine wpList_plain hg fun K' hK' => ?_
  unfold Oper.wp
  simp [execOp, hop, resolve, invoke, builtin, hm, hrun, Result.andThen]
  refine hK' _ _ (hQ _ ⟨.map [], ?_, rfl, fun k => ⟨rfl, fun v hv => by simp at hv⟩⟩ ⟨es, clock, #[], clock, hb, rfl⟩)
  exact ⟨#[], clock, hb', ⟨by simp, by simp [MapKept.Stamped], by simp⟩, by simp, rfl⟩
end

/-- an item appended -/
theorem wpList_grow {P : Program} {E : TypeId} {w : World} {ops : Array Oper} {rest : List Oper} {o : Oper} {a : Act} {Q : Exit → Act → World → Prop} (hgd : o.guard = none) (s x : Operand) (t : TypeId)
    (ho : o.op = .call { callee := .builtin .append, args := #[s, x], argTypes := #[t, t] }) (ht : P.underlying t = some (.slice E)) (hinfo : (P.info? E).map (fun i => (i.zero, i.size, i.bytes)) = some (some (.agg #[.int .i64 0, .int .i64 0]), 2, 16))
    (v : Value) (n : Nat) (g : Nat → It) (hs : a.eval s = v) (h : RowIs E w v n g) (ad : Addr) (c : Nat) (k r : Int) (hx : a.eval x = .slice (some ad) 1 c) (h0 : w.cell? (ad.add 0) = some (.int .i64 k)) (h1 : w.cell? (ad.add 1) = some (.int .i64 r)) (hn : n ≤ 100000)
    (hQ : ∀ b' c' w', RowIs E w' (.slice (some ⟨b', 0, none⟩) (n + 1) c') (n + 1) (upd g n (k, r)) → w.grownBy w' v.ownBlock → (some b' = v.ownBlock ∨ b' = w.heap.size) → wpList P ops Q rest (a.put o.dst (.slice (some ⟨b', 0, none⟩) (n + 1) c')) w') :
    wpList P ops Q (o :: rest) a w := by
  obtain ⟨i0, hi, hz0, hz1, hz2⟩ := info_parts hinfo
  obtain ⟨xs, hown, hxs⟩ := h
  have hl : xs.length = n * 2 := hown.1
  refine wpList_append_own_at w hgd s x t ho 0 E i0 _ 2 16 ht hi hz0 hz1 hz2 rfl (by omega) v n xs hs hown ad 1 c [.int .i64 k, .int .i64 r] hx rfl ?_ (by simp [Value.oneCell']) (by unfold maxLen; omega) (by omega) (Nat.zero_le _) (fun v' w' h2 h3 _ h5 => ?_)
  rotate_left
  · have hrow : RowIs E w' v' (n + 1) (upd g n (k, r)) := ⟨_, h2, fun j hj => ?_⟩
    · obtain ⟨b', c', rfl, _⟩ := hrow.form (by omega)
      refine hQ b' c' w' hrow h3 ?_
      simpa [Value.ownBlock, eq_comm] using h5
    by_cases e : j = n
    · subst e
      rw [upd_same, List.getElem?_append_right (by omega), List.getElem?_append_right (by omega)]
      rw [show j * 2 - xs.length = 0 from by omega, show j * 2 + 1 - xs.length = 1 from by omega]
      exact ⟨rfl, rfl⟩
    · rw [upd_ne e, List.getElem?_append_left (by omega), List.getElem?_append_left (by omega)]
      exact hxs j (by omega)
  · intro j u hu
    match j, hu with
    | 0, hu => simp at hu; subst hu; exact h0
    | 1, hu => simp at hu; subst hu; exact h1
    | j + 2, hu => simp at hu

/-! ### the heap object -/
structure Raw (P : Program) (K E T : TypeId) (w : World) (g : Nat) (v : Value) (bm n : Nat) (G : Nat → It) (m : Int → Option Int) (s : Nat) : Prop where
  hg : w.heap[g]? = some (.cells #[v, .map (some bm)] T (0, 0))
  row : RowIs E w v n G
  map : MapIs P K w bm m s
  ne : E ≠ T
def Foot (g bm : Nat) (v : Value) : Nat → Prop := fun k => k = g ∨ k = bm ∨ v.ownBlock = some k

section
variable {P : Program} {K E T : TypeId} {w w' : World} {g : Nat} {v : Value} {bm n s b cap : Nat} {G : Nat → It} {m : Int → Option Int}
theorem Raw.c0 (h : Raw P K E T w g v bm n G m s) : w.cell? ⟨g, 0, none⟩ = some v := (blk_cell h.hg 0).trans rfl
theorem Raw.c1 (h : Raw P K E T w g v bm n G m s) : w.cell? ⟨g, 1, none⟩ = some (.map (some bm)) := (blk_cell h.hg 1).trans rfl
theorem Raw.f (h : Raw P K E T w g v bm n G m s) (i : Nat) : w.frozen? ⟨g, i, none⟩ = false := blk_frozen h.hg i
theorem Raw.glt (h : Raw P K E T w g v bm n G m s) : g < w.heap.size := blk_lt h.hg
theorem Raw.gm (h : Raw P K E T w g v bm n G m s) : g ≠ bm := h.map.ne_cells h.hg
theorem Raw.gv (h : Raw P K E T w g v bm n G m s) : v.ownBlock ≠ some g := by
  intro e
  obtain ⟨cur, hc⟩ := h.row.own_blk e
  have := h.hg
  rw [hc] at this
  injection this with this
  injection this with _ h2
  exact h.ne h2
theorem Raw.mv (h : Raw P K E T w g v bm n G m s) : v.ownBlock ≠ some bm := by
  intro e
  obtain ⟨cur, hc⟩ := h.row.own_blk e
  exact h.map.ne_cells hc rfl
theorem Raw.keep (h : Raw P K E T w g v bm n G m s) (hk : ∀ k, Foot g bm v k → w'.heap[k]? = w.heap[k]?) : Raw P K E T w' g v bm n G m s :=
  ⟨(hk g (.inl rfl)).trans h.hg, h.row.keep fun k e => hk k (.inr (.inr e)), h.map.keep (hk bm (.inr (.inl rfl))), h.ne⟩
theorem Raw.foot_lt (h : Raw P K E T w g v bm n G m s) {k : Nat} (hk : Foot g bm v k) : k < w.heap.size := by
  rcases hk with rfl | rfl | hk
  · exact h.glt
  · exact h.map.lt
  · exact h.row.lt hk
theorem Raw.turn (h : Raw P K E T w g v bm n G m s) {F : Nat → Prop} (ht : Turn F w w') (hd : ∀ k, Foot g bm v k → ¬ F k) : Raw P K E T w' g v bm n G m s :=
  h.keep fun k hk => ht.block k (h.foot_lt hk) (hd k hk)
theorem Raw.below (h : Raw P K E T w g v bm n G m s) (hb : Below w.heap.size w w') : Raw P K E T w' g v bm n G m s := h.keep fun k hk => hb.block k (h.foot_lt hk)
theorem Raw.alloc (h : Raw P K E T w g v bm n G m s) (o : Obj) : Raw P K E T (w.alloc o) g v bm n G m s := h.keep fun k hk => Below.heap_alloc w o k (h.foot_lt hk)
theorem Raw.drew (h : Raw P K E T w g v bm n G m s) : Raw P K E T w.drew g v bm n G m s := h.keep fun k hk => rfl
theorem Raw.drewN (h : Raw P K E T w g v bm n G m s) (j : Nat) : Raw P K E T (w.drewN j) g v bm n G m s := h.keep fun k hk => rfl
theorem Raw.store (h : Raw P K E T w g (.slice (some ⟨b, 0, none⟩) n cap) bm n G m s) {i : Nat} (hi : i < n) (x : It) :
    Raw P K E T ((w.setCell ⟨b, i * 2, none⟩ (.int .i64 x.1)).setCell ⟨b, i * 2 + 1, none⟩ (.int .i64 x.2)) g (.slice (some ⟨b, 0, none⟩) n cap) bm n (upd G i x) m s := by
  have gb : g ≠ b := fun e => h.gv (by rw [e]; rfl)
  have mb : bm ≠ b := fun e => h.mv (by rw [e]; rfl)
  refine ⟨blk_far (blk_far h.hg gb _) gb _, h.row.set hi x, h.map.keep ?_, h.ne⟩
  rw [Below.heap_setCell _ _ _ _ mb, Below.heap_setCell _ _ _ _ mb]
theorem Raw.grow (h : Raw P K E T w g v bm n G m s) (hg1 : w.grownBy w' v.ownBlock) {G' : Nat → It} (hrow : RowIs E w' (.slice (some ⟨b, 0, none⟩) (n + 1) cap) (n + 1) G') :
    Raw P K E T (w'.setCell ⟨g, 0, none⟩ (.slice (some ⟨b, 0, none⟩) (n + 1) cap)) g (.slice (some ⟨b, 0, none⟩) (n + 1) cap) bm (n + 1) G' m s := by
  have hb : w'.heap[g]? = some (.cells #[v, .map (some bm)] T (0, 0)) := (hg1.block g h.glt (fun e => h.gv e.symm)).trans h.hg
  have gb : b ≠ g := by
    rintro rfl
    obtain ⟨cur, hc, _⟩ := hrow.blk
    rw [hb] at hc
    injection hc with hc
    injection hc with _ h2
    exact h.ne h2.symm
  refine ⟨by simpa using blk_set hb 0 _, hrow.keep fun k hk => ?_, h.map.keep ?_, h.ne⟩
  · simp [Value.ownBlock] at hk; subst hk; exact Below.heap_setCell _ _ _ _ gb
  · rw [Below.heap_setCell _ _ _ _ (Ne.symm h.gm)]
    exact hg1.block bm h.map.lt (fun e => h.mv e.symm)
theorem Raw.pop (h : Raw P K E T w g (.slice (some ⟨b, 0, none⟩) (n + 1) cap) bm (n + 1) G m s) :
    Raw P K E T (w.setCell ⟨g, 0, none⟩ (.slice (some ⟨b, 0, none⟩) n cap)) g (.slice (some ⟨b, 0, none⟩) n cap) bm n G m s := by
  have gb : b ≠ g := fun e => h.gv (by rw [← e]; rfl)
  refine ⟨by simpa using blk_set h.hg 0 _, h.row.pop.keep fun k hk => ?_, h.map.keep ?_, h.ne⟩
  · simp [Value.ownBlock] at hk; subst hk; exact Below.heap_setCell _ _ _ _ gb
  · exact Below.heap_setCell _ _ _ _ (Ne.symm h.gm)
theorem Raw.put (h : Raw P K E T w g v bm n G m s) {m' : Int → Option Int} {s' : Nat} (hm : MapIs P K w' bm m' s') (ht : w.mapTurned w' bm) : Raw P K E T w' g v bm n G m' s' := by
  have hg := ht.grown
  refine ⟨(hg.block g h.glt (by intro e; injection e with e; exact h.gm e)).trans h.hg, h.row.keep fun k hk => hg.block k (h.row.lt hk) ?_, hm, h.ne⟩
  intro e; injection e with e; exact h.mv (by rw [hk, e])
end
end Go.Proofs.Ytchlccendggfpaa.Hp
