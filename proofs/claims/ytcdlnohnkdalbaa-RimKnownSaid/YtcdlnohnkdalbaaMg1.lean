/- Rows that grow: a number appended; what a block holds. Numbers that an int holds; a number within bounds. A row appended to a row of the call's own. Walks: slices.Repeat of any one number. A region that draws its order, gone through by hand: what may be taken first is taken in a row; one operation carried out; then more may be held than before. -/
import Derived.Deep.AppendLies
import Derived.Deep.RegionHeld3
import Derived.Test.YtcdlnohnkdalbaaMxRoW
namespace Go.Proofs.Ytcdlnohnkdalbaa.Ro
open Go.RowKit Go.Proofs Go.Maps
set_option linter.unusedVariables false
set_option maxRecDepth 100000
set_option linter.unusedSimpArgs false

theorem add_zero (a : Addr) : a.add 0 = a := by unfold Addr.add; simp

/-- a number appended -/
theorem wpList_grow {w : World} {ops : Array Oper} {rest : List Oper} {o : Oper} {a : Act} {Q : Exit → Act → World → Prop} (hgd : o.guard = none) (s x : Operand)
    (ho : o.op = .call { callee := .builtin .append, args := #[s, x], argTypes := #[22, 22] })
    (v : Value) (n : Nat) (g : Nat → Int) (hs : a.eval s = v) (h : Ow w v n g) (ad : Addr) (c : Nat) (k : Int) (hx : a.eval x = .slice (some ad) 1 c) (h0 : w.cell? ad = some (.int .i64 k)) (hn : n ≤ 100000)
    (hQ : ∀ b' c' w', Ow w' (.slice (some ⟨b', 0, none⟩) (n + 1) c') (n + 1) (upd g n k) → w.grownBy w' v.ownBlock → (some b' = v.ownBlock ∨ b' = w.heap.size) → wpList Try.prog ops Q rest (a.put o.dst (.slice (some ⟨b', 0, none⟩) (n + 1) c')) w') :
    wpList Try.prog ops Q (o :: rest) a w := by
  obtain ⟨i0, hi, hz0, hz1, hz2⟩ := info_parts (P := Try.prog) (e := 3) (z := .int .i64 0) (size := 1) (bytes := 8) (by kernel_rfl)
  obtain ⟨xs, hown, hxs⟩ := h
  have hl : xs.length = n * 1 := hown.1
  refine wpList_append_own_at w hgd s x 22 ho 0 3 i0 _ 1 8 Try.underlying22 hi hz0 hz1 hz2 rfl (by omega) v n xs hs hown ad 1 c [.int .i64 k] hx rfl ?_ (by simp [Value.oneCell']) (by unfold maxLen; omega) (by omega) (Nat.zero_le _) (fun v' w' h2 h3 _ h5 => ?_)
  rotate_left
  · have hrow : Ow w' v' (n + 1) (upd g n k) := ⟨_, h2, fun j hj => ?_⟩
    · obtain ⟨b', c', rfl, _⟩ := hrow.form (by omega)
      refine hQ b' c' w' hrow h3 ?_
      simpa [Value.ownBlock, eq_comm] using h5
    by_cases e : j = n
    · subst e
      rw [upd_same, List.getElem?_append_right (by omega), show j - xs.length = 0 from by omega]
      rfl
    · rw [upd_ne e, List.getElem?_append_left (by omega)]
      exact hxs j (by omega)
  · intro j u hu
    match j, hu with
    | 0, hu => simp at hu; subst hu; rw [add_zero]; exact h0
    | j + 1, hu => simp at hu

theorem Ow.cur {w : World} {b n cap : Nat} {x : Nat → Int} (h : Ow w (.slice (some ⟨b, 0, none⟩) n cap) n x) : n ≤ cap ∧ ∃ cur, w.heap[b]? = some (.cells cur 3 (0, 0)) ∧ ∀ j, j < n → cur[j]? = some (.int .i64 (x j)) := by
  have hc := fun j hj => h.cell (j := j) hj
  obtain ⟨xs, ⟨_, h1⟩, h2⟩ := h
  rcases h1 with ⟨e, _⟩ | ⟨b', cap', cur, e, _, hg, hnc, _⟩
  · simp at e
  · simp only [Value.slice.injEq, Option.some.injEq, Addr.mk.injEq, and_true, true_and] at e
    obtain ⟨rfl, rfl⟩ := e
    exact ⟨hnc, cur, hg, fun j hj => by rw [← blk_cell hg j]; exact hc j hj⟩

theorem Below.grown {B : Nat} {a w w' : World} (h : Below B a w) {r : Option Nat} (hg : w.grownBy w' r) (hB : B ≤ w.heap.size) (hr : ∀ k, r = some k → B ≤ k) : Below B a w' :=
  h.trans ⟨hg.os, hg.tape, hg.output, hg.size, fun k hk => hg.block k (by omega) (fun e => by have := hr k e.symm; omega)⟩

/-- a row of n whole numbers in a block of its own, whatever it may grow to -/
def OwS (w : World) (b n : Nat) (x : Nat → Int) : Prop := ∃ cur, w.heap[b]? = some (.cells cur 3 (0, 0)) ∧ ∀ j, j < n → cur[j]? = some (.int .i64 (x j))
section
variable {w w' : World} {b n cap B : Nat} {x : Nat → Int}
theorem Ow.own (h : Ow w (.slice (some ⟨b, 0, none⟩) n cap) n x) : n ≤ cap ∧ OwS w b n x := h.cur
theorem OwS.lt (h : OwS w b n x) : b < w.heap.size := by
  obtain ⟨cur, h1, _⟩ := h
  rcases Nat.lt_or_ge b w.heap.size with q | q
  · exact q
  · rw [Array.getElem?_eq_none q] at h1; cases h1
theorem OwS.keep (h : OwS w b n x) (hb : w'.heap[b]? = w.heap[b]?) : OwS w' b n x := by
  obtain ⟨cur, h1, h2⟩ := h
  exact ⟨cur, hb.trans h1, h2⟩
theorem OwS.below (h : OwS w b n x) (hb : Below B w w') (hB : w.heap.size ≤ B) : OwS w' b n x := h.keep (hb.block b (Nat.lt_of_lt_of_le h.lt hB))
theorem OwS.cell (h : OwS w b n x) {j : Nat} (hj : j < n) : w.cell? ⟨b, j, none⟩ = some (.int .i64 (x j)) := by
  obtain ⟨cur, h1, h2⟩ := h
  rw [blk_cell h1]; exact h2 j hj
theorem OwS.frozen (h : OwS w b n x) (j : Nat) : w.frozen? ⟨b, j, none⟩ = false := by
  obtain ⟨cur, h1, h2⟩ := h
  simp [World.frozen?, h1]
theorem OwS.congr {x' : Nat → Int} (h : OwS w b n x) (e : ∀ j, j < n → x j = x' j) : OwS w b n x' := by
  obtain ⟨cur, h1, h2⟩ := h
  exact ⟨cur, h1, fun j hj => by rw [h2 j hj, e j hj]⟩
theorem OwS.rd (h : OwS w b n x) : Rd w (.slice (some ⟨b, 0, none⟩) n cap) n x :=
  ⟨_, cap, rfl, fun _ => ⟨_, rfl, h.lt, fun i hi => by rw [add_head]; exact h.cell hi⟩⟩
end
end Go.Proofs.Ytcdlnohnkdalbaa.Ro
namespace Go.Proofs.Ytcdlnohnkdalbaa.Ro
open Go.RowKit Go.Proofs Go.Maps
set_option linter.unusedVariables false
set_option maxRecDepth 100000
set_option linter.unusedSimpArgs false

def Small (k : Int) : Prop := (Lit.int .i64 k).wf = true
theorem small_bounds {k : Int} (h : Small k) : -9223372036854775808 ≤ k ∧ k ≤ 9223372036854775807 := by
  unfold Small at h
  simp [Lit.wf, IntKind.min, IntKind.max, IntKind.signed, IntKind.bits] at h
  omega
end Go.Proofs.Ytcdlnohnkdalbaa.Ro
namespace Go.Proofs.Ytcdlnohnkdalbaa.Ro
open Go.RowKit Go.Proofs Go.Maps
set_option linter.unusedVariables false
set_option maxRecDepth 100000
set_option linter.unusedSimpArgs false

/-- a row behind a row -/
def cat (g : Nat → Int) (n : Nat) (y : Nat → Int) : Nat → Int := fun j => if j < n then g j else y (j - n)
theorem cat_lo {g y : Nat → Int} {n j : Nat} (h : j < n) : cat g n y j = g j := if_pos h
theorem cat_hi {g y : Nat → Int} {n j : Nat} (h : n ≤ j) : cat g n y j = y (j - n) := if_neg (by omega)

theorem wpList_app {w : World} {ops : Array Oper} {rest : List Oper} {o : Oper} {a : Act} {Q : Exit → Act → World → Prop} (hgd : o.guard = none) (s x : Operand)
    (ho : o.op = .call { callee := .builtin .append, args := #[s, x], argTypes := #[22, 22] })
    (v : Value) (n : Nat) (g : Nat → Int) (hs : a.eval s = v) (h : Ow w v n g) (ad : Addr) (k c : Nat) (y : Nat → Int) (hx : a.eval x = .slice (some ad) k c) (h0 : ∀ i, i < k → w.cell? (ad.add i) = some (.int .i64 (y i))) (hn : n + k ≤ 100000) (hk : 0 < n + k)
    (hQ : ∀ b' c' w', Ow w' (.slice (some ⟨b', 0, none⟩) (n + k) c') (n + k) (cat g n y) → w.grownBy w' v.ownBlock → (some b' = v.ownBlock ∨ b' = w.heap.size) → wpList Try.prog ops Q rest (a.put o.dst (.slice (some ⟨b', 0, none⟩) (n + k) c')) w') :
    wpList Try.prog ops Q (o :: rest) a w := by
  obtain ⟨i0, hi, hz0, hz1, hz2⟩ := info_parts (P := Try.prog) (e := 3) (z := .int .i64 0) (size := 1) (bytes := 8) (by kernel_rfl)
  obtain ⟨xs, hown, hxs⟩ := h
  have hl : xs.length = n * 1 := hown.1
  have hnew : ∀ j, ((List.range k).map fun i => Value.int .i64 (y i))[j]? = if j < k then some (.int .i64 (y j)) else none := fun j => by
    by_cases q : j < k
    · rw [if_pos q, List.getElem?_map, List.getElem?_range q]; rfl
    · rw [if_neg q, List.getElem?_eq_none (by simp; omega)]
  refine wpList_append_own_at w hgd s x 22 ho 0 3 i0 _ 1 8 Try.underlying22 hi hz0 hz1 hz2 rfl (by omega) v n xs hs hown ad k c ((List.range k).map fun i => Value.int .i64 (y i)) hx (by simp) ?_ ?_ (by unfold maxLen; omega) (by omega) (Nat.zero_le _) (fun v' w' h2 h3 _ h5 => ?_)
  rotate_left
  · intro u hu
    rw [List.mem_map] at hu
    obtain ⟨i, _, rfl⟩ := hu
    rfl
  · have hrow : Ow w' v' (n + k) (cat g n y) := ⟨_, h2, fun j hj => ?_⟩
    · obtain ⟨b', c', rfl, _⟩ := hrow.form hk
      refine hQ b' c' w' hrow h3 ?_
      simpa [Value.ownBlock, eq_comm] using h5
    rcases Nat.lt_or_ge j n with q | q
    · rw [cat_lo q, List.getElem?_append_left (by omega)]
      exact hxs j q
    · rw [cat_hi q, List.getElem?_append_right (by omega), hnew, if_pos (by omega), show j - xs.length = j - n by omega]
  · intro j u hu
    rw [hnew] at hu
    split at hu
    · injection hu with hu; rw [← hu]; exact h0 j ‹_›
    · cases hu
theorem step_app {w : World} {ops : Array Oper} {o : Oper} {a : Act} {K : Act → World → Prop} {Q : Exit → Act → World → Prop} {E : Prop} (hgd : o.guard = none) (s x : Operand)
    (ho : o.op = .call { callee := .builtin .append, args := #[s, x], argTypes := #[22, 22] })
    (v : Value) (n : Nat) (g : Nat → Int) (hs : a.eval s = v) (h : Ow w v n g) (ad : Addr) (k c : Nat) (y : Nat → Int) (hx : a.eval x = .slice (some ad) k c) (h0 : ∀ i, i < k → w.cell? (ad.add i) = some (.int .i64 (y i))) (hn : n + k ≤ 100000) (hk : 0 < k) (H : Nat) (hH : w.heap.size = H)
    (hQ : ∀ b' c' w', Ow w' (.slice (some ⟨b', 0, none⟩) (n + k) c') (n + k) (cat g n y) → w.grownBy w' v.ownBlock → (v.ownBlock = some b' ∨ b' = H) → b' < w'.heap.size → K (a.put o.dst (.slice (some ⟨b', 0, none⟩) (n + k) c')) w') :
    if Region.wanted o (yielded ops a.tmps) = true then Oper.wp Try.prog o a w K Q else E := by
  obtain ⟨i0, hi, hz0, hz1, hz2⟩ := info_parts (P := Try.prog) (e := 3) (z := .int .i64 0) (size := 1) (bytes := 8) (by kernel_rfl)
  obtain ⟨xs, hown, hxs⟩ := h
  have hl : xs.length = n * 1 := hown.1
  have hnew : ∀ j, ((List.range k).map fun i => Value.int .i64 (y i))[j]? = if j < k then some (.int .i64 (y j)) else none := fun j => by
    by_cases q : j < k
    · rw [if_pos q, List.getElem?_map, List.getElem?_range q]; rfl
    · rw [if_neg q, List.getElem?_eq_none (by simp; omega)]
  refine step_append_lies w hgd s x 22 ho 0 3 i0 _ 1 8 Try.underlying22 hi hz0 hz1 hz2 rfl (by omega) v n xs hs hown ad k c ((List.range k).map fun i => Value.int .i64 (y i)) hx (by simp) ?_ ?_ hk (by unfold maxLen; omega) (by omega) (Nat.zero_le _) H hH (fun b' c' w' h2 h3 h4 h5 => hQ b' c' w' ⟨_, h2, fun j hj => ?_⟩ h3 h4 h5)
  · intro j u hu
    rw [hnew] at hu
    split at hu
    · injection hu with hu; rw [← hu]; exact h0 j ‹_›
    · cases hu
  · intro u hu
    rw [List.mem_map] at hu
    obtain ⟨i, _, rfl⟩ := hu
    rfl
  · rcases Nat.lt_or_ge j n with q | q
    · rw [cat_lo q, List.getElem?_append_left (by omega)]
      exact hxs j q
    · rw [cat_hi q, List.getElem?_append_right (by omega), hnew, if_pos (by omega), show j - xs.length = j - n by omega]
theorem step_cop {w : World} {ops : Array Oper} {o : Oper} {a : Act} {K : Act → World → Prop} {Q : Exit → Act → World → Prop} {E : Prop} (hgd : o.guard = none) (s x : Operand)
    (ho : o.op = .call { callee := .builtin .append, args := #[s, x], argTypes := #[22, 22] })
    (v : Value) (g : Nat → Int) (hs : a.eval s = v) (h : Ow w v 0 g) (ad : Addr) (k c : Nat) (y : Nat → Int) (hx : a.eval x = .slice (some ad) k c) (h0 : ∀ i, i < k → w.cell? (ad.add i) = some (.int .i64 (y i))) (hn : k ≤ 100000) (hk : 0 < k) (H : Nat) (hH : w.heap.size = H)
    (hQ : ∀ b' c' w', Ow w' (.slice (some ⟨b', 0, none⟩) k c') k y → w.grownBy w' v.ownBlock → (v.ownBlock = some b' ∨ b' = H) → b' < w'.heap.size → K (a.put o.dst (.slice (some ⟨b', 0, none⟩) k c')) w') :
    if Region.wanted o (yielded ops a.tmps) = true then Oper.wp Try.prog o a w K Q else E := by
  refine step_app hgd s x ho v 0 g hs h ad k c y hx h0 (by omega) hk H hH (fun b' c' w' O g1 l z => ?_)
  rw [Nat.zero_add] at O ⊢
  exact hQ b' c' w' (O.congr fun i hi => by rw [cat_hi (Nat.zero_le _), Nat.sub_zero]) g1 l z
theorem wpList_cop {w : World} {ops : Array Oper} {rest : List Oper} {o : Oper} {a : Act} {Q : Exit → Act → World → Prop} (hgd : o.guard = none) (s x : Operand)
    (ho : o.op = .call { callee := .builtin .append, args := #[s, x], argTypes := #[22, 22] })
    (v : Value) (g : Nat → Int) (hs : a.eval s = v) (h : Ow w v 0 g) (ad : Addr) (k c : Nat) (y : Nat → Int) (hx : a.eval x = .slice (some ad) k c) (h0 : ∀ i, i < k → w.cell? (ad.add i) = some (.int .i64 (y i))) (hn : k ≤ 100000) (hk : 0 < k)
    (hQ : ∀ b' c' w', Ow w' (.slice (some ⟨b', 0, none⟩) k c') k y → w.grownBy w' v.ownBlock → (some b' = v.ownBlock ∨ b' = w.heap.size) → wpList Try.prog ops Q rest (a.put o.dst (.slice (some ⟨b', 0, none⟩) k c')) w') :
    wpList Try.prog ops Q (o :: rest) a w := by
  refine wpList_app hgd s x ho v 0 g hs h ad k c y hx h0 (by omega) (by omega) (fun b' c' w' O g1 l => ?_)
  rw [Nat.zero_add] at O ⊢
  exact hQ b' c' w' (O.congr fun i hi => by rw [cat_hi (Nat.zero_le _), Nat.sub_zero]) g1 l
/-- a row with no cells in it, made -/
theorem Ow.empty (w : World) (x : Nat → Int) : Ow (w.alloc (.cells #[] 3)) (.slice (some ⟨w.heap.size, 0, none⟩) 0 0) 0 x :=
  ⟨[], World.ownsRow_made w #[] 0 (Nat.zero_le _) (by unfold maxLen; omega) (by simp), fun j hj => by omega⟩
/-- a row that was written out -/
theorem Ow.lit (w : World) (n : Nat) (x : Nat → Int) (cur : Array Value) (hs : cur.size = n) (hn : n ≤ 1000) (h : ∀ j, j < n → cur[j]? = some (.int .i64 (x j))) : Ow (w.alloc (.cells cur 3)) (.slice (some ⟨w.heap.size, 0, none⟩) n n) n x := by
  refine ⟨cur.toList.take (n * 1), ⟨by simp [hs], .inr ⟨w.heap.size, n, cur, rfl, Nat.zero_le _, heap_alloc_new _ _, Nat.le_refl _, by unfold maxLen; omega, by simp [hs], rfl⟩⟩, fun j hj => ?_⟩
  rw [List.getElem?_take_of_lt (by omega), Array.getElem?_toList]
  exact h j hj
theorem Ow.lit1 (w : World) (x : Nat → Int) (u : Int) (h : x 0 = u) : Ow (w.alloc (.cells #[.int .i64 u] 3)) (.slice (some ⟨w.heap.size, 0, none⟩) 1 1) 1 x :=
  Ow.lit w 1 x _ rfl (by omega) fun j hj => by rw [show j = 0 by omega, h]; rfl
theorem Ow.lit2 (w : World) (x : Nat → Int) (u v : Int) (h : x 0 = u) (h1 : x 1 = v) : Ow (w.alloc (.cells #[.int .i64 u, .int .i64 v] 3)) (.slice (some ⟨w.heap.size, 0, none⟩) 2 2) 2 x :=
  Ow.lit w 2 x _ rfl (by omega) fun j hj => by
    rcases Nat.lt_or_ge j 1 with q | q
    · rw [show j = 0 by omega, h]; rfl
    · rw [show j = 1 by omega, h1]; rfl
end Go.Proofs.Ytcdlnohnkdalbaa.Ro
namespace Go.Proofs.Ytcdlnohnkdalbaa.Ro
open Go.RowKit Go.Proofs
set_option linter.unusedVariables false
set_option maxRecDepth 100000
set_option linter.unusedSimpArgs false

def halfU (u : Int) (k n : Nat) : List Value := List.replicate k (.int .i64 u) ++ List.replicate (n - k) (.int .i64 0)
theorem half_zeroU (u : Int) (n : Nat) : halfU u 0 n = List.replicate n (.int .i64 0) := by simp [halfU]
theorem half_allU (u : Int) (n : Nat) : halfU u n n = (List.replicate n u).map fun x => Value.int .i64 x := by simp [halfU]
theorem half_setU {u : Int} {k n : Nat} (h : k < n) : (halfU u k n).set k (.int .i64 u) = halfU u (k + 1) n := by
  have e : n - k = (n - (k + 1)) + 1 := by omega
  unfold halfU
  rw [e, List.replicate_succ, List.set_append, List.length_replicate, if_neg (by omega), Nat.sub_self, List.replicate_succ', List.append_assoc]
  rfl
theorem half_lowU {u : Int} {k n i : Nat} (h : i < k) : (halfU u k n)[i]? = some (.int .i64 u) := by
  unfold halfU
  rw [List.getElem?_append_left (by simpa using h)]
  simp [h]

section
variable {u : Int} {w : World} {B k n : Nat}
abbrev HalfU (u : Int) (w : World) (B k n : Nat) : Prop := w.ownsRow 0 3 1 (.slice (some ⟨B, 0, none⟩) n n) n (halfU u k n)
theorem HalfU.low (h : HalfU u w B k n) {i : Nat} (hi : i < k) (hk : k ≤ n) : w.cell? ⟨B, i, none⟩ = some (.int .i64 u) := by
  have := World.ownsRow.cellAt h i (by omega)
  rw [this]; exact half_lowU hi
theorem HalfU.there (h : HalfU u w B k n) {i : Nat} (hi : i < n) : (w.cell? ⟨B, i, none⟩).isSome = true := by
  have := World.ownsRow.cellAt h i (by omega)
  rw [this]
  have hl : (halfU u k n).length = n * 1 := h.1
  rw [List.getElem?_eq_getElem (by omega)]
  rfl
theorem HalfU.sets : ∀ (m k : Nat) (w : World), HalfU u w B k n → k + m ≤ n → HalfU u (w.setCells B k (List.replicate m (.int .i64 u))) B (k + m) n ∧ ∀ W0 : World, W0.heap.size ≤ B → Below W0.heap.size W0 w → Below W0.heap.size W0 (w.setCells B k (List.replicate m (.int .i64 u)))
  | 0, k, w, h, _ => ⟨h, fun _ _ b => b⟩
  | m + 1, k, w, h, hk => by
    have h1 := (World.ownsRow.stored h k (.int .i64 u)).1
    rw [half_setU (by omega)] at h1
    obtain ⟨r1, r2⟩ := HalfU.sets m (k + 1) _ h1 (by omega)
    rw [List.replicate_succ, World.setCells]
    exact ⟨by rw [show k + (m + 1) = k + 1 + m by omega]; exact r1, fun W0 hB b => r2 W0 hB (b.setCell hB _)⟩
end

set_option maxHeartbeats 1600000 in
theorem repeat_anyU (w : World) (u : Int) (b n : Nat) (hn : n ≤ 1000) (hb : w.cell? ⟨b, 0, none⟩ = some (.int .i64 u)) (hl : b < w.heap.size) :
    Calls Try.prog 67 #[.slice (some ⟨b, 0, none⟩) 1 1, .int .i64 (n : Int)] w
      fun e w' => ∃ c, e = .returned (.slice (some ⟨w.heap.size, 0, none⟩) n c) ∧ Ow w' (.slice (some ⟨w.heap.size, 0, none⟩) n c) n (fun _ => u) ∧ Below w.heap.size w w' := by
  have w1 : IntKind.u64.wrap 1 = 1 := by decide +kernel
  have wn := wrap_low n hn
  go_enter Try.func67, Try.ntmps67
  go_wp2_with fail
  refine (mul_one _ n hn).mono ?_
  rintro e w2 ⟨rfl, rfl⟩
  obtain ⟨ii, hi, hz, hs, hby⟩ := info_parts (P := Try.prog) (e := 3) (z := .int .i64 0) (size := 1) (bytes := 8) (by kernel_rfl)
  have hlim : ¬ (9223372036854775807 < (n : Int)) := by omega
  go_upto_region 7 with (at_make; refine wpList_make_full _ rfl _ _ _ rfl 0 3 ii (.int .i64 0) 1 Try.underlying22 hi hz hs .i64 .i64 (n : Int) (n : Int) n rfl rfl rfl rfl (by rw [hby]; omega) (by unfold maxLen; omega) (Nat.zero_le _) ?_; intro w3 hm3 hg3)
  have H3 : HalfU u w3 w.heap.size 0 n := by
    have := hm3
    rw [show (Value.int IntKind.i64 0).cells = #[.int .i64 0] from rfl, Nat.mul_one, toList_madeCells_one] at this
    unfold HalfU; rw [half_zeroU]; exact this
  have B3 : Below w.heap.size w w3 := ⟨hg3.os, hg3.tape, hg3.output, hg3.size, fun k hk => hg3.block k hk (by simp)⟩
  have hb3 : w3.cell? ⟨b, 0, none⟩ = some (.int .i64 u) := (B3.cell hl).trans hb
  have cp : (Builtin.copy_ #[22, 22] 3 #[.slice (some ⟨w.heap.size, 0, none⟩) n n, .slice (some ⟨b, 0, none⟩) 1 1]).run Try.prog w3 = .ok (goInt ((min 1 n : Nat) : Int)) (w3.setCells w.heap.size 0 (List.replicate (min 1 n) (.int .i64 u))) := by
    have := run_copy_cells (P := Try.prog) w3 22 22 3 3 w.heap.size 0 n n ⟨b, 0, none⟩ 1 1 (List.replicate (min 1 n) (.int .i64 u)) Try.underlying22 (by kernel_rfl) (by simp [Nat.min_def]) ?_ ?_ ?_ ?_
    · simpa using this
    · intro j v hv
      have hj : j < min 1 n := by
        rcases Nat.lt_or_ge j (min 1 n) with q | q
        · exact q
        · rw [List.getElem?_eq_none (by simpa using q)] at hv; cases hv
      obtain rfl : j = 0 := by omega
      rw [List.getElem?_replicate, if_pos hj] at hv
      injection hv with hv
      rw [← hv]
      exact hb3
    · intro j hj
      rw [List.length_replicate] at hj
      rw [Nat.zero_add]
      exact H3.there (i := j) (by omega)
    · intro j hj
      rw [Nat.zero_add]
      exact World.ownsRow.frozenAt H3 j
    · intro v hv
      rw [List.mem_replicate] at hv
      rw [hv.2]; rfl
  obtain ⟨H4, B4⟩ := HalfU.sets (min 1 n) 0 w3 H3 (by omega)
  have B5 := B4 w (Nat.le_refl _) B3
  have C := Lib.hid cp
  clear B4 hm3 hg3 hb3 H3 B3 cp
  rw [Nat.zero_add] at H4
  have cp := C.out
  clear C
  go_wp2_with fail
  clear cp
  generalize w3.setCells w.heap.size 0 (List.replicate (min 1 n) (.int .i64 u)) = w4 at *
  clear w3
  go_loopw [8] (fun u8 wr => ∃ k : Nat, u8 = .int .i64 (k : Int) ∧ k ≤ n ∧ (0 < n → 0 < k) ∧ HalfU u wr w.heap.size k n ∧ Below w.heap.size w wr) (fun u8 _ => n - (intOf u8).toNat)
  case atStart => exact ⟨min 1 n, by simp [goInt], by omega, by omega, H4, B5⟩
  case round =>
    clear H4 B5
    obtain ⟨k, rfl, hk, h0, H, Bk⟩ := hrel
    by_cases hlt : k < n
    · have d1 : (k : Int) < (n : Int) := by omega
      have d2 : (k : Int) ≤ (n : Int) := by omega
      have k0 := h0 (by omega)
      clear h0
      have cp : ∀ c, (Builtin.copy_ #[22, 22] 3 #[.slice (some ⟨w.heap.size, k, none⟩) (n - k) (n - k), .slice (some ⟨w.heap.size, 0, none⟩) k c]).run Try.prog wr.drew = .ok (goInt ((min k (n - k) : Nat) : Int)) ((wr.setCells w.heap.size k (List.replicate (min k (n - k)) (.int .i64 u))).drew) := by
        intro c
        rw [← setCells_drew]
        have H' : HalfU u wr.drew w.heap.size k n := H
        have := run_copy_cells (P := Try.prog) wr.drew 22 22 3 3 w.heap.size k (n - k) (n - k) ⟨w.heap.size, 0, none⟩ k c (List.replicate (min k (n - k)) (.int .i64 u)) Try.underlying22 (by kernel_rfl) (by simp [Nat.min_def]) ?_ ?_ ?_ ?_
        · simpa using this
        · intro j v hv
          have hj : j < min k (n - k) := by
            rcases Nat.lt_or_ge j (min k (n - k)) with q | q
            · exact q
            · rw [List.getElem?_eq_none (by simpa using q)] at hv; cases hv
          rw [List.getElem?_replicate, if_pos hj] at hv
          injection hv with hv
          rw [← hv]
          have := H'.low (i := j) (by omega) hk
          have e : (⟨w.heap.size, 0, none⟩ : Addr).add j = ⟨w.heap.size, j, none⟩ := by unfold Addr.add; split <;> simp_all
          rw [e]; exact this
        · intro j hj
          rw [List.length_replicate] at hj
          exact H'.there (i := k + j) (by omega)
        · intro j hj
          exact World.ownsRow.frozenAt H' (k + j)
        · intro v hv
          rw [List.mem_replicate] at hv
          rw [hv.2]; rfl
      obtain ⟨H4, B4⟩ := HalfU.sets (min k (n - k)) k wr H (by omega)
      have B5 := B4 w (Nat.le_refl _) Bk
      go_wp2_with fail
      have wk : IntKind.i64.wrap ((k : Int) + ((min k (n - k) : Nat) : Int)) = (k : Int) + ((min k (n - k) : Nat) : Int) := by
        rw [IntKind.wrap_i64]
        omega
      go_region_with (fail)
      all_goals
        go_simp
        go_wp2_with fail
        go_roundw
        case rel =>
          exact ⟨k + min k (n - k), by simp [goInt, wk], by omega, by omega, H4, B5.drew⟩
        case measure => simp only [intOf, wk]; omega
    · have d1 : ¬ ((k : Int) < (n : Int)) := by omega
      obtain rfl : k = n := by omega
      go_wp2
      go_ret
      exact ⟨_, rfl, ⟨_, H, fun j hj => half_lowU hj⟩, Bk⟩
end Go.Proofs.Ytcdlnohnkdalbaa.Ro
namespace Go.Proofs.Ytcdlnohnkdalbaa.Ro
open Go.RowKit Go.Proofs
set_option linter.unusedVariables false
set_option maxRecDepth 100000
set_option linter.unusedSimpArgs false

section
variable {P : Program} {md : Region.Mode} {ops : Array Oper} {Q : Exit → Act → World → Prop} {S S' : World → Prop}
/-- more may be held from here on -/
theorem held_more (h : ∀ w, S' w → S w) : ∀ (fuel : Nat) (listed : Array Bool) (a : Act) (w : World), wpAnyH P md ops Q S' fuel listed a w → wpAnyH P md ops Q S fuel listed a w
  | 0, _, _, _, k => k
  | f + 1, _, _, _, k => ⟨k.1, fun i hi => wpOp_mono (fun a' w' h' => ⟨h _ h'.1, held_more h f _ a' w' h'.2⟩) (k.2 i hi)⟩
/-- these may be taken first, one behind the other -/
def takes (md : Region.Mode) (ops : Array Oper) : Array Bool → List Nat → Bool
  | _, [] => true
  | listed, i :: r => Region.free md ops listed i && (Region.ready md ops listed).contains i && takes md ops (listed.setIfInBounds i true) r
def gone (listed : Array Bool) : List Nat → Array Bool
  | [] => listed
  | i :: r => gone (listed.setIfInBounds i true) r
def pick : List Nat → List Oper → List Oper
  | [], _ => []
  | i :: r, l => match l.drop i with
    | o :: _ => o :: pick r l
    | [] => pick r l
def wpTakes (P : Program) (ops : Array Oper) (S : World → Prop) (K : Act → Prop) : List Oper → Act → Prop
  | [], a => K a
  | o :: r, a => ∃ v, YieldsIf P ops S o v a ∧ wpTakes P ops S K r (a.put o.dst v)
theorem wpTakes_nil {K : Act → Prop} {a : Act} (h : K a) : wpTakes P ops S K [] a := h
theorem wpTakes_cons {K : Act → Prop} {o : Oper} {r : List Oper} {a : Act} {v : Value} (hy : YieldsIf P ops S o v a) (h : wpTakes P ops S K r (a.put o.dst v)) : wpTakes P ops S K (o :: r) a := ⟨v, hy, h⟩
theorem held_takes {l : List Oper} (hs : Region.noSelect l.toArray = true) (hQ : ∀ c a d v w, Q (.panic c) (a.put d v) w → Q (.panic c) a w) : ∀ (is : List Nat) (n fuel : Nat) (listed : Array Bool) (a : Act) (w : World),
    n = fuel + is.length → (is.all fun i => decide (i < l.length)) = true → takes md l.toArray listed is = true → S w → wpTakes P l.toArray S (fun a => wpAnyH P md l.toArray Q S fuel (gone listed is) a w) (pick is l) a → wpAnyH P md l.toArray Q S n listed a w
  | [], n, fuel, listed, a, w, hn, _, _, _, h => by
    rw [hn]; exact h
  | i :: r, n, fuel, listed, a, w, hn, hi, ht, hS, h => by
    obtain rfl : n = (fuel + r.length) + 1 := by rw [hn, List.length_cons]; omega
    simp only [takes, Bool.and_eq_true] at ht
    simp only [List.all_cons, Bool.and_eq_true, decide_eq_true_eq] at hi
    have e : pick (i :: r) l = l[i]'hi.1 :: pick r l := by
      show (match l.drop i with | o :: _ => o :: pick r l | [] => pick r l) = _
      rw [List.drop_eq_getElem_cons hi.1]
    rw [e] at h
    obtain ⟨v, hy, h⟩ := h
    exact wpAnyH_take (oi := l[i]'hi.1) (v := v) (by simp [hi.1]) hs ht.1.1 ht.1.2 (fun c a w k => hQ c a _ v w k) hy hS (held_takes hs hQ r _ fuel _ _ w rfl hi.2 ht.2 hS h)
/-- one operation, the only one that may come up -/
def wpOne (P : Program) (md : Region.Mode) (ops : Array Oper) (Q : Exit → Act → World → Prop) (S : World → Prop) (fuel : Nat) (listed : Array Bool) : List Oper → Act → World → Prop
  | [], _, _ => False
  | o :: _, a, w => ∀ K' : Act → World → Prop, Shut (∀ a w, S w → wpAnyH P md ops Q S fuel listed a w → K' a w) → if Region.wanted o (yielded ops a.tmps) = true then Oper.wp P o a w K' Q else K' (a.put o.dst undef) w
theorem held_one {l : List Oper} (i : Nat) {n fuel : Nat} {listed : Array Bool} {a : Act} {w : World} (hn : n = fuel + 1) (hr : Region.ready md l.toArray listed = [i])
    (h : wpOne P md l.toArray Q S fuel (listed.setIfInBounds i true) (l.drop i) a w) : wpAnyH P md l.toArray Q S n listed a w := by
  subst hn
  refine wpAnyH_ready hr (by simp) ?_
  rcases Nat.lt_or_ge i l.length with q | q
  · rw [List.drop_eq_getElem_cons q] at h
    exact AllReadyH.cons (o := l[i]) (by simp [q]) (fun K' hK => h K' (fun a w hS hW => hK a w hS (fun _ => hW))) AllReadyH.nil
  · rw [List.drop_eq_nil_of_le q] at h; exact h.elim
/-- one of two operations that may come up -/
theorem held_two {l : List Oper} (i j : Nat) {n fuel : Nat} {listed : Array Bool} {a : Act} {w : World} (hn : n = fuel + 1) (hr : Region.ready md l.toArray listed = [i, j])
    (h1 : wpOne P md l.toArray Q S fuel (listed.setIfInBounds i true) (l.drop i) a w) (h2 : wpOne P md l.toArray Q S fuel (listed.setIfInBounds j true) (l.drop j) a w) : wpAnyH P md l.toArray Q S n listed a w := by
  subst hn
  refine wpAnyH_ready hr (by simp) ?_
  have one : ∀ (i : Nat) (rs : List Nat), wpOne P md l.toArray Q S fuel (listed.setIfInBounds i true) (l.drop i) a w → AllReadyH P md l.toArray Q S fuel listed a w rs → AllReadyH P md l.toArray Q S fuel listed a w (i :: rs) := fun i rs h hs => by
    rcases Nat.lt_or_ge i l.length with q | q
    · rw [List.drop_eq_getElem_cons q] at h
      exact AllReadyH.cons (o := l[i]) (by simp [q]) (fun K' hK => h K' (fun a w hS hW => hK a w hS (fun _ => hW))) hs
    · rw [List.drop_eq_nil_of_le q] at h; exact h.elim
  exact one i _ h1 (one j _ h2 AllReadyH.nil)
theorem wpOne_cons {fuel : Nat} {listed : Array Bool} {o : Oper} {r : List Oper} {a : Act} {w : World} (h : ∀ K' : Act → World → Prop, Shut (∀ a w, S w → wpAnyH P md ops Q S fuel listed a w → K' a w) → if Region.wanted o (yielded ops a.tmps) = true then Oper.wp P o a w K' Q else K' (a.put o.dst undef) w) :
    wpOne P md ops Q S fuel listed (o :: r) a w := h
end
end Go.Proofs.Ytcdlnohnkdalbaa.Ro
