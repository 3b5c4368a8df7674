/- A net in a variable, its three rows of the call's own and apart; rows made in a region that draws its order. -/
import Derived.Deep.OwnRows
import Derived.Test.YtcdlnohnkdalbaaMg12
import Derived.Test.YtcdlnohnkdalbaaMxRiL4
namespace Go.Proofs.Ytcdlnohnkdalbaa.Ro
open Go.RowKit Go.Proofs Go.Maps
set_option linter.unusedVariables false
set_option maxRecDepth 100000
set_option linter.unusedSimpArgs false

/-- one of four operations that may come up -/
theorem held_four {P : Program} {md : Region.Mode} {Q : Exit → Act → World → Prop} {S : World → Prop} {l : List Oper} (i j k q : Nat) {n fuel : Nat} {listed : Array Bool} {a : Act} {w : World} (hn : n = fuel + 1) (hr : Region.ready md l.toArray listed = [i, j, k, q])
    (h1 : wpOne P md l.toArray Q S fuel (listed.setIfInBounds i true) (l.drop i) a w) (h2 : wpOne P md l.toArray Q S fuel (listed.setIfInBounds j true) (l.drop j) a w) (h3 : wpOne P md l.toArray Q S fuel (listed.setIfInBounds k true) (l.drop k) a w) (h4 : wpOne P md l.toArray Q S fuel (listed.setIfInBounds q true) (l.drop q) a w) : wpAnyH P md l.toArray Q S n listed a w := by
  subst hn
  refine wpAnyH_ready hr (by simp) ?_
  have one : ∀ (i : Nat) (rs : List Nat), wpOne P md l.toArray Q S fuel (listed.setIfInBounds i true) (l.drop i) a w → AllReadyH P md l.toArray Q S fuel listed a w rs → AllReadyH P md l.toArray Q S fuel listed a w (i :: rs) := fun i rs h hs => by
    rcases Nat.lt_or_ge i l.length with q | q
    · rw [List.drop_eq_getElem_cons q] at h
      exact AllReadyH.cons (o := l[i]) (by simp [q]) (fun K' hK => h K' (fun a w hS hW => hK a w hS (fun _ => hW))) hs
    · rw [List.drop_eq_nil_of_le q] at h; exact h.elim
  exact one i _ h1 (one j _ h2 (one k _ h3 (one q _ h4 AllReadyH.nil)))
theorem step_make {w : World} {ops : Array Oper} {o : Oper} {a : Act} {K : Act → World → Prop} {Q : Exit → Act → World → Prop} {E : Prop} (hgd : o.guard = none) (l c : Operand) (hop : o.op = Op.makeSlice 22 l c) (n : Nat) (hn : n ≤ 100000)
    (hl : a.eval l = .int .i64 (n : Int)) (hc : a.eval c = .int .i64 (n : Int)) (hK : K (a.put o.dst (.slice (some ⟨w.heap.size, 0, none⟩) n n)) (w.alloc (.cells (madeCells #[.int .i64 0] n) 3))) :
    if Region.wanted o (yielded ops a.tmps) = true then Oper.wp Try.prog o a w K Q else E := by
  have hw : Region.wanted o (yielded ops a.tmps) = true := by simp [Region.wanted, hgd]
  rw [if_pos hw]
  obtain ⟨i2, hi2, hz2, hsz2, hby2⟩ := info_parts (P := Try.prog) (e := 3) (z := .int .i64 0) (size := 1) (bytes := 8) (by kernel_rfl)
  have hrun := run_make_row (P := Try.prog) 22 3 i2 (.int .i64 0) Try.underlying22 hi2 hz2 hsz2 rfl .i64 .i64 n (by rw [hby2]; omega) (by omega) w
  unfold Oper.wp
  simp [execOp, hop, hl, hc, hrun, Result.andThen]
  exact hK
theorem Ow.zeros (w : World) (n : Nat) (hn : n ≤ 1000) : Ow (w.alloc (.cells (madeCells #[.int .i64 0] n) 3)) (.slice (some ⟨w.heap.size, 0, none⟩) n n) n (fun _ => 0) := by
  have e : (madeCells #[Value.int .i64 0] n).toList = List.replicate n (.int .i64 0) := toList_madeCells_one _ _
  have hs : (madeCells #[Value.int .i64 0] n).size = n := by rw [← Array.length_toList, e, List.length_replicate]
  refine Ow.lit w n (fun _ => 0) _ hs hn fun j hj => ?_
  rw [← Array.getElem?_toList, e, List.getElem?_replicate, if_pos hj]

/-- a net of the call's own, all in blocks from L on, each apart -/
structure Ring4 (w : World) (L q bT bX bC : Nat) (N : Int) (n : Nat) (t x c : Nat → Int) : Prop where
  box : Box w q N (.slice (some ⟨bT, 0, none⟩) n n) (.slice (some ⟨bX, 0, none⟩) n n) (.slice (some ⟨bC, 0, none⟩) n n)
  ot : Ow w (.slice (some ⟨bT, 0, none⟩) n n) n t
  ox : Ow w (.slice (some ⟨bX, 0, none⟩) n n) n x
  oc : Ow w (.slice (some ⟨bC, 0, none⟩) n n) n c
  tx : bT ≠ bX
  tc : bT ≠ bC
  xc : bX ≠ bC
  qt : q ≠ bT
  qx : q ≠ bX
  qc : q ≠ bC
  lq : L ≤ q
  lt : L ≤ bT
  lx : L ≤ bX
  lc : L ≤ bC
section
variable {w w' : World} {L q bT bX bC n : Nat} {N : Int} {t x c t' x' c' : Nat → Int}
theorem row_other {b b' : Nat} {y : Nat → Int} (h : Ow w (.slice (some ⟨b, 0, none⟩) n n) n y) (hne : b ≠ b') (i : Nat) (u : Value) : Ow (w.setCell ⟨b', i, none⟩ u) (.slice (some ⟨b, 0, none⟩) n n) n y :=
  h.keep fun k hk => Below.heap_setCell _ _ _ _ (by have hk : some b = some k := hk; injection hk with hk; show k ≠ b'; omega)
theorem Ring4.setT (h : Ring4 w L q bT bX bC N n t x c) {i : Nat} (hi : i < n) (u : Int) : Ring4 (w.setCell ⟨bT, i, none⟩ (.int .i64 u)) L q bT bX bC N n (upd t i u) x c :=
  ⟨(Below.heap_setCell _ _ _ _ h.qt).trans h.box, h.ot.set hi u, row_other h.ox h.tx.symm _ _, row_other h.oc h.tc.symm _ _, h.tx, h.tc, h.xc, h.qt, h.qx, h.qc, h.lq, h.lt, h.lx, h.lc⟩
theorem Ring4.setX (h : Ring4 w L q bT bX bC N n t x c) {i : Nat} (hi : i < n) (u : Int) : Ring4 (w.setCell ⟨bX, i, none⟩ (.int .i64 u)) L q bT bX bC N n t (upd x i u) c :=
  ⟨(Below.heap_setCell _ _ _ _ h.qx).trans h.box, row_other h.ot h.tx _ _, h.ox.set hi u, row_other h.oc h.xc.symm _ _, h.tx, h.tc, h.xc, h.qt, h.qx, h.qc, h.lq, h.lt, h.lx, h.lc⟩
theorem Ring4.setC (h : Ring4 w L q bT bX bC N n t x c) {i : Nat} (hi : i < n) (u : Int) : Ring4 (w.setCell ⟨bC, i, none⟩ (.int .i64 u)) L q bT bX bC N n t x (upd c i u) :=
  ⟨(Below.heap_setCell _ _ _ _ h.qc).trans h.box, row_other h.ot h.tc _ _, row_other h.ox h.xc _ _, h.oc.set hi u, h.tx, h.tc, h.xc, h.qt, h.qx, h.qc, h.lq, h.lt, h.lx, h.lc⟩
theorem Ring4.keep (h : Ring4 w L q bT bX bC N n t x c) (hk : ∀ k, L ≤ k → w'.heap[k]? = w.heap[k]?) : Ring4 w' L q bT bX bC N n t x c :=
  ⟨(hk q h.lq).trans h.box, h.ot.keep fun k e => hk k (by have e : some bT = some k := e; injection e with e; have := h.lt; omega), h.ox.keep fun k e => hk k (by have e : some bX = some k := e; injection e with e; have := h.lx; omega), h.oc.keep fun k e => hk k (by have e : some bC = some k := e; injection e with e; have := h.lc; omega), h.tx, h.tc, h.xc, h.qt, h.qx, h.qc, h.lq, h.lt, h.lx, h.lc⟩
theorem Ring4.congr (h : Ring4 w L q bT bX bC N n t x c) (e1 : ∀ j, j < n → t j = t' j) (e2 : ∀ j, j < n → x j = x' j) (e3 : ∀ j, j < n → c j = c' j) : Ring4 w L q bT bX bC N n t' x' c' :=
  ⟨h.box, h.ot.congr e1, h.ox.congr e2, h.oc.congr e3, h.tx, h.tc, h.xc, h.qt, h.qx, h.qc, h.lq, h.lt, h.lx, h.lc⟩
theorem Ring4.at_ (h : Ring4 w L q bT bX bC N n t x c) : NetAt w q N (.slice (some ⟨bT, 0, none⟩) n n) (.slice (some ⟨bX, 0, none⟩) n n) (.slice (some ⟨bC, 0, none⟩) n n) n t x c := ⟨h.box, h.ot.rd, h.ox.rd, h.oc.rd⟩
theorem Ring4.made {cur : World} (Q : Box cur q 0 (.slice none 0 0) (.slice none 0 0) (.slice none 0 0)) (ot : Ow cur (.slice (some ⟨bT, 0, none⟩) n n) n t) (ox : Ow cur (.slice (some ⟨bX, 0, none⟩) n n) n x) (oc : Ow cur (.slice (some ⟨bC, 0, none⟩) n n) n c)
    (d : bT ≠ bX ∧ bT ≠ bC ∧ bX ≠ bC ∧ q ≠ bT ∧ q ≠ bX ∧ q ≠ bC) (l : L ≤ q ∧ L ≤ bT ∧ L ≤ bX ∧ L ≤ bC) :
    Ring4 (put4 cur q N (.slice (some ⟨bT, 0, none⟩) n n) (.slice (some ⟨bX, 0, none⟩) n n) (.slice (some ⟨bC, 0, none⟩) n n)) L q bT bX bC N n t x c := by
  obtain ⟨d1, d2, d3, d4, d5, d6⟩ := d
  obtain ⟨l1, l2, l3, l4⟩ := l
  have kp : ∀ (b : Nat) (y : Nat → Int), Ow cur (.slice (some ⟨b, 0, none⟩) n n) n y → q ≠ b → Ow (put4 cur q N (.slice (some ⟨bT, 0, none⟩) n n) (.slice (some ⟨bX, 0, none⟩) n n) (.slice (some ⟨bC, 0, none⟩) n n)) (.slice (some ⟨b, 0, none⟩) n n) n y := fun b y h hne =>
    h.keep fun k hk => put4_ne (by have hk : some b = some k := hk; injection hk with hk; omega)
  exact ⟨put4_box Q _ _ _ _, kp _ _ ot d4, kp _ _ ox d5, kp _ _ oc d6, d1, d2, d3, d4, d5, d6, l1, l2, l3, l4⟩
end
end Go.Proofs.Ytcdlnohnkdalbaa.Ro
