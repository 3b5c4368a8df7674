/- Whole numbers appended out of any row, nil too. A region that draws its order, gone through by hand: what may be taken first is taken in a row; one operation carried out; then more may be held than before. Three rows of two in a list. Walks: the drawn regions of Edge, of the document's chapter 1. Walks: has, Round, of the document's chapter 1. Walks: Edge, of the document's chapter 1. A net in a variable, its three rows of the call's own and apart; rows made in a region that draws its order. Plain: a net whose vertices' rounds are laid one by one. Walks: the drawn regions of Make, of the statements' chapter 1. Walks: a drawn region of Make, of the statements' chapter 1: a dart is laid in a row. Walks: Make, of the statements' chapter 1: a net of numbers, plane or not. -/
import Derived.Test.YtcejjcopchkmeaaRoAp
import Derived.Test.YtcejjcopchkmeaaRoGr
import Derived.Test.YtcejjcopchkmeaaRoW
import Derived.Deep.RegionHeld3
import Derived.Test.YtcejjcopchkmeaaRoSml
import Derived.Test.YtcejjcopchkmeaaRoRe
import Derived.Test.YtcejjcopchkmeaaRoD
import Derived.Test.YtcejjcopchkmeaaRoNt
import Derived.Deep.OwnRows
import Derived.Test.YtcejjcopchkmeaaMq1
import Derived.Test.YtcejjcopchkmeaaRoPo
namespace Go.Proofs.Ytcejjcopchkmeaa.Ro
open Go.RowKit Go.Proofs Go.Maps
set_option linter.unusedVariables false
set_option maxRecDepth 100000
set_option linter.unusedSimpArgs false

/-- m whole numbers that are read, from an address on (or none) -/
def SrcI (w : World) (A : Option Addr) (m : Nat) (y : Nat → Int) : Prop := (A = none ∧ m = 0) ∨ ∃ ad, A = some ad ∧ ∀ i, i < m → w.cell? (ad.add i) = some (.int .i64 (y i))
theorem Rd.srcI {w : World} {A : Option Addr} {c m : Nat} {y : Nat → Int} (h : Rd w (.slice A m c) m y) : SrcI w A m y := by
  obtain ⟨A', cap, e, r⟩ := h
  injection e with e1 e2 e3
  subst e1
  rcases Nat.eq_zero_or_pos m with rfl | hm
  · rcases A with _ | ad
    · exact .inl ⟨rfl, rfl⟩
    · exact .inr ⟨ad, rfl, fun i hi => by omega⟩
  · obtain ⟨ad, h1, _, h2⟩ := r hm
    exact .inr ⟨ad, h1, h2⟩
theorem run_appI (w : World) (ty : TypeId) (v : Value) (n : Nat) (g : Nat → Int) (h : Ow w v n g) (A : Option Addr) (m c : Nat) (y : Nat → Int) (hr : SrcI w A m y) (hn : n + m ≤ 100000) :
    ∃ v' w', (Builtin.append_ #[22, 22] ty #[v, .slice A m c]).run Try.prog w = .ok v' w' ∧ Ow w' v' (n + m) (cat g n y) ∧ w.grownBy w' v.ownBlock ∧ (v'.ownBlock = v.ownBlock ∨ v'.ownBlock = some w.heap.size) := by
  obtain ⟨i0, hi, hz0, hz1, hz2⟩ := info_parts (P := Try.prog) (e := 3) (z := .int .i64 0) (size := 1) (bytes := 8) (by kernel_rfl)
  rcases hr with ⟨rfl, rfl⟩ | ⟨ad, rfl, hc⟩
  · have hsame : Ow w v (n + 0) (cat g n y) := h.congr (x' := cat g n y) (fun j hj => (cat_lo hj).symm)
    obtain ⟨xs, hown, _⟩ := h
    refine ⟨v, w, ?_, hsame, World.grownBy.refl w _, .inl rfl⟩
    rcases hown.2 with ⟨rfl, rfl⟩ | ⟨g, cap, cur, rfl, _, _, hnc, _⟩
    · simp [Builtin.append_, run_underlying Try.underlying22, sizeOf, typeInfo, hi, Builtin.lenOf, Builtin.firstCells]
    · simp [Builtin.append_, run_underlying Try.underlying22, sizeOf, typeInfo, hi, Builtin.lenOf, Builtin.firstCells, hnc, storeCells]
  · obtain ⟨xs, hown, hxs⟩ := h
    have hl : xs.length = n * 1 := hown.1
    have hnew : ∀ j, ((List.range m).map fun i => Value.int .i64 (y i))[j]? = if j < m then some (.int .i64 (y j)) else none := fun j => by
      by_cases q : j < m
      · rw [if_pos q, List.getElem?_map, List.getElem?_range q]; rfl
      · rw [if_neg q, List.getElem?_eq_none (by simp; omega)]
    obtain ⟨v', w', hrun, h2, h3, _, h5⟩ := run_append_own_at (P := Try.prog) w 0 22 ty 3 i0 _ 1 8 Try.underlying22 hi hz0 hz1 hz2 rfl (by omega) v n xs hown ad m c ((List.range m).map fun i => Value.int .i64 (y i)) (by simp) (fun j u hu => by
      rw [hnew] at hu
      split at hu
      · injection hu with hu; rw [← hu]; exact hc j ‹_›
      · cases hu) (fun u hu => by
      rw [List.mem_map] at hu
      obtain ⟨i, _, rfl⟩ := hu
      rfl) (by unfold maxLen; omega) (by omega) (Nat.zero_le _)
    refine ⟨v', w', hrun, ⟨_, h2, fun j hj => ?_⟩, h3, h5⟩
    rcases Nat.lt_or_ge j n with q | q
    · rw [cat_lo q, List.getElem?_append_left (by omega)]
      exact hxs j q
    · rw [cat_hi q, List.getElem?_append_right (by omega), hnew, if_pos (by omega), show j - xs.length = j - n by omega]
theorem step_appI {w : World} {ops : Array Oper} {o : Oper} {a : Act} {K : Act → World → Prop} {Q : Exit → Act → World → Prop} {E : Prop} (hgd : o.guard = none) (s x : Operand)
    (ho : o.op = .call { callee := .builtin .append, args := #[s, x], argTypes := #[22, 22] })
    (v : Value) (n : Nat) (g : Nat → Int) (hs : a.eval s = v) (h : Ow w v n g) (A : Option Addr) (m c : Nat) (y : Nat → Int) (hx : a.eval x = .slice A m c) (hr : SrcI w A m y) (hn : n + m ≤ 100000)
    (hQ : ∀ v' w', Ow w' v' (n + m) (cat g n y) → w.grownBy w' v.ownBlock → (v'.ownBlock = v.ownBlock ∨ v'.ownBlock = some w.heap.size) → K (a.put o.dst v') w') :
    if Region.wanted o (yielded ops a.tmps) = true then Oper.wp Try.prog o a w K Q else E := by
  have hw : Region.wanted o (yielded ops a.tmps) = true := by simp [Region.wanted, hgd]
  rw [if_pos hw]
  obtain ⟨v', w', hrun, h2, h3, h4⟩ := run_appI w o.type v n g h A m c y hr hn
  unfold Oper.wp execOp
  simp only [ho, resolve, invoke, builtin, Sem.run_bind, Sem.run_pure, Result.andThen_ok, List.map_toArray, List.map_cons, List.map_nil, hs, hx, hrun]
  exact hQ v' w' h2 h3 h4
theorem Ow.sliced {w : World} {v : Value} {n : Nat} {g : Nat → Int} (h : Ow w v n g) : ∃ A c, v = .slice A n c := by
  obtain ⟨A, c, rfl, -⟩ := h.rd
  exact ⟨A, c, rfl⟩
end Go.Proofs.Ytcejjcopchkmeaa.Ro
namespace Go.Proofs.Ytcejjcopchkmeaa.Ro
open Go.RowKit Go.Proofs
set_option linter.unusedVariables false
set_option maxRecDepth 100000
set_option linter.unusedSimpArgs false

section
variable {P : Program} {md : Region.Mode} {ops : Array Oper} {Q : Exit → Act → World → Prop} {S S' : World → Prop}
/-- more may be held from here on -/
theorem held_more (h : ∀ w, S' w → S w) : ∀ (fuel : Nat) (listed : Array Bool) (a : Act) (w : World), wpAnyH P md ops Q S' fuel listed a w → wpAnyH P md ops Q S fuel listed a w
  | 0, _, _, _, k => k
  | f + 1, _, _, _, k => ⟨k.1, fun i hi => wpOp_mono (fun a' w' h' => ⟨h _ h'.1, held_more h f _ a' w' h'.2⟩) (k.2 i hi)⟩
/-- these may be taken first, one behind the other -/
def takes (md : Region.Mode) (ops : Array Oper) : Array Bool → List Nat → Bool
  | _, [] => true
  | listed, i :: r => Region.free md ops listed i && (Region.ready md ops listed).contains i && takes md ops (listed.setIfInBounds i true) r
def gone (listed : Array Bool) : List Nat → Array Bool
  | [] => listed
  | i :: r => gone (listed.setIfInBounds i true) r
def pick : List Nat → List Oper → List Oper
  | [], _ => []
  | i :: r, l => match l.drop i with
    | o :: _ => o :: pick r l
    | [] => pick r l
def wpTakes (P : Program) (ops : Array Oper) (S : World → Prop) (K : Act → Prop) : List Oper → Act → Prop
  | [], a => K a
  | o :: r, a => ∃ v, YieldsIf P ops S o v a ∧ wpTakes P ops S K r (a.put o.dst v)
theorem wpTakes_nil {K : Act → Prop} {a : Act} (h : K a) : wpTakes P ops S K [] a := h
theorem wpTakes_cons {K : Act → Prop} {o : Oper} {r : List Oper} {a : Act} {v : Value} (hy : YieldsIf P ops S o v a) (h : wpTakes P ops S K r (a.put o.dst v)) : wpTakes P ops S K (o :: r) a := ⟨v, hy, h⟩
theorem held_takes {l : List Oper} (hs : Region.noSelect l.toArray = true) (hQ : ∀ c a d v w, Q (.panic c) (a.put d v) w → Q (.panic c) a w) : ∀ (is : List Nat) (n fuel : Nat) (listed : Array Bool) (a : Act) (w : World),
    n = fuel + is.length → (is.all fun i => decide (i < l.length)) = true → takes md l.toArray listed is = true → S w → wpTakes P l.toArray S (fun a => wpAnyH P md l.toArray Q S fuel (gone listed is) a w) (pick is l) a → wpAnyH P md l.toArray Q S n listed a w
  | [], n, fuel, listed, a, w, hn, _, _, _, h => by
    rw [hn]; exact h
  | i :: r, n, fuel, listed, a, w, hn, hi, ht, hS, h => by
    obtain rfl : n = (fuel + r.length) + 1 := by rw [hn, List.length_cons]; omega
    simp only [takes, Bool.and_eq_true] at ht
    simp only [List.all_cons, Bool.and_eq_true, decide_eq_true_eq] at hi
    have e : pick (i :: r) l = l[i]'hi.1 :: pick r l := by
      show (match l.drop i with | o :: _ => o :: pick r l | [] => pick r l) = _
      rw [List.drop_eq_getElem_cons hi.1]
    rw [e] at h
    obtain ⟨v, hy, h⟩ := h
    exact wpAnyH_take (oi := l[i]'hi.1) (v := v) (by simp [hi.1]) hs ht.1.1 ht.1.2 (fun c a w k => hQ c a _ v w k) hy hS (held_takes hs hQ r _ fuel _ _ w rfl hi.2 ht.2 hS h)
/-- one operation, the only one that may come up -/
def wpOne (P : Program) (md : Region.Mode) (ops : Array Oper) (Q : Exit → Act → World → Prop) (S : World → Prop) (fuel : Nat) (listed : Array Bool) : List Oper → Act → World → Prop
  | [], _, _ => False
  | o :: _, a, w => ∀ K' : Act → World → Prop, Shut (∀ a w, S w → wpAnyH P md ops Q S fuel listed a w → K' a w) → if Region.wanted o (yielded ops a.tmps) = true then Oper.wp P o a w K' Q else K' (a.put o.dst undef) w
theorem held_one {l : List Oper} (i : Nat) {n fuel : Nat} {listed : Array Bool} {a : Act} {w : World} (hn : n = fuel + 1) (hr : Region.ready md l.toArray listed = [i])
    (h : wpOne P md l.toArray Q S fuel (listed.setIfInBounds i true) (l.drop i) a w) : wpAnyH P md l.toArray Q S n listed a w := by
  subst hn
  refine wpAnyH_ready hr (by simp) ?_
  rcases Nat.lt_or_ge i l.length with q | q
  · rw [List.drop_eq_getElem_cons q] at h
    exact AllReadyH.cons (o := l[i]) (by simp [q]) (fun K' hK => h K' (fun a w hS hW => hK a w hS (fun _ => hW))) AllReadyH.nil
  · rw [List.drop_eq_nil_of_le q] at h; exact h.elim
/-- one of two operations that may come up -/
theorem held_two {l : List Oper} (i j : Nat) {n fuel : Nat} {listed : Array Bool} {a : Act} {w : World} (hn : n = fuel + 1) (hr : Region.ready md l.toArray listed = [i, j])
    (h1 : wpOne P md l.toArray Q S fuel (listed.setIfInBounds i true) (l.drop i) a w) (h2 : wpOne P md l.toArray Q S fuel (listed.setIfInBounds j true) (l.drop j) a w) : wpAnyH P md l.toArray Q S n listed a w := by
  subst hn
  refine wpAnyH_ready hr (by simp) ?_
  have one : ∀ (i : Nat) (rs : List Nat), wpOne P md l.toArray Q S fuel (listed.setIfInBounds i true) (l.drop i) a w → AllReadyH P md l.toArray Q S fuel listed a w rs → AllReadyH P md l.toArray Q S fuel listed a w (i :: rs) := fun i rs h hs => by
    rcases Nat.lt_or_ge i l.length with q | q
    · rw [List.drop_eq_getElem_cons q] at h
      exact AllReadyH.cons (o := l[i]) (by simp [q]) (fun K' hK => h K' (fun a w hS hW => hK a w hS (fun _ => hW))) hs
    · rw [List.drop_eq_nil_of_le q] at h; exact h.elim
  exact one i _ h1 (one j _ h2 AllReadyH.nil)
theorem wpOne_cons {fuel : Nat} {listed : Array Bool} {o : Oper} {r : List Oper} {a : Act} {w : World} (h : ∀ K' : Act → World → Prop, Shut (∀ a w, S w → wpAnyH P md ops Q S fuel listed a w → K' a w) → if Region.wanted o (yielded ops a.tmps) = true then Oper.wp P o a w K' Q else K' (a.put o.dst undef) w) :
    wpOne P md ops Q S fuel listed (o :: r) a w := h
end
end Go.Proofs.Ytcejjcopchkmeaa.Ro
namespace Go.Proofs.Ytcejjcopchkmeaa.Ro
open Go.RowKit Go.Proofs Go.Maps
set_option linter.unusedVariables false
set_option maxRecDepth 100000
set_option linter.unusedSimpArgs false

theorem alloc4 (W : World) (a b c d : Array Value) (t1 t2 t3 t4 : TypeId) :
    ((((W.alloc (.cells a t1)).alloc (.cells b t2)).alloc (.cells c t3)).alloc (.cells d t4)).heap[W.heap.size]? = some (.cells a t1 (0, 0)) ∧
    ((((W.alloc (.cells a t1)).alloc (.cells b t2)).alloc (.cells c t3)).alloc (.cells d t4)).heap[W.heap.size + 1]? = some (.cells b t2 (0, 0)) ∧
    ((((W.alloc (.cells a t1)).alloc (.cells b t2)).alloc (.cells c t3)).alloc (.cells d t4)).heap[W.heap.size + 1 + 1]? = some (.cells c t3 (0, 0)) ∧
    ((((W.alloc (.cells a t1)).alloc (.cells b t2)).alloc (.cells c t3)).alloc (.cells d t4)).heap[W.heap.size + 1 + 1 + 1]? = some (.cells d t4 (0, 0)) ∧
    Below W.heap.size W ((((W.alloc (.cells a t1)).alloc (.cells b t2)).alloc (.cells c t3)).alloc (.cells d t4)) := by
  have s1 : (W.alloc (.cells a t1)).heap.size = W.heap.size + 1 := by simp
  have h1 := heap_alloc_new W (.cells a t1)
  have b1 := below_new W (.cells a t1)
  generalize W.alloc (.cells a t1) = W1 at *
  have s2 : (W1.alloc (.cells b t2)).heap.size = W1.heap.size + 1 := by simp
  have h2 := heap_alloc_new W1 (.cells b t2)
  have b2 := below_new W1 (.cells b t2)
  generalize W1.alloc (.cells b t2) = W2 at *
  have s3 : (W2.alloc (.cells c t3)).heap.size = W2.heap.size + 1 := by simp
  have h3 := heap_alloc_new W2 (.cells c t3)
  have b3 := below_new W2 (.cells c t3)
  generalize W2.alloc (.cells c t3) = W3 at *
  have h4 := heap_alloc_new W3 (.cells d t4)
  have b4 := below_new W3 (.cells d t4)
  generalize W3.alloc (.cells d t4) = W4 at *
  rw [s1] at h2
  rw [s2, s1] at h3
  rw [s3, s2, s1] at h4
  refine ⟨?_, ?_, ?_, h4, b1.trans ((b2.mono (by omega)).trans ((b3.mono (by omega)).trans (b4.mono (by omega))))⟩
  · exact (b4.block _ (by omega)).trans ((b3.block _ (by omega)).trans ((b2.block _ (by omega)).trans h1))
  · exact (b4.block _ (by omega)).trans ((b3.block _ (by omega)).trans h2)
  · exact (b4.block _ (by omega)).trans h3

/-- three rows of two, told by their places -/
def Three (w : World) (L : Nat) (F : Nat → Int → Int → Prop) : Prop := L < w.heap.size ∧ ∀ i : Nat, i < 3 → ∃ (P : Nat) (q r : Int), P < w.heap.size ∧ w.cell? ⟨L, i, none⟩ = some (.slice (some ⟨P, 0, none⟩) 2 2) ∧ w.cell? ⟨P, 0, none⟩ = some (.int .i64 q) ∧ w.cell? ⟨P, 1, none⟩ = some (.int .i64 r) ∧ Small q ∧ Small r ∧ F i q r
theorem Three.of {w : World} {L P Q R : Nat} {t1 t2 t3 t4 : TypeId} {a0 a1 b0 b1 c0 c1 : Int} {F : Nat → Int → Int → Prop}
    (hL : w.heap[L]? = some (.cells #[.slice (some ⟨P, 0, none⟩) 2 2, .slice (some ⟨Q, 0, none⟩) 2 2, .slice (some ⟨R, 0, none⟩) 2 2] t4 (0, 0)))
    (hP : w.heap[P]? = some (.cells #[.int .i64 a0, .int .i64 a1] t1 (0, 0))) (hQ : w.heap[Q]? = some (.cells #[.int .i64 b0, .int .i64 b1] t2 (0, 0))) (hR : w.heap[R]? = some (.cells #[.int .i64 c0, .int .i64 c1] t3 (0, 0)))
    (s : Small a0 ∧ Small a1 ∧ Small b0 ∧ Small b1 ∧ Small c0 ∧ Small c1) (f0 : F 0 a0 a1) (f1 : F 1 b0 b1) (f2 : F 2 c0 c1) : Three w L F := by
  obtain ⟨s0, s1, s2, s3, s4, s5⟩ := s
  refine ⟨blk_lt hL, fun i hi => ?_⟩
  rcases (show i = 0 ∨ i = 1 ∨ i = 2 by omega) with rfl | rfl | rfl
  · exact ⟨P, a0, a1, blk_lt hP, blk_cell hL 0, blk_cell hP 0, blk_cell hP 1, s0, s1, f0⟩
  · exact ⟨Q, b0, b1, blk_lt hQ, blk_cell hL 1, blk_cell hQ 0, blk_cell hQ 1, s2, s3, f1⟩
  · exact ⟨R, c0, c1, blk_lt hR, blk_cell hL 2, blk_cell hR 0, blk_cell hR 1, s4, s5, f2⟩
/-- one of three operations that may come up -/
theorem held_three {P : Program} {md : Region.Mode} {Q : Exit → Act → World → Prop} {S : World → Prop} {l : List Oper} (i j k : Nat) {n fuel : Nat} {listed : Array Bool} {a : Act} {w : World} (hn : n = fuel + 1) (hr : Region.ready md l.toArray listed = [i, j, k])
    (h1 : wpOne P md l.toArray Q S fuel (listed.setIfInBounds i true) (l.drop i) a w) (h2 : wpOne P md l.toArray Q S fuel (listed.setIfInBounds j true) (l.drop j) a w) (h3 : wpOne P md l.toArray Q S fuel (listed.setIfInBounds k true) (l.drop k) a w) : wpAnyH P md l.toArray Q S n listed a w := by
  subst hn
  refine wpAnyH_ready hr (by simp) ?_
  have one : ∀ (i : Nat) (rs : List Nat), wpOne P md l.toArray Q S fuel (listed.setIfInBounds i true) (l.drop i) a w → AllReadyH P md l.toArray Q S fuel listed a w rs → AllReadyH P md l.toArray Q S fuel listed a w (i :: rs) := fun i rs h hs => by
    rcases Nat.lt_or_ge i l.length with q | q
    · rw [List.drop_eq_getElem_cons q] at h
      exact AllReadyH.cons (o := l[i]) (by simp [q]) (fun K' hK => h K' (fun a w hS hW => hK a w hS (fun _ => hW))) hs
    · rw [List.drop_eq_nil_of_le q] at h; exact h.elim
  exact one i _ h1 (one j _ h2 (one k _ h3 AllReadyH.nil))
end Go.Proofs.Ytcejjcopchkmeaa.Ro
namespace Go.Proofs.Ytcejjcopchkmeaa.Ro
open Go.RowKit Go.Proofs Go.Maps
set_option linter.unusedVariables false
set_option maxRecDepth 100000
set_option linter.unusedSimpArgs false

noncomputable def codeEdge8 : Code := (Try.f38.body.bind (regionOf 8)).getD .skip
set_option maxRecDepth 100000 in
set_option maxHeartbeats 12800000 in
theorem edge8 (w8 : World) (p lb tp m : Nat) (A : Option Addr) (l0 l1 : Int) (t : Nat → Int) (K : Act → World → Prop) (Q' : Exit → Act → World → Prop) (v0 v3 v4 v5 v6 v7 v8 v9 v10 v11 v12 v13 v14 v15 v16 v17 v18 v19 v20 v21 v22 v23 v24 v25 v26 v27 v28 v29 v30 v31 v32 v33 v34 v35 v36 v37 v38 v39 v40 v41 v42 v43 v44 v45 v46 v47 v48 v49 v50 v51 v52 v53 v54 v55 v56 v57 v58 v59 v60 v61 v62 v63 v64 v65 v66 v67 v68 v69 v70 v71 v72 v73 v74 v75 v76 v77 v78 v79 v80 v81 v82 v83 v84 v85 v86 v87 v88 v89 v90 v91 v92 : Value)
    (c1 : w8.cell? ⟨p, 1, none⟩ = some (.slice A m tp)) (f1 : w8.frozen? ⟨p, 1, none⟩ = false) (pl : p < w8.heap.size) (HT : Rd w8 (.slice A m tp) m t) (k0 : w8.cell? ⟨lb, 0, none⟩ = some (.int .i64 l0)) (k1 : w8.cell? ⟨lb, 1, none⟩ = some (.int .i64 l1)) (ll : lb < w8.heap.size) (hpl : p ≠ lb) (hm : m ≤ 1000)
    (hK : ∀ (u56 u57 u58 u59 u60 u61 u62 u63 u64 u65 u66 u67 u68 : Value) (b2 c2 : Nat) (w2 : World), Below w8.heap.size w8 w2 → w8.heap.size ≤ b2 → Ow w2 (.slice (some ⟨b2, 0, none⟩) (m + 2) c2) (m + 2) (cat t m (two l0 l1)) →
      K ⟨#[v0, .slice (some ⟨lb, 0, none⟩) 4 4, .pointer (some ⟨p, 0, none⟩), v3, v4, v5, v6, v7, v8, v9, v10, v11, v12, v13, v14, v15, v16, v17, v18, v19, v20, v21, v22, v23, v24, v25, v26, v27, v28, v29, v30, v31, v32, v33, v34, v35, v36, v37, v38, v39, v40, v41, v42, v43, v44, v45, v46, v47, v48, v49, v50, v51, v52, v53, v54, v55, u56, u57, u58, u59, u60, u61, u62, u63, u64, u65, u66, u67, u68, v69, v70, v71, v72, v73, v74, v75, v76, v77, v78, v79, v80, v81, v82, v83, v84, v85, v86, v87, v88, v89, v90, v91, v92], []⟩ (w2.setCell ⟨p, 1, none⟩ (.slice (some ⟨b2, 0, none⟩) (m + 2) c2))) :
    Code.wp Try.prog codeEdge8 (NoPanic (Exit.then K Q')) ⟨#[v0, .slice (some ⟨lb, 0, none⟩) 4 4, .pointer (some ⟨p, 0, none⟩), v3, v4, v5, v6, v7, v8, v9, v10, v11, v12, v13, v14, v15, v16, v17, v18, v19, v20, v21, v22, v23, v24, v25, v26, v27, v28, v29, v30, v31, v32, v33, v34, v35, v36, v37, v38, v39, v40, v41, v42, v43, v44, v45, v46, v47, v48, v49, v50, v51, v52, v53, v54, v55, v56, v57, v58, v59, v60, v61, v62, v63, v64, v65, v66, v67, v68, v69, v70, v71, v72, v73, v74, v75, v76, v77, v78, v79, v80, v81, v82, v83, v84, v85, v86, v87, v88, v89, v90, v91, v92], []⟩ w8 := by
  have hKK := Lib.hid hK
  clear hK
  conv => arg 2; whnf
  have E := (Below.refl w8.heap.size w8).drew
  have HTs : Hid (∀ W, Below w8.heap.size w8 W → SrcI W A m t) := Lib.hid fun W b => (HT.below b (Nat.le_refl _)).srcI
  have KF : Hid (∀ W, Below w8.heap.size w8 W → W.cell? ⟨lb, 0, none⟩ = some (.int .i64 l0) ∧ W.cell? ⟨lb, 1, none⟩ = some (.int .i64 l1)) := Lib.hid fun W b => ⟨(b.cell (p := ⟨lb, 0, none⟩) ll).trans k0, (b.cell (p := ⟨lb, 1, none⟩) ll).trans k1⟩
  have KH : Hid (∀ W : World, W.heap[lb]? = w8.heap[lb]? → W.cell? ⟨lb, 0, none⟩ = some (.int .i64 l0) ∧ W.cell? ⟨lb, 1, none⟩ = some (.int .i64 l1)) := Lib.hid fun W h => by
    have e : ∀ i, W.cell? ⟨lb, i, none⟩ = w8.cell? ⟨lb, i, none⟩ := fun i => by simp [World.cell?, h]
    exact ⟨(e _).trans k0, (e _).trans k1⟩
  have HA := KF.out _ E
  clear HT k0 k1
  refine wp_region_noPanic ?_
  refine wp_region_held_drew (S := fun W => W.cell? ⟨lb, 0, none⟩ = some (.int .i64 l0) ∧ W.cell? ⟨lb, 1, none⟩ = some (.int .i64 l1)) (by kernel_rfl) HA (fun hHeld => ?_)
  refine held_takes (by kernel_rfl) (fun _ _ _ _ _ h => h) [1, 4, 5, 6, 7, 8, 9] _ 7 _ _ _ rfl (by kernel_rfl) (by kernel_rfl) hHeld ?_
  simp only [pick, List.drop_succ_cons, List.drop_zero]
  iterate 7 (refine wpTakes_cons (v := ?_) (Or.inl ⟨by rfl, ?_⟩) ?_; rotate_left; (intro w hSw; (try dsimp only at hSw); go_simp <;> with_reducible rfl); (try simp only [Act.put, List.setIfInBounds_toArray, List.set_cons_zero, List.set_cons_succ]))
  refine wpTakes_nil ?_
  clear HA hHeld
  generalize w8.drew = v0 at *
  refine held_three 0 2 10 (fuel := 6) rfl (by kernel_rfl) ?_ ?_ ?_
  · simp only [List.drop_succ_cons, List.drop_zero]
    refine wpOne_cons (fun KO hK => ?_)
    go_simp
    have bb := below_new v0 (.cells #[] 3)
    have OA := Ow.empty v0 (fun _ => 0)
    have E' := E.trans (bb.mono E.size)
    generalize hW : v0.alloc (.cells #[] 3) = v1 at *
    clear hW bb
    obtain ⟨hA, ehA⟩ : ∃ h, h = v0.heap.size := ⟨_, rfl⟩
    rw [← ehA] at OA ⊢
    have lA : w8.heap.size ≤ hA := by have := E.size; omega
    clear E ehA; have E := E'; clear E'
    refine hK.out _ _ (KF.out _ E) ?_
    clear hK KO
    try simp only [Act.put, List.setIfInBounds_toArray, List.set_cons_zero, List.set_cons_succ]
    refine held_two 2 10 (fuel := 5) rfl (by kernel_rfl) ?_ ?_
    · simp only [List.drop_succ_cons, List.drop_zero]
      refine wpOne_cons (fun KO hK => ?_)
      have k1 := (E.cell (p := ⟨p, 1, none⟩) pl).trans c1
      go_simp
      clear k1
      refine hK.out _ _ (KF.out _ E) ?_
      clear hK KO
      try simp only [Act.put, List.setIfInBounds_toArray, List.set_cons_zero, List.set_cons_succ]
      refine held_two 3 10 (fuel := 4) rfl (by kernel_rfl) ?_ ?_
      · simp only [List.drop_succ_cons, List.drop_zero]
        refine wpOne_cons (fun KO hK => ?_)
        refine step_appI rfl _ _ rfl _ 0 (fun _ => 0) rfl OA _ m _ t rfl (HTs.out _ E) (by omega) ?_
        intro VTA v3 OTA g5 l5
        replace OTA := OTA.congr (x' := t) (fun j hj => by rw [cat_hi (Nat.zero_le _), Nat.sub_zero])
        rw [Nat.zero_add] at OTA
        have hs5 := E.size
        have E' := Below.grown E g5 hs5 (by intro k hk; have hk : some hA = some k := hk; injection hk with hk; omega)
        have lTA : ∀ k, VTA.ownBlock = some k → w8.heap.size ≤ k := by intro k hk; rcases l5 with e | e <;> rw [hk] at e <;> injection e with e <;> (try have e : k = hA := e) <;> omega
        clear E; have E := E'; clear E' g5 l5 hs5 OA
        obtain ⟨ATA, cTA, rfl⟩ := OTA.sliced
        refine hK.out _ _ (KF.out _ E) ?_
        clear hK KO
        try simp only [Act.put, List.setIfInBounds_toArray, List.set_cons_zero, List.set_cons_succ]
        refine held_one 10 (fuel := 3) rfl (by kernel_rfl) ?_
        simp only [List.drop_succ_cons, List.drop_zero]
        refine wpOne_cons (fun KO hK => ?_)
        go_simp
        have bb := below_new v3 (.cells #[.int .i64 l0, .int .i64 l1] 3)
        have OL := Ow.lit2 v3 (two l0 l1) l0 l1 rfl rfl
        have E' := E.trans (bb.mono E.size)
        have OTA' := OTA.below bb (Nat.le_refl _)
        generalize hW : v3.alloc (.cells #[.int .i64 l0, .int .i64 l1] 3) = v4 at *
        clear hW bb
        obtain ⟨hL, ehL⟩ : ∃ h, h = v3.heap.size := ⟨_, rfl⟩
        rw [← ehL] at OL ⊢
        have lL : w8.heap.size ≤ hL := by have := E.size; omega
        have lT2 : ∀ k, (Value.slice ATA m cTA).ownBlock = some k → k ≠ hL := by intro k hk; have := OTA.lt hk; omega
        clear OTA; have OTA := OTA'; clear OTA'
        clear E ehL; have E := E'; clear E'
        refine hK.out _ _ (KF.out _ E) ?_
        clear hK KO
        try simp only [Act.put, List.setIfInBounds_toArray, List.set_cons_zero, List.set_cons_succ]
        refine held_one 11 (fuel := 2) rfl (by kernel_rfl) ?_
        simp only [List.drop_succ_cons, List.drop_zero]
        refine wpOne_cons (fun KO hK => ?_)
        refine step_appI rfl _ _ rfl _ m t rfl OTA _ 2 _ (two l0 l1) rfl OL.rd.srcI (by omega) ?_
        intro VTB v5 OTB g5 l5
        have hs5 := E.size
        have E' := Below.grown E g5 hs5 lTA
        have lTB : ∀ k, VTB.ownBlock = some k → w8.heap.size ≤ k := by intro k hk; rcases l5 with e | e; (rw [hk] at e; exact lTA k e.symm); (rw [hk] at e; injection e with e; omega)
        clear E; have E := E'; clear E' g5 l5 hs5 OTA OL lTA lT2
        obtain ⟨b2, c2, rfl, lb2⟩ := OTB.form (by omega)
        refine hK.out _ _ (KF.out _ E) ?_
        clear hK KO
        try simp only [Act.put, List.setIfInBounds_toArray, List.set_cons_zero, List.set_cons_succ]
        have k1 := (E.cell (p := ⟨p, 1, none⟩) pl).trans c1
        have k3 := (E.frozen (p := ⟨p, 1, none⟩) pl).trans f1
        have KG := KH.out (v5.setCell ⟨p, 1, none⟩ (.slice (some ⟨b2, 0, none⟩) (m + 2) c2)) ((Below.heap_setCell _ _ _ _ (Ne.symm hpl)).trans (E.block lb ll))
        refine held_takes (by kernel_rfl) (fun _ _ _ _ _ h => h) [12] _ 1 _ _ _ rfl (by kernel_rfl) (by kernel_rfl) (KF.out _ E) ?_
        simp only [pick, List.drop_succ_cons, List.drop_zero]
        iterate 1 (refine wpTakes_cons (v := ?_) (Or.inl ⟨by rfl, ?_⟩) ?_; rotate_left; (intro w hSw; go_simp <;> with_reducible rfl); (try simp only [Act.put, List.setIfInBounds_toArray, List.set_cons_zero, List.set_cons_succ]))
        refine wpTakes_nil ?_
        refine held_one 13 (fuel := 0) rfl (by kernel_rfl) ?_
        simp only [List.drop_succ_cons, List.drop_zero]
        refine wpOne_cons (fun KO hK => ?_)
        go_simp
        refine hK.out _ _ KG ?_
        clear hK KO
        try simp only [Act.put, List.setIfInBounds_toArray, List.set_cons_zero, List.set_cons_succ]
        refine wpAnyH_done (by kernel_rfl) ?_ _
        refine NoPanic.normal ?_
        exact hKK.out _ _ _ _ _ _ _ _ _ _ _ _ _ b2 c2 _ E (lTB b2 rfl) OTB
      · simp only [List.drop_succ_cons, List.drop_zero]
        refine wpOne_cons (fun KO hK => ?_)
        go_simp
        have bb := below_new v1 (.cells #[.int .i64 l0, .int .i64 l1] 3)
        have OL := Ow.lit2 v1 (two l0 l1) l0 l1 rfl rfl
        have E' := E.trans (bb.mono E.size)
        have OA' := OA.below bb (Nat.le_refl _)
        generalize hW : v1.alloc (.cells #[.int .i64 l0, .int .i64 l1] 3) = v3 at *
        clear hW bb
        obtain ⟨hL, ehL⟩ : ∃ h, h = v1.heap.size := ⟨_, rfl⟩
        rw [← ehL] at OL ⊢
        have lL : w8.heap.size ≤ hL := by have := E.size; omega
        have dAL : hA ≠ hL := by have := OA.lt (k := hA) rfl; omega
        clear OA; have OA := OA'; clear OA'
        clear E ehL; have E := E'; clear E'
        refine hK.out _ _ (KF.out _ E) ?_
        clear hK KO
        try simp only [Act.put, List.setIfInBounds_toArray, List.set_cons_zero, List.set_cons_succ]
        refine held_one 3 (fuel := 3) rfl (by kernel_rfl) ?_
        simp only [List.drop_succ_cons, List.drop_zero]
        refine wpOne_cons (fun KO hK => ?_)
        refine step_appI rfl _ _ rfl _ 0 (fun _ => 0) rfl OA _ m _ t rfl (HTs.out _ E) (by omega) ?_
        intro VTA v4 OTA g5 l5
        replace OTA := OTA.congr (x' := t) (fun j hj => by rw [cat_hi (Nat.zero_le _), Nat.sub_zero])
        rw [Nat.zero_add] at OTA
        have hs5 := E.size
        have lLo := OL.lt (k := hL) rfl
        have E' := Below.grown E g5 hs5 (by intro k hk; have hk : some hA = some k := hk; injection hk with hk; omega)
        have lTA : ∀ k, VTA.ownBlock = some k → w8.heap.size ≤ k := by intro k hk; rcases l5 with e | e <;> rw [hk] at e <;> injection e with e <;> (try have e : k = hA := e) <;> omega
        replace OL := OL.keep (w' := v4) (fun k hk => by have hk : some hL = some k := hk; injection hk with hk; subst hk; exact g5.block _ (OL.lt (k := hL) rfl) (fun z => by have z : some hL = some hA := z; injection z with z; omega))
        have lT2 : ∀ k, VTA.ownBlock = some k → k ≠ hL := by intro k hk; rcases l5 with e | e <;> rw [hk] at e <;> injection e with e <;> (try have e : k = hA := e) <;> omega
        clear E; have E := E'; clear E' g5 l5 hs5 OA
        obtain ⟨ATA, cTA, rfl⟩ := OTA.sliced
        refine hK.out _ _ (KF.out _ E) ?_
        clear hK KO
        try simp only [Act.put, List.setIfInBounds_toArray, List.set_cons_zero, List.set_cons_succ]
        refine held_one 11 (fuel := 2) rfl (by kernel_rfl) ?_
        simp only [List.drop_succ_cons, List.drop_zero]
        refine wpOne_cons (fun KO hK => ?_)
        refine step_appI rfl _ _ rfl _ m t rfl OTA _ 2 _ (two l0 l1) rfl OL.rd.srcI (by omega) ?_
        intro VTB v5 OTB g5 l5
        have hs5 := E.size
        have E' := Below.grown E g5 hs5 lTA
        have lTB : ∀ k, VTB.ownBlock = some k → w8.heap.size ≤ k := by intro k hk; rcases l5 with e | e; (rw [hk] at e; exact lTA k e.symm); (rw [hk] at e; injection e with e; omega)
        clear E; have E := E'; clear E' g5 l5 hs5 OTA OL lTA lT2
        obtain ⟨b2, c2, rfl, lb2⟩ := OTB.form (by omega)
        refine hK.out _ _ (KF.out _ E) ?_
        clear hK KO
        try simp only [Act.put, List.setIfInBounds_toArray, List.set_cons_zero, List.set_cons_succ]
        have k1 := (E.cell (p := ⟨p, 1, none⟩) pl).trans c1
        have k3 := (E.frozen (p := ⟨p, 1, none⟩) pl).trans f1
        have KG := KH.out (v5.setCell ⟨p, 1, none⟩ (.slice (some ⟨b2, 0, none⟩) (m + 2) c2)) ((Below.heap_setCell _ _ _ _ (Ne.symm hpl)).trans (E.block lb ll))
        refine held_takes (by kernel_rfl) (fun _ _ _ _ _ h => h) [12] _ 1 _ _ _ rfl (by kernel_rfl) (by kernel_rfl) (KF.out _ E) ?_
        simp only [pick, List.drop_succ_cons, List.drop_zero]
        iterate 1 (refine wpTakes_cons (v := ?_) (Or.inl ⟨by rfl, ?_⟩) ?_; rotate_left; (intro w hSw; go_simp <;> with_reducible rfl); (try simp only [Act.put, List.setIfInBounds_toArray, List.set_cons_zero, List.set_cons_succ]))
        refine wpTakes_nil ?_
        refine held_one 13 (fuel := 0) rfl (by kernel_rfl) ?_
        simp only [List.drop_succ_cons, List.drop_zero]
        refine wpOne_cons (fun KO hK => ?_)
        go_simp
        refine hK.out _ _ KG ?_
        clear hK KO
        try simp only [Act.put, List.setIfInBounds_toArray, List.set_cons_zero, List.set_cons_succ]
        refine wpAnyH_done (by kernel_rfl) ?_ _
        refine NoPanic.normal ?_
        exact hKK.out _ _ _ _ _ _ _ _ _ _ _ _ _ b2 c2 _ E (lTB b2 rfl) OTB
    · simp only [List.drop_succ_cons, List.drop_zero]
      refine wpOne_cons (fun KO hK => ?_)
      go_simp
      have bb := below_new v1 (.cells #[.int .i64 l0, .int .i64 l1] 3)
      have OL := Ow.lit2 v1 (two l0 l1) l0 l1 rfl rfl
      have E' := E.trans (bb.mono E.size)
      have OA' := OA.below bb (Nat.le_refl _)
      generalize hW : v1.alloc (.cells #[.int .i64 l0, .int .i64 l1] 3) = v2 at *
      clear hW bb
      obtain ⟨hL, ehL⟩ : ∃ h, h = v1.heap.size := ⟨_, rfl⟩
      rw [← ehL] at OL ⊢
      have lL : w8.heap.size ≤ hL := by have := E.size; omega
      have dAL : hA ≠ hL := by have := OA.lt (k := hA) rfl; omega
      clear OA; have OA := OA'; clear OA'
      clear E ehL; have E := E'; clear E'
      refine hK.out _ _ (KF.out _ E) ?_
      clear hK KO
      try simp only [Act.put, List.setIfInBounds_toArray, List.set_cons_zero, List.set_cons_succ]
      refine held_one 2 (fuel := 4) rfl (by kernel_rfl) ?_
      simp only [List.drop_succ_cons, List.drop_zero]
      refine wpOne_cons (fun KO hK => ?_)
      have k1 := (E.cell (p := ⟨p, 1, none⟩) pl).trans c1
      go_simp
      clear k1
      refine hK.out _ _ (KF.out _ E) ?_
      clear hK KO
      try simp only [Act.put, List.setIfInBounds_toArray, List.set_cons_zero, List.set_cons_succ]
      refine held_one 3 (fuel := 3) rfl (by kernel_rfl) ?_
      simp only [List.drop_succ_cons, List.drop_zero]
      refine wpOne_cons (fun KO hK => ?_)
      refine step_appI rfl _ _ rfl _ 0 (fun _ => 0) rfl OA _ m _ t rfl (HTs.out _ E) (by omega) ?_
      intro VTA v4 OTA g5 l5
      replace OTA := OTA.congr (x' := t) (fun j hj => by rw [cat_hi (Nat.zero_le _), Nat.sub_zero])
      rw [Nat.zero_add] at OTA
      have hs5 := E.size
      have lLo := OL.lt (k := hL) rfl
      have E' := Below.grown E g5 hs5 (by intro k hk; have hk : some hA = some k := hk; injection hk with hk; omega)
      have lTA : ∀ k, VTA.ownBlock = some k → w8.heap.size ≤ k := by intro k hk; rcases l5 with e | e <;> rw [hk] at e <;> injection e with e <;> (try have e : k = hA := e) <;> omega
      replace OL := OL.keep (w' := v4) (fun k hk => by have hk : some hL = some k := hk; injection hk with hk; subst hk; exact g5.block _ (OL.lt (k := hL) rfl) (fun z => by have z : some hL = some hA := z; injection z with z; omega))
      have lT2 : ∀ k, VTA.ownBlock = some k → k ≠ hL := by intro k hk; rcases l5 with e | e <;> rw [hk] at e <;> injection e with e <;> (try have e : k = hA := e) <;> omega
      clear E; have E := E'; clear E' g5 l5 hs5 OA
      obtain ⟨ATA, cTA, rfl⟩ := OTA.sliced
      refine hK.out _ _ (KF.out _ E) ?_
      clear hK KO
      try simp only [Act.put, List.setIfInBounds_toArray, List.set_cons_zero, List.set_cons_succ]
      refine held_one 11 (fuel := 2) rfl (by kernel_rfl) ?_
      simp only [List.drop_succ_cons, List.drop_zero]
      refine wpOne_cons (fun KO hK => ?_)
      refine step_appI rfl _ _ rfl _ m t rfl OTA _ 2 _ (two l0 l1) rfl OL.rd.srcI (by omega) ?_
      intro VTB v5 OTB g5 l5
      have hs5 := E.size
      have E' := Below.grown E g5 hs5 lTA
      have lTB : ∀ k, VTB.ownBlock = some k → w8.heap.size ≤ k := by intro k hk; rcases l5 with e | e; (rw [hk] at e; exact lTA k e.symm); (rw [hk] at e; injection e with e; omega)
      clear E; have E := E'; clear E' g5 l5 hs5 OTA OL lTA lT2
      obtain ⟨b2, c2, rfl, lb2⟩ := OTB.form (by omega)
      refine hK.out _ _ (KF.out _ E) ?_
      clear hK KO
      try simp only [Act.put, List.setIfInBounds_toArray, List.set_cons_zero, List.set_cons_succ]
      have k1 := (E.cell (p := ⟨p, 1, none⟩) pl).trans c1
      have k3 := (E.frozen (p := ⟨p, 1, none⟩) pl).trans f1
      have KG := KH.out (v5.setCell ⟨p, 1, none⟩ (.slice (some ⟨b2, 0, none⟩) (m + 2) c2)) ((Below.heap_setCell _ _ _ _ (Ne.symm hpl)).trans (E.block lb ll))
      refine held_takes (by kernel_rfl) (fun _ _ _ _ _ h => h) [12] _ 1 _ _ _ rfl (by kernel_rfl) (by kernel_rfl) (KF.out _ E) ?_
      simp only [pick, List.drop_succ_cons, List.drop_zero]
      iterate 1 (refine wpTakes_cons (v := ?_) (Or.inl ⟨by rfl, ?_⟩) ?_; rotate_left; (intro w hSw; go_simp <;> with_reducible rfl); (try simp only [Act.put, List.setIfInBounds_toArray, List.set_cons_zero, List.set_cons_succ]))
      refine wpTakes_nil ?_
      refine held_one 13 (fuel := 0) rfl (by kernel_rfl) ?_
      simp only [List.drop_succ_cons, List.drop_zero]
      refine wpOne_cons (fun KO hK => ?_)
      go_simp
      refine hK.out _ _ KG ?_
      clear hK KO
      try simp only [Act.put, List.setIfInBounds_toArray, List.set_cons_zero, List.set_cons_succ]
      refine wpAnyH_done (by kernel_rfl) ?_ _
      refine NoPanic.normal ?_
      exact hKK.out _ _ _ _ _ _ _ _ _ _ _ _ _ b2 c2 _ E (lTB b2 rfl) OTB
  · simp only [List.drop_succ_cons, List.drop_zero]
    refine wpOne_cons (fun KO hK => ?_)
    have k1 := (E.cell (p := ⟨p, 1, none⟩) pl).trans c1
    go_simp
    clear k1
    refine hK.out _ _ (KF.out _ E) ?_
    clear hK KO
    try simp only [Act.put, List.setIfInBounds_toArray, List.set_cons_zero, List.set_cons_succ]
    refine held_two 0 10 (fuel := 5) rfl (by kernel_rfl) ?_ ?_
    · simp only [List.drop_succ_cons, List.drop_zero]
      refine wpOne_cons (fun KO hK => ?_)
      go_simp
      have bb := below_new v0 (.cells #[] 3)
      have OA := Ow.empty v0 (fun _ => 0)
      have E' := E.trans (bb.mono E.size)
      generalize hW : v0.alloc (.cells #[] 3) = v2 at *
      clear hW bb
      obtain ⟨hA, ehA⟩ : ∃ h, h = v0.heap.size := ⟨_, rfl⟩
      rw [← ehA] at OA ⊢
      have lA : w8.heap.size ≤ hA := by have := E.size; omega
      clear E ehA; have E := E'; clear E'
      refine hK.out _ _ (KF.out _ E) ?_
      clear hK KO
      try simp only [Act.put, List.setIfInBounds_toArray, List.set_cons_zero, List.set_cons_succ]
      refine held_two 3 10 (fuel := 4) rfl (by kernel_rfl) ?_ ?_
      · simp only [List.drop_succ_cons, List.drop_zero]
        refine wpOne_cons (fun KO hK => ?_)
        refine step_appI rfl _ _ rfl _ 0 (fun _ => 0) rfl OA _ m _ t rfl (HTs.out _ E) (by omega) ?_
        intro VTA v3 OTA g5 l5
        replace OTA := OTA.congr (x' := t) (fun j hj => by rw [cat_hi (Nat.zero_le _), Nat.sub_zero])
        rw [Nat.zero_add] at OTA
        have hs5 := E.size
        have E' := Below.grown E g5 hs5 (by intro k hk; have hk : some hA = some k := hk; injection hk with hk; omega)
        have lTA : ∀ k, VTA.ownBlock = some k → w8.heap.size ≤ k := by intro k hk; rcases l5 with e | e <;> rw [hk] at e <;> injection e with e <;> (try have e : k = hA := e) <;> omega
        clear E; have E := E'; clear E' g5 l5 hs5 OA
        obtain ⟨ATA, cTA, rfl⟩ := OTA.sliced
        refine hK.out _ _ (KF.out _ E) ?_
        clear hK KO
        try simp only [Act.put, List.setIfInBounds_toArray, List.set_cons_zero, List.set_cons_succ]
        refine held_one 10 (fuel := 3) rfl (by kernel_rfl) ?_
        simp only [List.drop_succ_cons, List.drop_zero]
        refine wpOne_cons (fun KO hK => ?_)
        go_simp
        have bb := below_new v3 (.cells #[.int .i64 l0, .int .i64 l1] 3)
        have OL := Ow.lit2 v3 (two l0 l1) l0 l1 rfl rfl
        have E' := E.trans (bb.mono E.size)
        have OTA' := OTA.below bb (Nat.le_refl _)
        generalize hW : v3.alloc (.cells #[.int .i64 l0, .int .i64 l1] 3) = v4 at *
        clear hW bb
        obtain ⟨hL, ehL⟩ : ∃ h, h = v3.heap.size := ⟨_, rfl⟩
        rw [← ehL] at OL ⊢
        have lL : w8.heap.size ≤ hL := by have := E.size; omega
        have lT2 : ∀ k, (Value.slice ATA m cTA).ownBlock = some k → k ≠ hL := by intro k hk; have := OTA.lt hk; omega
        clear OTA; have OTA := OTA'; clear OTA'
        clear E ehL; have E := E'; clear E'
        refine hK.out _ _ (KF.out _ E) ?_
        clear hK KO
        try simp only [Act.put, List.setIfInBounds_toArray, List.set_cons_zero, List.set_cons_succ]
        refine held_one 11 (fuel := 2) rfl (by kernel_rfl) ?_
        simp only [List.drop_succ_cons, List.drop_zero]
        refine wpOne_cons (fun KO hK => ?_)
        refine step_appI rfl _ _ rfl _ m t rfl OTA _ 2 _ (two l0 l1) rfl OL.rd.srcI (by omega) ?_
        intro VTB v5 OTB g5 l5
        have hs5 := E.size
        have E' := Below.grown E g5 hs5 lTA
        have lTB : ∀ k, VTB.ownBlock = some k → w8.heap.size ≤ k := by intro k hk; rcases l5 with e | e; (rw [hk] at e; exact lTA k e.symm); (rw [hk] at e; injection e with e; omega)
        clear E; have E := E'; clear E' g5 l5 hs5 OTA OL lTA lT2
        obtain ⟨b2, c2, rfl, lb2⟩ := OTB.form (by omega)
        refine hK.out _ _ (KF.out _ E) ?_
        clear hK KO
        try simp only [Act.put, List.setIfInBounds_toArray, List.set_cons_zero, List.set_cons_succ]
        have k1 := (E.cell (p := ⟨p, 1, none⟩) pl).trans c1
        have k3 := (E.frozen (p := ⟨p, 1, none⟩) pl).trans f1
        have KG := KH.out (v5.setCell ⟨p, 1, none⟩ (.slice (some ⟨b2, 0, none⟩) (m + 2) c2)) ((Below.heap_setCell _ _ _ _ (Ne.symm hpl)).trans (E.block lb ll))
        refine held_takes (by kernel_rfl) (fun _ _ _ _ _ h => h) [12] _ 1 _ _ _ rfl (by kernel_rfl) (by kernel_rfl) (KF.out _ E) ?_
        simp only [pick, List.drop_succ_cons, List.drop_zero]
        iterate 1 (refine wpTakes_cons (v := ?_) (Or.inl ⟨by rfl, ?_⟩) ?_; rotate_left; (intro w hSw; go_simp <;> with_reducible rfl); (try simp only [Act.put, List.setIfInBounds_toArray, List.set_cons_zero, List.set_cons_succ]))
        refine wpTakes_nil ?_
        refine held_one 13 (fuel := 0) rfl (by kernel_rfl) ?_
        simp only [List.drop_succ_cons, List.drop_zero]
        refine wpOne_cons (fun KO hK => ?_)
        go_simp
        refine hK.out _ _ KG ?_
        clear hK KO
        try simp only [Act.put, List.setIfInBounds_toArray, List.set_cons_zero, List.set_cons_succ]
        refine wpAnyH_done (by kernel_rfl) ?_ _
        refine NoPanic.normal ?_
        exact hKK.out _ _ _ _ _ _ _ _ _ _ _ _ _ b2 c2 _ E (lTB b2 rfl) OTB
      · simp only [List.drop_succ_cons, List.drop_zero]
        refine wpOne_cons (fun KO hK => ?_)
        go_simp
        have bb := below_new v2 (.cells #[.int .i64 l0, .int .i64 l1] 3)
        have OL := Ow.lit2 v2 (two l0 l1) l0 l1 rfl rfl
        have E' := E.trans (bb.mono E.size)
        have OA' := OA.below bb (Nat.le_refl _)
        generalize hW : v2.alloc (.cells #[.int .i64 l0, .int .i64 l1] 3) = v3 at *
        clear hW bb
        obtain ⟨hL, ehL⟩ : ∃ h, h = v2.heap.size := ⟨_, rfl⟩
        rw [← ehL] at OL ⊢
        have lL : w8.heap.size ≤ hL := by have := E.size; omega
        have dAL : hA ≠ hL := by have := OA.lt (k := hA) rfl; omega
        clear OA; have OA := OA'; clear OA'
        clear E ehL; have E := E'; clear E'
        refine hK.out _ _ (KF.out _ E) ?_
        clear hK KO
        try simp only [Act.put, List.setIfInBounds_toArray, List.set_cons_zero, List.set_cons_succ]
        refine held_one 3 (fuel := 3) rfl (by kernel_rfl) ?_
        simp only [List.drop_succ_cons, List.drop_zero]
        refine wpOne_cons (fun KO hK => ?_)
        refine step_appI rfl _ _ rfl _ 0 (fun _ => 0) rfl OA _ m _ t rfl (HTs.out _ E) (by omega) ?_
        intro VTA v4 OTA g5 l5
        replace OTA := OTA.congr (x' := t) (fun j hj => by rw [cat_hi (Nat.zero_le _), Nat.sub_zero])
        rw [Nat.zero_add] at OTA
        have hs5 := E.size
        have lLo := OL.lt (k := hL) rfl
        have E' := Below.grown E g5 hs5 (by intro k hk; have hk : some hA = some k := hk; injection hk with hk; omega)
        have lTA : ∀ k, VTA.ownBlock = some k → w8.heap.size ≤ k := by intro k hk; rcases l5 with e | e <;> rw [hk] at e <;> injection e with e <;> (try have e : k = hA := e) <;> omega
        replace OL := OL.keep (w' := v4) (fun k hk => by have hk : some hL = some k := hk; injection hk with hk; subst hk; exact g5.block _ (OL.lt (k := hL) rfl) (fun z => by have z : some hL = some hA := z; injection z with z; omega))
        have lT2 : ∀ k, VTA.ownBlock = some k → k ≠ hL := by intro k hk; rcases l5 with e | e <;> rw [hk] at e <;> injection e with e <;> (try have e : k = hA := e) <;> omega
        clear E; have E := E'; clear E' g5 l5 hs5 OA
        obtain ⟨ATA, cTA, rfl⟩ := OTA.sliced
        refine hK.out _ _ (KF.out _ E) ?_
        clear hK KO
        try simp only [Act.put, List.setIfInBounds_toArray, List.set_cons_zero, List.set_cons_succ]
        refine held_one 11 (fuel := 2) rfl (by kernel_rfl) ?_
        simp only [List.drop_succ_cons, List.drop_zero]
        refine wpOne_cons (fun KO hK => ?_)
        refine step_appI rfl _ _ rfl _ m t rfl OTA _ 2 _ (two l0 l1) rfl OL.rd.srcI (by omega) ?_
        intro VTB v5 OTB g5 l5
        have hs5 := E.size
        have E' := Below.grown E g5 hs5 lTA
        have lTB : ∀ k, VTB.ownBlock = some k → w8.heap.size ≤ k := by intro k hk; rcases l5 with e | e; (rw [hk] at e; exact lTA k e.symm); (rw [hk] at e; injection e with e; omega)
        clear E; have E := E'; clear E' g5 l5 hs5 OTA OL lTA lT2
        obtain ⟨b2, c2, rfl, lb2⟩ := OTB.form (by omega)
        refine hK.out _ _ (KF.out _ E) ?_
        clear hK KO
        try simp only [Act.put, List.setIfInBounds_toArray, List.set_cons_zero, List.set_cons_succ]
        have k1 := (E.cell (p := ⟨p, 1, none⟩) pl).trans c1
        have k3 := (E.frozen (p := ⟨p, 1, none⟩) pl).trans f1
        have KG := KH.out (v5.setCell ⟨p, 1, none⟩ (.slice (some ⟨b2, 0, none⟩) (m + 2) c2)) ((Below.heap_setCell _ _ _ _ (Ne.symm hpl)).trans (E.block lb ll))
        refine held_takes (by kernel_rfl) (fun _ _ _ _ _ h => h) [12] _ 1 _ _ _ rfl (by kernel_rfl) (by kernel_rfl) (KF.out _ E) ?_
        simp only [pick, List.drop_succ_cons, List.drop_zero]
        iterate 1 (refine wpTakes_cons (v := ?_) (Or.inl ⟨by rfl, ?_⟩) ?_; rotate_left; (intro w hSw; go_simp <;> with_reducible rfl); (try simp only [Act.put, List.setIfInBounds_toArray, List.set_cons_zero, List.set_cons_succ]))
        refine wpTakes_nil ?_
        refine held_one 13 (fuel := 0) rfl (by kernel_rfl) ?_
        simp only [List.drop_succ_cons, List.drop_zero]
        refine wpOne_cons (fun KO hK => ?_)
        go_simp
        refine hK.out _ _ KG ?_
        clear hK KO
        try simp only [Act.put, List.setIfInBounds_toArray, List.set_cons_zero, List.set_cons_succ]
        refine wpAnyH_done (by kernel_rfl) ?_ _
        refine NoPanic.normal ?_
        exact hKK.out _ _ _ _ _ _ _ _ _ _ _ _ _ b2 c2 _ E (lTB b2 rfl) OTB
    · simp only [List.drop_succ_cons, List.drop_zero]
      refine wpOne_cons (fun KO hK => ?_)
      go_simp
      have bb := below_new v0 (.cells #[.int .i64 l0, .int .i64 l1] 3)
      have OL := Ow.lit2 v0 (two l0 l1) l0 l1 rfl rfl
      have E' := E.trans (bb.mono E.size)
      generalize hW : v0.alloc (.cells #[.int .i64 l0, .int .i64 l1] 3) = v2 at *
      clear hW bb
      obtain ⟨hL, ehL⟩ : ∃ h, h = v0.heap.size := ⟨_, rfl⟩
      rw [← ehL] at OL ⊢
      have lL : w8.heap.size ≤ hL := by have := E.size; omega
      clear E ehL; have E := E'; clear E'
      refine hK.out _ _ (KF.out _ E) ?_
      clear hK KO
      try simp only [Act.put, List.setIfInBounds_toArray, List.set_cons_zero, List.set_cons_succ]
      refine held_one 0 (fuel := 4) rfl (by kernel_rfl) ?_
      simp only [List.drop_succ_cons, List.drop_zero]
      refine wpOne_cons (fun KO hK => ?_)
      go_simp
      have bb := below_new v2 (.cells #[] 3)
      have OA := Ow.empty v2 (fun _ => 0)
      have E' := E.trans (bb.mono E.size)
      have OL' := OL.below bb (Nat.le_refl _)
      generalize hW : v2.alloc (.cells #[] 3) = v3 at *
      clear hW bb
      obtain ⟨hA, ehA⟩ : ∃ h, h = v2.heap.size := ⟨_, rfl⟩
      rw [← ehA] at OA ⊢
      have lA : w8.heap.size ≤ hA := by have := E.size; omega
      have dAL : hA ≠ hL := by have := OL.lt (k := hL) rfl; omega
      clear OL; have OL := OL'; clear OL'
      clear E ehA; have E := E'; clear E'
      refine hK.out _ _ (KF.out _ E) ?_
      clear hK KO
      try simp only [Act.put, List.setIfInBounds_toArray, List.set_cons_zero, List.set_cons_succ]
      refine held_one 3 (fuel := 3) rfl (by kernel_rfl) ?_
      simp only [List.drop_succ_cons, List.drop_zero]
      refine wpOne_cons (fun KO hK => ?_)
      refine step_appI rfl _ _ rfl _ 0 (fun _ => 0) rfl OA _ m _ t rfl (HTs.out _ E) (by omega) ?_
      intro VTA v4 OTA g5 l5
      replace OTA := OTA.congr (x' := t) (fun j hj => by rw [cat_hi (Nat.zero_le _), Nat.sub_zero])
      rw [Nat.zero_add] at OTA
      have hs5 := E.size
      have lLo := OL.lt (k := hL) rfl
      have E' := Below.grown E g5 hs5 (by intro k hk; have hk : some hA = some k := hk; injection hk with hk; omega)
      have lTA : ∀ k, VTA.ownBlock = some k → w8.heap.size ≤ k := by intro k hk; rcases l5 with e | e <;> rw [hk] at e <;> injection e with e <;> (try have e : k = hA := e) <;> omega
      replace OL := OL.keep (w' := v4) (fun k hk => by have hk : some hL = some k := hk; injection hk with hk; subst hk; exact g5.block _ (OL.lt (k := hL) rfl) (fun z => by have z : some hL = some hA := z; injection z with z; omega))
      have lT2 : ∀ k, VTA.ownBlock = some k → k ≠ hL := by intro k hk; rcases l5 with e | e <;> rw [hk] at e <;> injection e with e <;> (try have e : k = hA := e) <;> omega
      clear E; have E := E'; clear E' g5 l5 hs5 OA
      obtain ⟨ATA, cTA, rfl⟩ := OTA.sliced
      refine hK.out _ _ (KF.out _ E) ?_
      clear hK KO
      try simp only [Act.put, List.setIfInBounds_toArray, List.set_cons_zero, List.set_cons_succ]
      refine held_one 11 (fuel := 2) rfl (by kernel_rfl) ?_
      simp only [List.drop_succ_cons, List.drop_zero]
      refine wpOne_cons (fun KO hK => ?_)
      refine step_appI rfl _ _ rfl _ m t rfl OTA _ 2 _ (two l0 l1) rfl OL.rd.srcI (by omega) ?_
      intro VTB v5 OTB g5 l5
      have hs5 := E.size
      have E' := Below.grown E g5 hs5 lTA
      have lTB : ∀ k, VTB.ownBlock = some k → w8.heap.size ≤ k := by intro k hk; rcases l5 with e | e; (rw [hk] at e; exact lTA k e.symm); (rw [hk] at e; injection e with e; omega)
      clear E; have E := E'; clear E' g5 l5 hs5 OTA OL lTA lT2
      obtain ⟨b2, c2, rfl, lb2⟩ := OTB.form (by omega)
      refine hK.out _ _ (KF.out _ E) ?_
      clear hK KO
      try simp only [Act.put, List.setIfInBounds_toArray, List.set_cons_zero, List.set_cons_succ]
      have k1 := (E.cell (p := ⟨p, 1, none⟩) pl).trans c1
      have k3 := (E.frozen (p := ⟨p, 1, none⟩) pl).trans f1
      have KG := KH.out (v5.setCell ⟨p, 1, none⟩ (.slice (some ⟨b2, 0, none⟩) (m + 2) c2)) ((Below.heap_setCell _ _ _ _ (Ne.symm hpl)).trans (E.block lb ll))
      refine held_takes (by kernel_rfl) (fun _ _ _ _ _ h => h) [12] _ 1 _ _ _ rfl (by kernel_rfl) (by kernel_rfl) (KF.out _ E) ?_
      simp only [pick, List.drop_succ_cons, List.drop_zero]
      iterate 1 (refine wpTakes_cons (v := ?_) (Or.inl ⟨by rfl, ?_⟩) ?_; rotate_left; (intro w hSw; go_simp <;> with_reducible rfl); (try simp only [Act.put, List.setIfInBounds_toArray, List.set_cons_zero, List.set_cons_succ]))
      refine wpTakes_nil ?_
      refine held_one 13 (fuel := 0) rfl (by kernel_rfl) ?_
      simp only [List.drop_succ_cons, List.drop_zero]
      refine wpOne_cons (fun KO hK => ?_)
      go_simp
      refine hK.out _ _ KG ?_
      clear hK KO
      try simp only [Act.put, List.setIfInBounds_toArray, List.set_cons_zero, List.set_cons_succ]
      refine wpAnyH_done (by kernel_rfl) ?_ _
      refine NoPanic.normal ?_
      exact hKK.out _ _ _ _ _ _ _ _ _ _ _ _ _ b2 c2 _ E (lTB b2 rfl) OTB
  · simp only [List.drop_succ_cons, List.drop_zero]
    refine wpOne_cons (fun KO hK => ?_)
    go_simp
    have bb := below_new v0 (.cells #[.int .i64 l0, .int .i64 l1] 3)
    have OL := Ow.lit2 v0 (two l0 l1) l0 l1 rfl rfl
    have E' := E.trans (bb.mono E.size)
    generalize hW : v0.alloc (.cells #[.int .i64 l0, .int .i64 l1] 3) = v1 at *
    clear hW bb
    obtain ⟨hL, ehL⟩ : ∃ h, h = v0.heap.size := ⟨_, rfl⟩
    rw [← ehL] at OL ⊢
    have lL : w8.heap.size ≤ hL := by have := E.size; omega
    clear E ehL; have E := E'; clear E'
    refine hK.out _ _ (KF.out _ E) ?_
    clear hK KO
    try simp only [Act.put, List.setIfInBounds_toArray, List.set_cons_zero, List.set_cons_succ]
    refine held_two 0 2 (fuel := 5) rfl (by kernel_rfl) ?_ ?_
    · simp only [List.drop_succ_cons, List.drop_zero]
      refine wpOne_cons (fun KO hK => ?_)
      go_simp
      have bb := below_new v1 (.cells #[] 3)
      have OA := Ow.empty v1 (fun _ => 0)
      have E' := E.trans (bb.mono E.size)
      have OL' := OL.below bb (Nat.le_refl _)
      generalize hW : v1.alloc (.cells #[] 3) = v2 at *
      clear hW bb
      obtain ⟨hA, ehA⟩ : ∃ h, h = v1.heap.size := ⟨_, rfl⟩
      rw [← ehA] at OA ⊢
      have lA : w8.heap.size ≤ hA := by have := E.size; omega
      have dAL : hA ≠ hL := by have := OL.lt (k := hL) rfl; omega
      clear OL; have OL := OL'; clear OL'
      clear E ehA; have E := E'; clear E'
      refine hK.out _ _ (KF.out _ E) ?_
      clear hK KO
      try simp only [Act.put, List.setIfInBounds_toArray, List.set_cons_zero, List.set_cons_succ]
      refine held_one 2 (fuel := 4) rfl (by kernel_rfl) ?_
      simp only [List.drop_succ_cons, List.drop_zero]
      refine wpOne_cons (fun KO hK => ?_)
      have k1 := (E.cell (p := ⟨p, 1, none⟩) pl).trans c1
      go_simp
      clear k1
      refine hK.out _ _ (KF.out _ E) ?_
      clear hK KO
      try simp only [Act.put, List.setIfInBounds_toArray, List.set_cons_zero, List.set_cons_succ]
      refine held_one 3 (fuel := 3) rfl (by kernel_rfl) ?_
      simp only [List.drop_succ_cons, List.drop_zero]
      refine wpOne_cons (fun KO hK => ?_)
      refine step_appI rfl _ _ rfl _ 0 (fun _ => 0) rfl OA _ m _ t rfl (HTs.out _ E) (by omega) ?_
      intro VTA v4 OTA g5 l5
      replace OTA := OTA.congr (x' := t) (fun j hj => by rw [cat_hi (Nat.zero_le _), Nat.sub_zero])
      rw [Nat.zero_add] at OTA
      have hs5 := E.size
      have lLo := OL.lt (k := hL) rfl
      have E' := Below.grown E g5 hs5 (by intro k hk; have hk : some hA = some k := hk; injection hk with hk; omega)
      have lTA : ∀ k, VTA.ownBlock = some k → w8.heap.size ≤ k := by intro k hk; rcases l5 with e | e <;> rw [hk] at e <;> injection e with e <;> (try have e : k = hA := e) <;> omega
      replace OL := OL.keep (w' := v4) (fun k hk => by have hk : some hL = some k := hk; injection hk with hk; subst hk; exact g5.block _ (OL.lt (k := hL) rfl) (fun z => by have z : some hL = some hA := z; injection z with z; omega))
      have lT2 : ∀ k, VTA.ownBlock = some k → k ≠ hL := by intro k hk; rcases l5 with e | e <;> rw [hk] at e <;> injection e with e <;> (try have e : k = hA := e) <;> omega
      clear E; have E := E'; clear E' g5 l5 hs5 OA
      obtain ⟨ATA, cTA, rfl⟩ := OTA.sliced
      refine hK.out _ _ (KF.out _ E) ?_
      clear hK KO
      try simp only [Act.put, List.setIfInBounds_toArray, List.set_cons_zero, List.set_cons_succ]
      refine held_one 11 (fuel := 2) rfl (by kernel_rfl) ?_
      simp only [List.drop_succ_cons, List.drop_zero]
      refine wpOne_cons (fun KO hK => ?_)
      refine step_appI rfl _ _ rfl _ m t rfl OTA _ 2 _ (two l0 l1) rfl OL.rd.srcI (by omega) ?_
      intro VTB v5 OTB g5 l5
      have hs5 := E.size
      have E' := Below.grown E g5 hs5 lTA
      have lTB : ∀ k, VTB.ownBlock = some k → w8.heap.size ≤ k := by intro k hk; rcases l5 with e | e; (rw [hk] at e; exact lTA k e.symm); (rw [hk] at e; injection e with e; omega)
      clear E; have E := E'; clear E' g5 l5 hs5 OTA OL lTA lT2
      obtain ⟨b2, c2, rfl, lb2⟩ := OTB.form (by omega)
      refine hK.out _ _ (KF.out _ E) ?_
      clear hK KO
      try simp only [Act.put, List.setIfInBounds_toArray, List.set_cons_zero, List.set_cons_succ]
      have k1 := (E.cell (p := ⟨p, 1, none⟩) pl).trans c1
      have k3 := (E.frozen (p := ⟨p, 1, none⟩) pl).trans f1
      have KG := KH.out (v5.setCell ⟨p, 1, none⟩ (.slice (some ⟨b2, 0, none⟩) (m + 2) c2)) ((Below.heap_setCell _ _ _ _ (Ne.symm hpl)).trans (E.block lb ll))
      refine held_takes (by kernel_rfl) (fun _ _ _ _ _ h => h) [12] _ 1 _ _ _ rfl (by kernel_rfl) (by kernel_rfl) (KF.out _ E) ?_
      simp only [pick, List.drop_succ_cons, List.drop_zero]
      iterate 1 (refine wpTakes_cons (v := ?_) (Or.inl ⟨by rfl, ?_⟩) ?_; rotate_left; (intro w hSw; go_simp <;> with_reducible rfl); (try simp only [Act.put, List.setIfInBounds_toArray, List.set_cons_zero, List.set_cons_succ]))
      refine wpTakes_nil ?_
      refine held_one 13 (fuel := 0) rfl (by kernel_rfl) ?_
      simp only [List.drop_succ_cons, List.drop_zero]
      refine wpOne_cons (fun KO hK => ?_)
      go_simp
      refine hK.out _ _ KG ?_
      clear hK KO
      try simp only [Act.put, List.setIfInBounds_toArray, List.set_cons_zero, List.set_cons_succ]
      refine wpAnyH_done (by kernel_rfl) ?_ _
      refine NoPanic.normal ?_
      exact hKK.out _ _ _ _ _ _ _ _ _ _ _ _ _ b2 c2 _ E (lTB b2 rfl) OTB
    · simp only [List.drop_succ_cons, List.drop_zero]
      refine wpOne_cons (fun KO hK => ?_)
      have k1 := (E.cell (p := ⟨p, 1, none⟩) pl).trans c1
      go_simp
      clear k1
      refine hK.out _ _ (KF.out _ E) ?_
      clear hK KO
      try simp only [Act.put, List.setIfInBounds_toArray, List.set_cons_zero, List.set_cons_succ]
      refine held_one 0 (fuel := 4) rfl (by kernel_rfl) ?_
      simp only [List.drop_succ_cons, List.drop_zero]
      refine wpOne_cons (fun KO hK => ?_)
      go_simp
      have bb := below_new v1 (.cells #[] 3)
      have OA := Ow.empty v1 (fun _ => 0)
      have E' := E.trans (bb.mono E.size)
      have OL' := OL.below bb (Nat.le_refl _)
      generalize hW : v1.alloc (.cells #[] 3) = v3 at *
      clear hW bb
      obtain ⟨hA, ehA⟩ : ∃ h, h = v1.heap.size := ⟨_, rfl⟩
      rw [← ehA] at OA ⊢
      have lA : w8.heap.size ≤ hA := by have := E.size; omega
      have dAL : hA ≠ hL := by have := OL.lt (k := hL) rfl; omega
      clear OL; have OL := OL'; clear OL'
      clear E ehA; have E := E'; clear E'
      refine hK.out _ _ (KF.out _ E) ?_
      clear hK KO
      try simp only [Act.put, List.setIfInBounds_toArray, List.set_cons_zero, List.set_cons_succ]
      refine held_one 3 (fuel := 3) rfl (by kernel_rfl) ?_
      simp only [List.drop_succ_cons, List.drop_zero]
      refine wpOne_cons (fun KO hK => ?_)
      refine step_appI rfl _ _ rfl _ 0 (fun _ => 0) rfl OA _ m _ t rfl (HTs.out _ E) (by omega) ?_
      intro VTA v4 OTA g5 l5
      replace OTA := OTA.congr (x' := t) (fun j hj => by rw [cat_hi (Nat.zero_le _), Nat.sub_zero])
      rw [Nat.zero_add] at OTA
      have hs5 := E.size
      have lLo := OL.lt (k := hL) rfl
      have E' := Below.grown E g5 hs5 (by intro k hk; have hk : some hA = some k := hk; injection hk with hk; omega)
      have lTA : ∀ k, VTA.ownBlock = some k → w8.heap.size ≤ k := by intro k hk; rcases l5 with e | e <;> rw [hk] at e <;> injection e with e <;> (try have e : k = hA := e) <;> omega
      replace OL := OL.keep (w' := v4) (fun k hk => by have hk : some hL = some k := hk; injection hk with hk; subst hk; exact g5.block _ (OL.lt (k := hL) rfl) (fun z => by have z : some hL = some hA := z; injection z with z; omega))
      have lT2 : ∀ k, VTA.ownBlock = some k → k ≠ hL := by intro k hk; rcases l5 with e | e <;> rw [hk] at e <;> injection e with e <;> (try have e : k = hA := e) <;> omega
      clear E; have E := E'; clear E' g5 l5 hs5 OA
      obtain ⟨ATA, cTA, rfl⟩ := OTA.sliced
      refine hK.out _ _ (KF.out _ E) ?_
      clear hK KO
      try simp only [Act.put, List.setIfInBounds_toArray, List.set_cons_zero, List.set_cons_succ]
      refine held_one 11 (fuel := 2) rfl (by kernel_rfl) ?_
      simp only [List.drop_succ_cons, List.drop_zero]
      refine wpOne_cons (fun KO hK => ?_)
      refine step_appI rfl _ _ rfl _ m t rfl OTA _ 2 _ (two l0 l1) rfl OL.rd.srcI (by omega) ?_
      intro VTB v5 OTB g5 l5
      have hs5 := E.size
      have E' := Below.grown E g5 hs5 lTA
      have lTB : ∀ k, VTB.ownBlock = some k → w8.heap.size ≤ k := by intro k hk; rcases l5 with e | e; (rw [hk] at e; exact lTA k e.symm); (rw [hk] at e; injection e with e; omega)
      clear E; have E := E'; clear E' g5 l5 hs5 OTA OL lTA lT2
      obtain ⟨b2, c2, rfl, lb2⟩ := OTB.form (by omega)
      refine hK.out _ _ (KF.out _ E) ?_
      clear hK KO
      try simp only [Act.put, List.setIfInBounds_toArray, List.set_cons_zero, List.set_cons_succ]
      have k1 := (E.cell (p := ⟨p, 1, none⟩) pl).trans c1
      have k3 := (E.frozen (p := ⟨p, 1, none⟩) pl).trans f1
      have KG := KH.out (v5.setCell ⟨p, 1, none⟩ (.slice (some ⟨b2, 0, none⟩) (m + 2) c2)) ((Below.heap_setCell _ _ _ _ (Ne.symm hpl)).trans (E.block lb ll))
      refine held_takes (by kernel_rfl) (fun _ _ _ _ _ h => h) [12] _ 1 _ _ _ rfl (by kernel_rfl) (by kernel_rfl) (KF.out _ E) ?_
      simp only [pick, List.drop_succ_cons, List.drop_zero]
      iterate 1 (refine wpTakes_cons (v := ?_) (Or.inl ⟨by rfl, ?_⟩) ?_; rotate_left; (intro w hSw; go_simp <;> with_reducible rfl); (try simp only [Act.put, List.setIfInBounds_toArray, List.set_cons_zero, List.set_cons_succ]))
      refine wpTakes_nil ?_
      refine held_one 13 (fuel := 0) rfl (by kernel_rfl) ?_
      simp only [List.drop_succ_cons, List.drop_zero]
      refine wpOne_cons (fun KO hK => ?_)
      go_simp
      refine hK.out _ _ KG ?_
      clear hK KO
      try simp only [Act.put, List.setIfInBounds_toArray, List.set_cons_zero, List.set_cons_succ]
      refine wpAnyH_done (by kernel_rfl) ?_ _
      refine NoPanic.normal ?_
      exact hKK.out _ _ _ _ _ _ _ _ _ _ _ _ _ b2 c2 _ E (lTB b2 rfl) OTB
noncomputable def codeEdge10 : Code := (Try.f38.body.bind (regionOf 10)).getD .skip
set_option maxRecDepth 100000 in
set_option maxHeartbeats 12800000 in
theorem edge10 (w8 : World) (p lb tp m : Nat) (A : Option Addr) (l0 l1 : Int) (t : Nat → Int) (K : Act → World → Prop) (Q' : Exit → Act → World → Prop) (v0 v3 v4 v5 v6 v7 v8 v9 v10 v11 v12 v13 v14 v15 v16 v17 v18 v19 v20 v21 v22 v23 v24 v25 v26 v27 v28 v29 v30 v31 v32 v33 v34 v35 v36 v37 v38 v39 v40 v41 v42 v43 v44 v45 v46 v47 v48 v49 v50 v51 v52 v53 v54 v55 v56 v57 v58 v59 v60 v61 v62 v63 v64 v65 v66 v67 v68 v69 v70 v71 v72 v73 v74 v75 v76 v77 v78 v79 v80 v81 v82 v83 v84 v85 v86 v87 v88 v89 v90 v91 v92 : Value)
    (c1 : w8.cell? ⟨p, 3, none⟩ = some (.slice A m tp)) (f1 : w8.frozen? ⟨p, 3, none⟩ = false) (pl : p < w8.heap.size) (HT : Rd w8 (.slice A m tp) m t) (k0 : w8.cell? ⟨lb, 2, none⟩ = some (.int .i64 l0)) (k1 : w8.cell? ⟨lb, 3, none⟩ = some (.int .i64 l1)) (ll : lb < w8.heap.size) (hpl : p ≠ lb) (hm : m ≤ 1000)
    (hK : ∀ (u79 u80 u81 u82 u83 u84 u85 u86 u87 u88 u89 u90 u91 : Value) (b2 c2 : Nat) (w2 : World), Below w8.heap.size w8 w2 → w8.heap.size ≤ b2 → Ow w2 (.slice (some ⟨b2, 0, none⟩) (m + 2) c2) (m + 2) (cat t m (two l0 l1)) →
      K ⟨#[v0, .slice (some ⟨lb, 0, none⟩) 4 4, .pointer (some ⟨p, 0, none⟩), v3, v4, v5, v6, v7, v8, v9, v10, v11, v12, v13, v14, v15, v16, v17, v18, v19, v20, v21, v22, v23, v24, v25, v26, v27, v28, v29, v30, v31, v32, v33, v34, v35, v36, v37, v38, v39, v40, v41, v42, v43, v44, v45, v46, v47, v48, v49, v50, v51, v52, v53, v54, v55, v56, v57, v58, v59, v60, v61, v62, v63, v64, v65, v66, v67, v68, v69, v70, v71, v72, v73, v74, v75, v76, v77, v78, u79, u80, u81, u82, u83, u84, u85, u86, u87, u88, u89, u90, u91, v92], []⟩ (w2.setCell ⟨p, 3, none⟩ (.slice (some ⟨b2, 0, none⟩) (m + 2) c2))) :
    Code.wp Try.prog codeEdge10 (NoPanic (Exit.then K Q')) ⟨#[v0, .slice (some ⟨lb, 0, none⟩) 4 4, .pointer (some ⟨p, 0, none⟩), v3, v4, v5, v6, v7, v8, v9, v10, v11, v12, v13, v14, v15, v16, v17, v18, v19, v20, v21, v22, v23, v24, v25, v26, v27, v28, v29, v30, v31, v32, v33, v34, v35, v36, v37, v38, v39, v40, v41, v42, v43, v44, v45, v46, v47, v48, v49, v50, v51, v52, v53, v54, v55, v56, v57, v58, v59, v60, v61, v62, v63, v64, v65, v66, v67, v68, v69, v70, v71, v72, v73, v74, v75, v76, v77, v78, v79, v80, v81, v82, v83, v84, v85, v86, v87, v88, v89, v90, v91, v92], []⟩ w8 := by
  have hKK := Lib.hid hK
  clear hK
  conv => arg 2; whnf
  have E := (Below.refl w8.heap.size w8).drew
  have HTs : Hid (∀ W, Below w8.heap.size w8 W → SrcI W A m t) := Lib.hid fun W b => (HT.below b (Nat.le_refl _)).srcI
  have KF : Hid (∀ W, Below w8.heap.size w8 W → W.cell? ⟨lb, 2, none⟩ = some (.int .i64 l0) ∧ W.cell? ⟨lb, 3, none⟩ = some (.int .i64 l1)) := Lib.hid fun W b => ⟨(b.cell (p := ⟨lb, 2, none⟩) ll).trans k0, (b.cell (p := ⟨lb, 3, none⟩) ll).trans k1⟩
  have KH : Hid (∀ W : World, W.heap[lb]? = w8.heap[lb]? → W.cell? ⟨lb, 2, none⟩ = some (.int .i64 l0) ∧ W.cell? ⟨lb, 3, none⟩ = some (.int .i64 l1)) := Lib.hid fun W h => by
    have e : ∀ i, W.cell? ⟨lb, i, none⟩ = w8.cell? ⟨lb, i, none⟩ := fun i => by simp [World.cell?, h]
    exact ⟨(e _).trans k0, (e _).trans k1⟩
  have HA := KF.out _ E
  clear HT k0 k1
  refine wp_region_noPanic ?_
  refine wp_region_held_drew (S := fun W => W.cell? ⟨lb, 2, none⟩ = some (.int .i64 l0) ∧ W.cell? ⟨lb, 3, none⟩ = some (.int .i64 l1)) (by kernel_rfl) HA (fun hHeld => ?_)
  refine held_takes (by kernel_rfl) (fun _ _ _ _ _ h => h) [1, 4, 5, 6, 7, 8, 9] _ 7 _ _ _ rfl (by kernel_rfl) (by kernel_rfl) hHeld ?_
  simp only [pick, List.drop_succ_cons, List.drop_zero]
  iterate 7 (refine wpTakes_cons (v := ?_) (Or.inl ⟨by rfl, ?_⟩) ?_; rotate_left; (intro w hSw; (try dsimp only at hSw); go_simp <;> with_reducible rfl); (try simp only [Act.put, List.setIfInBounds_toArray, List.set_cons_zero, List.set_cons_succ]))
  refine wpTakes_nil ?_
  clear HA hHeld
  generalize w8.drew = v0 at *
  refine held_three 0 2 10 (fuel := 6) rfl (by kernel_rfl) ?_ ?_ ?_
  · simp only [List.drop_succ_cons, List.drop_zero]
    refine wpOne_cons (fun KO hK => ?_)
    go_simp
    have bb := below_new v0 (.cells #[] 3)
    have OA := Ow.empty v0 (fun _ => 0)
    have E' := E.trans (bb.mono E.size)
    generalize hW : v0.alloc (.cells #[] 3) = v1 at *
    clear hW bb
    obtain ⟨hA, ehA⟩ : ∃ h, h = v0.heap.size := ⟨_, rfl⟩
    rw [← ehA] at OA ⊢
    have lA : w8.heap.size ≤ hA := by have := E.size; omega
    clear E ehA; have E := E'; clear E'
    refine hK.out _ _ (KF.out _ E) ?_
    clear hK KO
    try simp only [Act.put, List.setIfInBounds_toArray, List.set_cons_zero, List.set_cons_succ]
    refine held_two 2 10 (fuel := 5) rfl (by kernel_rfl) ?_ ?_
    · simp only [List.drop_succ_cons, List.drop_zero]
      refine wpOne_cons (fun KO hK => ?_)
      have k1 := (E.cell (p := ⟨p, 3, none⟩) pl).trans c1
      go_simp
      clear k1
      refine hK.out _ _ (KF.out _ E) ?_
      clear hK KO
      try simp only [Act.put, List.setIfInBounds_toArray, List.set_cons_zero, List.set_cons_succ]
      refine held_two 3 10 (fuel := 4) rfl (by kernel_rfl) ?_ ?_
      · simp only [List.drop_succ_cons, List.drop_zero]
        refine wpOne_cons (fun KO hK => ?_)
        refine step_appI rfl _ _ rfl _ 0 (fun _ => 0) rfl OA _ m _ t rfl (HTs.out _ E) (by omega) ?_
        intro VTA v3 OTA g5 l5
        replace OTA := OTA.congr (x' := t) (fun j hj => by rw [cat_hi (Nat.zero_le _), Nat.sub_zero])
        rw [Nat.zero_add] at OTA
        have hs5 := E.size
        have E' := Below.grown E g5 hs5 (by intro k hk; have hk : some hA = some k := hk; injection hk with hk; omega)
        have lTA : ∀ k, VTA.ownBlock = some k → w8.heap.size ≤ k := by intro k hk; rcases l5 with e | e <;> rw [hk] at e <;> injection e with e <;> (try have e : k = hA := e) <;> omega
        clear E; have E := E'; clear E' g5 l5 hs5 OA
        obtain ⟨ATA, cTA, rfl⟩ := OTA.sliced
        refine hK.out _ _ (KF.out _ E) ?_
        clear hK KO
        try simp only [Act.put, List.setIfInBounds_toArray, List.set_cons_zero, List.set_cons_succ]
        refine held_one 10 (fuel := 3) rfl (by kernel_rfl) ?_
        simp only [List.drop_succ_cons, List.drop_zero]
        refine wpOne_cons (fun KO hK => ?_)
        go_simp
        have bb := below_new v3 (.cells #[.int .i64 l0, .int .i64 l1] 3)
        have OL := Ow.lit2 v3 (two l0 l1) l0 l1 rfl rfl
        have E' := E.trans (bb.mono E.size)
        have OTA' := OTA.below bb (Nat.le_refl _)
        generalize hW : v3.alloc (.cells #[.int .i64 l0, .int .i64 l1] 3) = v4 at *
        clear hW bb
        obtain ⟨hL, ehL⟩ : ∃ h, h = v3.heap.size := ⟨_, rfl⟩
        rw [← ehL] at OL ⊢
        have lL : w8.heap.size ≤ hL := by have := E.size; omega
        have lT2 : ∀ k, (Value.slice ATA m cTA).ownBlock = some k → k ≠ hL := by intro k hk; have := OTA.lt hk; omega
        clear OTA; have OTA := OTA'; clear OTA'
        clear E ehL; have E := E'; clear E'
        refine hK.out _ _ (KF.out _ E) ?_
        clear hK KO
        try simp only [Act.put, List.setIfInBounds_toArray, List.set_cons_zero, List.set_cons_succ]
        refine held_one 11 (fuel := 2) rfl (by kernel_rfl) ?_
        simp only [List.drop_succ_cons, List.drop_zero]
        refine wpOne_cons (fun KO hK => ?_)
        refine step_appI rfl _ _ rfl _ m t rfl OTA _ 2 _ (two l0 l1) rfl OL.rd.srcI (by omega) ?_
        intro VTB v5 OTB g5 l5
        have hs5 := E.size
        have E' := Below.grown E g5 hs5 lTA
        have lTB : ∀ k, VTB.ownBlock = some k → w8.heap.size ≤ k := by intro k hk; rcases l5 with e | e; (rw [hk] at e; exact lTA k e.symm); (rw [hk] at e; injection e with e; omega)
        clear E; have E := E'; clear E' g5 l5 hs5 OTA OL lTA lT2
        obtain ⟨b2, c2, rfl, lb2⟩ := OTB.form (by omega)
        refine hK.out _ _ (KF.out _ E) ?_
        clear hK KO
        try simp only [Act.put, List.setIfInBounds_toArray, List.set_cons_zero, List.set_cons_succ]
        have k1 := (E.cell (p := ⟨p, 3, none⟩) pl).trans c1
        have k3 := (E.frozen (p := ⟨p, 3, none⟩) pl).trans f1
        have KG := KH.out (v5.setCell ⟨p, 3, none⟩ (.slice (some ⟨b2, 0, none⟩) (m + 2) c2)) ((Below.heap_setCell _ _ _ _ (Ne.symm hpl)).trans (E.block lb ll))
        refine held_takes (by kernel_rfl) (fun _ _ _ _ _ h => h) [12] _ 1 _ _ _ rfl (by kernel_rfl) (by kernel_rfl) (KF.out _ E) ?_
        simp only [pick, List.drop_succ_cons, List.drop_zero]
        iterate 1 (refine wpTakes_cons (v := ?_) (Or.inl ⟨by rfl, ?_⟩) ?_; rotate_left; (intro w hSw; go_simp <;> with_reducible rfl); (try simp only [Act.put, List.setIfInBounds_toArray, List.set_cons_zero, List.set_cons_succ]))
        refine wpTakes_nil ?_
        refine held_one 13 (fuel := 0) rfl (by kernel_rfl) ?_
        simp only [List.drop_succ_cons, List.drop_zero]
        refine wpOne_cons (fun KO hK => ?_)
        go_simp
        refine hK.out _ _ KG ?_
        clear hK KO
        try simp only [Act.put, List.setIfInBounds_toArray, List.set_cons_zero, List.set_cons_succ]
        refine wpAnyH_done (by kernel_rfl) ?_ _
        refine NoPanic.normal ?_
        exact hKK.out _ _ _ _ _ _ _ _ _ _ _ _ _ b2 c2 _ E (lTB b2 rfl) OTB
      · simp only [List.drop_succ_cons, List.drop_zero]
        refine wpOne_cons (fun KO hK => ?_)
        go_simp
        have bb := below_new v1 (.cells #[.int .i64 l0, .int .i64 l1] 3)
        have OL := Ow.lit2 v1 (two l0 l1) l0 l1 rfl rfl
        have E' := E.trans (bb.mono E.size)
        have OA' := OA.below bb (Nat.le_refl _)
        generalize hW : v1.alloc (.cells #[.int .i64 l0, .int .i64 l1] 3) = v3 at *
        clear hW bb
        obtain ⟨hL, ehL⟩ : ∃ h, h = v1.heap.size := ⟨_, rfl⟩
        rw [← ehL] at OL ⊢
        have lL : w8.heap.size ≤ hL := by have := E.size; omega
        have dAL : hA ≠ hL := by have := OA.lt (k := hA) rfl; omega
        clear OA; have OA := OA'; clear OA'
        clear E ehL; have E := E'; clear E'
        refine hK.out _ _ (KF.out _ E) ?_
        clear hK KO
        try simp only [Act.put, List.setIfInBounds_toArray, List.set_cons_zero, List.set_cons_succ]
        refine held_one 3 (fuel := 3) rfl (by kernel_rfl) ?_
        simp only [List.drop_succ_cons, List.drop_zero]
        refine wpOne_cons (fun KO hK => ?_)
        refine step_appI rfl _ _ rfl _ 0 (fun _ => 0) rfl OA _ m _ t rfl (HTs.out _ E) (by omega) ?_
        intro VTA v4 OTA g5 l5
        replace OTA := OTA.congr (x' := t) (fun j hj => by rw [cat_hi (Nat.zero_le _), Nat.sub_zero])
        rw [Nat.zero_add] at OTA
        have hs5 := E.size
        have lLo := OL.lt (k := hL) rfl
        have E' := Below.grown E g5 hs5 (by intro k hk; have hk : some hA = some k := hk; injection hk with hk; omega)
        have lTA : ∀ k, VTA.ownBlock = some k → w8.heap.size ≤ k := by intro k hk; rcases l5 with e | e <;> rw [hk] at e <;> injection e with e <;> (try have e : k = hA := e) <;> omega
        replace OL := OL.keep (w' := v4) (fun k hk => by have hk : some hL = some k := hk; injection hk with hk; subst hk; exact g5.block _ (OL.lt (k := hL) rfl) (fun z => by have z : some hL = some hA := z; injection z with z; omega))
        have lT2 : ∀ k, VTA.ownBlock = some k → k ≠ hL := by intro k hk; rcases l5 with e | e <;> rw [hk] at e <;> injection e with e <;> (try have e : k = hA := e) <;> omega
        clear E; have E := E'; clear E' g5 l5 hs5 OA
        obtain ⟨ATA, cTA, rfl⟩ := OTA.sliced
        refine hK.out _ _ (KF.out _ E) ?_
        clear hK KO
        try simp only [Act.put, List.setIfInBounds_toArray, List.set_cons_zero, List.set_cons_succ]
        refine held_one 11 (fuel := 2) rfl (by kernel_rfl) ?_
        simp only [List.drop_succ_cons, List.drop_zero]
        refine wpOne_cons (fun KO hK => ?_)
        refine step_appI rfl _ _ rfl _ m t rfl OTA _ 2 _ (two l0 l1) rfl OL.rd.srcI (by omega) ?_
        intro VTB v5 OTB g5 l5
        have hs5 := E.size
        have E' := Below.grown E g5 hs5 lTA
        have lTB : ∀ k, VTB.ownBlock = some k → w8.heap.size ≤ k := by intro k hk; rcases l5 with e | e; (rw [hk] at e; exact lTA k e.symm); (rw [hk] at e; injection e with e; omega)
        clear E; have E := E'; clear E' g5 l5 hs5 OTA OL lTA lT2
        obtain ⟨b2, c2, rfl, lb2⟩ := OTB.form (by omega)
        refine hK.out _ _ (KF.out _ E) ?_
        clear hK KO
        try simp only [Act.put, List.setIfInBounds_toArray, List.set_cons_zero, List.set_cons_succ]
        have k1 := (E.cell (p := ⟨p, 3, none⟩) pl).trans c1
        have k3 := (E.frozen (p := ⟨p, 3, none⟩) pl).trans f1
        have KG := KH.out (v5.setCell ⟨p, 3, none⟩ (.slice (some ⟨b2, 0, none⟩) (m + 2) c2)) ((Below.heap_setCell _ _ _ _ (Ne.symm hpl)).trans (E.block lb ll))
        refine held_takes (by kernel_rfl) (fun _ _ _ _ _ h => h) [12] _ 1 _ _ _ rfl (by kernel_rfl) (by kernel_rfl) (KF.out _ E) ?_
        simp only [pick, List.drop_succ_cons, List.drop_zero]
        iterate 1 (refine wpTakes_cons (v := ?_) (Or.inl ⟨by rfl, ?_⟩) ?_; rotate_left; (intro w hSw; go_simp <;> with_reducible rfl); (try simp only [Act.put, List.setIfInBounds_toArray, List.set_cons_zero, List.set_cons_succ]))
        refine wpTakes_nil ?_
        refine held_one 13 (fuel := 0) rfl (by kernel_rfl) ?_
        simp only [List.drop_succ_cons, List.drop_zero]
        refine wpOne_cons (fun KO hK => ?_)
        go_simp
        refine hK.out _ _ KG ?_
        clear hK KO
        try simp only [Act.put, List.setIfInBounds_toArray, List.set_cons_zero, List.set_cons_succ]
        refine wpAnyH_done (by kernel_rfl) ?_ _
        refine NoPanic.normal ?_
        exact hKK.out _ _ _ _ _ _ _ _ _ _ _ _ _ b2 c2 _ E (lTB b2 rfl) OTB
    · simp only [List.drop_succ_cons, List.drop_zero]
      refine wpOne_cons (fun KO hK => ?_)
      go_simp
      have bb := below_new v1 (.cells #[.int .i64 l0, .int .i64 l1] 3)
      have OL := Ow.lit2 v1 (two l0 l1) l0 l1 rfl rfl
      have E' := E.trans (bb.mono E.size)
      have OA' := OA.below bb (Nat.le_refl _)
      generalize hW : v1.alloc (.cells #[.int .i64 l0, .int .i64 l1] 3) = v2 at *
      clear hW bb
      obtain ⟨hL, ehL⟩ : ∃ h, h = v1.heap.size := ⟨_, rfl⟩
      rw [← ehL] at OL ⊢
      have lL : w8.heap.size ≤ hL := by have := E.size; omega
      have dAL : hA ≠ hL := by have := OA.lt (k := hA) rfl; omega
      clear OA; have OA := OA'; clear OA'
      clear E ehL; have E := E'; clear E'
      refine hK.out _ _ (KF.out _ E) ?_
      clear hK KO
      try simp only [Act.put, List.setIfInBounds_toArray, List.set_cons_zero, List.set_cons_succ]
      refine held_one 2 (fuel := 4) rfl (by kernel_rfl) ?_
      simp only [List.drop_succ_cons, List.drop_zero]
      refine wpOne_cons (fun KO hK => ?_)
      have k1 := (E.cell (p := ⟨p, 3, none⟩) pl).trans c1
      go_simp
      clear k1
      refine hK.out _ _ (KF.out _ E) ?_
      clear hK KO
      try simp only [Act.put, List.setIfInBounds_toArray, List.set_cons_zero, List.set_cons_succ]
      refine held_one 3 (fuel := 3) rfl (by kernel_rfl) ?_
      simp only [List.drop_succ_cons, List.drop_zero]
      refine wpOne_cons (fun KO hK => ?_)
      refine step_appI rfl _ _ rfl _ 0 (fun _ => 0) rfl OA _ m _ t rfl (HTs.out _ E) (by omega) ?_
      intro VTA v4 OTA g5 l5
      replace OTA := OTA.congr (x' := t) (fun j hj => by rw [cat_hi (Nat.zero_le _), Nat.sub_zero])
      rw [Nat.zero_add] at OTA
      have hs5 := E.size
      have lLo := OL.lt (k := hL) rfl
      have E' := Below.grown E g5 hs5 (by intro k hk; have hk : some hA = some k := hk; injection hk with hk; omega)
      have lTA : ∀ k, VTA.ownBlock = some k → w8.heap.size ≤ k := by intro k hk; rcases l5 with e | e <;> rw [hk] at e <;> injection e with e <;> (try have e : k = hA := e) <;> omega
      replace OL := OL.keep (w' := v4) (fun k hk => by have hk : some hL = some k := hk; injection hk with hk; subst hk; exact g5.block _ (OL.lt (k := hL) rfl) (fun z => by have z : some hL = some hA := z; injection z with z; omega))
      have lT2 : ∀ k, VTA.ownBlock = some k → k ≠ hL := by intro k hk; rcases l5 with e | e <;> rw [hk] at e <;> injection e with e <;> (try have e : k = hA := e) <;> omega
      clear E; have E := E'; clear E' g5 l5 hs5 OA
      obtain ⟨ATA, cTA, rfl⟩ := OTA.sliced
      refine hK.out _ _ (KF.out _ E) ?_
      clear hK KO
      try simp only [Act.put, List.setIfInBounds_toArray, List.set_cons_zero, List.set_cons_succ]
      refine held_one 11 (fuel := 2) rfl (by kernel_rfl) ?_
      simp only [List.drop_succ_cons, List.drop_zero]
      refine wpOne_cons (fun KO hK => ?_)
      refine step_appI rfl _ _ rfl _ m t rfl OTA _ 2 _ (two l0 l1) rfl OL.rd.srcI (by omega) ?_
      intro VTB v5 OTB g5 l5
      have hs5 := E.size
      have E' := Below.grown E g5 hs5 lTA
      have lTB : ∀ k, VTB.ownBlock = some k → w8.heap.size ≤ k := by intro k hk; rcases l5 with e | e; (rw [hk] at e; exact lTA k e.symm); (rw [hk] at e; injection e with e; omega)
      clear E; have E := E'; clear E' g5 l5 hs5 OTA OL lTA lT2
      obtain ⟨b2, c2, rfl, lb2⟩ := OTB.form (by omega)
      refine hK.out _ _ (KF.out _ E) ?_
      clear hK KO
      try simp only [Act.put, List.setIfInBounds_toArray, List.set_cons_zero, List.set_cons_succ]
      have k1 := (E.cell (p := ⟨p, 3, none⟩) pl).trans c1
      have k3 := (E.frozen (p := ⟨p, 3, none⟩) pl).trans f1
      have KG := KH.out (v5.setCell ⟨p, 3, none⟩ (.slice (some ⟨b2, 0, none⟩) (m + 2) c2)) ((Below.heap_setCell _ _ _ _ (Ne.symm hpl)).trans (E.block lb ll))
      refine held_takes (by kernel_rfl) (fun _ _ _ _ _ h => h) [12] _ 1 _ _ _ rfl (by kernel_rfl) (by kernel_rfl) (KF.out _ E) ?_
      simp only [pick, List.drop_succ_cons, List.drop_zero]
      iterate 1 (refine wpTakes_cons (v := ?_) (Or.inl ⟨by rfl, ?_⟩) ?_; rotate_left; (intro w hSw; go_simp <;> with_reducible rfl); (try simp only [Act.put, List.setIfInBounds_toArray, List.set_cons_zero, List.set_cons_succ]))
      refine wpTakes_nil ?_
      refine held_one 13 (fuel := 0) rfl (by kernel_rfl) ?_
      simp only [List.drop_succ_cons, List.drop_zero]
      refine wpOne_cons (fun KO hK => ?_)
      go_simp
      refine hK.out _ _ KG ?_
      clear hK KO
      try simp only [Act.put, List.setIfInBounds_toArray, List.set_cons_zero, List.set_cons_succ]
      refine wpAnyH_done (by kernel_rfl) ?_ _
      refine NoPanic.normal ?_
      exact hKK.out _ _ _ _ _ _ _ _ _ _ _ _ _ b2 c2 _ E (lTB b2 rfl) OTB
  · simp only [List.drop_succ_cons, List.drop_zero]
    refine wpOne_cons (fun KO hK => ?_)
    have k1 := (E.cell (p := ⟨p, 3, none⟩) pl).trans c1
    go_simp
    clear k1
    refine hK.out _ _ (KF.out _ E) ?_
    clear hK KO
    try simp only [Act.put, List.setIfInBounds_toArray, List.set_cons_zero, List.set_cons_succ]
    refine held_two 0 10 (fuel := 5) rfl (by kernel_rfl) ?_ ?_
    · simp only [List.drop_succ_cons, List.drop_zero]
      refine wpOne_cons (fun KO hK => ?_)
      go_simp
      have bb := below_new v0 (.cells #[] 3)
      have OA := Ow.empty v0 (fun _ => 0)
      have E' := E.trans (bb.mono E.size)
      generalize hW : v0.alloc (.cells #[] 3) = v2 at *
      clear hW bb
      obtain ⟨hA, ehA⟩ : ∃ h, h = v0.heap.size := ⟨_, rfl⟩
      rw [← ehA] at OA ⊢
      have lA : w8.heap.size ≤ hA := by have := E.size; omega
      clear E ehA; have E := E'; clear E'
      refine hK.out _ _ (KF.out _ E) ?_
      clear hK KO
      try simp only [Act.put, List.setIfInBounds_toArray, List.set_cons_zero, List.set_cons_succ]
      refine held_two 3 10 (fuel := 4) rfl (by kernel_rfl) ?_ ?_
      · simp only [List.drop_succ_cons, List.drop_zero]
        refine wpOne_cons (fun KO hK => ?_)
        refine step_appI rfl _ _ rfl _ 0 (fun _ => 0) rfl OA _ m _ t rfl (HTs.out _ E) (by omega) ?_
        intro VTA v3 OTA g5 l5
        replace OTA := OTA.congr (x' := t) (fun j hj => by rw [cat_hi (Nat.zero_le _), Nat.sub_zero])
        rw [Nat.zero_add] at OTA
        have hs5 := E.size
        have E' := Below.grown E g5 hs5 (by intro k hk; have hk : some hA = some k := hk; injection hk with hk; omega)
        have lTA : ∀ k, VTA.ownBlock = some k → w8.heap.size ≤ k := by intro k hk; rcases l5 with e | e <;> rw [hk] at e <;> injection e with e <;> (try have e : k = hA := e) <;> omega
        clear E; have E := E'; clear E' g5 l5 hs5 OA
        obtain ⟨ATA, cTA, rfl⟩ := OTA.sliced
        refine hK.out _ _ (KF.out _ E) ?_
        clear hK KO
        try simp only [Act.put, List.setIfInBounds_toArray, List.set_cons_zero, List.set_cons_succ]
        refine held_one 10 (fuel := 3) rfl (by kernel_rfl) ?_
        simp only [List.drop_succ_cons, List.drop_zero]
        refine wpOne_cons (fun KO hK => ?_)
        go_simp
        have bb := below_new v3 (.cells #[.int .i64 l0, .int .i64 l1] 3)
        have OL := Ow.lit2 v3 (two l0 l1) l0 l1 rfl rfl
        have E' := E.trans (bb.mono E.size)
        have OTA' := OTA.below bb (Nat.le_refl _)
        generalize hW : v3.alloc (.cells #[.int .i64 l0, .int .i64 l1] 3) = v4 at *
        clear hW bb
        obtain ⟨hL, ehL⟩ : ∃ h, h = v3.heap.size := ⟨_, rfl⟩
        rw [← ehL] at OL ⊢
        have lL : w8.heap.size ≤ hL := by have := E.size; omega
        have lT2 : ∀ k, (Value.slice ATA m cTA).ownBlock = some k → k ≠ hL := by intro k hk; have := OTA.lt hk; omega
        clear OTA; have OTA := OTA'; clear OTA'
        clear E ehL; have E := E'; clear E'
        refine hK.out _ _ (KF.out _ E) ?_
        clear hK KO
        try simp only [Act.put, List.setIfInBounds_toArray, List.set_cons_zero, List.set_cons_succ]
        refine held_one 11 (fuel := 2) rfl (by kernel_rfl) ?_
        simp only [List.drop_succ_cons, List.drop_zero]
        refine wpOne_cons (fun KO hK => ?_)
        refine step_appI rfl _ _ rfl _ m t rfl OTA _ 2 _ (two l0 l1) rfl OL.rd.srcI (by omega) ?_
        intro VTB v5 OTB g5 l5
        have hs5 := E.size
        have E' := Below.grown E g5 hs5 lTA
        have lTB : ∀ k, VTB.ownBlock = some k → w8.heap.size ≤ k := by intro k hk; rcases l5 with e | e; (rw [hk] at e; exact lTA k e.symm); (rw [hk] at e; injection e with e; omega)
        clear E; have E := E'; clear E' g5 l5 hs5 OTA OL lTA lT2
        obtain ⟨b2, c2, rfl, lb2⟩ := OTB.form (by omega)
        refine hK.out _ _ (KF.out _ E) ?_
        clear hK KO
        try simp only [Act.put, List.setIfInBounds_toArray, List.set_cons_zero, List.set_cons_succ]
        have k1 := (E.cell (p := ⟨p, 3, none⟩) pl).trans c1
        have k3 := (E.frozen (p := ⟨p, 3, none⟩) pl).trans f1
        have KG := KH.out (v5.setCell ⟨p, 3, none⟩ (.slice (some ⟨b2, 0, none⟩) (m + 2) c2)) ((Below.heap_setCell _ _ _ _ (Ne.symm hpl)).trans (E.block lb ll))
        refine held_takes (by kernel_rfl) (fun _ _ _ _ _ h => h) [12] _ 1 _ _ _ rfl (by kernel_rfl) (by kernel_rfl) (KF.out _ E) ?_
        simp only [pick, List.drop_succ_cons, List.drop_zero]
        iterate 1 (refine wpTakes_cons (v := ?_) (Or.inl ⟨by rfl, ?_⟩) ?_; rotate_left; (intro w hSw; go_simp <;> with_reducible rfl); (try simp only [Act.put, List.setIfInBounds_toArray, List.set_cons_zero, List.set_cons_succ]))
        refine wpTakes_nil ?_
        refine held_one 13 (fuel := 0) rfl (by kernel_rfl) ?_
        simp only [List.drop_succ_cons, List.drop_zero]
        refine wpOne_cons (fun KO hK => ?_)
        go_simp
        refine hK.out _ _ KG ?_
        clear hK KO
        try simp only [Act.put, List.setIfInBounds_toArray, List.set_cons_zero, List.set_cons_succ]
        refine wpAnyH_done (by kernel_rfl) ?_ _
        refine NoPanic.normal ?_
        exact hKK.out _ _ _ _ _ _ _ _ _ _ _ _ _ b2 c2 _ E (lTB b2 rfl) OTB
      · simp only [List.drop_succ_cons, List.drop_zero]
        refine wpOne_cons (fun KO hK => ?_)
        go_simp
        have bb := below_new v2 (.cells #[.int .i64 l0, .int .i64 l1] 3)
        have OL := Ow.lit2 v2 (two l0 l1) l0 l1 rfl rfl
        have E' := E.trans (bb.mono E.size)
        have OA' := OA.below bb (Nat.le_refl _)
        generalize hW : v2.alloc (.cells #[.int .i64 l0, .int .i64 l1] 3) = v3 at *
        clear hW bb
        obtain ⟨hL, ehL⟩ : ∃ h, h = v2.heap.size := ⟨_, rfl⟩
        rw [← ehL] at OL ⊢
        have lL : w8.heap.size ≤ hL := by have := E.size; omega
        have dAL : hA ≠ hL := by have := OA.lt (k := hA) rfl; omega
        clear OA; have OA := OA'; clear OA'
        clear E ehL; have E := E'; clear E'
        refine hK.out _ _ (KF.out _ E) ?_
        clear hK KO
        try simp only [Act.put, List.setIfInBounds_toArray, List.set_cons_zero, List.set_cons_succ]
        refine held_one 3 (fuel := 3) rfl (by kernel_rfl) ?_
        simp only [List.drop_succ_cons, List.drop_zero]
        refine wpOne_cons (fun KO hK => ?_)
        refine step_appI rfl _ _ rfl _ 0 (fun _ => 0) rfl OA _ m _ t rfl (HTs.out _ E) (by omega) ?_
        intro VTA v4 OTA g5 l5
        replace OTA := OTA.congr (x' := t) (fun j hj => by rw [cat_hi (Nat.zero_le _), Nat.sub_zero])
        rw [Nat.zero_add] at OTA
        have hs5 := E.size
        have lLo := OL.lt (k := hL) rfl
        have E' := Below.grown E g5 hs5 (by intro k hk; have hk : some hA = some k := hk; injection hk with hk; omega)
        have lTA : ∀ k, VTA.ownBlock = some k → w8.heap.size ≤ k := by intro k hk; rcases l5 with e | e <;> rw [hk] at e <;> injection e with e <;> (try have e : k = hA := e) <;> omega
        replace OL := OL.keep (w' := v4) (fun k hk => by have hk : some hL = some k := hk; injection hk with hk; subst hk; exact g5.block _ (OL.lt (k := hL) rfl) (fun z => by have z : some hL = some hA := z; injection z with z; omega))
        have lT2 : ∀ k, VTA.ownBlock = some k → k ≠ hL := by intro k hk; rcases l5 with e | e <;> rw [hk] at e <;> injection e with e <;> (try have e : k = hA := e) <;> omega
        clear E; have E := E'; clear E' g5 l5 hs5 OA
        obtain ⟨ATA, cTA, rfl⟩ := OTA.sliced
        refine hK.out _ _ (KF.out _ E) ?_
        clear hK KO
        try simp only [Act.put, List.setIfInBounds_toArray, List.set_cons_zero, List.set_cons_succ]
        refine held_one 11 (fuel := 2) rfl (by kernel_rfl) ?_
        simp only [List.drop_succ_cons, List.drop_zero]
        refine wpOne_cons (fun KO hK => ?_)
        refine step_appI rfl _ _ rfl _ m t rfl OTA _ 2 _ (two l0 l1) rfl OL.rd.srcI (by omega) ?_
        intro VTB v5 OTB g5 l5
        have hs5 := E.size
        have E' := Below.grown E g5 hs5 lTA
        have lTB : ∀ k, VTB.ownBlock = some k → w8.heap.size ≤ k := by intro k hk; rcases l5 with e | e; (rw [hk] at e; exact lTA k e.symm); (rw [hk] at e; injection e with e; omega)
        clear E; have E := E'; clear E' g5 l5 hs5 OTA OL lTA lT2
        obtain ⟨b2, c2, rfl, lb2⟩ := OTB.form (by omega)
        refine hK.out _ _ (KF.out _ E) ?_
        clear hK KO
        try simp only [Act.put, List.setIfInBounds_toArray, List.set_cons_zero, List.set_cons_succ]
        have k1 := (E.cell (p := ⟨p, 3, none⟩) pl).trans c1
        have k3 := (E.frozen (p := ⟨p, 3, none⟩) pl).trans f1
        have KG := KH.out (v5.setCell ⟨p, 3, none⟩ (.slice (some ⟨b2, 0, none⟩) (m + 2) c2)) ((Below.heap_setCell _ _ _ _ (Ne.symm hpl)).trans (E.block lb ll))
        refine held_takes (by kernel_rfl) (fun _ _ _ _ _ h => h) [12] _ 1 _ _ _ rfl (by kernel_rfl) (by kernel_rfl) (KF.out _ E) ?_
        simp only [pick, List.drop_succ_cons, List.drop_zero]
        iterate 1 (refine wpTakes_cons (v := ?_) (Or.inl ⟨by rfl, ?_⟩) ?_; rotate_left; (intro w hSw; go_simp <;> with_reducible rfl); (try simp only [Act.put, List.setIfInBounds_toArray, List.set_cons_zero, List.set_cons_succ]))
        refine wpTakes_nil ?_
        refine held_one 13 (fuel := 0) rfl (by kernel_rfl) ?_
        simp only [List.drop_succ_cons, List.drop_zero]
        refine wpOne_cons (fun KO hK => ?_)
        go_simp
        refine hK.out _ _ KG ?_
        clear hK KO
        try simp only [Act.put, List.setIfInBounds_toArray, List.set_cons_zero, List.set_cons_succ]
        refine wpAnyH_done (by kernel_rfl) ?_ _
        refine NoPanic.normal ?_
        exact hKK.out _ _ _ _ _ _ _ _ _ _ _ _ _ b2 c2 _ E (lTB b2 rfl) OTB
    · simp only [List.drop_succ_cons, List.drop_zero]
      refine wpOne_cons (fun KO hK => ?_)
      go_simp
      have bb := below_new v0 (.cells #[.int .i64 l0, .int .i64 l1] 3)
      have OL := Ow.lit2 v0 (two l0 l1) l0 l1 rfl rfl
      have E' := E.trans (bb.mono E.size)
      generalize hW : v0.alloc (.cells #[.int .i64 l0, .int .i64 l1] 3) = v2 at *
      clear hW bb
      obtain ⟨hL, ehL⟩ : ∃ h, h = v0.heap.size := ⟨_, rfl⟩
      rw [← ehL] at OL ⊢
      have lL : w8.heap.size ≤ hL := by have := E.size; omega
      clear E ehL; have E := E'; clear E'
      refine hK.out _ _ (KF.out _ E) ?_
      clear hK KO
      try simp only [Act.put, List.setIfInBounds_toArray, List.set_cons_zero, List.set_cons_succ]
      refine held_one 0 (fuel := 4) rfl (by kernel_rfl) ?_
      simp only [List.drop_succ_cons, List.drop_zero]
      refine wpOne_cons (fun KO hK => ?_)
      go_simp
      have bb := below_new v2 (.cells #[] 3)
      have OA := Ow.empty v2 (fun _ => 0)
      have E' := E.trans (bb.mono E.size)
      have OL' := OL.below bb (Nat.le_refl _)
      generalize hW : v2.alloc (.cells #[] 3) = v3 at *
      clear hW bb
      obtain ⟨hA, ehA⟩ : ∃ h, h = v2.heap.size := ⟨_, rfl⟩
      rw [← ehA] at OA ⊢
      have lA : w8.heap.size ≤ hA := by have := E.size; omega
      have dAL : hA ≠ hL := by have := OL.lt (k := hL) rfl; omega
      clear OL; have OL := OL'; clear OL'
      clear E ehA; have E := E'; clear E'
      refine hK.out _ _ (KF.out _ E) ?_
      clear hK KO
      try simp only [Act.put, List.setIfInBounds_toArray, List.set_cons_zero, List.set_cons_succ]
      refine held_one 3 (fuel := 3) rfl (by kernel_rfl) ?_
      simp only [List.drop_succ_cons, List.drop_zero]
      refine wpOne_cons (fun KO hK => ?_)
      refine step_appI rfl _ _ rfl _ 0 (fun _ => 0) rfl OA _ m _ t rfl (HTs.out _ E) (by omega) ?_
      intro VTA v4 OTA g5 l5
      replace OTA := OTA.congr (x' := t) (fun j hj => by rw [cat_hi (Nat.zero_le _), Nat.sub_zero])
      rw [Nat.zero_add] at OTA
      have hs5 := E.size
      have lLo := OL.lt (k := hL) rfl
      have E' := Below.grown E g5 hs5 (by intro k hk; have hk : some hA = some k := hk; injection hk with hk; omega)
      have lTA : ∀ k, VTA.ownBlock = some k → w8.heap.size ≤ k := by intro k hk; rcases l5 with e | e <;> rw [hk] at e <;> injection e with e <;> (try have e : k = hA := e) <;> omega
      replace OL := OL.keep (w' := v4) (fun k hk => by have hk : some hL = some k := hk; injection hk with hk; subst hk; exact g5.block _ (OL.lt (k := hL) rfl) (fun z => by have z : some hL = some hA := z; injection z with z; omega))
      have lT2 : ∀ k, VTA.ownBlock = some k → k ≠ hL := by intro k hk; rcases l5 with e | e <;> rw [hk] at e <;> injection e with e <;> (try have e : k = hA := e) <;> omega
      clear E; have E := E'; clear E' g5 l5 hs5 OA
      obtain ⟨ATA, cTA, rfl⟩ := OTA.sliced
      refine hK.out _ _ (KF.out _ E) ?_
      clear hK KO
      try simp only [Act.put, List.setIfInBounds_toArray, List.set_cons_zero, List.set_cons_succ]
      refine held_one 11 (fuel := 2) rfl (by kernel_rfl) ?_
      simp only [List.drop_succ_cons, List.drop_zero]
      refine wpOne_cons (fun KO hK => ?_)
      refine step_appI rfl _ _ rfl _ m t rfl OTA _ 2 _ (two l0 l1) rfl OL.rd.srcI (by omega) ?_
      intro VTB v5 OTB g5 l5
      have hs5 := E.size
      have E' := Below.grown E g5 hs5 lTA
      have lTB : ∀ k, VTB.ownBlock = some k → w8.heap.size ≤ k := by intro k hk; rcases l5 with e | e; (rw [hk] at e; exact lTA k e.symm); (rw [hk] at e; injection e with e; omega)
      clear E; have E := E'; clear E' g5 l5 hs5 OTA OL lTA lT2
      obtain ⟨b2, c2, rfl, lb2⟩ := OTB.form (by omega)
      refine hK.out _ _ (KF.out _ E) ?_
      clear hK KO
      try simp only [Act.put, List.setIfInBounds_toArray, List.set_cons_zero, List.set_cons_succ]
      have k1 := (E.cell (p := ⟨p, 3, none⟩) pl).trans c1
      have k3 := (E.frozen (p := ⟨p, 3, none⟩) pl).trans f1
      have KG := KH.out (v5.setCell ⟨p, 3, none⟩ (.slice (some ⟨b2, 0, none⟩) (m + 2) c2)) ((Below.heap_setCell _ _ _ _ (Ne.symm hpl)).trans (E.block lb ll))
      refine held_takes (by kernel_rfl) (fun _ _ _ _ _ h => h) [12] _ 1 _ _ _ rfl (by kernel_rfl) (by kernel_rfl) (KF.out _ E) ?_
      simp only [pick, List.drop_succ_cons, List.drop_zero]
      iterate 1 (refine wpTakes_cons (v := ?_) (Or.inl ⟨by rfl, ?_⟩) ?_; rotate_left; (intro w hSw; go_simp <;> with_reducible rfl); (try simp only [Act.put, List.setIfInBounds_toArray, List.set_cons_zero, List.set_cons_succ]))
      refine wpTakes_nil ?_
      refine held_one 13 (fuel := 0) rfl (by kernel_rfl) ?_
      simp only [List.drop_succ_cons, List.drop_zero]
      refine wpOne_cons (fun KO hK => ?_)
      go_simp
      refine hK.out _ _ KG ?_
      clear hK KO
      try simp only [Act.put, List.setIfInBounds_toArray, List.set_cons_zero, List.set_cons_succ]
      refine wpAnyH_done (by kernel_rfl) ?_ _
      refine NoPanic.normal ?_
      exact hKK.out _ _ _ _ _ _ _ _ _ _ _ _ _ b2 c2 _ E (lTB b2 rfl) OTB
  · simp only [List.drop_succ_cons, List.drop_zero]
    refine wpOne_cons (fun KO hK => ?_)
    go_simp
    have bb := below_new v0 (.cells #[.int .i64 l0, .int .i64 l1] 3)
    have OL := Ow.lit2 v0 (two l0 l1) l0 l1 rfl rfl
    have E' := E.trans (bb.mono E.size)
    generalize hW : v0.alloc (.cells #[.int .i64 l0, .int .i64 l1] 3) = v1 at *
    clear hW bb
    obtain ⟨hL, ehL⟩ : ∃ h, h = v0.heap.size := ⟨_, rfl⟩
    rw [← ehL] at OL ⊢
    have lL : w8.heap.size ≤ hL := by have := E.size; omega
    clear E ehL; have E := E'; clear E'
    refine hK.out _ _ (KF.out _ E) ?_
    clear hK KO
    try simp only [Act.put, List.setIfInBounds_toArray, List.set_cons_zero, List.set_cons_succ]
    refine held_two 0 2 (fuel := 5) rfl (by kernel_rfl) ?_ ?_
    · simp only [List.drop_succ_cons, List.drop_zero]
      refine wpOne_cons (fun KO hK => ?_)
      go_simp
      have bb := below_new v1 (.cells #[] 3)
      have OA := Ow.empty v1 (fun _ => 0)
      have E' := E.trans (bb.mono E.size)
      have OL' := OL.below bb (Nat.le_refl _)
      generalize hW : v1.alloc (.cells #[] 3) = v2 at *
      clear hW bb
      obtain ⟨hA, ehA⟩ : ∃ h, h = v1.heap.size := ⟨_, rfl⟩
      rw [← ehA] at OA ⊢
      have lA : w8.heap.size ≤ hA := by have := E.size; omega
      have dAL : hA ≠ hL := by have := OL.lt (k := hL) rfl; omega
      clear OL; have OL := OL'; clear OL'
      clear E ehA; have E := E'; clear E'
      refine hK.out _ _ (KF.out _ E) ?_
      clear hK KO
      try simp only [Act.put, List.setIfInBounds_toArray, List.set_cons_zero, List.set_cons_succ]
      refine held_one 2 (fuel := 4) rfl (by kernel_rfl) ?_
      simp only [List.drop_succ_cons, List.drop_zero]
      refine wpOne_cons (fun KO hK => ?_)
      have k1 := (E.cell (p := ⟨p, 3, none⟩) pl).trans c1
      go_simp
      clear k1
      refine hK.out _ _ (KF.out _ E) ?_
      clear hK KO
      try simp only [Act.put, List.setIfInBounds_toArray, List.set_cons_zero, List.set_cons_succ]
      refine held_one 3 (fuel := 3) rfl (by kernel_rfl) ?_
      simp only [List.drop_succ_cons, List.drop_zero]
      refine wpOne_cons (fun KO hK => ?_)
      refine step_appI rfl _ _ rfl _ 0 (fun _ => 0) rfl OA _ m _ t rfl (HTs.out _ E) (by omega) ?_
      intro VTA v4 OTA g5 l5
      replace OTA := OTA.congr (x' := t) (fun j hj => by rw [cat_hi (Nat.zero_le _), Nat.sub_zero])
      rw [Nat.zero_add] at OTA
      have hs5 := E.size
      have lLo := OL.lt (k := hL) rfl
      have E' := Below.grown E g5 hs5 (by intro k hk; have hk : some hA = some k := hk; injection hk with hk; omega)
      have lTA : ∀ k, VTA.ownBlock = some k → w8.heap.size ≤ k := by intro k hk; rcases l5 with e | e <;> rw [hk] at e <;> injection e with e <;> (try have e : k = hA := e) <;> omega
      replace OL := OL.keep (w' := v4) (fun k hk => by have hk : some hL = some k := hk; injection hk with hk; subst hk; exact g5.block _ (OL.lt (k := hL) rfl) (fun z => by have z : some hL = some hA := z; injection z with z; omega))
      have lT2 : ∀ k, VTA.ownBlock = some k → k ≠ hL := by intro k hk; rcases l5 with e | e <;> rw [hk] at e <;> injection e with e <;> (try have e : k = hA := e) <;> omega
      clear E; have E := E'; clear E' g5 l5 hs5 OA
      obtain ⟨ATA, cTA, rfl⟩ := OTA.sliced
      refine hK.out _ _ (KF.out _ E) ?_
      clear hK KO
      try simp only [Act.put, List.setIfInBounds_toArray, List.set_cons_zero, List.set_cons_succ]
      refine held_one 11 (fuel := 2) rfl (by kernel_rfl) ?_
      simp only [List.drop_succ_cons, List.drop_zero]
      refine wpOne_cons (fun KO hK => ?_)
      refine step_appI rfl _ _ rfl _ m t rfl OTA _ 2 _ (two l0 l1) rfl OL.rd.srcI (by omega) ?_
      intro VTB v5 OTB g5 l5
      have hs5 := E.size
      have E' := Below.grown E g5 hs5 lTA
      have lTB : ∀ k, VTB.ownBlock = some k → w8.heap.size ≤ k := by intro k hk; rcases l5 with e | e; (rw [hk] at e; exact lTA k e.symm); (rw [hk] at e; injection e with e; omega)
      clear E; have E := E'; clear E' g5 l5 hs5 OTA OL lTA lT2
      obtain ⟨b2, c2, rfl, lb2⟩ := OTB.form (by omega)
      refine hK.out _ _ (KF.out _ E) ?_
      clear hK KO
      try simp only [Act.put, List.setIfInBounds_toArray, List.set_cons_zero, List.set_cons_succ]
      have k1 := (E.cell (p := ⟨p, 3, none⟩) pl).trans c1
      have k3 := (E.frozen (p := ⟨p, 3, none⟩) pl).trans f1
      have KG := KH.out (v5.setCell ⟨p, 3, none⟩ (.slice (some ⟨b2, 0, none⟩) (m + 2) c2)) ((Below.heap_setCell _ _ _ _ (Ne.symm hpl)).trans (E.block lb ll))
      refine held_takes (by kernel_rfl) (fun _ _ _ _ _ h => h) [12] _ 1 _ _ _ rfl (by kernel_rfl) (by kernel_rfl) (KF.out _ E) ?_
      simp only [pick, List.drop_succ_cons, List.drop_zero]
      iterate 1 (refine wpTakes_cons (v := ?_) (Or.inl ⟨by rfl, ?_⟩) ?_; rotate_left; (intro w hSw; go_simp <;> with_reducible rfl); (try simp only [Act.put, List.setIfInBounds_toArray, List.set_cons_zero, List.set_cons_succ]))
      refine wpTakes_nil ?_
      refine held_one 13 (fuel := 0) rfl (by kernel_rfl) ?_
      simp only [List.drop_succ_cons, List.drop_zero]
      refine wpOne_cons (fun KO hK => ?_)
      go_simp
      refine hK.out _ _ KG ?_
      clear hK KO
      try simp only [Act.put, List.setIfInBounds_toArray, List.set_cons_zero, List.set_cons_succ]
      refine wpAnyH_done (by kernel_rfl) ?_ _
      refine NoPanic.normal ?_
      exact hKK.out _ _ _ _ _ _ _ _ _ _ _ _ _ b2 c2 _ E (lTB b2 rfl) OTB
    · simp only [List.drop_succ_cons, List.drop_zero]
      refine wpOne_cons (fun KO hK => ?_)
      have k1 := (E.cell (p := ⟨p, 3, none⟩) pl).trans c1
      go_simp
      clear k1
      refine hK.out _ _ (KF.out _ E) ?_
      clear hK KO
      try simp only [Act.put, List.setIfInBounds_toArray, List.set_cons_zero, List.set_cons_succ]
      refine held_one 0 (fuel := 4) rfl (by kernel_rfl) ?_
      simp only [List.drop_succ_cons, List.drop_zero]
      refine wpOne_cons (fun KO hK => ?_)
      go_simp
      have bb := below_new v1 (.cells #[] 3)
      have OA := Ow.empty v1 (fun _ => 0)
      have E' := E.trans (bb.mono E.size)
      have OL' := OL.below bb (Nat.le_refl _)
      generalize hW : v1.alloc (.cells #[] 3) = v3 at *
      clear hW bb
      obtain ⟨hA, ehA⟩ : ∃ h, h = v1.heap.size := ⟨_, rfl⟩
      rw [← ehA] at OA ⊢
      have lA : w8.heap.size ≤ hA := by have := E.size; omega
      have dAL : hA ≠ hL := by have := OL.lt (k := hL) rfl; omega
      clear OL; have OL := OL'; clear OL'
      clear E ehA; have E := E'; clear E'
      refine hK.out _ _ (KF.out _ E) ?_
      clear hK KO
      try simp only [Act.put, List.setIfInBounds_toArray, List.set_cons_zero, List.set_cons_succ]
      refine held_one 3 (fuel := 3) rfl (by kernel_rfl) ?_
      simp only [List.drop_succ_cons, List.drop_zero]
      refine wpOne_cons (fun KO hK => ?_)
      refine step_appI rfl _ _ rfl _ 0 (fun _ => 0) rfl OA _ m _ t rfl (HTs.out _ E) (by omega) ?_
      intro VTA v4 OTA g5 l5
      replace OTA := OTA.congr (x' := t) (fun j hj => by rw [cat_hi (Nat.zero_le _), Nat.sub_zero])
      rw [Nat.zero_add] at OTA
      have hs5 := E.size
      have lLo := OL.lt (k := hL) rfl
      have E' := Below.grown E g5 hs5 (by intro k hk; have hk : some hA = some k := hk; injection hk with hk; omega)
      have lTA : ∀ k, VTA.ownBlock = some k → w8.heap.size ≤ k := by intro k hk; rcases l5 with e | e <;> rw [hk] at e <;> injection e with e <;> (try have e : k = hA := e) <;> omega
      replace OL := OL.keep (w' := v4) (fun k hk => by have hk : some hL = some k := hk; injection hk with hk; subst hk; exact g5.block _ (OL.lt (k := hL) rfl) (fun z => by have z : some hL = some hA := z; injection z with z; omega))
      have lT2 : ∀ k, VTA.ownBlock = some k → k ≠ hL := by intro k hk; rcases l5 with e | e <;> rw [hk] at e <;> injection e with e <;> (try have e : k = hA := e) <;> omega
      clear E; have E := E'; clear E' g5 l5 hs5 OA
      obtain ⟨ATA, cTA, rfl⟩ := OTA.sliced
      refine hK.out _ _ (KF.out _ E) ?_
      clear hK KO
      try simp only [Act.put, List.setIfInBounds_toArray, List.set_cons_zero, List.set_cons_succ]
      refine held_one 11 (fuel := 2) rfl (by kernel_rfl) ?_
      simp only [List.drop_succ_cons, List.drop_zero]
      refine wpOne_cons (fun KO hK => ?_)
      refine step_appI rfl _ _ rfl _ m t rfl OTA _ 2 _ (two l0 l1) rfl OL.rd.srcI (by omega) ?_
      intro VTB v5 OTB g5 l5
      have hs5 := E.size
      have E' := Below.grown E g5 hs5 lTA
      have lTB : ∀ k, VTB.ownBlock = some k → w8.heap.size ≤ k := by intro k hk; rcases l5 with e | e; (rw [hk] at e; exact lTA k e.symm); (rw [hk] at e; injection e with e; omega)
      clear E; have E := E'; clear E' g5 l5 hs5 OTA OL lTA lT2
      obtain ⟨b2, c2, rfl, lb2⟩ := OTB.form (by omega)
      refine hK.out _ _ (KF.out _ E) ?_
      clear hK KO
      try simp only [Act.put, List.setIfInBounds_toArray, List.set_cons_zero, List.set_cons_succ]
      have k1 := (E.cell (p := ⟨p, 3, none⟩) pl).trans c1
      have k3 := (E.frozen (p := ⟨p, 3, none⟩) pl).trans f1
      have KG := KH.out (v5.setCell ⟨p, 3, none⟩ (.slice (some ⟨b2, 0, none⟩) (m + 2) c2)) ((Below.heap_setCell _ _ _ _ (Ne.symm hpl)).trans (E.block lb ll))
      refine held_takes (by kernel_rfl) (fun _ _ _ _ _ h => h) [12] _ 1 _ _ _ rfl (by kernel_rfl) (by kernel_rfl) (KF.out _ E) ?_
      simp only [pick, List.drop_succ_cons, List.drop_zero]
      iterate 1 (refine wpTakes_cons (v := ?_) (Or.inl ⟨by rfl, ?_⟩) ?_; rotate_left; (intro w hSw; go_simp <;> with_reducible rfl); (try simp only [Act.put, List.setIfInBounds_toArray, List.set_cons_zero, List.set_cons_succ]))
      refine wpTakes_nil ?_
      refine held_one 13 (fuel := 0) rfl (by kernel_rfl) ?_
      simp only [List.drop_succ_cons, List.drop_zero]
      refine wpOne_cons (fun KO hK => ?_)
      go_simp
      refine hK.out _ _ KG ?_
      clear hK KO
      try simp only [Act.put, List.setIfInBounds_toArray, List.set_cons_zero, List.set_cons_succ]
      refine wpAnyH_done (by kernel_rfl) ?_ _
      refine NoPanic.normal ?_
      exact hKK.out _ _ _ _ _ _ _ _ _ _ _ _ _ b2 c2 _ E (lTB b2 rfl) OTB
end Go.Proofs.Ytcejjcopchkmeaa.Ro
namespace Go.Proofs.Ytcejjcopchkmeaa.Ro
open Go.RowKit Go.Proofs Go.Maps
set_option linter.unusedVariables false
set_option maxRecDepth 100000
set_option linter.unusedSimpArgs false

def hasF (l : Nat → Int) (n : Nat) (d : Int) : Bool := (List.range n).any fun i => l i == d
theorem hasF_iff {l : Nat → Int} {n : Nat} {d : Int} : hasF l n d = true ↔ ∃ i, i < n ∧ l i = d := by
  unfold hasF
  simp [List.any_eq_true]
theorem hasF_no {l : Nat → Int} {n : Nat} {d : Int} (h : ∀ i, i < n → l i ≠ d) : hasF l n d = false := by
  rcases Bool.eq_false_or_eq_true (hasF l n d) with q | q
  · obtain ⟨i, h1, h2⟩ := hasF_iff.1 q
    exact absurd h2 (h i h1)
  · exact q

set_option maxHeartbeats 3200000 in
theorem has_any (w : World) (V : Value) (n : Nat) (l : Nat → Int) (hV : Rd w V n l) (d : Int) (hn : n ≤ 1000) :
    Calls Try.prog 51 #[V, .int .i64 d] w fun e w' => e = .returned (.bool (hasF l n d)) ∧ w = w' := by
  obtain ⟨A, cap, rfl, r⟩ := hV
  have HR := Lib.hid r
  clear r
  go_enter Try.func51, Try.ntmps51
  go_wp2_with fail
  go_loopw [5] (fun u wr => ∃ i : Nat, u = .int .i64 (i : Int) ∧ i ≤ n ∧ Hid (∀ j, j < i → l j ≠ d) ∧ wr = w) (fun u _ => n - (intOf u).toNat)
  case atStart => exact ⟨0, rfl, Nat.zero_le _, Lib.hid fun j h => by omega, rfl⟩
  case round =>
    obtain ⟨i, rfl, hi, hno, rfl⟩ := hrel
    by_cases hlt : i < n
    · have d1 : (i : Int) < (n : Int) := by omega
      obtain ⟨y, rfl, hy, hc⟩ := HR.out (by omega)
      have cr := hc i hlt
      clear hc
      by_cases hq : l i = d
      · have q1 : (l i == d) = true := by simpa using hq
        have HF : Hid (hasF l n d = true) := Lib.hid (hasF_iff.2 ⟨i, hlt, hq⟩)
        clear hq
        go_wp2_with fail
        go_ret
        exact ⟨by rw [HF.out]; rfl, rfl⟩
      · have q1 : (l i == d) = false := by simpa using hq
        have HX : Hid (∀ j, j < i + 1 → l j ≠ d) := Lib.hid fun j hj => by
          rcases Nat.lt_or_ge j i with q | q
          · exact hno.out j q
          · rw [show j = i by omega]; exact hq
        clear hq
        go_wp2_with fail
        go_roundw
        case rel => exact ⟨i + 1, by simp, by omega, HX, by first | rfl | trivial⟩
        case measure => simp [intOf]; omega
    · have d1 : ¬ ((i : Int) < (n : Int)) := by omega
      obtain rfl : i = n := by omega
      have HF : Hid (hasF l i d = false) := Lib.hid (hasF_no hno.out)
      go_wp2_with fail
      go_ret
      exact ⟨by rw [HF.out]; rfl, rfl⟩

theorem wpList_appI {w : World} {ops : Array Oper} {rest : List Oper} {o : Oper} {a : Act} {Q : Exit → Act → World → Prop} (hgd : o.guard = none) (s x : Operand)
    (ho : o.op = .call { callee := .builtin .append, args := #[s, x], argTypes := #[22, 22] })
    (v : Value) (n : Nat) (g : Nat → Int) (hs : a.eval s = v) (h : Ow w v n g) (A : Option Addr) (m c : Nat) (y : Nat → Int) (hx : a.eval x = .slice A m c) (hr : SrcI w A m y) (hn : n + m ≤ 100000)
    (hQ : ∀ v' w', Ow w' v' (n + m) (cat g n y) → w.grownBy w' v.ownBlock → (v'.ownBlock = v.ownBlock ∨ v'.ownBlock = some w.heap.size) → wpList Try.prog ops Q rest (a.put o.dst v') w') :
    wpList Try.prog ops Q (o :: rest) a w := by
  obtain ⟨v', w', hrun, h2, h3, h4⟩ := run_appI w o.type v n g h A m c y hr hn
  refine wpList_plain hgd fun _ hK => ?_
  unfold Oper.wp execOp
  simp only [ho, resolve, invoke, builtin, Sem.run_bind, Sem.run_pure, Result.andThen_ok, List.map_toArray, List.map_cons, List.map_nil, hs, hx, hrun]
  exact hK _ _ (hQ v' w' h2 h3 h4)

theorem mod_next {i n : Nat} (h : i < n) : ∃ j : Nat, ((i : Int) + 1) % (n : Int) = (j : Int) ∧ j = (i + 1) % n ∧ j < n :=
  ⟨(i + 1) % n, by rw [Int.natCast_emod, Int.natCast_add]; rfl, rfl, Nat.mod_lt _ (by omega)⟩

set_option maxHeartbeats 12800000 in
theorem refRound1_ok (w : World) (N v : Int) (T X C V : Value) (m n : Nat) (t x c l : Nat → Int) (hT : Rd w T m t) (hX : Rd w X m x) (hC : Rd w C m c) (hV : Rd w V n l) (hm : m ≤ 200) (hn : n ≤ 200) (hcap : 0 < n → ∃ lb lp, V = .slice (some ⟨lb, 0, none⟩) n lp ∧ n ≤ lp)
    (hv : ∀ i, i < n → 0 ≤ l i ∧ l i < m ∧ t (l i).toNat = v) (hi : ∀ i j, i < j → j < n → l i ≠ l j) (ha : ∀ d, d < m → t d = v → ∃ i, i < n ∧ l i = (d : Int)) :
    Calls Try.prog 39 #[.agg #[.int .i64 N, T, X, C], .int .i64 v, V] w fun e w' => ∃ X' x', e = .returned (.tuple #[.agg #[.int .i64 N, T, X', C], .int .i64 0]) ∧ Ow w' X' m x' ∧ (∀ k, X'.ownBlock = some k → w.heap.size ≤ k) ∧
      (∀ i, i < n → x' (l i).toNat = l ((i + 1) % n)) ∧ (∀ d, d < m → t d ≠ v → x' d = x d) ∧ Below w.heap.size w w' := by
  obtain ⟨TA, tp, rfl, rt⟩ := id hT
  obtain ⟨XA, xp, rfl, rx⟩ := id hX
  obtain ⟨CA, cp, rfl, -⟩ := id hC
  obtain ⟨LA, lp, rfl, rl⟩ := id hV
  have HCP := Lib.hid hcap
  clear hcap
  have HT := Lib.hid rt
  have HX := Lib.hid rx
  have HL := Lib.hid rl
  have HV := Lib.hid hv
  have HI := Lib.hid hi
  have HA := Lib.hid ha
  clear rt rx rl hv hi ha
  go_enter Try.func39, Try.ntmps39
  go_upto_region 1 with fail
  obtain ⟨w0, hw0, N0, B0⟩ := net_enter N hT hX hC
  have s0 : w0.heap.size = w.heap.size + 1 := by rw [← hw0]; simp
  rw [hw0]
  clear hw0
  have QQ : Box (w0.alloc (.cells #[.int .i64 0, .slice none 0 0, .slice none 0 0, .slice none 0 0] 25)) w0.heap.size 0 (.slice none 0 0) (.slice none 0 0) (.slice none 0 0) := heap_alloc_new _ _
  have b1 := below_new w0 (.cells #[.int .i64 0, .slice none 0 0, .slice none 0 0, .slice none 0 0] 25)
  rw [s0] at QQ
  generalize (w0.alloc (.cells #[.int .i64 0, .slice none 0 0, .slice none 0 0, .slice none 0 0] 25)) = w1 at *
  have N1 := N0.below b1 (Nat.le_refl _)
  have B1 := B0.trans (b1.mono B0.size)
  clear N0 B0 b1 hT hX hC s0
  obtain ⟨p, hp⟩ : ∃ p, p = w.heap.size := ⟨_, rfl⟩
  rw [← hp] at N1 QQ ⊢
  have hpB : w.heap.size ≤ p := by omega
  have HP := Lib.hid hp
  clear hp
  go_wp2_with fail
  go_loopw [8] (fun u wr => ∃ i : Nat, u = .int .i64 (i : Int) ∧ i ≤ n ∧ NetAt wr p N (.slice TA m tp) (.slice XA m xp) (.slice CA m cp) m t x c ∧ Box wr (p + 1) 0 (.slice none 0 0) (.slice none 0 0) (.slice none 0 0) ∧ Below w.heap.size w wr) (fun u _ => n - (intOf u).toNat)
  case atStart => exact ⟨0, rfl, Nat.zero_le _, N1, QQ, B1⟩
  case round =>
    clear N1 QQ B1
    obtain ⟨i, rfl, hin, N1, QQ, B1⟩ := hrel
    have c1 := N1.c1
    by_cases hlt : i < n
    · have d1 : (i : Int) < (n : Int) := by omega
      obtain ⟨y, rfl, hy, hc⟩ := HL.out (by omega)
      have cl := rd_cell B1 hy (Nat.le_refl _) (hc i hlt)
      obtain ⟨v1, v2, v3⟩ := HV.out i hlt
      obtain ⟨a, ea⟩ : ∃ a : Nat, l i = (a : Int) := ⟨(l i).toNat, by omega⟩
      have e2 : (l i).toNat = a := by omega
      rw [e2] at v3
      rw [ea] at cl v2
      have am : a < m := by omega
      obtain ⟨z, rfl, hz, hd⟩ := HT.out (by omega)
      have ct := rd_cell B1 hz (Nat.le_refl _) (hd a am)
      rw [v3] at ct
      clear hc hd v1 v3 ea e2
      have q1 : decide ((a : Int) < 0) = false := by simp
      have q2 : decide ((a : Int) ≥ (m : Int)) = false := by simp; omega
      have q2' : decide (m ≤ a) = false := by simp; omega
      have q3 : (v != v) = false := by simp
      go_upto_region 4 with fail
      go_big_quiet (fail)
      go_wp2_with fail
      go_roundw
      case rel => exact ⟨i + 1, by simp, by omega, ⟨N1.box, N1.rt, N1.rx, N1.rc⟩, QQ, ⟨B1.os, B1.tape, B1.output, B1.size, B1.block⟩⟩
      case measure => simp [intOf]; omega
    · have d1 : ¬ ((i : Int) < (n : Int)) := by omega
      obtain rfl : n = i := by omega
      clear hlt hin c1
      go_wp2_with fail
      go_loopw [9] (fun u wr => ∃ i : Nat, u = .int .i64 (i : Int) ∧ i ≤ n ∧ NetAt wr p N (.slice TA m tp) (.slice XA m xp) (.slice CA m cp) m t x c ∧ Box wr (p + 1) 0 (.slice none 0 0) (.slice none 0 0) (.slice none 0 0) ∧ Below w.heap.size w wr) (fun u _ => n - (intOf u).toNat)
      case atStart => exact ⟨0, rfl, Nat.zero_le _, N1, QQ, B1⟩
      case round =>
        clear N1 QQ B1
        obtain ⟨i, rfl, hin, N1, QQ, B1⟩ := hrel
        by_cases hlt : i < n
        · have d2 : (i : Int) < (n : Int) := by omega
          obtain ⟨y, rfl, hy, hc⟩ := HL.out (by omega)
          obtain ⟨lb, lq, eV, hlp⟩ := HCP.out (by omega)
          injection eV with eV1 _ eV3
          injection eV1 with eV1
          subst eV1 eV3
          have cl := rd_cell B1 hy (Nat.le_refl _) (hc i hlt)
          rw [add_head] at cl
          have hf : hasF l i (l i) = false := hasF_no fun j hj => HI.out j i hj hlt
          have HR : Hid (∀ W : World, (∀ b, b < w.heap.size → W.heap[b]? = wr.heap[b]?) → wr.heap.size ≤ W.heap.size → Rd W (.slice (some ⟨lb, 0, none⟩) i lp) i l) := Lib.hid fun W h1 h2 => ⟨_, _, rfl, fun h0 => ⟨_, rfl, by have := B1.size; omega, fun j hj => by
            have h3 := rd_cell B1 hy (Nat.le_refl _) (hc j (by omega))
            have h4 := block_add ⟨lb, 0, none⟩ j
            have h5 := h1 lb hy
            have : W.cell? ((⟨lb, 0, none⟩ : Addr).add j) = wr.cell? ((⟨lb, 0, none⟩ : Addr).add j) := by
              unfold World.cell?
              rw [h4, h5]
            rw [this]; exact h3⟩⟩
          have hilp : (i : Int) ≤ (lp : Int) := by omega
          clear hc
          go_upto_region 9 with fail
          go_big_quiet (exact (has_any _ _ i l (HR.out _ (by intro _ _; rfl) (by exact Nat.le_refl _)) (l i) (by omega)).mono fun e w' h => ⟨h.1.trans (by rw [hf]), _, h.2.symm⟩)
          go_wp2_with fail
          go_roundw
          case rel => exact ⟨i + 1, by simp, by omega, ⟨N1.box, N1.rt, N1.rx, N1.rc⟩, QQ, ⟨B1.os, B1.tape, B1.output, B1.size, B1.block⟩⟩
          case measure => simp [intOf]; omega
        · have d2 : ¬ ((i : Int) < (n : Int)) := by omega
          obtain rfl : n = i := by omega
          clear hlt hin
          go_wp2_with fail
          go_loopw [10] (fun u wr => ∃ i : Nat, u = .int .i64 (i : Int) ∧ i ≤ m ∧ NetAt wr p N (.slice TA m tp) (.slice XA m xp) (.slice CA m cp) m t x c ∧ Box wr (p + 1) 0 (.slice none 0 0) (.slice none 0 0) (.slice none 0 0) ∧ Below w.heap.size w wr) (fun u _ => m - (intOf u).toNat)
          case atStart => exact ⟨0, rfl, Nat.zero_le _, N1, QQ, B1⟩
          case round =>
            clear N1 QQ B1 d1 d2
            obtain ⟨i, rfl, him, N1, QQ, B1⟩ := hrel
            have c1 := N1.c1
            by_cases hlt : i < m
            · have d1 : (i : Int) < (m : Int) := by omega
              obtain ⟨z, rfl, hz, hd⟩ := HT.out (by omega)
              have ct := rd_cell B1 hz (Nat.le_refl _) (hd i hlt)
              have HR : Hid (Rd wr (.slice LA n lp) n l) := Lib.hid (Rd.below ⟨_, _, rfl, HL.out⟩ B1 (Nat.le_refl _))
              clear hd
              by_cases hq : t i = v
              · have q1 : (t i == v) = true := by simpa using hq
                have hf : hasF l n (i : Int) = true := hasF_iff.2 (HA.out i hlt hq)
                clear hq
                go_wp2_with (go_at_call 51; refine (has_any _ _ n l HR.out (i : Int) (by omega)).mono ?_; rintro e w2 ⟨rfl, rfl⟩; rw [hf])
                go_roundw
                case rel => exact ⟨i + 1, by simp, by omega, N1, QQ, B1⟩
                case measure => simp [intOf]; omega
              · have q1 : (t i == v) = false := by simpa using hq
                clear hq
                go_wp2_with fail
                go_roundw
                case rel => exact ⟨i + 1, by simp, by omega, N1, QQ, B1⟩
                case measure => simp [intOf]; omega
            · have d1 : ¬ ((i : Int) < (m : Int)) := by omega
              obtain rfl : m = i := by omega
              clear hlt him
              go_upto_region 16 with fail
              clear c1
              have OE : Ow (wr.alloc (.cells #[] 3)) (.slice (some ⟨wr.heap.size, 0, none⟩) 0 0) 0 (fun _ => 0) := Ow.empty wr _
              have bE : Below wr.heap.size wr (wr.alloc (.cells #[] 3)) := below_new _ _
              have HS : Hid (SrcI (wr.alloc (.cells #[] 3)) XA m x) := Lib.hid (N1.rx.below bE (Nat.le_refl _)).srcI
              have pl := N1.lt
              have c2 := N1.c2
              have sE : Hid ((wr.alloc (.cells #[] 3)).heap.size = wr.heap.size + 1) := Lib.hid (by simp)
              have F2 : Hid (wr.frozen? ⟨p, 2, none⟩ = false) := Lib.hid (blk_frozen N1.box 2)
              go_upto_region 17 with (at_builtin; refine wpList_appI (o := ⟨some 85, _, _, _, _, _⟩) rfl _ _ rfl (.slice (some ⟨wr.heap.size, 0, none⟩) 0 0) 0 (fun _ => 0) rfl OE XA m xp x rfl HS.out (by omega) ?_; intro X' w2 OX g2 l2; rw [Nat.zero_add] at OX; obtain ⟨A', c', rfl⟩ := OX.sliced; have b2 : Below wr.heap.size wr w2 := (Below.grown bE g2 (by rw [sE.out]; omega) (fun k hk => by simp [Value.ownBlock] at hk; omega)); have k1 := (b2.cell (p := ⟨p, 2, none⟩) pl).trans c2; have k3 := (b2.frozen (p := ⟨p, 2, none⟩) pl).trans F2.out; clear bE g2 OE c2)
              have LX : Hid (∀ k, (Value.slice A' m c').ownBlock = some k → wr.heap.size ≤ k) := Lib.hid fun k hk => by
                rcases l2 with e | e <;> rw [hk] at e <;> injection e with e
                · have e : k = wr.heap.size := e
                  omega
                · have := sE.out; omega
              replace OX := OX.congr (x' := x) (fun j hj => by rw [cat_hi (Nat.zero_le _), Nat.sub_zero])
              have hne : ∀ k, (Value.slice A' m c').ownBlock = some k → k ≠ p ∧ k ≠ p + 1 := fun k hk => by have := LX.out k hk; have := blk_lt QQ; omega
              have X3 : Box (w2.setCell ⟨p, 2, none⟩ (.slice A' m c')) p N (.slice TA m tp) (.slice A' m c') (.slice CA m cp) := blk_set (i := 2) (N1.box.below b2 (Nat.le_refl _)) _
              have Q3 : Box (w2.setCell ⟨p, 2, none⟩ (.slice A' m c')) (p + 1) 0 (.slice none 0 0) (.slice none 0 0) (.slice none 0 0) := (Below.heap_setCell _ _ _ _ (by simp)).trans (QQ.below b2 (Nat.le_refl _))
              have O3 : Ow (w2.setCell ⟨p, 2, none⟩ (.slice A' m c') ) (.slice A' m c') m x := OX.keep fun k hk => Below.heap_setCell _ _ _ _ (hne k hk).1
              have B3 := (B1.trans (b2.mono B1.size)).setCell (p := ⟨p, 2, none⟩) hpB (.slice A' m c')
              have LW : Hid (∀ k, (Value.slice A' m c').ownBlock = some k → w.heap.size ≤ k) := Lib.hid fun k hk => Nat.le_trans B1.size (LX.out k hk)
              have NE : Hid (∀ k, (Value.slice A' m c').ownBlock = some k → k ≠ p ∧ k ≠ p + 1) := Lib.hid hne
              clear N1 QQ B1 OX b2 k1 k3 l2 pl hne
              go_wp2_with fail
              generalize w2.setCell ⟨p, 2, none⟩ (.slice A' m c') = w3 at *
              go_loopw [11] (fun u wr => ∃ (i : Nat) (x' : Nat → Int), u = .int .i64 (i : Int) ∧ i ≤ n ∧ Hid ((∀ j, j < i → x' (l j).toNat = l ((j + 1) % n)) ∧ ∀ d, d < m → (∀ j, j < i → l j ≠ (d : Int)) → x' d = x d) ∧ Ow wr (.slice A' m c') m x' ∧ Box wr p N (.slice TA m tp) (.slice A' m c') (.slice CA m cp) ∧ Box wr (p + 1) 0 (.slice none 0 0) (.slice none 0 0) (.slice none 0 0) ∧ Below w.heap.size w wr) (fun u _ => n - (intOf u).toNat)
              case atStart => exact ⟨0, x, rfl, Nat.zero_le _, Lib.hid ⟨fun j h => by omega, fun d _ _ => rfl⟩, O3, X3, Q3, B3⟩
              case round =>
                clear O3 X3 Q3 B3
                obtain ⟨i, x', rfl, hin, hx', O3, X3, Q3, B3⟩ := hrel
                by_cases hlt : i < n
                · have d2 : (i : Int) < (n : Int) := by omega
                  obtain ⟨y, rfl, hy, hc⟩ := HL.out (by omega)
                  obtain ⟨nx, en, en2, ln⟩ := mod_next hlt
                  have tm : ((i : Int) + 1).tmod (n : Int) = (nx : Int) := by rw [Int.tmod_eq_emod_of_nonneg (by omega)]; exact en
                  have n0 : (0 : Int) < (n : Int) := by omega
                  have wi : IntKind.i64.wrap ((i : Int) + 1) = (i : Int) + 1 := by rw [IntKind.wrap_i64]; omega
                  have ix : (0 : Int) ≤ (nx : Int) := by omega
                  have nn0 : ¬ ((n : Int) = 0) := by omega
                  have nnn : ¬ (n = 0) := by omega
                  obtain ⟨v1, v2, v3⟩ := HV.out i hlt
                  obtain ⟨a, ea⟩ : ∃ a : Nat, l i = (a : Int) := ⟨(l i).toNat, by omega⟩
                  have am : a < m := by omega
                  have cl := rd_cell B3 hy (Nat.le_refl _) (hc i hlt)
                  rw [ea] at cl
                  have cn := rd_cell B3 hy (Nat.le_refl _) (hc nx ln)
                  obtain ⟨b', cc, eb, lb⟩ := O3.form (by omega)
                  injection eb with eb1 eb2 eb3
                  subst eb1 eb3
                  have ne := NE.out b' rfl
                  have lw := LW.out b' rfl
                  have cx : wr.cell? ⟨p, 2, none⟩ = some (.slice (some ⟨b', 0, none⟩) m c') := blk_cell X3 2
                  have ca := O3.cell am
                  have fa := O3.frozen a
                  have a2 : (a : Int) < (m : Int) := by omega
                  have n2 : (nx : Int) < (n : Int) := by omega
                  have HO : Hid (Ow (wr.setCell ⟨b', a, none⟩ (.int .i64 (l nx))) (.slice (some ⟨b', 0, none⟩) m c') m (upd x' a (l nx))) := Lib.hid (O3.set am (l nx))
                  have HX2 : Hid (Box (wr.setCell ⟨b', a, none⟩ (.int .i64 (l nx))) p N (.slice TA m tp) (.slice (some ⟨b', 0, none⟩) m c') (.slice CA m cp)) := Lib.hid ((Below.heap_setCell _ _ _ _ (Ne.symm ne.1)).trans X3)
                  have HQ2 : Hid (Box (wr.setCell ⟨b', a, none⟩ (.int .i64 (l nx))) (p + 1) 0 (.slice none 0 0) (.slice none 0 0) (.slice none 0 0)) := Lib.hid ((Below.heap_setCell _ _ _ _ (Ne.symm ne.2)).trans Q3)
                  have HB2 : Hid (Below w.heap.size w (wr.setCell ⟨b', a, none⟩ (.int .i64 (l nx)))) := Lib.hid (B3.setCell (p := ⟨b', a, none⟩) lw _)
                  have HF2 : Hid ((∀ j, j < i + 1 → upd x' a (l nx) (l j).toNat = l ((j + 1) % n)) ∧ ∀ d, d < m → (∀ j, j < i + 1 → l j ≠ (d : Int)) → upd x' a (l nx) d = x d) := Lib.hid ⟨fun j hj => by
                    rcases Nat.lt_or_ge j i with q | q
                    · have h1 := HI.out j i q hlt
                      have h2 := HV.out j (by omega)
                      rw [upd_ne (by omega)]
                      exact hx'.out.1 j q
                    · rw [show j = i by omega, show (l i).toNat = a by omega, upd_same, ← en2], fun d hd h => by
                    have := h i (by omega)
                    rw [upd_ne (by omega)]
                    exact hx'.out.2 d hd fun j hj => h j (by omega)⟩
                  clear hc O3 X3 Q3 B3 hx' v1 v2 v3 ea en2
                  go_upto_region 20 with fail
                  refine still_tail 15 (by kernel_rfl) (by kernel_rfl) ?_
                  simp only [List.take_succ_cons, List.take_zero, List.drop_succ_cons, List.drop_zero]
                  repeat still_step
                  with_reducible refine wpStill_nil ?_
                  go_wp2_with fail
                  go_roundw
                  case rel => exact ⟨i + 1, _, by simp, by omega, HF2, HO.out.keep fun _ _ => rfl, HX2.out, HQ2.out, ⟨HB2.out.os, HB2.out.tape, HB2.out.output, HB2.out.size, HB2.out.block⟩⟩
                  case measure => simp [intOf]; omega
                · have d2 : ¬ ((i : Int) < (n : Int)) := by omega
                  obtain rfl : n = i := by omega
                  have c0 : wr.cell? ⟨p, 0, none⟩ = some (.int .i64 N) := blk_cell X3 0
                  have c1 : wr.cell? ⟨p, 1, none⟩ = some (.slice TA m tp) := blk_cell X3 1
                  have c2 : wr.cell? ⟨p, 2, none⟩ = some (.slice A' m c') := blk_cell X3 2
                  have c3 : wr.cell? ⟨p, 3, none⟩ = some (.slice CA m cp) := blk_cell X3 3
                  have r0 : wr.cell? ⟨p + 1, 0, none⟩ = some (.int .i64 0) := blk_cell Q3 0
                  have r1 : wr.cell? ⟨p + 1, 1, none⟩ = some (.slice none 0 0) := blk_cell Q3 1
                  have r2 : wr.cell? ⟨p + 1, 2, none⟩ = some (.slice none 0 0) := blk_cell Q3 2
                  have r3 : wr.cell? ⟨p + 1, 3, none⟩ = some (.slice none 0 0) := blk_cell Q3 3
                  have f0 := blk_frozen Q3 0
                  have f1 := blk_frozen Q3 1
                  have f2 := blk_frozen Q3 2
                  have f3 := blk_frozen Q3 3
                  have RB : Hid (Box (put4 wr (p + 1) N (.slice TA m tp) (.slice A' m c') (.slice CA m cp)) (p + 1) N (.slice TA m tp) (.slice A' m c') (.slice CA m cp)) := Lib.hid (put4_box Q3 _ _ _ _)
                  have FB : Hid (Below w.heap.size w (put4 wr (p + 1) N (.slice TA m tp) (.slice A' m c') (.slice CA m cp))) := Lib.hid (put4_below B3 (by omega) _ _ _ _)
                  have FO : Hid (Ow (put4 wr (p + 1) N (.slice TA m tp) (.slice A' m c') (.slice CA m cp)) (.slice A' m c') m x') := Lib.hid (O3.keep fun k hk => put4_ne (NE.out k hk).2)
                  have DONE : Hid ((∀ i, i < n → x' (l i).toNat = l ((i + 1) % n)) ∧ ∀ d, d < m → t d ≠ v → x' d = x d) := Lib.hid ⟨hx'.out.1, fun d hd h => hx'.out.2 d hd fun j hj e => h (by
                    have := (HV.out j hj).2.2
                    rw [e] at this
                    exact this)⟩
                  clear O3 X3 Q3 B3 hx'
                  unfold put4 at RB FB FO
                  go_wp2_with fail
                  generalize (((wr.setCell ⟨p + 1, 0, none⟩ (.int .i64 N)).setCell ⟨p + 1, 1, none⟩ (.slice TA m tp)).setCell ⟨p + 1, 2, none⟩ (.slice A' m c')).setCell ⟨p + 1, 3, none⟩ (.slice CA m cp) = w9 at *
                  have RBx := RB.out
                  have z0 : w9.cell? ⟨p + 1, 0, none⟩ = some (.int .i64 N) := blk_cell RBx 0
                  have z1 : w9.cell? ⟨p + 1, 1, none⟩ = some (.slice TA m tp) := blk_cell RBx 1
                  have z2 : w9.cell? ⟨p + 1, 2, none⟩ = some (.slice A' m c') := blk_cell RBx 2
                  have z3 : w9.cell? ⟨p + 1, 3, none⟩ = some (.slice CA m cp) := blk_cell RBx 3
                  exact bodyPost_ret (v := .tuple #[.agg #[.int .i64 N, .slice TA m tp, .slice A' m c', .slice CA m cp], .int .i64 0]) (by simp [results, Try.results39, go_sem, z0, z1, z2, z3]) rfl ⟨_, rfl, x', FO.out, LW.out, DONE.out.1, DONE.out.2, FB.out⟩
end Go.Proofs.Ytcejjcopchkmeaa.Ro
namespace Go.Proofs.Ytcejjcopchkmeaa.Ro
open Go.RowKit Go.Proofs Go.Maps
set_option linter.unusedVariables false
set_option maxRecDepth 100000
set_option linter.unusedSimpArgs false

set_option maxRecDepth 100000 in
set_option maxHeartbeats 12800000 in
theorem refEdge_ok (w : World) (N m lb : Nat) (T X C : Value) (t x c : Nat → Int) (l0 l1 l2 l3 : Int) (hT : Rd w T m t) (hX : Rd w X m x) (hC : Rd w C m c) (hL : w.heap[lb]? = some (.cells #[.int .i64 l0, .int .i64 l1, .int .i64 l2, .int .i64 l3] 3 (0, 0)))
    (hm : m ≤ 200) (h0 : 0 ≤ l0 ∧ l0 < N) (h1 : 0 ≤ l1 ∧ l1 < N) (h2 : l2 ≤ 2147483648) (h3 : l3 ≤ 2147483648) :
    Calls Try.prog 38 #[.agg #[.int .i64 (N : Int), T, X, C], .slice (some ⟨lb, 0, none⟩) 4 4] w fun e w' => ∃ T' X' C', e = .returned (.tuple #[.agg #[.int .i64 (N : Int), T', X', C'], .int .i64 0]) ∧ Rows w' w.heap.size T' X' C' (m + 2) (cat t m (two l0 l1)) (cat x m (two (m : Int) ((m : Int) + 1))) (cat c m (two l2 l3)) ∧ Below w.heap.size w w' := by
  obtain ⟨TA, tp, rfl, -⟩ := id hT
  obtain ⟨XA, xp, rfl, -⟩ := id hX
  obtain ⟨CA, cp, rfl, -⟩ := id hC
  have ll := blk_lt hL
  have HL : Hid (∀ W, Below w.heap.size w W → W.cell? ⟨lb, 0, none⟩ = some (.int .i64 l0) ∧ W.cell? ⟨lb, 1, none⟩ = some (.int .i64 l1) ∧ W.cell? ⟨lb, 2, none⟩ = some (.int .i64 l2) ∧ W.cell? ⟨lb, 3, none⟩ = some (.int .i64 l3)) := Lib.hid fun W b => by
    have h := (b.block lb ll).trans hL
    exact ⟨by rw [blk_cell h]; rfl, by rw [blk_cell h]; rfl, by rw [blk_cell h]; rfl, by rw [blk_cell h]; rfl⟩
  have HXC := Lib.hid (And.intro hX hC)
  have q0 : decide ((m : Int) ≥ 240) = false := by simp; omega
  have q0' : decide (240 ≤ m) = false := by simp; omega
  have q1 : decide (l0 < 0) = false := by simp; omega
  have q2 : decide (l1 < 0) = false := by simp; omega
  have q3 : decide (l0 ≥ (N : Int)) = false := by simp; omega
  have q4 : decide (l1 ≥ (N : Int)) = false := by simp; omega
  have q5 : decide (l2 > 2147483648) = false := by simp; omega
  have q6 : decide (l3 > 2147483648) = false := by simp; omega
  clear hL
  go_enter Try.func38, Try.ntmps38
  go_upto_region 1 with fail
  obtain ⟨w0, hw0, N0, B0⟩ := net_enter (N : Int) hT hX hC
  have s0 : w0.heap.size = w.heap.size + 1 := by rw [← hw0]; simp
  rw [hw0]
  clear hw0
  have QQ : Box (w0.alloc (.cells #[.int .i64 0, .slice none 0 0, .slice none 0 0, .slice none 0 0] 25)) w0.heap.size 0 (.slice none 0 0) (.slice none 0 0) (.slice none 0 0) := heap_alloc_new _ _
  have b1 := below_new w0 (.cells #[.int .i64 0, .slice none 0 0, .slice none 0 0, .slice none 0 0] 25)
  rw [s0] at QQ
  generalize (w0.alloc (.cells #[.int .i64 0, .slice none 0 0, .slice none 0 0, .slice none 0 0] 25)) = w1 at *
  have N1 := N0.below b1 (Nat.le_refl _)
  have B1 := B0.trans (b1.mono B0.size)
  clear N0 B0 b1 hT hX hC s0
  obtain ⟨p, hp⟩ : ∃ p, p = w.heap.size := ⟨_, rfl⟩
  rw [← hp] at N1 QQ ⊢
  have hpB : w.heap.size ≤ p := by omega
  have hpl : p ≠ lb := by omega
  have HP := Lib.hid hp
  clear hp
  have c0 := N1.c0
  have c1 := N1.c1
  obtain ⟨k0, k1, k2, k3⟩ := HL.out _ B1
  go_upto_region 3 with fail
  go_big_quiet (fail)
  go_upto_region 8 with fail
  have N2 : NetAt (w1.drewN nq) p (N : Int) (.slice TA m tp) (.slice XA m xp) (.slice CA m cp) m t x c := ⟨N1.box, N1.rt, N1.rx, N1.rc⟩
  have Q2 : Box (w1.drewN nq) (p + 1) 0 (.slice none 0 0) (.slice none 0 0) (.slice none 0 0) := QQ
  have B2 : Below w.heap.size w (w1.drewN nq) := ⟨B1.os, B1.tape, B1.output, B1.size, B1.block⟩
  clear N1 QQ B1 c0 c1 k0 k1 k2 k3 q1 q2 q3 q4 q5 q6 q0 q0'
  generalize w1.drewN nq = w2 at *
  clear w1
  obtain ⟨k0, k1, k2, k3⟩ := HL.out _ B2
  have pl := N2.lt
  have llw := Nat.lt_of_lt_of_le ll B2.size
  refine Code.wp_mono NoPanic.imp (edge8 w2 p lb tp m TA l0 l1 t _ _ _ _ _ _ _ _ _ _ _ _ _ _ _ _ _ _ _ _ _ _ _ _ _ _ _ _ _ _ _ _ _ _ _ _ _ _ _ _ _ _ _ _ _ _ _ _ _ _ _ _ _ _ _ _ _ _ _ _ _ _ _ _ _ _ _ _ _ _ _ _ _ _ _ _ _ _ _ _ _ _ _ _ _ _ _ _ _ _ _ _ _ N2.c1 (blk_frozen N2.box 1) pl N2.rt k0 k1 llw hpl (by omega) ?_)
  intro u56 u57 u58 u59 u60 u61 u62 u63 u64 u65 u66 u67 u68 b3 c3 w3 b23 lb3 O3
  have X3 : Box (w3.setCell ⟨p, 1, none⟩ (.slice (some ⟨b3, 0, none⟩) (m + 2) c3)) p (N : Int) (.slice (some ⟨b3, 0, none⟩) (m + 2) c3) (.slice XA m xp) (.slice CA m cp) := blk_set (i := 1) (N2.box.below b23 (Nat.le_refl _)) _
  have Q3 : Box (w3.setCell ⟨p, 1, none⟩ (.slice (some ⟨b3, 0, none⟩) (m + 2) c3)) (p + 1) 0 (.slice none 0 0) (.slice none 0 0) (.slice none 0 0) := (Below.heap_setCell _ _ _ _ (by simp)).trans (Q2.below b23 (Nat.le_refl _))
  have T3 : Ow (w3.setCell ⟨p, 1, none⟩ (.slice (some ⟨b3, 0, none⟩) (m + 2) c3)) (.slice (some ⟨b3, 0, none⟩) (m + 2) c3) (m + 2) (cat t m (two l0 l1)) := O3.keep fun k hk => Below.heap_setCell _ _ _ _ (by have e : some b3 = some k := hk; injection e with e; show k ≠ p; omega)
  have B3 := (B2.trans (b23.mono B2.size)).setCell (p := ⟨p, 1, none⟩) hpB (.slice (some ⟨b3, 0, none⟩) (m + 2) c3)
  have lo3 : w.heap.size ≤ b3 ∧ b3 ≠ p ∧ b3 ≠ p + 1 := by have := B2.size; have := blk_lt Q2; omega
  clear N2 Q2 B2 k0 k1 k2 k3 pl llw O3 b23 lb3
  generalize w3.setCell ⟨p, 1, none⟩ (.slice (some ⟨b3, 0, none⟩) (m + 2) c3) = w4 at *
  clear w3
  have OE : Ow (w4.alloc (.cells #[] 3)) (.slice (some ⟨w4.heap.size, 0, none⟩) 0 0) 0 (fun _ => 0) := Ow.empty w4 _
  have bE : Below w4.heap.size w4 (w4.alloc (.cells #[] 3)) := below_new _ _
  have HS : Hid (SrcI (w4.alloc (.cells #[] 3)) XA m x) := Lib.hid ((HXC.out.1.below B3 (Nat.le_refl _)).below bE (Nat.le_refl _)).srcI
  have pl := blk_lt X3
  have c2 : w4.cell? ⟨p, 2, none⟩ = some (.slice XA m xp) := blk_cell X3 2
  have sE : Hid ((w4.alloc (.cells #[] 3)).heap.size = w4.heap.size + 1) := Lib.hid (by simp)
  have F2 : Hid (w4.frozen? ⟨p, 2, none⟩ = false) := Lib.hid (blk_frozen X3 2)
  go_upto_region 10 with (first
    | (at_builtin; refine wpList_appI (o := ⟨some 72, _, _, _, _, _⟩) rfl _ _ rfl (.slice (some ⟨w4.heap.size, 0, none⟩) 0 0) 0 (fun _ => 0) rfl OE XA m xp x rfl HS.out (by omega) ?_; intro V5 w5 O5 g5 l5; rw [Nat.zero_add] at O5; obtain ⟨A5, c5, rfl⟩ := O5.sliced; have b5 : Below w4.heap.size w4 w5 := (Below.grown bE g5 (by rw [sE.out]; omega) (fun k hk => by simp [Value.ownBlock] at hk; omega)); have k1 := (b5.cell (p := ⟨p, 2, none⟩) pl).trans c2; have pl5 : p < w5.heap.size := (Nat.lt_of_lt_of_le pl b5.size); have LV : Hid (∀ k, (Value.slice A5 m c5).ownBlock = some k → w4.heap.size ≤ k) := (Lib.hid fun k hk => by rcases l5 with e | e <;> rw [hk] at e <;> injection e with e <;> (try have e : k = w4.heap.size := e) <;> (try have := sE.out) <;> omega); have OD : Ow (w5.alloc (.cells #[.int .i64 (m : Int), .int .i64 ((m : Int) + 1)] 3)) (.slice (some ⟨w5.heap.size, 0, none⟩) 2 2) 2 (two (m : Int) ((m : Int) + 1)) := Ow.lit2 w5 _ _ _ rfl rfl; have bD := below_new w5 (.cells #[.int .i64 (m : Int), .int .i64 ((m : Int) + 1)] 3); have O5' := O5.below bD (Nat.le_refl _); have b6 := b5.trans (bD.mono b5.size); have sD : Hid ((w5.alloc (.cells #[.int .i64 (m : Int), .int .i64 ((m : Int) + 1)] 3)).heap.size = w5.heap.size + 1) := (Lib.hid (by simp)); have s5 : Hid (w4.heap.size ≤ w5.heap.size) := Lib.hid b5.size; clear bE g5 OE O5 bD l5)
    | (at_builtin; refine wpList_appI (o := ⟨some 77, _, _, _, _, _⟩) rfl _ _ rfl (.slice A5 m c5) m (cat (fun _ => 0) 0 x) rfl O5' (some ⟨w5.heap.size, 0, none⟩) 2 2 (two (m : Int) ((m : Int) + 1)) rfl OD.rd.srcI (by omega) ?_; intro V6 w6 O6 g6 l6; have b7 : Below w4.heap.size w4 w6 := (Below.grown b6 g6 (by rw [sD.out]; have := s5.out; omega) LV.out); have k4 := (b7.cell (p := ⟨p, 2, none⟩) pl).trans c2; have k5 := (b7.frozen (p := ⟨p, 2, none⟩) pl).trans F2.out; have LV6 : Hid (∀ k, V6.ownBlock = some k → w4.heap.size ≤ k) := (Lib.hid fun k hk => by rcases l6 with e | e; (rw [hk] at e; exact LV.out k e.symm); (rw [hk] at e; injection e with e; have := sD.out; have := s5.out; omega)); obtain ⟨b8, c8, rfl, lt8⟩ := O6.form (by omega); clear g6 l6 O5' OD b6))
  have lo8 := LV6.out b8 rfl
  replace O6 := O6.congr (x' := cat x m (two (m : Int) ((m : Int) + 1))) (fun j hj => by
    by_cases q : j < m
    · rw [cat_lo q, cat_lo q, cat_hi (Nat.zero_le _), Nat.sub_zero]
    · rw [cat_hi (by omega), cat_hi (by omega)])
  have lo8' : b8 ≠ p ∧ b8 ≠ p + 1 ∧ b8 ≠ b3 := by have := blk_lt Q3; have := T3.lt (k := b3) rfl; omega
  have X6 : Box (w6.setCell ⟨p, 2, none⟩ (.slice (some ⟨b8, 0, none⟩) (m + 2) c8)) p (N : Int) (.slice (some ⟨b3, 0, none⟩) (m + 2) c3) (.slice (some ⟨b8, 0, none⟩) (m + 2) c8) (.slice CA m cp) := blk_set (i := 2) (X3.below b7 (Nat.le_refl _)) _
  have Q6 : Box (w6.setCell ⟨p, 2, none⟩ (.slice (some ⟨b8, 0, none⟩) (m + 2) c8)) (p + 1) 0 (.slice none 0 0) (.slice none 0 0) (.slice none 0 0) := (Below.heap_setCell _ _ _ _ (by simp)).trans (Q3.below b7 (Nat.le_refl _))
  have T6 : Ow (w6.setCell ⟨p, 2, none⟩ (.slice (some ⟨b8, 0, none⟩) (m + 2) c8)) (.slice (some ⟨b3, 0, none⟩) (m + 2) c3) (m + 2) (cat t m (two l0 l1)) := (T3.below b7 (Nat.le_refl _)).keep fun k hk => Below.heap_setCell _ _ _ _ (by have e : some b3 = some k := hk; injection e with e; show k ≠ p; omega)
  have Y6 : Ow (w6.setCell ⟨p, 2, none⟩ (.slice (some ⟨b8, 0, none⟩) (m + 2) c8)) (.slice (some ⟨b8, 0, none⟩) (m + 2) c8) (m + 2) (cat x m (two (m : Int) ((m : Int) + 1))) := O6.keep fun k hk => Below.heap_setCell _ _ _ _ (by have e : some b8 = some k := hk; injection e with e; show k ≠ p; omega)
  have B6 := (B3.trans (b7.mono B3.size)).setCell (p := ⟨p, 2, none⟩) hpB (.slice (some ⟨b8, 0, none⟩) (m + 2) c8)
  have lo8w : w.heap.size ≤ b8 := Nat.le_trans B3.size lo8
  clear X3 Q3 T3 B3 O6 b7 k1 k4 k5 c2 LV LV6 HS sE F2 sD s5 pl pl5 lt8 lo8
  generalize w6.setCell ⟨p, 2, none⟩ (.slice (some ⟨b8, 0, none⟩) (m + 2) c8) = w7 at *
  obtain ⟨k0, k1, k2, k3⟩ := HL.out _ B6
  have pl := blk_lt X6
  have llw := Nat.lt_of_lt_of_le ll B6.size
  refine Code.wp_mono NoPanic.imp (edge10 w7 p lb cp m CA l2 l3 c _ _ _ _ _ _ _ _ _ _ _ _ _ _ _ _ _ _ _ _ _ _ _ _ _ _ _ _ _ _ _ _ _ _ _ _ _ _ _ _ _ _ _ _ _ _ _ _ _ _ _ _ _ _ _ _ _ _ _ _ _ _ _ _ _ _ _ _ _ _ _ _ _ _ _ _ _ _ _ _ _ _ _ _ _ _ _ _ _ _ _ _ _ (blk_cell X6 3) (blk_frozen X6 3) pl (HXC.out.2.below B6 (Nat.le_refl _)) k2 k3 llw hpl (by omega) ?_)
  intro u79 u80 u81 u82 u83 u84 u85 u86 u87 u88 u89 u90 u91 b9 c9 w9 b79 lb9 O9
  have X9 : Box (w9.setCell ⟨p, 3, none⟩ (.slice (some ⟨b9, 0, none⟩) (m + 2) c9)) p (N : Int) (.slice (some ⟨b3, 0, none⟩) (m + 2) c3) (.slice (some ⟨b8, 0, none⟩) (m + 2) c8) (.slice (some ⟨b9, 0, none⟩) (m + 2) c9) := blk_set (i := 3) (X6.below b79 (Nat.le_refl _)) _
  have Q9 : Box (w9.setCell ⟨p, 3, none⟩ (.slice (some ⟨b9, 0, none⟩) (m + 2) c9)) (p + 1) 0 (.slice none 0 0) (.slice none 0 0) (.slice none 0 0) := (Below.heap_setCell _ _ _ _ (by simp)).trans (Q6.below b79 (Nat.le_refl _))
  have h3 := T6.lt (k := b3) rfl
  have h8 := Y6.lt (k := b8) rfl
  have hq := blk_lt Q6
  have T9 := (T6.below b79 (Nat.le_refl _)).keep (w' := w9.setCell ⟨p, 3, none⟩ (.slice (some ⟨b9, 0, none⟩) (m + 2) c9)) fun k hk => Below.heap_setCell _ _ _ _ (by have e : some b3 = some k := hk; injection e with e; show k ≠ p; omega)
  have Y9 := (Y6.below b79 (Nat.le_refl _)).keep (w' := w9.setCell ⟨p, 3, none⟩ (.slice (some ⟨b9, 0, none⟩) (m + 2) c9)) fun k hk => Below.heap_setCell _ _ _ _ (by have e : some b8 = some k := hk; injection e with e; show k ≠ p; omega)
  have C9 := O9.keep (w' := w9.setCell ⟨p, 3, none⟩ (.slice (some ⟨b9, 0, none⟩) (m + 2) c9)) fun k hk => Below.heap_setCell _ _ _ _ (by have e : some b9 = some k := hk; injection e with e; show k ≠ p; omega)
  have B9 := (B6.trans (b79.mono B6.size)).setCell (p := ⟨p, 3, none⟩) hpB (.slice (some ⟨b9, 0, none⟩) (m + 2) c9)
  have lo9 : w.heap.size ≤ b9 ∧ b9 ≠ p ∧ b9 ≠ p + 1 ∧ b9 ≠ b3 ∧ b9 ≠ b8 := by have := B6.size; omega
  clear X6 Q6 T6 Y6 B6 O9 b79 lb9 k0 k1 k2 k3 pl llw h3 h8 hq
  generalize w9.setCell ⟨p, 3, none⟩ (.slice (some ⟨b9, 0, none⟩) (m + 2) c9) = wf at *
  have c0 : wf.cell? ⟨p, 0, none⟩ = some (.int .i64 (N : Int)) := blk_cell X9 0
  have c1 : wf.cell? ⟨p, 1, none⟩ = some (.slice (some ⟨b3, 0, none⟩) (m + 2) c3) := blk_cell X9 1
  have c2 : wf.cell? ⟨p, 2, none⟩ = some (.slice (some ⟨b8, 0, none⟩) (m + 2) c8) := blk_cell X9 2
  have c3' : wf.cell? ⟨p, 3, none⟩ = some (.slice (some ⟨b9, 0, none⟩) (m + 2) c9) := blk_cell X9 3
  have r0 : wf.cell? ⟨p + 1, 0, none⟩ = some (.int .i64 0) := blk_cell Q9 0
  have r1 : wf.cell? ⟨p + 1, 1, none⟩ = some (.slice none 0 0) := blk_cell Q9 1
  have r2 : wf.cell? ⟨p + 1, 2, none⟩ = some (.slice none 0 0) := blk_cell Q9 2
  have r3 : wf.cell? ⟨p + 1, 3, none⟩ = some (.slice none 0 0) := blk_cell Q9 3
  have f0 := blk_frozen Q9 0
  have f1 := blk_frozen Q9 1
  have f2 := blk_frozen Q9 2
  have f3 := blk_frozen Q9 3
  have own : ∀ b cc k, (Value.slice (some ⟨b, 0, none⟩) (m + 2) cc).ownBlock = some k → k = b := fun b cc k h => by
    have e : some b = some k := h
    injection e with e; exact e.symm
  have pn : ∀ k, k ≠ p + 1 → (put4 wf (p + 1) (N : Int) (.slice (some ⟨b3, 0, none⟩) (m + 2) c3) (.slice (some ⟨b8, 0, none⟩) (m + 2) c8) (.slice (some ⟨b9, 0, none⟩) (m + 2) c9)).heap[k]? = wf.heap[k]? := fun k hk => put4_ne hk
  have RR : Hid (Rows (put4 wf (p + 1) (N : Int) (.slice (some ⟨b3, 0, none⟩) (m + 2) c3) (.slice (some ⟨b8, 0, none⟩) (m + 2) c8) (.slice (some ⟨b9, 0, none⟩) (m + 2) c9)) w.heap.size (.slice (some ⟨b3, 0, none⟩) (m + 2) c3) (.slice (some ⟨b8, 0, none⟩) (m + 2) c8) (.slice (some ⟨b9, 0, none⟩) (m + 2) c9) (m + 2) (cat t m (two l0 l1)) (cat x m (two (m : Int) ((m : Int) + 1))) (cat c m (two l2 l3))) :=
    Lib.hid ⟨T9.keep fun k hk => pn k (by have := own _ _ _ hk; omega), Y9.keep fun k hk => pn k (by have := own _ _ _ hk; omega), C9.keep fun k hk => pn k (by have := own _ _ _ hk; omega),
      fun k hk => by have := own _ _ _ hk; omega, fun k hk => by have := own _ _ _ hk; omega, fun k hk => by have := own _ _ _ hk; omega,
      fun k hk hk' => by have := own _ _ _ hk; have := own _ _ _ hk'; omega, fun k hk hk' => by have := own _ _ _ hk; have := own _ _ _ hk'; omega, fun k hk hk' => by have := own _ _ _ hk; have := own _ _ _ hk'; omega⟩
  have RB : Hid (Box (put4 wf (p + 1) (N : Int) (.slice (some ⟨b3, 0, none⟩) (m + 2) c3) (.slice (some ⟨b8, 0, none⟩) (m + 2) c8) (.slice (some ⟨b9, 0, none⟩) (m + 2) c9)) (p + 1) (N : Int) (.slice (some ⟨b3, 0, none⟩) (m + 2) c3) (.slice (some ⟨b8, 0, none⟩) (m + 2) c8) (.slice (some ⟨b9, 0, none⟩) (m + 2) c9)) := Lib.hid (put4_box Q9 _ _ _ _)
  have FB : Hid (Below w.heap.size w (put4 wf (p + 1) (N : Int) (.slice (some ⟨b3, 0, none⟩) (m + 2) c3) (.slice (some ⟨b8, 0, none⟩) (m + 2) c8) (.slice (some ⟨b9, 0, none⟩) (m + 2) c9))) := Lib.hid (put4_below B9 (by omega) _ _ _ _)
  clear X9 Q9 T9 Y9 C9 B9 own pn
  unfold put4 at RR RB FB
  go_wp2_with fail
  generalize (((wf.setCell ⟨p + 1, 0, none⟩ (.int .i64 (N : Int))).setCell ⟨p + 1, 1, none⟩ (.slice (some ⟨b3, 0, none⟩) (m + 2) c3)).setCell ⟨p + 1, 2, none⟩ (.slice (some ⟨b8, 0, none⟩) (m + 2) c8)).setCell ⟨p + 1, 3, none⟩ (.slice (some ⟨b9, 0, none⟩) (m + 2) c9) = wg at *
  have RBx := RB.out
  have z0 : wg.cell? ⟨p + 1, 0, none⟩ = some (.int .i64 (N : Int)) := blk_cell RBx 0
  have z1 : wg.cell? ⟨p + 1, 1, none⟩ = some (.slice (some ⟨b3, 0, none⟩) (m + 2) c3) := blk_cell RBx 1
  have z2 : wg.cell? ⟨p + 1, 2, none⟩ = some (.slice (some ⟨b8, 0, none⟩) (m + 2) c8) := blk_cell RBx 2
  have z3 : wg.cell? ⟨p + 1, 3, none⟩ = some (.slice (some ⟨b9, 0, none⟩) (m + 2) c9) := blk_cell RBx 3
  exact bodyPost_ret (v := .tuple #[.agg #[.int .i64 (N : Int), .slice (some ⟨b3, 0, none⟩) (m + 2) c3, .slice (some ⟨b8, 0, none⟩) (m + 2) c8, .slice (some ⟨b9, 0, none⟩) (m + 2) c9], .int .i64 0]) (by simp [results, Try.results38, go_sem, z0, z1, z2, z3]) rfl ⟨_, _, _, rfl, RR.out, FB.out⟩
end Go.Proofs.Ytcejjcopchkmeaa.Ro
namespace Go.Proofs.Ytcejjcopchkmeaa.Ro
open Go.RowKit Go.Proofs Go.Maps
set_option linter.unusedVariables false
set_option maxRecDepth 100000
set_option linter.unusedSimpArgs false

/-- one of four operations that may come up -/
theorem held_four {P : Program} {md : Region.Mode} {Q : Exit → Act → World → Prop} {S : World → Prop} {l : List Oper} (i j k q : Nat) {n fuel : Nat} {listed : Array Bool} {a : Act} {w : World} (hn : n = fuel + 1) (hr : Region.ready md l.toArray listed = [i, j, k, q])
    (h1 : wpOne P md l.toArray Q S fuel (listed.setIfInBounds i true) (l.drop i) a w) (h2 : wpOne P md l.toArray Q S fuel (listed.setIfInBounds j true) (l.drop j) a w) (h3 : wpOne P md l.toArray Q S fuel (listed.setIfInBounds k true) (l.drop k) a w) (h4 : wpOne P md l.toArray Q S fuel (listed.setIfInBounds q true) (l.drop q) a w) : wpAnyH P md l.toArray Q S n listed a w := by
  subst hn
  refine wpAnyH_ready hr (by simp) ?_
  have one : ∀ (i : Nat) (rs : List Nat), wpOne P md l.toArray Q S fuel (listed.setIfInBounds i true) (l.drop i) a w → AllReadyH P md l.toArray Q S fuel listed a w rs → AllReadyH P md l.toArray Q S fuel listed a w (i :: rs) := fun i rs h hs => by
    rcases Nat.lt_or_ge i l.length with q | q
    · rw [List.drop_eq_getElem_cons q] at h
      exact AllReadyH.cons (o := l[i]) (by simp [q]) (fun K' hK => h K' (fun a w hS hW => hK a w hS (fun _ => hW))) hs
    · rw [List.drop_eq_nil_of_le q] at h; exact h.elim
  exact one i _ h1 (one j _ h2 (one k _ h3 (one q _ h4 AllReadyH.nil)))
theorem step_make {w : World} {ops : Array Oper} {o : Oper} {a : Act} {K : Act → World → Prop} {Q : Exit → Act → World → Prop} {E : Prop} (hgd : o.guard = none) (l c : Operand) (hop : o.op = Op.makeSlice 22 l c) (n : Nat) (hn : n ≤ 100000)
    (hl : a.eval l = .int .i64 (n : Int)) (hc : a.eval c = .int .i64 (n : Int)) (hK : K (a.put o.dst (.slice (some ⟨w.heap.size, 0, none⟩) n n)) (w.alloc (.cells (madeCells #[.int .i64 0] n) 3))) :
    if Region.wanted o (yielded ops a.tmps) = true then Oper.wp Try.prog o a w K Q else E := by
  have hw : Region.wanted o (yielded ops a.tmps) = true := by simp [Region.wanted, hgd]
  rw [if_pos hw]
  obtain ⟨i2, hi2, hz2, hsz2, hby2⟩ := info_parts (P := Try.prog) (e := 3) (z := .int .i64 0) (size := 1) (bytes := 8) (by kernel_rfl)
  have hrun := run_make_row (P := Try.prog) 22 3 i2 (.int .i64 0) Try.underlying22 hi2 hz2 hsz2 rfl .i64 .i64 n (by rw [hby2]; omega) (by omega) w
  unfold Oper.wp
  simp [execOp, hop, hl, hc, hrun, Result.andThen]
  exact hK
theorem Ow.zeros (w : World) (n : Nat) (hn : n ≤ 1000) : Ow (w.alloc (.cells (madeCells #[.int .i64 0] n) 3)) (.slice (some ⟨w.heap.size, 0, none⟩) n n) n (fun _ => 0) := by
  have e : (madeCells #[Value.int .i64 0] n).toList = List.replicate n (.int .i64 0) := toList_madeCells_one _ _
  have hs : (madeCells #[Value.int .i64 0] n).size = n := by rw [← Array.length_toList, e, List.length_replicate]
  refine Ow.lit w n (fun _ => 0) _ hs hn fun j hj => ?_
  rw [← Array.getElem?_toList, e, List.getElem?_replicate, if_pos hj]

/-- a net of the call's own, all in blocks from L on, each apart -/
structure Ring4 (w : World) (L q bT bX bC : Nat) (N : Int) (n : Nat) (t x c : Nat → Int) : Prop where
  box : Box w q N (.slice (some ⟨bT, 0, none⟩) n n) (.slice (some ⟨bX, 0, none⟩) n n) (.slice (some ⟨bC, 0, none⟩) n n)
  ot : Ow w (.slice (some ⟨bT, 0, none⟩) n n) n t
  ox : Ow w (.slice (some ⟨bX, 0, none⟩) n n) n x
  oc : Ow w (.slice (some ⟨bC, 0, none⟩) n n) n c
  tx : bT ≠ bX
  tc : bT ≠ bC
  xc : bX ≠ bC
  qt : q ≠ bT
  qx : q ≠ bX
  qc : q ≠ bC
  lq : L ≤ q
  lt : L ≤ bT
  lx : L ≤ bX
  lc : L ≤ bC
section
variable {w w' : World} {L q bT bX bC n : Nat} {N : Int} {t x c t' x' c' : Nat → Int}
theorem row_other {b b' : Nat} {y : Nat → Int} (h : Ow w (.slice (some ⟨b, 0, none⟩) n n) n y) (hne : b ≠ b') (i : Nat) (u : Value) : Ow (w.setCell ⟨b', i, none⟩ u) (.slice (some ⟨b, 0, none⟩) n n) n y :=
  h.keep fun k hk => Below.heap_setCell _ _ _ _ (by have hk : some b = some k := hk; injection hk with hk; show k ≠ b'; omega)
theorem Ring4.setT (h : Ring4 w L q bT bX bC N n t x c) {i : Nat} (hi : i < n) (u : Int) : Ring4 (w.setCell ⟨bT, i, none⟩ (.int .i64 u)) L q bT bX bC N n (upd t i u) x c :=
  ⟨(Below.heap_setCell _ _ _ _ h.qt).trans h.box, h.ot.set hi u, row_other h.ox h.tx.symm _ _, row_other h.oc h.tc.symm _ _, h.tx, h.tc, h.xc, h.qt, h.qx, h.qc, h.lq, h.lt, h.lx, h.lc⟩
theorem Ring4.setX (h : Ring4 w L q bT bX bC N n t x c) {i : Nat} (hi : i < n) (u : Int) : Ring4 (w.setCell ⟨bX, i, none⟩ (.int .i64 u)) L q bT bX bC N n t (upd x i u) c :=
  ⟨(Below.heap_setCell _ _ _ _ h.qx).trans h.box, row_other h.ot h.tx _ _, h.ox.set hi u, row_other h.oc h.xc.symm _ _, h.tx, h.tc, h.xc, h.qt, h.qx, h.qc, h.lq, h.lt, h.lx, h.lc⟩
theorem Ring4.setC (h : Ring4 w L q bT bX bC N n t x c) {i : Nat} (hi : i < n) (u : Int) : Ring4 (w.setCell ⟨bC, i, none⟩ (.int .i64 u)) L q bT bX bC N n t x (upd c i u) :=
  ⟨(Below.heap_setCell _ _ _ _ h.qc).trans h.box, row_other h.ot h.tc _ _, row_other h.ox h.xc _ _, h.oc.set hi u, h.tx, h.tc, h.xc, h.qt, h.qx, h.qc, h.lq, h.lt, h.lx, h.lc⟩
theorem Ring4.keep (h : Ring4 w L q bT bX bC N n t x c) (hk : ∀ k, L ≤ k → w'.heap[k]? = w.heap[k]?) : Ring4 w' L q bT bX bC N n t x c :=
  ⟨(hk q h.lq).trans h.box, h.ot.keep fun k e => hk k (by have e : some bT = some k := e; injection e with e; have := h.lt; omega), h.ox.keep fun k e => hk k (by have e : some bX = some k := e; injection e with e; have := h.lx; omega), h.oc.keep fun k e => hk k (by have e : some bC = some k := e; injection e with e; have := h.lc; omega), h.tx, h.tc, h.xc, h.qt, h.qx, h.qc, h.lq, h.lt, h.lx, h.lc⟩
theorem Ring4.congr (h : Ring4 w L q bT bX bC N n t x c) (e1 : ∀ j, j < n → t j = t' j) (e2 : ∀ j, j < n → x j = x' j) (e3 : ∀ j, j < n → c j = c' j) : Ring4 w L q bT bX bC N n t' x' c' :=
  ⟨h.box, h.ot.congr e1, h.ox.congr e2, h.oc.congr e3, h.tx, h.tc, h.xc, h.qt, h.qx, h.qc, h.lq, h.lt, h.lx, h.lc⟩
theorem Ring4.at_ (h : Ring4 w L q bT bX bC N n t x c) : NetAt w q N (.slice (some ⟨bT, 0, none⟩) n n) (.slice (some ⟨bX, 0, none⟩) n n) (.slice (some ⟨bC, 0, none⟩) n n) n t x c := ⟨h.box, h.ot.rd, h.ox.rd, h.oc.rd⟩
theorem Ring4.made {cur : World} (Q : Box cur q 0 (.slice none 0 0) (.slice none 0 0) (.slice none 0 0)) (ot : Ow cur (.slice (some ⟨bT, 0, none⟩) n n) n t) (ox : Ow cur (.slice (some ⟨bX, 0, none⟩) n n) n x) (oc : Ow cur (.slice (some ⟨bC, 0, none⟩) n n) n c)
    (d : bT ≠ bX ∧ bT ≠ bC ∧ bX ≠ bC ∧ q ≠ bT ∧ q ≠ bX ∧ q ≠ bC) (l : L ≤ q ∧ L ≤ bT ∧ L ≤ bX ∧ L ≤ bC) :
    Ring4 (put4 cur q N (.slice (some ⟨bT, 0, none⟩) n n) (.slice (some ⟨bX, 0, none⟩) n n) (.slice (some ⟨bC, 0, none⟩) n n)) L q bT bX bC N n t x c := by
  obtain ⟨d1, d2, d3, d4, d5, d6⟩ := d
  obtain ⟨l1, l2, l3, l4⟩ := l
  have kp : ∀ (b : Nat) (y : Nat → Int), Ow cur (.slice (some ⟨b, 0, none⟩) n n) n y → q ≠ b → Ow (put4 cur q N (.slice (some ⟨bT, 0, none⟩) n n) (.slice (some ⟨bX, 0, none⟩) n n) (.slice (some ⟨bC, 0, none⟩) n n)) (.slice (some ⟨b, 0, none⟩) n n) n y := fun b y h hne =>
    h.keep fun k hk => put4_ne (by have hk : some b = some k := hk; injection hk with hk; omega)
  exact ⟨put4_box Q _ _ _ _, kp _ _ ot d4, kp _ _ ox d5, kp _ _ oc d6, d1, d2, d3, d4, d5, d6, l1, l2, l3, l4⟩
end
end Go.Proofs.Ytcejjcopchkmeaa.Ro
namespace Go.Proofs.Ytcejjcopchkmeaa.Ro
open Go.RowKit Go.Proofs Go.Maps
set_option linter.unusedVariables false
set_option maxRecDepth 100000
set_option linter.unusedSimpArgs false

/-- the darts below d that begin at v, in some row -/
structure Darts (t : Nat → Int) (v : Int) (d L : Nat) (l : Nat → Int) : Prop where
  low : ∀ i, i < L → 0 ≤ l i ∧ l i < d ∧ t (l i).toNat = v
  apart : ∀ i j, i < j → j < L → l i ≠ l j
  all : ∀ e, e < d → t e = v → ∃ i, i < L ∧ l i = (e : Int)
theorem Darts.start (t : Nat → Int) (v : Int) (l : Nat → Int) : Darts t v 0 0 l := ⟨fun i h => by omega, fun i j h h' => by omega, fun e h => by omega⟩
theorem Darts.skip {t : Nat → Int} {v : Int} {d L : Nat} {l : Nat → Int} (h : Darts t v d L l) (hn : t d ≠ v) : Darts t v (d + 1) L l :=
  ⟨fun i hi => by have := h.low i hi; omega, h.apart, fun e he hv => by
    rcases Nat.lt_or_ge e d with q | q
    · exact h.all e q hv
    · exact absurd (by rw [show d = e by omega]; exact hv) hn⟩
/-- one laid in at a place -/
def insF (l : Nat → Int) (k : Nat) (u : Int) : Nat → Int := fun j => if j < k then l j else if j = k then u else l (j - 1)
theorem Darts.step {t : Nat → Int} {v : Int} {d L k : Nat} {l : Nat → Int} (h : Darts t v d L l) (hk : k ≤ L) (hv : t d = v) : Darts t v (d + 1) (L + 1) (insF l k d) := by
  have A : ∀ i j, i < L → j < L → l i = l j → i = j := fun i j hi hj e => by
    rcases Nat.lt_trichotomy i j with q | q | q
    · exact absurd e (h.apart i j q hj)
    · exact q
    · exact absurd e.symm (h.apart j i q hi)
  refine ⟨fun i hi => ?_, fun i j hij hj e => ?_, fun e he hv2 => ?_⟩
  · unfold insF
    split
    · have := h.low i (by omega); omega
    · split
      · exact ⟨by omega, by omega, hv⟩
      · have := h.low (i - 1) (by omega); omega
  · unfold insF at e
    have li : ∀ i, i < L → l i ≠ (d : Int) := fun i hi => by have := (h.low i hi).2.1; omega
    split at e
    · rename_i q
      split at e
      · have := A i j (by omega) (by omega) e; omega
      · split at e
        · exact li i (by omega) e
        · have := A i (j - 1) (by omega) (by omega) e; omega
    · split at e
      · split at e
        · omega
        · split at e
          · omega
          · exact li (j - 1) (by omega) e.symm
      · split at e
        · omega
        · split at e
          · omega
          · have := A (i - 1) (j - 1) (by omega) (by omega) e; omega
  · rcases Nat.lt_or_ge e d with q | q
    · obtain ⟨i, hi, ei⟩ := h.all e q hv2
      by_cases hik : i < k
      · exact ⟨i, by omega, by unfold insF; rw [if_pos hik]; exact ei⟩
      · exact ⟨i + 1, by omega, by unfold insF; rw [if_neg (by omega), if_neg (by omega)]; exact ei⟩
    · exact ⟨k, by omega, by unfold insF; rw [if_neg (by omega), if_pos rfl]; congr 1; omega⟩

/-- the vertices below v have their rounds; the others' darts are rounds of their own -/
structure Laid (t x : Nat → Int) (m v : Nat) : Prop where
  keep : ∀ d, d < m → t d < v → 0 ≤ x d ∧ x d < m ∧ t (ab x d) = t d
  one : ∀ d e, d < m → e < m → t d < v → t d = t e → ∃ k, it (ab x) k d = e
  own : ∀ d, d < m → v ≤ t d → x d = d
theorem Laid.start {t x : Nat → Int} {m : Nat} (ht : ∀ d, d < m → 0 ≤ t d) (hx : ∀ d, d < m → x d = d) : Laid t x m 0 :=
  ⟨fun d hd h => by have := ht d hd; omega, fun d e hd _ h => by have := ht d hd; omega, fun d hd _ => hx d hd⟩
theorem it_along {f g : Nat → Nat} {P : Nat → Prop} (h : ∀ d, P d → f d = g d ∧ P (f d)) {d : Nat} (hd : P d) : ∀ k, it f k d = it g k d ∧ P (it f k d)
  | 0 => ⟨rfl, hd⟩
  | k + 1 => by
    obtain ⟨e, p⟩ := it_along h hd k
    obtain ⟨e2, p2⟩ := h _ p
    exact ⟨by show f (it f k d) = g (it g k d); rw [← e]; exact e2, p2⟩
theorem Laid.step {t x x' l : Nat → Int} {m v L : Nat} (h : Laid t x m v) (D : Darts t (v : Int) m L l) (h1 : ∀ i, i < L → x' (l i).toNat = l ((i + 1) % L)) (h2 : ∀ d, d < m → t d ≠ (v : Int) → x' d = x d) : Laid t x' m (v + 1) := by
  have idx : ∀ d, d < m → t d = (v : Int) → ∃ i, i < L ∧ l i = (d : Int) ∧ (l i).toNat = d := fun d hd hv => by
    obtain ⟨i, hi, e⟩ := D.all d hd hv
    exact ⟨i, hi, e, by omega⟩
  have stepL : ∀ i, i < L → ab x' (l i).toNat = (l ((i + 1) % L)).toNat := fun i hi => by unfold ab; rw [h1 i hi]
  have itL : ∀ j i, i < L → it (ab x') j (l i).toNat = (l ((i + j) % L)).toNat := fun j => by
    induction j with
    | zero => intro i hi; rw [Nat.add_zero, Nat.mod_eq_of_lt hi]; rfl
    | succ j ih =>
      intro i hi
      show ab x' (it (ab x') j (l i).toNat) = _
      rw [ih i hi, stepL _ (Nat.mod_lt _ (by omega)), Nat.mod_add_mod, Nat.add_assoc]
  refine ⟨fun d hd hv => ?_, fun d e hd he hv q => ?_, fun d hd hv => ?_⟩
  · by_cases e : t d = (v : Int)
    · obtain ⟨i, hi, e1, e2⟩ := idx d hd e
      have := D.low ((i + 1) % L) (Nat.mod_lt _ (by omega))
      have q := h1 i hi
      rw [e2] at q
      unfold ab
      rw [q]
      exact ⟨this.1, this.2.1, by rw [this.2.2, e]⟩
    · have := h.keep d hd (by omega)
      have q := h2 d hd e
      unfold ab at this ⊢
      rw [q]; exact this
  · by_cases e1 : t d = (v : Int)
    · obtain ⟨i, hi, a1, a2⟩ := idx d hd e1
      obtain ⟨j, hj, b1, b2⟩ := idx e he (by omega)
      refine ⟨j + (L - i), ?_⟩
      have := itL (j + (L - i)) i hi
      rw [a2, show i + (j + (L - i)) = j + L by omega, Nat.add_mod_right, Nat.mod_eq_of_lt hj, b2] at this
      exact this
    · obtain ⟨k, hk⟩ := h.one d e hd he (by omega) q
      refine ⟨k, ?_⟩
      have := (it_along (f := ab x) (g := ab x') (P := fun y => y < m ∧ t y < v) (fun y hy => by
        have k1 := h.keep y hy.1 hy.2
        have k2 := h2 y hy.1 (by omega)
        refine ⟨by unfold ab; rw [k2], ?_, ?_⟩
        · unfold ab; omega
        · have := k1.2.2; omega) (d := d) ⟨hd, by omega⟩ k).1
      rw [← this]; exact hk
  · rw [h2 d hd (by omega)]; exact h.own d hd (by omega)
theorem Laid.turns {t x : Nat → Int} {m N : Nat} (h : Laid t x m N) (ht : ∀ d, d < m → 0 ≤ t d ∧ t d < N) : Turns m t x ∧ ∀ d, d < m → 0 ≤ x d ∧ x d < m := by
  have k := fun d hd => h.keep d hd (ht d hd).2
  have lt : ∀ d, d < m → ab x d < m := fun d hd => by have := k d hd; unfold ab; omega
  refine ⟨⟨Perm.of_rnds lt fun d hd => ?_, fun d hd => by unfold tlOf; rw [(k d hd).2.2], fun d e hd he q => h.one d e hd he (ht d hd).2 (by
    have a := ht d hd
    have b := ht e he
    unfold tlOf at q; omega)⟩, fun d hd => by have := k d hd; omega⟩
  obtain ⟨j, hj⟩ := h.one (ab x d) d (lt d hd) hd (by rw [(k d hd).2.2]; exact (ht d hd).2) (k d hd).2.2
  have h1 : it (ab x) (j + 1) d = d := by rw [it_in]; exact hj
  obtain ⟨i, ⟨h2, h3⟩, h4⟩ := least_of (P := fun l => 0 < l ∧ it (ab x) l d = d) (j + 1) ⟨by omega, h1⟩
  exact ⟨i, Rnd.first h2 h3 fun a ha hai e => h4 a hai ⟨ha, e⟩⟩

/-- what Make tells -/
structure Made (N m : Nat) (t x c : Nat → Int) : Prop where
  few : N ≤ 8
  most : m ≤ 40
  even : m % 2 = 0
  tail : ∀ d, d < m → 0 ≤ t d ∧ t d < N
  next : ∀ d, d < m → 0 ≤ x d ∧ x d < m
  cap : ∀ d, d < m → 0 ≤ c d ∧ c d ≤ 2147483648
  turns : Turns m t x
theorem Made.good {N m : Nat} {t x c : Nat → Int} (h : Made N m t x c) (h0 : 0 < N) : Good N m t x := ⟨h0, by have := h.few; omega, by have := h.most; omega, h.even, h.next, h.tail⟩
theorem Made.none {m : Nat} {t x c : Nat → Int} (h : Made 0 m t x c) : m = 0 := by
  rcases Nat.eq_zero_or_pos m with q | q
  · exact q
  · have := h.tail 0 q; omega
end Go.Proofs.Ytcejjcopchkmeaa.Ro
namespace Go.Proofs.Ytcejjcopchkmeaa.Ro
open Go.RowKit Go.Proofs Go.Maps
set_option linter.unusedVariables false
set_option maxRecDepth 100000
set_option linter.unusedSimpArgs false

noncomputable def codeMake6 : Code := (Try.f17.body.bind (regionOf 6)).getD .skip
set_option maxRecDepth 100000 in
set_option maxHeartbeats 12800000 in
theorem make6 (w8 : World) (q N m yn yc i i1 : Nat) (y : Addr) (k z1 z2 a0 a1 : Int) (T X C : Value) (t x c : Nat → Int) (Q : Exit → Act → World → Prop) (v0 v2 v3 v4 v8 v9 v10 v11 v12 v13 v14 v15 v16 v17 v18 v19 v20 v21 v22 v23 v24 v25 v26 v27 v28 v29 v30 v31 v32 v33 v34 v35 v36 v37 v38 v39 v40 v41 v42 v43 v44 v45 v46 v47 v48 v49 v50 v51 v52 v53 v54 v55 v56 v57 v58 v59 v60 v61 v62 v63 v64 v65 v66 v67 v68 v69 v70 v71 v72 v73 v74 v75 v76 v77 v78 v79 v80 v81 v82 v83 v84 v85 v86 v87 v88 v89 v90 v91 v92 v93 v94 v95 v96 v97 v98 v99 v100 v101 v102 v103 v104 v105 v106 v107 v108 v109 v110 v111 v112 v113 v114 v115 v116 v117 v118 : Value)
    (BX : Box w8 q (N : Int) T X C) (hT : Rd w8 T m t) (hX : Rd w8 X m x) (hC : Rd w8 C m c) (hm : m ≤ 200) (cz : w8.cell? (y.add (i1)) = some (.int .i64 z1)) (ly : y.block < w8.heap.size) (hqy : y.block ≠ q) (hi : i1 < yn) (ei : i1 = i + 1) (hyn : yn ≤ 9223372036854775807)
    (hz1 : Small z1) (hz2 : Small z2) (ez2 : z1.tdiv 11 = z2) (hN : 0 < N) (hN2 : N ≤ 60) (hk0 : 0 ≤ k) (hk1 : k < 1099511627776) (e0 : k % (N : Int) = a0) (e1 : k / 9 % (N : Int) = a1)
    (hK : ∀ (u36 u37 u38 u39 u40 u41 u42 u43 u44 u45 u46 u47 u48 u49 u50 u51 u52 u53 u54 u55 u56 u57 u58 u59 u60 u61 u62 u63 : Value) (T' X' C' : Value) (w2 : World), Below w8.heap.size w8 w2 → Rows w2 w8.heap.size T' X' C' (m + 2) (cat t m (two a0 a1)) (cat x m (two (m : Int) ((m : Int) + 1))) (cat c m (two (capOf z1) (capOf z2))) →
      Q Exit.normal ⟨#[v0, .slice (some y) yn yc, v2, v3, v4, .pointer (some ⟨q, 0, none⟩), .int .i64 (i : Int), .int .i64 k, v8, v9, v10, v11, v12, v13, v14, v15, v16, v17, v18, v19, v20, v21, v22, v23, v24, v25, v26, v27, v28, v29, v30, v31, v32, v33, v34, v35, u36, u37, u38, u39, u40, u41, u42, u43, u44, u45, u46, u47, u48, u49, u50, u51, u52, u53, u54, u55, u56, u57, u58, u59, u60, u61, u62, u63, v64, v65, v66, v67, v68, v69, v70, v71, v72, v73, v74, v75, v76, v77, v78, v79, v80, v81, v82, v83, v84, v85, v86, v87, v88, v89, v90, v91, v92, v93, v94, v95, v96, v97, v98, v99, v100, v101, v102, v103, v104, v105, v106, v107, v108, v109, v110, v111, v112, v113, v114, v115, v116, v117, v118], []⟩ (put4 w2 q (N : Int) T' X' C')) :
    Code.wp Try.prog codeMake6 (NoPanic Q) ⟨#[v0, .slice (some y) yn yc, v2, v3, v4, .pointer (some ⟨q, 0, none⟩), .int .i64 (i : Int), .int .i64 k, v8, v9, v10, v11, v12, v13, v14, v15, v16, v17, v18, v19, v20, v21, v22, v23, v24, v25, v26, v27, v28, v29, v30, v31, v32, v33, v34, v35, v36, v37, v38, v39, v40, v41, v42, v43, v44, v45, v46, v47, v48, v49, v50, v51, v52, v53, v54, v55, v56, v57, v58, v59, v60, v61, v62, v63, v64, v65, v66, v67, v68, v69, v70, v71, v72, v73, v74, v75, v76, v77, v78, v79, v80, v81, v82, v83, v84, v85, v86, v87, v88, v89, v90, v91, v92, v93, v94, v95, v96, v97, v98, v99, v100, v101, v102, v103, v104, v105, v106, v107, v108, v109, v110, v111, v112, v113, v114, v115, v116, v117, v118], []⟩ w8 := by
  have hKK := Lib.hid hK
  clear hK
  obtain ⟨TA, tp, rfl, -⟩ := id hT
  obtain ⟨XA, xp, rfl, -⟩ := id hX
  obtain ⟨CA, cp, rfl, -⟩ := id hC
  generalize eT : Value.slice TA m tp = T at *
  generalize eX : Value.slice XA m xp = X at *
  generalize eC : Value.slice CA m cp = C at *
  clear eT eX eC
  have lq := blk_lt BX
  have ha0 : 0 ≤ a0 ∧ a0 < N := by have := Int.emod_nonneg k (b := (N : Int)) (by omega); have := Int.emod_lt_of_pos k (b := (N : Int)) (by omega); omega
  have ha1 : 0 ≤ a1 ∧ a1 < N := by have := Int.emod_nonneg (k / 9) (b := (N : Int)) (by omega); have := Int.emod_lt_of_pos (k / 9) (b := (N : Int)) (by omega); omega
  have b1 : -9223372036854775808 ≤ z1 ∧ z1 ≤ 9223372036854775807 := by unfold Small at hz1; simp [Lit.wf, IntKind.min, IntKind.max, IntKind.signed, IntKind.bits] at hz1; omega
  have b2 : -9223372036854775808 ≤ z1.tdiv 11 ∧ z1.tdiv 11 ≤ 9223372036854775807 := by have h1 := Int.mul_tdiv_add_tmod z1 11; have h2 := Int.tmod_lt_of_pos z1 (b := 11) (by omega); have h3 := Int.lt_tmod_of_pos z1 (b := 11) (by omega); omega
  rw [ez2] at b2
  obtain ⟨b21, b22⟩ := b2
  obtain ⟨b11, b12⟩ := b1
  have wz : IntKind.i64.wrap z2 = z2 := by rw [IntKind.wrap_i64]; omega
  have nN : ¬ (N = 0) := by omega
  have tm0 : k.tmod (N : Int) = a0 := by rw [Int.tmod_eq_emod_of_nonneg hk0]; exact e0
  have td : k.tdiv 9 = k / 9 := Int.tdiv_eq_ediv_of_nonneg hk0
  have tm1 : (k / 9).tmod (N : Int) = a1 := by rw [Int.tmod_eq_emod_of_nonneg (by omega)]; exact e1
  have w9 : IntKind.i64.wrap (k / 9) = k / 9 := by rw [IntKind.wrap_i64]; omega
  clear e0 e1
  have n0 : ¬ ((N : Int) = 0) := by omega
  have n1 : (0 : Int) < (N : Int) := by omega
  have ic : ((i : Int) + 1) = (i1 : Int) := by omega
  have it1 : (i1 : Int) < (yn : Int) := by omega
  have wi : IntKind.i64.wrap ((i : Int) + 1) = (i1 : Int) := by rw [IntKind.wrap_i64]; omega
  have wi2 : IntKind.i64.wrap (i1 : Int) = (i1 : Int) := by rw [IntKind.wrap_i64]; omega
  clear ei
  conv => arg 2; whnf
  have E := (Below.refl w8.heap.size w8).drew
  have KF : Hid (∀ W, Below w8.heap.size w8 W → W.cell? ⟨q, 0, none⟩ = some (.int .i64 (N : Int)) ∧ W.cell? (y.add (i1)) = some (.int .i64 z1)) := Lib.hid fun W b => ⟨(b.cell (p := ⟨q, 0, none⟩) lq).trans (blk_cell BX 0), (b.cell (by rw [block_add]; exact ly)).trans cz⟩
  have KH : Hid (∀ W : World, W.heap[y.block]? = w8.heap[y.block]? → W.cell? ⟨q, 0, none⟩ = some (.int .i64 (N : Int)) → W.cell? ⟨q, 0, none⟩ = some (.int .i64 (N : Int)) ∧ W.cell? (y.add (i1)) = some (.int .i64 z1)) := Lib.hid fun W h h0 => by
    have h4 := block_add y (i1)
    have e : W.cell? (y.add (i1)) = w8.cell? (y.add (i1)) := by
      unfold World.cell?
      rw [h4, h]
    exact ⟨h0, e.trans cz⟩
  have HA := KF.out _ E
  clear cz
  refine wp_region_noPanic ?_
  refine wp_region_held_drew (S := fun W => W.cell? ⟨q, 0, none⟩ = some (.int .i64 (N : Int)) ∧ W.cell? (y.add (i1)) = some (.int .i64 z1)) (by kernel_rfl) HA (fun hHeld => ?_)
  refine held_takes (by kernel_rfl) (fun _ _ _ _ _ h => h) [1, 2, 3, 4, 5, 6, 7, 8, 9, 10, 11, 12, 13, 14, 16, 17, 18, 19, 20, 21] _ 9 _ _ _ rfl (by kernel_rfl) (by kernel_rfl) hHeld ?_
  simp only [pick, List.drop_succ_cons, List.drop_zero]
  iterate 20 (refine wpTakes_cons (v := ?_) (Or.inl ⟨by rfl, ?_⟩) ?_; rotate_left; (intro w hSw; (try dsimp only at hSw); go_simp <;> with_reducible rfl); (try simp only [Act.put, List.setIfInBounds_toArray, List.set_cons_zero, List.set_cons_succ]))
  refine wpTakes_nil ?_
  clear HA hHeld
  generalize w8.drew = v0 at *
  refine held_two 0 15 (fuel := 8) rfl (by kernel_rfl) ?_ ?_
  · simp only [List.drop_succ_cons, List.drop_zero]
    refine wpOne_cons (fun KO hK => ?_)
    have Xc : Box v0 q (N : Int) T X C := (E.block q lq).trans BX
    have r0 := blk_cell Xc 0
    have r1 := blk_cell Xc 1
    have r2 := blk_cell Xc 2
    have r3 := blk_cell Xc 3
    simp only [List.getElem?_toArray, List.getElem?_cons_zero, List.getElem?_cons_succ] at r0 r1 r2 r3
    go_simp
    clear r0 r1 r2 r3 Xc
    refine hK.out _ _ (KF.out _ E) ?_
    clear hK KO
    try simp only [Act.put, List.setIfInBounds_toArray, List.set_cons_zero, List.set_cons_succ]
    refine held_one 15 (fuel := 7) rfl (by kernel_rfl) ?_
    simp only [List.drop_succ_cons, List.drop_zero]
    refine wpOne_cons (fun KO hK => ?_)
    go_simp
    refine (cap_any _ z1 hz1).mono ?_
    rintro e v2 ⟨rfl, bb⟩
    have E' := E.trans (bb.mono E.size)
    clear E bb; have E := E'; clear E'
    refine hK.out _ _ (KF.out _ E) ?_
    clear hK KO
    try simp only [Act.put, List.setIfInBounds_toArray, List.set_cons_zero, List.set_cons_succ]
    refine held_one 22 (fuel := 6) rfl (by kernel_rfl) ?_
    simp only [List.drop_succ_cons, List.drop_zero]
    refine wpOne_cons (fun KO hK => ?_)
    go_simp
    refine (cap_any _ z2 hz2).mono ?_
    rintro e v3 ⟨rfl, bb⟩
    have E' := E.trans (bb.mono E.size)
    clear E bb; have E := E'; clear E'
    refine hK.out _ _ (KF.out _ E) ?_
    clear hK KO
    try simp only [Act.put, List.setIfInBounds_toArray, List.set_cons_zero, List.set_cons_succ]
    refine held_one 23 (fuel := 5) rfl (by kernel_rfl) ?_
    simp only [List.drop_succ_cons, List.drop_zero]
    refine wpOne_cons (fun KO hK => ?_)
    go_simp
    have bb := below_new v3 (.cells #[.int .i64 a0, .int .i64 a1, .int .i64 (capOf z1), .int .i64 (capOf z2)] 3)
    have OL : (v3.alloc (.cells #[.int .i64 a0, .int .i64 a1, .int .i64 (capOf z1), .int .i64 (capOf z2)] 3)).heap[v3.heap.size]? = some (.cells #[.int .i64 a0, .int .i64 a1, .int .i64 (capOf z1), .int .i64 (capOf z2)] 3 (0, 0)) := heap_alloc_new _ _
    have E' := E.trans (bb.mono E.size)
    generalize hW : v3.alloc (.cells #[.int .i64 a0, .int .i64 a1, .int .i64 (capOf z1), .int .i64 (capOf z2)] 3) = v4 at *
    clear hW bb
    obtain ⟨hL, ehL⟩ : ∃ h, h = v3.heap.size := ⟨_, rfl⟩
    rw [← ehL] at OL ⊢
    clear E ehL; have E := E'; clear E'
    refine hK.out _ _ (KF.out _ E) ?_
    clear hK KO
    try simp only [Act.put, List.setIfInBounds_toArray, List.set_cons_zero, List.set_cons_succ]
    refine held_one 24 (fuel := 4) rfl (by kernel_rfl) ?_
    simp only [List.drop_succ_cons, List.drop_zero]
    refine wpOne_cons (fun KO hK => ?_)
    go_simp
    refine (refEdge_ok _ N m hL T X C t x c a0 a1 (capOf z1) (capOf z2) (hT.below E (Nat.le_refl _)) (hX.below E (Nat.le_refl _)) (hC.below E (Nat.le_refl _)) OL hm ha0 ha1 (capOf_in z1).2 (capOf_in z2).2).mono ?_
    rintro e v5 ⟨T', X', C', rfl, RR, bb⟩
    have R' := RR.base E.size
    have E' := E.trans (bb.mono E.size)
    clear E bb OL RR; have E := E'; clear E'
    obtain ⟨TA, tp, rfl⟩ := R'.ot.sliced
    obtain ⟨XA, xp, rfl⟩ := R'.ox.sliced
    obtain ⟨CA, cp, rfl⟩ := R'.oc.sliced
    refine hK.out _ _ (KF.out _ E) ?_
    clear hK KO
    try simp only [Act.put, List.setIfInBounds_toArray, List.set_cons_zero, List.set_cons_succ]
    refine held_takes (by kernel_rfl) (fun _ _ _ _ _ h => h) [25, 26, 27] _ 1 _ _ _ rfl (by kernel_rfl) (by kernel_rfl) (KF.out _ E) ?_
    simp only [pick, List.drop_succ_cons, List.drop_zero]
    iterate 3 (refine wpTakes_cons (v := ?_) (Or.inl ⟨by rfl, ?_⟩) ?_; rotate_left; (intro w hSw; go_simp <;> with_reducible rfl); (try simp only [Act.put, List.setIfInBounds_toArray, List.set_cons_zero, List.set_cons_succ]))
    refine wpTakes_nil ?_
    have Xc : Box v5 q (N : Int) T X C := (E.block q lq).trans BX
    have r0 := blk_cell Xc 0
    have r1 := blk_cell Xc 1
    have r2 := blk_cell Xc 2
    have r3 := blk_cell Xc 3
    simp only [List.getElem?_toArray, List.getElem?_cons_zero, List.getElem?_cons_succ] at r0 r1 r2 r3
    have f0 := blk_frozen Xc 0
    have f1 := blk_frozen Xc 1
    have f2 := blk_frozen Xc 2
    have f3 := blk_frozen Xc 3
    have KG := KH.out (put4 v5 q (N : Int) (.slice TA (m + 2) tp) (.slice XA (m + 2) xp) (.slice CA (m + 2) cp)) ((put4_ne hqy).trans (E.block y.block ly)) (blk_cell (put4_box Xc _ _ _ _) 0)
    unfold put4 at KG
    refine held_one 28 (fuel := 0) rfl (by kernel_rfl) ?_
    simp only [List.drop_succ_cons, List.drop_zero]
    refine wpOne_cons (fun KO hK => ?_)
    go_simp
    refine hK.out _ _ KG ?_
    clear hK KO
    try simp only [Act.put, List.setIfInBounds_toArray, List.set_cons_zero, List.set_cons_succ]
    refine wpAnyH_done (by kernel_rfl) ?_ _
    refine NoPanic.normal ?_
    exact hKK.out _ _ _ _ _ _ _ _ _ _ _ _ _ _ _ _ _ _ _ _ _ _ _ _ _ _ _ _ _ _ _ _ E R'
  · simp only [List.drop_succ_cons, List.drop_zero]
    refine wpOne_cons (fun KO hK => ?_)
    go_simp
    refine (cap_any _ z1 hz1).mono ?_
    rintro e v1 ⟨rfl, bb⟩
    have E' := E.trans (bb.mono E.size)
    clear E bb; have E := E'; clear E'
    refine hK.out _ _ (KF.out _ E) ?_
    clear hK KO
    try simp only [Act.put, List.setIfInBounds_toArray, List.set_cons_zero, List.set_cons_succ]
    refine held_two 0 22 (fuel := 7) rfl (by kernel_rfl) ?_ ?_
    · simp only [List.drop_succ_cons, List.drop_zero]
      refine wpOne_cons (fun KO hK => ?_)
      have Xc : Box v1 q (N : Int) T X C := (E.block q lq).trans BX
      have r0 := blk_cell Xc 0
      have r1 := blk_cell Xc 1
      have r2 := blk_cell Xc 2
      have r3 := blk_cell Xc 3
      simp only [List.getElem?_toArray, List.getElem?_cons_zero, List.getElem?_cons_succ] at r0 r1 r2 r3
      go_simp
      clear r0 r1 r2 r3 Xc
      refine hK.out _ _ (KF.out _ E) ?_
      clear hK KO
      try simp only [Act.put, List.setIfInBounds_toArray, List.set_cons_zero, List.set_cons_succ]
      refine held_one 22 (fuel := 6) rfl (by kernel_rfl) ?_
      simp only [List.drop_succ_cons, List.drop_zero]
      refine wpOne_cons (fun KO hK => ?_)
      go_simp
      refine (cap_any _ z2 hz2).mono ?_
      rintro e v3 ⟨rfl, bb⟩
      have E' := E.trans (bb.mono E.size)
      clear E bb; have E := E'; clear E'
      refine hK.out _ _ (KF.out _ E) ?_
      clear hK KO
      try simp only [Act.put, List.setIfInBounds_toArray, List.set_cons_zero, List.set_cons_succ]
      refine held_one 23 (fuel := 5) rfl (by kernel_rfl) ?_
      simp only [List.drop_succ_cons, List.drop_zero]
      refine wpOne_cons (fun KO hK => ?_)
      go_simp
      have bb := below_new v3 (.cells #[.int .i64 a0, .int .i64 a1, .int .i64 (capOf z1), .int .i64 (capOf z2)] 3)
      have OL : (v3.alloc (.cells #[.int .i64 a0, .int .i64 a1, .int .i64 (capOf z1), .int .i64 (capOf z2)] 3)).heap[v3.heap.size]? = some (.cells #[.int .i64 a0, .int .i64 a1, .int .i64 (capOf z1), .int .i64 (capOf z2)] 3 (0, 0)) := heap_alloc_new _ _
      have E' := E.trans (bb.mono E.size)
      generalize hW : v3.alloc (.cells #[.int .i64 a0, .int .i64 a1, .int .i64 (capOf z1), .int .i64 (capOf z2)] 3) = v4 at *
      clear hW bb
      obtain ⟨hL, ehL⟩ : ∃ h, h = v3.heap.size := ⟨_, rfl⟩
      rw [← ehL] at OL ⊢
      clear E ehL; have E := E'; clear E'
      refine hK.out _ _ (KF.out _ E) ?_
      clear hK KO
      try simp only [Act.put, List.setIfInBounds_toArray, List.set_cons_zero, List.set_cons_succ]
      refine held_one 24 (fuel := 4) rfl (by kernel_rfl) ?_
      simp only [List.drop_succ_cons, List.drop_zero]
      refine wpOne_cons (fun KO hK => ?_)
      go_simp
      refine (refEdge_ok _ N m hL T X C t x c a0 a1 (capOf z1) (capOf z2) (hT.below E (Nat.le_refl _)) (hX.below E (Nat.le_refl _)) (hC.below E (Nat.le_refl _)) OL hm ha0 ha1 (capOf_in z1).2 (capOf_in z2).2).mono ?_
      rintro e v5 ⟨T', X', C', rfl, RR, bb⟩
      have R' := RR.base E.size
      have E' := E.trans (bb.mono E.size)
      clear E bb OL RR; have E := E'; clear E'
      obtain ⟨TA, tp, rfl⟩ := R'.ot.sliced
      obtain ⟨XA, xp, rfl⟩ := R'.ox.sliced
      obtain ⟨CA, cp, rfl⟩ := R'.oc.sliced
      refine hK.out _ _ (KF.out _ E) ?_
      clear hK KO
      try simp only [Act.put, List.setIfInBounds_toArray, List.set_cons_zero, List.set_cons_succ]
      refine held_takes (by kernel_rfl) (fun _ _ _ _ _ h => h) [25, 26, 27] _ 1 _ _ _ rfl (by kernel_rfl) (by kernel_rfl) (KF.out _ E) ?_
      simp only [pick, List.drop_succ_cons, List.drop_zero]
      iterate 3 (refine wpTakes_cons (v := ?_) (Or.inl ⟨by rfl, ?_⟩) ?_; rotate_left; (intro w hSw; go_simp <;> with_reducible rfl); (try simp only [Act.put, List.setIfInBounds_toArray, List.set_cons_zero, List.set_cons_succ]))
      refine wpTakes_nil ?_
      have Xc : Box v5 q (N : Int) T X C := (E.block q lq).trans BX
      have r0 := blk_cell Xc 0
      have r1 := blk_cell Xc 1
      have r2 := blk_cell Xc 2
      have r3 := blk_cell Xc 3
      simp only [List.getElem?_toArray, List.getElem?_cons_zero, List.getElem?_cons_succ] at r0 r1 r2 r3
      have f0 := blk_frozen Xc 0
      have f1 := blk_frozen Xc 1
      have f2 := blk_frozen Xc 2
      have f3 := blk_frozen Xc 3
      have KG := KH.out (put4 v5 q (N : Int) (.slice TA (m + 2) tp) (.slice XA (m + 2) xp) (.slice CA (m + 2) cp)) ((put4_ne hqy).trans (E.block y.block ly)) (blk_cell (put4_box Xc _ _ _ _) 0)
      unfold put4 at KG
      refine held_one 28 (fuel := 0) rfl (by kernel_rfl) ?_
      simp only [List.drop_succ_cons, List.drop_zero]
      refine wpOne_cons (fun KO hK => ?_)
      go_simp
      refine hK.out _ _ KG ?_
      clear hK KO
      try simp only [Act.put, List.setIfInBounds_toArray, List.set_cons_zero, List.set_cons_succ]
      refine wpAnyH_done (by kernel_rfl) ?_ _
      refine NoPanic.normal ?_
      exact hKK.out _ _ _ _ _ _ _ _ _ _ _ _ _ _ _ _ _ _ _ _ _ _ _ _ _ _ _ _ _ _ _ _ E R'
    · simp only [List.drop_succ_cons, List.drop_zero]
      refine wpOne_cons (fun KO hK => ?_)
      go_simp
      refine (cap_any _ z2 hz2).mono ?_
      rintro e v2 ⟨rfl, bb⟩
      have E' := E.trans (bb.mono E.size)
      clear E bb; have E := E'; clear E'
      refine hK.out _ _ (KF.out _ E) ?_
      clear hK KO
      try simp only [Act.put, List.setIfInBounds_toArray, List.set_cons_zero, List.set_cons_succ]
      refine held_two 0 23 (fuel := 6) rfl (by kernel_rfl) ?_ ?_
      · simp only [List.drop_succ_cons, List.drop_zero]
        refine wpOne_cons (fun KO hK => ?_)
        have Xc : Box v2 q (N : Int) T X C := (E.block q lq).trans BX
        have r0 := blk_cell Xc 0
        have r1 := blk_cell Xc 1
        have r2 := blk_cell Xc 2
        have r3 := blk_cell Xc 3
        simp only [List.getElem?_toArray, List.getElem?_cons_zero, List.getElem?_cons_succ] at r0 r1 r2 r3
        go_simp
        clear r0 r1 r2 r3 Xc
        refine hK.out _ _ (KF.out _ E) ?_
        clear hK KO
        try simp only [Act.put, List.setIfInBounds_toArray, List.set_cons_zero, List.set_cons_succ]
        refine held_one 23 (fuel := 5) rfl (by kernel_rfl) ?_
        simp only [List.drop_succ_cons, List.drop_zero]
        refine wpOne_cons (fun KO hK => ?_)
        go_simp
        have bb := below_new v2 (.cells #[.int .i64 a0, .int .i64 a1, .int .i64 (capOf z1), .int .i64 (capOf z2)] 3)
        have OL : (v2.alloc (.cells #[.int .i64 a0, .int .i64 a1, .int .i64 (capOf z1), .int .i64 (capOf z2)] 3)).heap[v2.heap.size]? = some (.cells #[.int .i64 a0, .int .i64 a1, .int .i64 (capOf z1), .int .i64 (capOf z2)] 3 (0, 0)) := heap_alloc_new _ _
        have E' := E.trans (bb.mono E.size)
        generalize hW : v2.alloc (.cells #[.int .i64 a0, .int .i64 a1, .int .i64 (capOf z1), .int .i64 (capOf z2)] 3) = v4 at *
        clear hW bb
        obtain ⟨hL, ehL⟩ : ∃ h, h = v2.heap.size := ⟨_, rfl⟩
        rw [← ehL] at OL ⊢
        clear E ehL; have E := E'; clear E'
        refine hK.out _ _ (KF.out _ E) ?_
        clear hK KO
        try simp only [Act.put, List.setIfInBounds_toArray, List.set_cons_zero, List.set_cons_succ]
        refine held_one 24 (fuel := 4) rfl (by kernel_rfl) ?_
        simp only [List.drop_succ_cons, List.drop_zero]
        refine wpOne_cons (fun KO hK => ?_)
        go_simp
        refine (refEdge_ok _ N m hL T X C t x c a0 a1 (capOf z1) (capOf z2) (hT.below E (Nat.le_refl _)) (hX.below E (Nat.le_refl _)) (hC.below E (Nat.le_refl _)) OL hm ha0 ha1 (capOf_in z1).2 (capOf_in z2).2).mono ?_
        rintro e v5 ⟨T', X', C', rfl, RR, bb⟩
        have R' := RR.base E.size
        have E' := E.trans (bb.mono E.size)
        clear E bb OL RR; have E := E'; clear E'
        obtain ⟨TA, tp, rfl⟩ := R'.ot.sliced
        obtain ⟨XA, xp, rfl⟩ := R'.ox.sliced
        obtain ⟨CA, cp, rfl⟩ := R'.oc.sliced
        refine hK.out _ _ (KF.out _ E) ?_
        clear hK KO
        try simp only [Act.put, List.setIfInBounds_toArray, List.set_cons_zero, List.set_cons_succ]
        refine held_takes (by kernel_rfl) (fun _ _ _ _ _ h => h) [25, 26, 27] _ 1 _ _ _ rfl (by kernel_rfl) (by kernel_rfl) (KF.out _ E) ?_
        simp only [pick, List.drop_succ_cons, List.drop_zero]
        iterate 3 (refine wpTakes_cons (v := ?_) (Or.inl ⟨by rfl, ?_⟩) ?_; rotate_left; (intro w hSw; go_simp <;> with_reducible rfl); (try simp only [Act.put, List.setIfInBounds_toArray, List.set_cons_zero, List.set_cons_succ]))
        refine wpTakes_nil ?_
        have Xc : Box v5 q (N : Int) T X C := (E.block q lq).trans BX
        have r0 := blk_cell Xc 0
        have r1 := blk_cell Xc 1
        have r2 := blk_cell Xc 2
        have r3 := blk_cell Xc 3
        simp only [List.getElem?_toArray, List.getElem?_cons_zero, List.getElem?_cons_succ] at r0 r1 r2 r3
        have f0 := blk_frozen Xc 0
        have f1 := blk_frozen Xc 1
        have f2 := blk_frozen Xc 2
        have f3 := blk_frozen Xc 3
        have KG := KH.out (put4 v5 q (N : Int) (.slice TA (m + 2) tp) (.slice XA (m + 2) xp) (.slice CA (m + 2) cp)) ((put4_ne hqy).trans (E.block y.block ly)) (blk_cell (put4_box Xc _ _ _ _) 0)
        unfold put4 at KG
        refine held_one 28 (fuel := 0) rfl (by kernel_rfl) ?_
        simp only [List.drop_succ_cons, List.drop_zero]
        refine wpOne_cons (fun KO hK => ?_)
        go_simp
        refine hK.out _ _ KG ?_
        clear hK KO
        try simp only [Act.put, List.setIfInBounds_toArray, List.set_cons_zero, List.set_cons_succ]
        refine wpAnyH_done (by kernel_rfl) ?_ _
        refine NoPanic.normal ?_
        exact hKK.out _ _ _ _ _ _ _ _ _ _ _ _ _ _ _ _ _ _ _ _ _ _ _ _ _ _ _ _ _ _ _ _ E R'
      · simp only [List.drop_succ_cons, List.drop_zero]
        refine wpOne_cons (fun KO hK => ?_)
        go_simp
        have bb := below_new v2 (.cells #[.int .i64 a0, .int .i64 a1, .int .i64 (capOf z1), .int .i64 (capOf z2)] 3)
        have OL : (v2.alloc (.cells #[.int .i64 a0, .int .i64 a1, .int .i64 (capOf z1), .int .i64 (capOf z2)] 3)).heap[v2.heap.size]? = some (.cells #[.int .i64 a0, .int .i64 a1, .int .i64 (capOf z1), .int .i64 (capOf z2)] 3 (0, 0)) := heap_alloc_new _ _
        have E' := E.trans (bb.mono E.size)
        generalize hW : v2.alloc (.cells #[.int .i64 a0, .int .i64 a1, .int .i64 (capOf z1), .int .i64 (capOf z2)] 3) = v3 at *
        clear hW bb
        obtain ⟨hL, ehL⟩ : ∃ h, h = v2.heap.size := ⟨_, rfl⟩
        rw [← ehL] at OL ⊢
        clear E ehL; have E := E'; clear E'
        refine hK.out _ _ (KF.out _ E) ?_
        clear hK KO
        try simp only [Act.put, List.setIfInBounds_toArray, List.set_cons_zero, List.set_cons_succ]
        refine held_one 0 (fuel := 5) rfl (by kernel_rfl) ?_
        simp only [List.drop_succ_cons, List.drop_zero]
        refine wpOne_cons (fun KO hK => ?_)
        have Xc : Box v3 q (N : Int) T X C := (E.block q lq).trans BX
        have r0 := blk_cell Xc 0
        have r1 := blk_cell Xc 1
        have r2 := blk_cell Xc 2
        have r3 := blk_cell Xc 3
        simp only [List.getElem?_toArray, List.getElem?_cons_zero, List.getElem?_cons_succ] at r0 r1 r2 r3
        go_simp
        clear r0 r1 r2 r3 Xc
        refine hK.out _ _ (KF.out _ E) ?_
        clear hK KO
        try simp only [Act.put, List.setIfInBounds_toArray, List.set_cons_zero, List.set_cons_succ]
        refine held_one 24 (fuel := 4) rfl (by kernel_rfl) ?_
        simp only [List.drop_succ_cons, List.drop_zero]
        refine wpOne_cons (fun KO hK => ?_)
        go_simp
        refine (refEdge_ok _ N m hL T X C t x c a0 a1 (capOf z1) (capOf z2) (hT.below E (Nat.le_refl _)) (hX.below E (Nat.le_refl _)) (hC.below E (Nat.le_refl _)) OL hm ha0 ha1 (capOf_in z1).2 (capOf_in z2).2).mono ?_
        rintro e v5 ⟨T', X', C', rfl, RR, bb⟩
        have R' := RR.base E.size
        have E' := E.trans (bb.mono E.size)
        clear E bb OL RR; have E := E'; clear E'
        obtain ⟨TA, tp, rfl⟩ := R'.ot.sliced
        obtain ⟨XA, xp, rfl⟩ := R'.ox.sliced
        obtain ⟨CA, cp, rfl⟩ := R'.oc.sliced
        refine hK.out _ _ (KF.out _ E) ?_
        clear hK KO
        try simp only [Act.put, List.setIfInBounds_toArray, List.set_cons_zero, List.set_cons_succ]
        refine held_takes (by kernel_rfl) (fun _ _ _ _ _ h => h) [25, 26, 27] _ 1 _ _ _ rfl (by kernel_rfl) (by kernel_rfl) (KF.out _ E) ?_
        simp only [pick, List.drop_succ_cons, List.drop_zero]
        iterate 3 (refine wpTakes_cons (v := ?_) (Or.inl ⟨by rfl, ?_⟩) ?_; rotate_left; (intro w hSw; go_simp <;> with_reducible rfl); (try simp only [Act.put, List.setIfInBounds_toArray, List.set_cons_zero, List.set_cons_succ]))
        refine wpTakes_nil ?_
        have Xc : Box v5 q (N : Int) T X C := (E.block q lq).trans BX
        have r0 := blk_cell Xc 0
        have r1 := blk_cell Xc 1
        have r2 := blk_cell Xc 2
        have r3 := blk_cell Xc 3
        simp only [List.getElem?_toArray, List.getElem?_cons_zero, List.getElem?_cons_succ] at r0 r1 r2 r3
        have f0 := blk_frozen Xc 0
        have f1 := blk_frozen Xc 1
        have f2 := blk_frozen Xc 2
        have f3 := blk_frozen Xc 3
        have KG := KH.out (put4 v5 q (N : Int) (.slice TA (m + 2) tp) (.slice XA (m + 2) xp) (.slice CA (m + 2) cp)) ((put4_ne hqy).trans (E.block y.block ly)) (blk_cell (put4_box Xc _ _ _ _) 0)
        unfold put4 at KG
        refine held_one 28 (fuel := 0) rfl (by kernel_rfl) ?_
        simp only [List.drop_succ_cons, List.drop_zero]
        refine wpOne_cons (fun KO hK => ?_)
        go_simp
        refine hK.out _ _ KG ?_
        clear hK KO
        try simp only [Act.put, List.setIfInBounds_toArray, List.set_cons_zero, List.set_cons_succ]
        refine wpAnyH_done (by kernel_rfl) ?_ _
        refine NoPanic.normal ?_
        exact hKK.out _ _ _ _ _ _ _ _ _ _ _ _ _ _ _ _ _ _ _ _ _ _ _ _ _ _ _ _ _ _ _ _ E R'
end Go.Proofs.Ytcejjcopchkmeaa.Ro
namespace Go.Proofs.Ytcejjcopchkmeaa.Ro
open Go.RowKit Go.Proofs Go.Maps
set_option linter.unusedVariables false
set_option maxRecDepth 100000
set_option linter.unusedSimpArgs false

theorem ins_cat (l : Nat → Int) (k0 d n j : Nat) (hj : j < k0 + 1 + n) : cat (cat l k0 fun _ => (d : Int)) (k0 + 1) (fun j => l (k0 + j)) j = insF l k0 (d : Int) j := by
  unfold insF cat
  by_cases q : j < k0
  · rw [if_pos (show j < k0 + 1 by omega), if_pos q, if_pos q]
  · by_cases q2 : j = k0
    · rw [if_pos (show j < k0 + 1 by omega), if_neg q, if_neg q, if_pos q2]
    · rw [if_neg (show ¬ j < k0 + 1 by omega), if_neg q, if_neg q2]
      show l (k0 + (j - (k0 + 1))) = l (j - 1)
      congr 1
      omega
noncomputable def codeMake18n : Code := (Try.f17.body.bind (regionOf 18)).getD .skip
set_option maxRecDepth 100000 in
set_option maxHeartbeats 12800000 in
theorem make18n (w8 : World) (L k0 d : Nat) (l : Nat → Int) (Q : Exit → Act → World → Prop) (v0 v1 v2 v3 v4 v5 v6 v7 v8 v12 v13 v14 v15 v16 v17 v18 v19 v20 v21 v22 v23 v24 v25 v26 v27 v28 v29 v30 v31 v32 v33 v34 v35 v36 v37 v38 v39 v40 v41 v42 v43 v44 v45 v46 v47 v48 v49 v50 v51 v52 v53 v54 v55 v56 v57 v58 v59 v60 v61 v62 v63 v64 v65 v66 v67 v68 v69 v70 v71 v72 v73 v74 v75 v76 v77 v78 v79 v80 v81 v82 v83 v84 v85 v86 v87 v88 v89 v90 v91 v92 v93 v94 v95 v96 v97 v98 v99 v100 v101 v102 v103 v104 v105 v106 v107 v108 v109 v110 v111 v112 v113 v114 v115 v116 v117 v118 : Value)
    (hL : L = 0) (hk : k0 = 0)
    (hK : ∀ (u99 u100 u101 u102 u103 u104 u105 u106 u107 u108 u109 u110 : Value) (b2 c2 : Nat) (w2 : World), Below w8.heap.size w8 w2 → w8.heap.size ≤ b2 → Ow w2 (.slice (some ⟨b2, 0, none⟩) (L + 1) c2) (L + 1) (insF l k0 (d : Int)) →
      Q Exit.normal ⟨#[v0, v1, v2, v3, v4, v5, v6, v7, v8, .slice (some ⟨b2, 0, none⟩) (L + 1) c2, .int .i64 (d : Int), .int .i64 0, v12, v13, v14, v15, v16, v17, v18, v19, v20, v21, v22, v23, v24, v25, v26, v27, v28, v29, v30, v31, v32, v33, v34, v35, v36, v37, v38, v39, v40, v41, v42, v43, v44, v45, v46, v47, v48, v49, v50, v51, v52, v53, v54, v55, v56, v57, v58, v59, v60, v61, v62, v63, v64, v65, v66, v67, v68, v69, v70, v71, v72, v73, v74, v75, v76, v77, v78, v79, v80, v81, v82, v83, v84, v85, v86, v87, v88, v89, v90, v91, v92, v93, v94, v95, v96, v97, v98, u99, u100, u101, u102, u103, u104, u105, u106, u107, u108, u109, u110, v111, v112, v113, v114, v115, v116, v117, v118], []⟩ w2) :
    Code.wp Try.prog codeMake18n (NoPanic Q) ⟨#[v0, v1, v2, v3, v4, v5, v6, v7, v8, .slice none 0 0, .int .i64 (d : Int), .int .i64 0, v12, v13, v14, v15, v16, v17, v18, v19, v20, v21, v22, v23, v24, v25, v26, v27, v28, v29, v30, v31, v32, v33, v34, v35, v36, v37, v38, v39, v40, v41, v42, v43, v44, v45, v46, v47, v48, v49, v50, v51, v52, v53, v54, v55, v56, v57, v58, v59, v60, v61, v62, v63, v64, v65, v66, v67, v68, v69, v70, v71, v72, v73, v74, v75, v76, v77, v78, v79, v80, v81, v82, v83, v84, v85, v86, v87, v88, v89, v90, v91, v92, v93, v94, v95, v96, v97, v98, v99, v100, v101, v102, v103, v104, v105, v106, v107, v108, v109, v110, v111, v112, v113, v114, v115, v116, v117, v118], []⟩ w8 := by
  have hKK := Lib.hid hK
  clear hK
  subst hL hk
  have HS1 : Hid (∀ W, Below w8.heap.size w8 W → SrcI W none 0 l) := Lib.hid fun W b => .inl ⟨rfl, rfl⟩
  have HS2 : Hid (∀ W, Below w8.heap.size w8 W → SrcI W none (0 - 0) (fun j => l (0 + j))) := Lib.hid fun W b => .inl ⟨rfl, rfl⟩
  conv => arg 2; whnf
  have E := (Below.refl w8.heap.size w8).drew
  refine wp_region_noPanic ?_
  refine wp_region_held_drew (S := fun W => True) (by kernel_rfl) trivial (fun hHeld => ?_)
  refine held_takes (by kernel_rfl) (fun _ _ _ _ _ h => h) [1, 2, 3, 5, 8, 9, 10] _ 6 _ _ _ rfl (by kernel_rfl) (by kernel_rfl) hHeld ?_
  simp only [pick, List.drop_succ_cons, List.drop_zero]
  iterate 7 (refine wpTakes_cons (v := ?_) (Or.inl ⟨by rfl, ?_⟩) ?_; rotate_left; (intro w hSw; go_simp <;> with_reducible rfl); (try simp only [Act.put, List.setIfInBounds_toArray, List.set_cons_zero, List.set_cons_succ]))
  refine wpTakes_nil ?_
  clear hHeld
  generalize w8.drew = v0 at *
  refine held_two 0 6 (fuel := 5) rfl (by kernel_rfl) ?_ ?_
  · simp only [List.drop_succ_cons, List.drop_zero]
    refine wpOne_cons (fun KO hK => ?_)
    go_simp
    have bb := below_new v0 (.cells #[] 3)
    have OA := Ow.empty v0 (fun _ => 0)
    have E' := E.trans (bb.mono E.size)
    generalize hW : v0.alloc (.cells #[] 3) = v1 at *
    clear hW bb
    obtain ⟨hA, ehA⟩ : ∃ h, h = v0.heap.size := ⟨_, rfl⟩
    rw [← ehA] at OA ⊢
    have lA : w8.heap.size ≤ hA := by have := E.size; omega
    clear E ehA; have E := E'; clear E'
    refine hK.out _ _ trivial ?_
    clear hK KO
    try simp only [Act.put, List.setIfInBounds_toArray, List.set_cons_zero, List.set_cons_succ]
    refine held_two 4 6 (fuel := 4) rfl (by kernel_rfl) ?_ ?_
    · simp only [List.drop_succ_cons, List.drop_zero]
      refine wpOne_cons (fun KO hK => ?_)
      refine step_appI rfl _ _ rfl _ 0 (fun _ => 0) rfl OA _ 0 _ l rfl (HS1.out _ E) (by omega) ?_
      intro VTA v2 OTA g5 l5
      replace OTA := OTA.congr (x' := l) (fun j hj => by rw [cat_hi (Nat.zero_le _), Nat.sub_zero])
      rw [Nat.zero_add] at OTA
      have hs5 := E.size
      have E' := Below.grown E g5 hs5 (by intro k hk; have hk : some hA = some k := hk; injection hk with hk; omega)
      have lTA : ∀ k, VTA.ownBlock = some k → w8.heap.size ≤ k := by intro k hk; rcases l5 with e | e <;> rw [hk] at e <;> injection e with e <;> (try have e : k = hA := e) <;> omega
      clear E; have E := E'; clear E' g5 l5 hs5 OA
      obtain ⟨ATA, cTA, rfl⟩ := OTA.sliced
      refine hK.out _ _ trivial ?_
      clear hK KO
      try simp only [Act.put, List.setIfInBounds_toArray, List.set_cons_zero, List.set_cons_succ]
      refine held_one 6 (fuel := 3) rfl (by kernel_rfl) ?_
      simp only [List.drop_succ_cons, List.drop_zero]
      refine wpOne_cons (fun KO hK => ?_)
      go_simp
      have bb := below_new v2 (.cells #[.int .i64 (d : Int)] 3)
      have OD := Ow.lit1 v2 (fun _ => (d : Int)) (d : Int) rfl
      have E' := E.trans (bb.mono E.size)
      have OTA' := OTA.below bb (Nat.le_refl _)
      generalize hW : v2.alloc (.cells #[.int .i64 (d : Int)] 3) = v3 at *
      clear hW bb
      obtain ⟨hD, ehD⟩ : ∃ h, h = v2.heap.size := ⟨_, rfl⟩
      rw [← ehD] at OD ⊢
      have lD : w8.heap.size ≤ hD := by have := E.size; omega
      have nD : ∀ k, (Value.slice ATA 0 cTA).ownBlock = some k → k ≠ hD := by intro k hk; have := OTA.lt hk; omega
      clear OTA; have OTA := OTA'; clear OTA'
      clear E ehD; have E := E'; clear E'
      refine hK.out _ _ trivial ?_
      clear hK KO
      try simp only [Act.put, List.setIfInBounds_toArray, List.set_cons_zero, List.set_cons_succ]
      refine held_one 7 (fuel := 2) rfl (by kernel_rfl) ?_
      simp only [List.drop_succ_cons, List.drop_zero]
      refine wpOne_cons (fun KO hK => ?_)
      refine step_appI rfl _ _ rfl _ 0 l rfl OTA _ 1 _ (fun _ => (d : Int)) rfl OD.rd.srcI (by omega) ?_
      intro VTB v4 OTB g5 l5
      have hs5 := E.size
      have E' := Below.grown E g5 hs5 lTA
      have lTB : ∀ k, VTB.ownBlock = some k → w8.heap.size ≤ k := by intro k hk; rcases l5 with e | e; (rw [hk] at e; exact lTA k e.symm); (rw [hk] at e; injection e with e; omega)
      clear E; have E := E'; clear E' g5 l5 hs5 OTA OD lTA nD
      obtain ⟨ATB, cTB, rfl⟩ := OTB.sliced
      refine hK.out _ _ trivial ?_
      clear hK KO
      try simp only [Act.put, List.setIfInBounds_toArray, List.set_cons_zero, List.set_cons_succ]
      refine held_one 11 (fuel := 1) rfl (by kernel_rfl) ?_
      simp only [List.drop_succ_cons, List.drop_zero]
      refine wpOne_cons (fun KO hK => ?_)
      refine step_appI rfl _ _ rfl _ (0 + 1) (cat l 0 (fun _ => (d : Int))) rfl OTB _ (0 - 0) _ (fun j => l (0 + j)) rfl (HS2.out _ E) (by omega) ?_
      intro VTC v5 OTC g5 l5
      have hs5 := E.size
      have E' := Below.grown E g5 hs5 lTB
      have lTC : ∀ k, VTC.ownBlock = some k → w8.heap.size ≤ k := by intro k hk; rcases l5 with e | e; (rw [hk] at e; exact lTB k e.symm); (rw [hk] at e; injection e with e; omega)
      clear E; have E := E'; clear E' g5 l5 hs5 OTB lTB
      rw [show 0 + 1 + (0 - 0) = 0 + 1 from rfl] at OTC
      replace OTC := OTC.congr (x' := insF l 0 (d : Int)) (fun j hj => by exact ins_cat l 0 d (0 - 0) j (by omega))
      obtain ⟨b2, c2, rfl, lb2⟩ := OTC.form (by omega)
      refine hK.out _ _ trivial ?_
      clear hK KO
      try simp only [Act.put, List.setIfInBounds_toArray, List.set_cons_zero, List.set_cons_succ]
      refine held_takes (by kernel_rfl) (fun _ _ _ _ _ h => h) [12] _ 0 _ _ _ rfl (by kernel_rfl) (by kernel_rfl) trivial ?_
      simp only [pick, List.drop_succ_cons, List.drop_zero]
      iterate 1 (refine wpTakes_cons (v := ?_) (Or.inl ⟨by rfl, ?_⟩) ?_; rotate_left; (intro w hSw; go_simp <;> with_reducible rfl); (try simp only [Act.put, List.setIfInBounds_toArray, List.set_cons_zero, List.set_cons_succ]))
      refine wpTakes_nil ?_
      refine wpAnyH_done (by kernel_rfl) ?_ _
      refine NoPanic.normal ?_
      exact hKK.out _ _ _ _ _ _ _ _ _ _ _ _ b2 c2 _ E (lTC b2 rfl) OTC
    · simp only [List.drop_succ_cons, List.drop_zero]
      refine wpOne_cons (fun KO hK => ?_)
      go_simp
      have bb := below_new v1 (.cells #[.int .i64 (d : Int)] 3)
      have OD := Ow.lit1 v1 (fun _ => (d : Int)) (d : Int) rfl
      have E' := E.trans (bb.mono E.size)
      have OA' := OA.below bb (Nat.le_refl _)
      generalize hW : v1.alloc (.cells #[.int .i64 (d : Int)] 3) = v2 at *
      clear hW bb
      obtain ⟨hD, ehD⟩ : ∃ h, h = v1.heap.size := ⟨_, rfl⟩
      rw [← ehD] at OD ⊢
      have lD : w8.heap.size ≤ hD := by have := E.size; omega
      have nA : hA ≠ hD := by have := OA.lt (k := hA) rfl; omega
      clear OA; have OA := OA'; clear OA'
      clear E ehD; have E := E'; clear E'
      refine hK.out _ _ trivial ?_
      clear hK KO
      try simp only [Act.put, List.setIfInBounds_toArray, List.set_cons_zero, List.set_cons_succ]
      refine held_one 4 (fuel := 3) rfl (by kernel_rfl) ?_
      simp only [List.drop_succ_cons, List.drop_zero]
      refine wpOne_cons (fun KO hK => ?_)
      refine step_appI rfl _ _ rfl _ 0 (fun _ => 0) rfl OA _ 0 _ l rfl (HS1.out _ E) (by omega) ?_
      intro VTA v3 OTA g5 l5
      replace OTA := OTA.congr (x' := l) (fun j hj => by rw [cat_hi (Nat.zero_le _), Nat.sub_zero])
      rw [Nat.zero_add] at OTA
      have hs5 := E.size
      have lDo := OD.lt (k := hD) rfl
      have E' := Below.grown E g5 hs5 (by intro k hk; have hk : some hA = some k := hk; injection hk with hk; omega)
      have lTA : ∀ k, VTA.ownBlock = some k → w8.heap.size ≤ k := by intro k hk; rcases l5 with e | e <;> rw [hk] at e <;> injection e with e <;> (try have e : k = hA := e) <;> omega
      replace OD := OD.keep (w' := v3) (fun k hk => by have hk : some hD = some k := hk; injection hk with hk; subst hk; exact g5.block _ (OD.lt (k := hD) rfl) (fun z => by have z : some hD = some hA := z; injection z with z; omega))
      have nD : ∀ k, VTA.ownBlock = some k → k ≠ hD := by intro k hk; rcases l5 with e | e <;> rw [hk] at e <;> injection e with e <;> (try have e : k = hA := e) <;> omega
      clear E; have E := E'; clear E' g5 l5 hs5 OA
      obtain ⟨ATA, cTA, rfl⟩ := OTA.sliced
      refine hK.out _ _ trivial ?_
      clear hK KO
      try simp only [Act.put, List.setIfInBounds_toArray, List.set_cons_zero, List.set_cons_succ]
      refine held_one 7 (fuel := 2) rfl (by kernel_rfl) ?_
      simp only [List.drop_succ_cons, List.drop_zero]
      refine wpOne_cons (fun KO hK => ?_)
      refine step_appI rfl _ _ rfl _ 0 l rfl OTA _ 1 _ (fun _ => (d : Int)) rfl OD.rd.srcI (by omega) ?_
      intro VTB v4 OTB g5 l5
      have hs5 := E.size
      have E' := Below.grown E g5 hs5 lTA
      have lTB : ∀ k, VTB.ownBlock = some k → w8.heap.size ≤ k := by intro k hk; rcases l5 with e | e; (rw [hk] at e; exact lTA k e.symm); (rw [hk] at e; injection e with e; omega)
      clear E; have E := E'; clear E' g5 l5 hs5 OTA OD lTA nD
      obtain ⟨ATB, cTB, rfl⟩ := OTB.sliced
      refine hK.out _ _ trivial ?_
      clear hK KO
      try simp only [Act.put, List.setIfInBounds_toArray, List.set_cons_zero, List.set_cons_succ]
      refine held_one 11 (fuel := 1) rfl (by kernel_rfl) ?_
      simp only [List.drop_succ_cons, List.drop_zero]
      refine wpOne_cons (fun KO hK => ?_)
      refine step_appI rfl _ _ rfl _ (0 + 1) (cat l 0 (fun _ => (d : Int))) rfl OTB _ (0 - 0) _ (fun j => l (0 + j)) rfl (HS2.out _ E) (by omega) ?_
      intro VTC v5 OTC g5 l5
      have hs5 := E.size
      have E' := Below.grown E g5 hs5 lTB
      have lTC : ∀ k, VTC.ownBlock = some k → w8.heap.size ≤ k := by intro k hk; rcases l5 with e | e; (rw [hk] at e; exact lTB k e.symm); (rw [hk] at e; injection e with e; omega)
      clear E; have E := E'; clear E' g5 l5 hs5 OTB lTB
      rw [show 0 + 1 + (0 - 0) = 0 + 1 from rfl] at OTC
      replace OTC := OTC.congr (x' := insF l 0 (d : Int)) (fun j hj => by exact ins_cat l 0 d (0 - 0) j (by omega))
      obtain ⟨b2, c2, rfl, lb2⟩ := OTC.form (by omega)
      refine hK.out _ _ trivial ?_
      clear hK KO
      try simp only [Act.put, List.setIfInBounds_toArray, List.set_cons_zero, List.set_cons_succ]
      refine held_takes (by kernel_rfl) (fun _ _ _ _ _ h => h) [12] _ 0 _ _ _ rfl (by kernel_rfl) (by kernel_rfl) trivial ?_
      simp only [pick, List.drop_succ_cons, List.drop_zero]
      iterate 1 (refine wpTakes_cons (v := ?_) (Or.inl ⟨by rfl, ?_⟩) ?_; rotate_left; (intro w hSw; go_simp <;> with_reducible rfl); (try simp only [Act.put, List.setIfInBounds_toArray, List.set_cons_zero, List.set_cons_succ]))
      refine wpTakes_nil ?_
      refine wpAnyH_done (by kernel_rfl) ?_ _
      refine NoPanic.normal ?_
      exact hKK.out _ _ _ _ _ _ _ _ _ _ _ _ b2 c2 _ E (lTC b2 rfl) OTC
  · simp only [List.drop_succ_cons, List.drop_zero]
    refine wpOne_cons (fun KO hK => ?_)
    go_simp
    have bb := below_new v0 (.cells #[.int .i64 (d : Int)] 3)
    have OD := Ow.lit1 v0 (fun _ => (d : Int)) (d : Int) rfl
    have E' := E.trans (bb.mono E.size)
    generalize hW : v0.alloc (.cells #[.int .i64 (d : Int)] 3) = v1 at *
    clear hW bb
    obtain ⟨hD, ehD⟩ : ∃ h, h = v0.heap.size := ⟨_, rfl⟩
    rw [← ehD] at OD ⊢
    have lD : w8.heap.size ≤ hD := by have := E.size; omega
    clear E ehD; have E := E'; clear E'
    refine hK.out _ _ trivial ?_
    clear hK KO
    try simp only [Act.put, List.setIfInBounds_toArray, List.set_cons_zero, List.set_cons_succ]
    refine held_one 0 (fuel := 4) rfl (by kernel_rfl) ?_
    simp only [List.drop_succ_cons, List.drop_zero]
    refine wpOne_cons (fun KO hK => ?_)
    go_simp
    have bb := below_new v1 (.cells #[] 3)
    have OA := Ow.empty v1 (fun _ => 0)
    have E' := E.trans (bb.mono E.size)
    have OD' := OD.below bb (Nat.le_refl _)
    generalize hW : v1.alloc (.cells #[] 3) = v2 at *
    clear hW bb
    obtain ⟨hA, ehA⟩ : ∃ h, h = v1.heap.size := ⟨_, rfl⟩
    rw [← ehA] at OA ⊢
    have lA : w8.heap.size ≤ hA := by have := E.size; omega
    have nA : hA ≠ hD := by have := OD.lt (k := hD) rfl; omega
    clear OD; have OD := OD'; clear OD'
    clear E ehA; have E := E'; clear E'
    refine hK.out _ _ trivial ?_
    clear hK KO
    try simp only [Act.put, List.setIfInBounds_toArray, List.set_cons_zero, List.set_cons_succ]
    refine held_one 4 (fuel := 3) rfl (by kernel_rfl) ?_
    simp only [List.drop_succ_cons, List.drop_zero]
    refine wpOne_cons (fun KO hK => ?_)
    refine step_appI rfl _ _ rfl _ 0 (fun _ => 0) rfl OA _ 0 _ l rfl (HS1.out _ E) (by omega) ?_
    intro VTA v3 OTA g5 l5
    replace OTA := OTA.congr (x' := l) (fun j hj => by rw [cat_hi (Nat.zero_le _), Nat.sub_zero])
    rw [Nat.zero_add] at OTA
    have hs5 := E.size
    have lDo := OD.lt (k := hD) rfl
    have E' := Below.grown E g5 hs5 (by intro k hk; have hk : some hA = some k := hk; injection hk with hk; omega)
    have lTA : ∀ k, VTA.ownBlock = some k → w8.heap.size ≤ k := by intro k hk; rcases l5 with e | e <;> rw [hk] at e <;> injection e with e <;> (try have e : k = hA := e) <;> omega
    replace OD := OD.keep (w' := v3) (fun k hk => by have hk : some hD = some k := hk; injection hk with hk; subst hk; exact g5.block _ (OD.lt (k := hD) rfl) (fun z => by have z : some hD = some hA := z; injection z with z; omega))
    have nD : ∀ k, VTA.ownBlock = some k → k ≠ hD := by intro k hk; rcases l5 with e | e <;> rw [hk] at e <;> injection e with e <;> (try have e : k = hA := e) <;> omega
    clear E; have E := E'; clear E' g5 l5 hs5 OA
    obtain ⟨ATA, cTA, rfl⟩ := OTA.sliced
    refine hK.out _ _ trivial ?_
    clear hK KO
    try simp only [Act.put, List.setIfInBounds_toArray, List.set_cons_zero, List.set_cons_succ]
    refine held_one 7 (fuel := 2) rfl (by kernel_rfl) ?_
    simp only [List.drop_succ_cons, List.drop_zero]
    refine wpOne_cons (fun KO hK => ?_)
    refine step_appI rfl _ _ rfl _ 0 l rfl OTA _ 1 _ (fun _ => (d : Int)) rfl OD.rd.srcI (by omega) ?_
    intro VTB v4 OTB g5 l5
    have hs5 := E.size
    have E' := Below.grown E g5 hs5 lTA
    have lTB : ∀ k, VTB.ownBlock = some k → w8.heap.size ≤ k := by intro k hk; rcases l5 with e | e; (rw [hk] at e; exact lTA k e.symm); (rw [hk] at e; injection e with e; omega)
    clear E; have E := E'; clear E' g5 l5 hs5 OTA OD lTA nD
    obtain ⟨ATB, cTB, rfl⟩ := OTB.sliced
    refine hK.out _ _ trivial ?_
    clear hK KO
    try simp only [Act.put, List.setIfInBounds_toArray, List.set_cons_zero, List.set_cons_succ]
    refine held_one 11 (fuel := 1) rfl (by kernel_rfl) ?_
    simp only [List.drop_succ_cons, List.drop_zero]
    refine wpOne_cons (fun KO hK => ?_)
    refine step_appI rfl _ _ rfl _ (0 + 1) (cat l 0 (fun _ => (d : Int))) rfl OTB _ (0 - 0) _ (fun j => l (0 + j)) rfl (HS2.out _ E) (by omega) ?_
    intro VTC v5 OTC g5 l5
    have hs5 := E.size
    have E' := Below.grown E g5 hs5 lTB
    have lTC : ∀ k, VTC.ownBlock = some k → w8.heap.size ≤ k := by intro k hk; rcases l5 with e | e; (rw [hk] at e; exact lTB k e.symm); (rw [hk] at e; injection e with e; omega)
    clear E; have E := E'; clear E' g5 l5 hs5 OTB lTB
    rw [show 0 + 1 + (0 - 0) = 0 + 1 from rfl] at OTC
    replace OTC := OTC.congr (x' := insF l 0 (d : Int)) (fun j hj => by exact ins_cat l 0 d (0 - 0) j (by omega))
    obtain ⟨b2, c2, rfl, lb2⟩ := OTC.form (by omega)
    refine hK.out _ _ trivial ?_
    clear hK KO
    try simp only [Act.put, List.setIfInBounds_toArray, List.set_cons_zero, List.set_cons_succ]
    refine held_takes (by kernel_rfl) (fun _ _ _ _ _ h => h) [12] _ 0 _ _ _ rfl (by kernel_rfl) (by kernel_rfl) trivial ?_
    simp only [pick, List.drop_succ_cons, List.drop_zero]
    iterate 1 (refine wpTakes_cons (v := ?_) (Or.inl ⟨by rfl, ?_⟩) ?_; rotate_left; (intro w hSw; go_simp <;> with_reducible rfl); (try simp only [Act.put, List.setIfInBounds_toArray, List.set_cons_zero, List.set_cons_succ]))
    refine wpTakes_nil ?_
    refine wpAnyH_done (by kernel_rfl) ?_ _
    refine NoPanic.normal ?_
    exact hKK.out _ _ _ _ _ _ _ _ _ _ _ _ b2 c2 _ E (lTC b2 rfl) OTC
noncomputable def codeMake18b : Code := (Try.f17.body.bind (regionOf 18)).getD .skip
set_option maxRecDepth 100000 in
set_option maxHeartbeats 12800000 in
theorem make18b (w8 : World) (L k0 lb lc d : Nat) (l : Nat → Int) (Q : Exit → Act → World → Prop) (v0 v1 v2 v3 v4 v5 v6 v7 v8 v12 v13 v14 v15 v16 v17 v18 v19 v20 v21 v22 v23 v24 v25 v26 v27 v28 v29 v30 v31 v32 v33 v34 v35 v36 v37 v38 v39 v40 v41 v42 v43 v44 v45 v46 v47 v48 v49 v50 v51 v52 v53 v54 v55 v56 v57 v58 v59 v60 v61 v62 v63 v64 v65 v66 v67 v68 v69 v70 v71 v72 v73 v74 v75 v76 v77 v78 v79 v80 v81 v82 v83 v84 v85 v86 v87 v88 v89 v90 v91 v92 v93 v94 v95 v96 v97 v98 v99 v100 v101 v102 v103 v104 v105 v106 v107 v108 v109 v110 v111 v112 v113 v114 v115 v116 v117 v118 : Value)
    (OL : Ow w8 (.slice (some ⟨lb, 0, none⟩) L lc) L l) (hL : L ≤ 200) (hLc : L ≤ lc) (hk : k0 ≤ L)
    (hK : ∀ (u99 u100 u101 u102 u103 u104 u105 u106 u107 u108 u109 u110 : Value) (b2 c2 : Nat) (w2 : World), Below w8.heap.size w8 w2 → w8.heap.size ≤ b2 → Ow w2 (.slice (some ⟨b2, 0, none⟩) (L + 1) c2) (L + 1) (insF l k0 (d : Int)) →
      Q Exit.normal ⟨#[v0, v1, v2, v3, v4, v5, v6, v7, v8, .slice (some ⟨b2, 0, none⟩) (L + 1) c2, .int .i64 (d : Int), .int .i64 (k0 : Int), v12, v13, v14, v15, v16, v17, v18, v19, v20, v21, v22, v23, v24, v25, v26, v27, v28, v29, v30, v31, v32, v33, v34, v35, v36, v37, v38, v39, v40, v41, v42, v43, v44, v45, v46, v47, v48, v49, v50, v51, v52, v53, v54, v55, v56, v57, v58, v59, v60, v61, v62, v63, v64, v65, v66, v67, v68, v69, v70, v71, v72, v73, v74, v75, v76, v77, v78, v79, v80, v81, v82, v83, v84, v85, v86, v87, v88, v89, v90, v91, v92, v93, v94, v95, v96, v97, v98, u99, u100, u101, u102, u103, u104, u105, u106, u107, u108, u109, u110, v111, v112, v113, v114, v115, v116, v117, v118], []⟩ w2) :
    Code.wp Try.prog codeMake18b (NoPanic Q) ⟨#[v0, v1, v2, v3, v4, v5, v6, v7, v8, .slice (some ⟨lb, 0, none⟩) L lc, .int .i64 (d : Int), .int .i64 (k0 : Int), v12, v13, v14, v15, v16, v17, v18, v19, v20, v21, v22, v23, v24, v25, v26, v27, v28, v29, v30, v31, v32, v33, v34, v35, v36, v37, v38, v39, v40, v41, v42, v43, v44, v45, v46, v47, v48, v49, v50, v51, v52, v53, v54, v55, v56, v57, v58, v59, v60, v61, v62, v63, v64, v65, v66, v67, v68, v69, v70, v71, v72, v73, v74, v75, v76, v77, v78, v79, v80, v81, v82, v83, v84, v85, v86, v87, v88, v89, v90, v91, v92, v93, v94, v95, v96, v97, v98, v99, v100, v101, v102, v103, v104, v105, v106, v107, v108, v109, v110, v111, v112, v113, v114, v115, v116, v117, v118], []⟩ w8 := by
  have hKK := Lib.hid hK
  clear hK
  have HS1 : Hid (∀ W, Below w8.heap.size w8 W → SrcI W (some ⟨lb, 0, none⟩) k0 l) := Lib.hid fun W b => .inr ⟨_, rfl, fun i hi => by rw [add_head]; exact (OL.below b (Nat.le_refl _)).cell (by omega)⟩
  have HS2 : Hid (∀ W, Below w8.heap.size w8 W → SrcI W (if lc = k0 then some ⟨lb, 0, none⟩ else some ⟨lb, k0, none⟩) (L - k0) (fun j => l (k0 + j))) := Lib.hid fun W b => by
    by_cases q : lc = k0
    · rw [if_pos q]; exact .inr ⟨_, rfl, fun i hi => by omega⟩
    rw [if_neg q]
    refine .inr ⟨_, rfl, fun i hi => ?_⟩
    have e : (⟨lb, k0, none⟩ : Addr).add i = ⟨lb, k0 + i, none⟩ := by unfold Addr.add; split <;> simp_all
    rw [e]; exact (OL.below b (Nat.le_refl _)).cell (by omega)
  have i1 : (k0 : Int) ≤ (L : Int) := by omega
  have i2 : (k0 : Int) ≤ (lc : Int) := by omega
  have i3 : (L : Int) ≤ (lc : Int) := by omega
  conv => arg 2; whnf
  have E := (Below.refl w8.heap.size w8).drew
  refine wp_region_noPanic ?_
  refine wp_region_held_drew (S := fun W => True) (by kernel_rfl) trivial (fun hHeld => ?_)
  refine held_takes (by kernel_rfl) (fun _ _ _ _ _ h => h) [1, 2, 3, 5, 8, 9, 10] _ 6 _ _ _ rfl (by kernel_rfl) (by kernel_rfl) hHeld ?_
  simp only [pick, List.drop_succ_cons, List.drop_zero]
  iterate 7 (refine wpTakes_cons (v := ?_) (Or.inl ⟨by rfl, ?_⟩) ?_; rotate_left; (intro w hSw; go_simp <;> with_reducible rfl); (try simp only [Act.put, List.setIfInBounds_toArray, List.set_cons_zero, List.set_cons_succ]))
  refine wpTakes_nil ?_
  clear hHeld
  generalize w8.drew = v0 at *
  refine held_two 0 6 (fuel := 5) rfl (by kernel_rfl) ?_ ?_
  · simp only [List.drop_succ_cons, List.drop_zero]
    refine wpOne_cons (fun KO hK => ?_)
    go_simp
    have bb := below_new v0 (.cells #[] 3)
    have OA := Ow.empty v0 (fun _ => 0)
    have E' := E.trans (bb.mono E.size)
    generalize hW : v0.alloc (.cells #[] 3) = v1 at *
    clear hW bb
    obtain ⟨hA, ehA⟩ : ∃ h, h = v0.heap.size := ⟨_, rfl⟩
    rw [← ehA] at OA ⊢
    have lA : w8.heap.size ≤ hA := by have := E.size; omega
    clear E ehA; have E := E'; clear E'
    refine hK.out _ _ trivial ?_
    clear hK KO
    try simp only [Act.put, List.setIfInBounds_toArray, List.set_cons_zero, List.set_cons_succ]
    refine held_two 4 6 (fuel := 4) rfl (by kernel_rfl) ?_ ?_
    · simp only [List.drop_succ_cons, List.drop_zero]
      refine wpOne_cons (fun KO hK => ?_)
      refine step_appI rfl _ _ rfl _ 0 (fun _ => 0) rfl OA _ k0 _ l rfl (HS1.out _ E) (by omega) ?_
      intro VTA v2 OTA g5 l5
      replace OTA := OTA.congr (x' := l) (fun j hj => by rw [cat_hi (Nat.zero_le _), Nat.sub_zero])
      rw [Nat.zero_add] at OTA
      have hs5 := E.size
      have E' := Below.grown E g5 hs5 (by intro k hk; have hk : some hA = some k := hk; injection hk with hk; omega)
      have lTA : ∀ k, VTA.ownBlock = some k → w8.heap.size ≤ k := by intro k hk; rcases l5 with e | e <;> rw [hk] at e <;> injection e with e <;> (try have e : k = hA := e) <;> omega
      clear E; have E := E'; clear E' g5 l5 hs5 OA
      obtain ⟨ATA, cTA, rfl⟩ := OTA.sliced
      refine hK.out _ _ trivial ?_
      clear hK KO
      try simp only [Act.put, List.setIfInBounds_toArray, List.set_cons_zero, List.set_cons_succ]
      refine held_one 6 (fuel := 3) rfl (by kernel_rfl) ?_
      simp only [List.drop_succ_cons, List.drop_zero]
      refine wpOne_cons (fun KO hK => ?_)
      go_simp
      have bb := below_new v2 (.cells #[.int .i64 (d : Int)] 3)
      have OD := Ow.lit1 v2 (fun _ => (d : Int)) (d : Int) rfl
      have E' := E.trans (bb.mono E.size)
      have OTA' := OTA.below bb (Nat.le_refl _)
      generalize hW : v2.alloc (.cells #[.int .i64 (d : Int)] 3) = v3 at *
      clear hW bb
      obtain ⟨hD, ehD⟩ : ∃ h, h = v2.heap.size := ⟨_, rfl⟩
      rw [← ehD] at OD ⊢
      have lD : w8.heap.size ≤ hD := by have := E.size; omega
      have nD : ∀ k, (Value.slice ATA k0 cTA).ownBlock = some k → k ≠ hD := by intro k hk; have := OTA.lt hk; omega
      clear OTA; have OTA := OTA'; clear OTA'
      clear E ehD; have E := E'; clear E'
      refine hK.out _ _ trivial ?_
      clear hK KO
      try simp only [Act.put, List.setIfInBounds_toArray, List.set_cons_zero, List.set_cons_succ]
      refine held_one 7 (fuel := 2) rfl (by kernel_rfl) ?_
      simp only [List.drop_succ_cons, List.drop_zero]
      refine wpOne_cons (fun KO hK => ?_)
      refine step_appI rfl _ _ rfl _ k0 l rfl OTA _ 1 _ (fun _ => (d : Int)) rfl OD.rd.srcI (by omega) ?_
      intro VTB v4 OTB g5 l5
      have hs5 := E.size
      have E' := Below.grown E g5 hs5 lTA
      have lTB : ∀ k, VTB.ownBlock = some k → w8.heap.size ≤ k := by intro k hk; rcases l5 with e | e; (rw [hk] at e; exact lTA k e.symm); (rw [hk] at e; injection e with e; omega)
      clear E; have E := E'; clear E' g5 l5 hs5 OTA OD lTA nD
      obtain ⟨ATB, cTB, rfl⟩ := OTB.sliced
      refine hK.out _ _ trivial ?_
      clear hK KO
      try simp only [Act.put, List.setIfInBounds_toArray, List.set_cons_zero, List.set_cons_succ]
      refine held_one 11 (fuel := 1) rfl (by kernel_rfl) ?_
      simp only [List.drop_succ_cons, List.drop_zero]
      refine wpOne_cons (fun KO hK => ?_)
      refine step_appI rfl _ _ rfl _ (k0 + 1) (cat l k0 (fun _ => (d : Int))) rfl OTB _ (L - k0) _ (fun j => l (k0 + j)) rfl (HS2.out _ E) (by omega) ?_
      intro VTC v5 OTC g5 l5
      have hs5 := E.size
      have E' := Below.grown E g5 hs5 lTB
      have lTC : ∀ k, VTC.ownBlock = some k → w8.heap.size ≤ k := by intro k hk; rcases l5 with e | e; (rw [hk] at e; exact lTB k e.symm); (rw [hk] at e; injection e with e; omega)
      clear E; have E := E'; clear E' g5 l5 hs5 OTB lTB
      rw [show k0 + 1 + (L - k0) = L + 1 by omega] at OTC
      replace OTC := OTC.congr (x' := insF l k0 (d : Int)) (fun j hj => by exact ins_cat l k0 d (L - k0) j (by omega))
      obtain ⟨b2, c2, rfl, lb2⟩ := OTC.form (by omega)
      refine hK.out _ _ trivial ?_
      clear hK KO
      try simp only [Act.put, List.setIfInBounds_toArray, List.set_cons_zero, List.set_cons_succ]
      refine held_takes (by kernel_rfl) (fun _ _ _ _ _ h => h) [12] _ 0 _ _ _ rfl (by kernel_rfl) (by kernel_rfl) trivial ?_
      simp only [pick, List.drop_succ_cons, List.drop_zero]
      iterate 1 (refine wpTakes_cons (v := ?_) (Or.inl ⟨by rfl, ?_⟩) ?_; rotate_left; (intro w hSw; go_simp <;> with_reducible rfl); (try simp only [Act.put, List.setIfInBounds_toArray, List.set_cons_zero, List.set_cons_succ]))
      refine wpTakes_nil ?_
      refine wpAnyH_done (by kernel_rfl) ?_ _
      refine NoPanic.normal ?_
      exact hKK.out _ _ _ _ _ _ _ _ _ _ _ _ b2 c2 _ E (lTC b2 rfl) OTC
    · simp only [List.drop_succ_cons, List.drop_zero]
      refine wpOne_cons (fun KO hK => ?_)
      go_simp
      have bb := below_new v1 (.cells #[.int .i64 (d : Int)] 3)
      have OD := Ow.lit1 v1 (fun _ => (d : Int)) (d : Int) rfl
      have E' := E.trans (bb.mono E.size)
      have OA' := OA.below bb (Nat.le_refl _)
      generalize hW : v1.alloc (.cells #[.int .i64 (d : Int)] 3) = v2 at *
      clear hW bb
      obtain ⟨hD, ehD⟩ : ∃ h, h = v1.heap.size := ⟨_, rfl⟩
      rw [← ehD] at OD ⊢
      have lD : w8.heap.size ≤ hD := by have := E.size; omega
      have nA : hA ≠ hD := by have := OA.lt (k := hA) rfl; omega
      clear OA; have OA := OA'; clear OA'
      clear E ehD; have E := E'; clear E'
      refine hK.out _ _ trivial ?_
      clear hK KO
      try simp only [Act.put, List.setIfInBounds_toArray, List.set_cons_zero, List.set_cons_succ]
      refine held_one 4 (fuel := 3) rfl (by kernel_rfl) ?_
      simp only [List.drop_succ_cons, List.drop_zero]
      refine wpOne_cons (fun KO hK => ?_)
      refine step_appI rfl _ _ rfl _ 0 (fun _ => 0) rfl OA _ k0 _ l rfl (HS1.out _ E) (by omega) ?_
      intro VTA v3 OTA g5 l5
      replace OTA := OTA.congr (x' := l) (fun j hj => by rw [cat_hi (Nat.zero_le _), Nat.sub_zero])
      rw [Nat.zero_add] at OTA
      have hs5 := E.size
      have lDo := OD.lt (k := hD) rfl
      have E' := Below.grown E g5 hs5 (by intro k hk; have hk : some hA = some k := hk; injection hk with hk; omega)
      have lTA : ∀ k, VTA.ownBlock = some k → w8.heap.size ≤ k := by intro k hk; rcases l5 with e | e <;> rw [hk] at e <;> injection e with e <;> (try have e : k = hA := e) <;> omega
      replace OD := OD.keep (w' := v3) (fun k hk => by have hk : some hD = some k := hk; injection hk with hk; subst hk; exact g5.block _ (OD.lt (k := hD) rfl) (fun z => by have z : some hD = some hA := z; injection z with z; omega))
      have nD : ∀ k, VTA.ownBlock = some k → k ≠ hD := by intro k hk; rcases l5 with e | e <;> rw [hk] at e <;> injection e with e <;> (try have e : k = hA := e) <;> omega
      clear E; have E := E'; clear E' g5 l5 hs5 OA
      obtain ⟨ATA, cTA, rfl⟩ := OTA.sliced
      refine hK.out _ _ trivial ?_
      clear hK KO
      try simp only [Act.put, List.setIfInBounds_toArray, List.set_cons_zero, List.set_cons_succ]
      refine held_one 7 (fuel := 2) rfl (by kernel_rfl) ?_
      simp only [List.drop_succ_cons, List.drop_zero]
      refine wpOne_cons (fun KO hK => ?_)
      refine step_appI rfl _ _ rfl _ k0 l rfl OTA _ 1 _ (fun _ => (d : Int)) rfl OD.rd.srcI (by omega) ?_
      intro VTB v4 OTB g5 l5
      have hs5 := E.size
      have E' := Below.grown E g5 hs5 lTA
      have lTB : ∀ k, VTB.ownBlock = some k → w8.heap.size ≤ k := by intro k hk; rcases l5 with e | e; (rw [hk] at e; exact lTA k e.symm); (rw [hk] at e; injection e with e; omega)
      clear E; have E := E'; clear E' g5 l5 hs5 OTA OD lTA nD
      obtain ⟨ATB, cTB, rfl⟩ := OTB.sliced
      refine hK.out _ _ trivial ?_
      clear hK KO
      try simp only [Act.put, List.setIfInBounds_toArray, List.set_cons_zero, List.set_cons_succ]
      refine held_one 11 (fuel := 1) rfl (by kernel_rfl) ?_
      simp only [List.drop_succ_cons, List.drop_zero]
      refine wpOne_cons (fun KO hK => ?_)
      refine step_appI rfl _ _ rfl _ (k0 + 1) (cat l k0 (fun _ => (d : Int))) rfl OTB _ (L - k0) _ (fun j => l (k0 + j)) rfl (HS2.out _ E) (by omega) ?_
      intro VTC v5 OTC g5 l5
      have hs5 := E.size
      have E' := Below.grown E g5 hs5 lTB
      have lTC : ∀ k, VTC.ownBlock = some k → w8.heap.size ≤ k := by intro k hk; rcases l5 with e | e; (rw [hk] at e; exact lTB k e.symm); (rw [hk] at e; injection e with e; omega)
      clear E; have E := E'; clear E' g5 l5 hs5 OTB lTB
      rw [show k0 + 1 + (L - k0) = L + 1 by omega] at OTC
      replace OTC := OTC.congr (x' := insF l k0 (d : Int)) (fun j hj => by exact ins_cat l k0 d (L - k0) j (by omega))
      obtain ⟨b2, c2, rfl, lb2⟩ := OTC.form (by omega)
      refine hK.out _ _ trivial ?_
      clear hK KO
      try simp only [Act.put, List.setIfInBounds_toArray, List.set_cons_zero, List.set_cons_succ]
      refine held_takes (by kernel_rfl) (fun _ _ _ _ _ h => h) [12] _ 0 _ _ _ rfl (by kernel_rfl) (by kernel_rfl) trivial ?_
      simp only [pick, List.drop_succ_cons, List.drop_zero]
      iterate 1 (refine wpTakes_cons (v := ?_) (Or.inl ⟨by rfl, ?_⟩) ?_; rotate_left; (intro w hSw; go_simp <;> with_reducible rfl); (try simp only [Act.put, List.setIfInBounds_toArray, List.set_cons_zero, List.set_cons_succ]))
      refine wpTakes_nil ?_
      refine wpAnyH_done (by kernel_rfl) ?_ _
      refine NoPanic.normal ?_
      exact hKK.out _ _ _ _ _ _ _ _ _ _ _ _ b2 c2 _ E (lTC b2 rfl) OTC
  · simp only [List.drop_succ_cons, List.drop_zero]
    refine wpOne_cons (fun KO hK => ?_)
    go_simp
    have bb := below_new v0 (.cells #[.int .i64 (d : Int)] 3)
    have OD := Ow.lit1 v0 (fun _ => (d : Int)) (d : Int) rfl
    have E' := E.trans (bb.mono E.size)
    generalize hW : v0.alloc (.cells #[.int .i64 (d : Int)] 3) = v1 at *
    clear hW bb
    obtain ⟨hD, ehD⟩ : ∃ h, h = v0.heap.size := ⟨_, rfl⟩
    rw [← ehD] at OD ⊢
    have lD : w8.heap.size ≤ hD := by have := E.size; omega
    clear E ehD; have E := E'; clear E'
    refine hK.out _ _ trivial ?_
    clear hK KO
    try simp only [Act.put, List.setIfInBounds_toArray, List.set_cons_zero, List.set_cons_succ]
    refine held_one 0 (fuel := 4) rfl (by kernel_rfl) ?_
    simp only [List.drop_succ_cons, List.drop_zero]
    refine wpOne_cons (fun KO hK => ?_)
    go_simp
    have bb := below_new v1 (.cells #[] 3)
    have OA := Ow.empty v1 (fun _ => 0)
    have E' := E.trans (bb.mono E.size)
    have OD' := OD.below bb (Nat.le_refl _)
    generalize hW : v1.alloc (.cells #[] 3) = v2 at *
    clear hW bb
    obtain ⟨hA, ehA⟩ : ∃ h, h = v1.heap.size := ⟨_, rfl⟩
    rw [← ehA] at OA ⊢
    have lA : w8.heap.size ≤ hA := by have := E.size; omega
    have nA : hA ≠ hD := by have := OD.lt (k := hD) rfl; omega
    clear OD; have OD := OD'; clear OD'
    clear E ehA; have E := E'; clear E'
    refine hK.out _ _ trivial ?_
    clear hK KO
    try simp only [Act.put, List.setIfInBounds_toArray, List.set_cons_zero, List.set_cons_succ]
    refine held_one 4 (fuel := 3) rfl (by kernel_rfl) ?_
    simp only [List.drop_succ_cons, List.drop_zero]
    refine wpOne_cons (fun KO hK => ?_)
    refine step_appI rfl _ _ rfl _ 0 (fun _ => 0) rfl OA _ k0 _ l rfl (HS1.out _ E) (by omega) ?_
    intro VTA v3 OTA g5 l5
    replace OTA := OTA.congr (x' := l) (fun j hj => by rw [cat_hi (Nat.zero_le _), Nat.sub_zero])
    rw [Nat.zero_add] at OTA
    have hs5 := E.size
    have lDo := OD.lt (k := hD) rfl
    have E' := Below.grown E g5 hs5 (by intro k hk; have hk : some hA = some k := hk; injection hk with hk; omega)
    have lTA : ∀ k, VTA.ownBlock = some k → w8.heap.size ≤ k := by intro k hk; rcases l5 with e | e <;> rw [hk] at e <;> injection e with e <;> (try have e : k = hA := e) <;> omega
    replace OD := OD.keep (w' := v3) (fun k hk => by have hk : some hD = some k := hk; injection hk with hk; subst hk; exact g5.block _ (OD.lt (k := hD) rfl) (fun z => by have z : some hD = some hA := z; injection z with z; omega))
    have nD : ∀ k, VTA.ownBlock = some k → k ≠ hD := by intro k hk; rcases l5 with e | e <;> rw [hk] at e <;> injection e with e <;> (try have e : k = hA := e) <;> omega
    clear E; have E := E'; clear E' g5 l5 hs5 OA
    obtain ⟨ATA, cTA, rfl⟩ := OTA.sliced
    refine hK.out _ _ trivial ?_
    clear hK KO
    try simp only [Act.put, List.setIfInBounds_toArray, List.set_cons_zero, List.set_cons_succ]
    refine held_one 7 (fuel := 2) rfl (by kernel_rfl) ?_
    simp only [List.drop_succ_cons, List.drop_zero]
    refine wpOne_cons (fun KO hK => ?_)
    refine step_appI rfl _ _ rfl _ k0 l rfl OTA _ 1 _ (fun _ => (d : Int)) rfl OD.rd.srcI (by omega) ?_
    intro VTB v4 OTB g5 l5
    have hs5 := E.size
    have E' := Below.grown E g5 hs5 lTA
    have lTB : ∀ k, VTB.ownBlock = some k → w8.heap.size ≤ k := by intro k hk; rcases l5 with e | e; (rw [hk] at e; exact lTA k e.symm); (rw [hk] at e; injection e with e; omega)
    clear E; have E := E'; clear E' g5 l5 hs5 OTA OD lTA nD
    obtain ⟨ATB, cTB, rfl⟩ := OTB.sliced
    refine hK.out _ _ trivial ?_
    clear hK KO
    try simp only [Act.put, List.setIfInBounds_toArray, List.set_cons_zero, List.set_cons_succ]
    refine held_one 11 (fuel := 1) rfl (by kernel_rfl) ?_
    simp only [List.drop_succ_cons, List.drop_zero]
    refine wpOne_cons (fun KO hK => ?_)
    refine step_appI rfl _ _ rfl _ (k0 + 1) (cat l k0 (fun _ => (d : Int))) rfl OTB _ (L - k0) _ (fun j => l (k0 + j)) rfl (HS2.out _ E) (by omega) ?_
    intro VTC v5 OTC g5 l5
    have hs5 := E.size
    have E' := Below.grown E g5 hs5 lTB
    have lTC : ∀ k, VTC.ownBlock = some k → w8.heap.size ≤ k := by intro k hk; rcases l5 with e | e; (rw [hk] at e; exact lTB k e.symm); (rw [hk] at e; injection e with e; omega)
    clear E; have E := E'; clear E' g5 l5 hs5 OTB lTB
    rw [show k0 + 1 + (L - k0) = L + 1 by omega] at OTC
    replace OTC := OTC.congr (x' := insF l k0 (d : Int)) (fun j hj => by exact ins_cat l k0 d (L - k0) j (by omega))
    obtain ⟨b2, c2, rfl, lb2⟩ := OTC.form (by omega)
    refine hK.out _ _ trivial ?_
    clear hK KO
    try simp only [Act.put, List.setIfInBounds_toArray, List.set_cons_zero, List.set_cons_succ]
    refine held_takes (by kernel_rfl) (fun _ _ _ _ _ h => h) [12] _ 0 _ _ _ rfl (by kernel_rfl) (by kernel_rfl) trivial ?_
    simp only [pick, List.drop_succ_cons, List.drop_zero]
    iterate 1 (refine wpTakes_cons (v := ?_) (Or.inl ⟨by rfl, ?_⟩) ?_; rotate_left; (intro w hSw; go_simp <;> with_reducible rfl); (try simp only [Act.put, List.setIfInBounds_toArray, List.set_cons_zero, List.set_cons_succ]))
    refine wpTakes_nil ?_
    refine wpAnyH_done (by kernel_rfl) ?_ _
    refine NoPanic.normal ?_
    exact hKK.out _ _ _ _ _ _ _ _ _ _ _ _ b2 c2 _ E (lTC b2 rfl) OTC
end Go.Proofs.Ytcejjcopchkmeaa.Ro
namespace Go.Proofs.Ytcejjcopchkmeaa.Ro
open Go.RowKit Go.Proofs Go.Maps
set_option linter.unusedVariables false
set_option maxRecDepth 100000
set_option linter.unusedSimpArgs false

/-- a net whose edges are laid, its darts rounds of their own -/
structure NetUp (N m : Nat) (t x c : Nat → Int) : Prop where
  tail : ∀ d, d < m → 0 ≤ t d ∧ t d < N
  own : ∀ d, d < m → x d = (d : Int)
  cap : ∀ d, d < m → 0 ≤ c d ∧ c d ≤ 2147483648
theorem NetUp.step {N m : Nat} {t x c : Nat → Int} (h : NetUp N m t x c) {a b p q : Int} (ha : 0 ≤ a ∧ a < N) (hb : 0 ≤ b ∧ b < N) (hp : 0 ≤ p ∧ p ≤ 2147483648) (hq : 0 ≤ q ∧ q ≤ 2147483648) :
    NetUp N (m + 2) (cat t m (two a b)) (cat x m (two (m : Int) ((m : Int) + 1))) (cat c m (two p q)) := by
  refine ⟨fun d hd => ?_, fun d hd => ?_, fun d hd => ?_⟩
  all_goals
    by_cases e : d < m
    · rw [cat_lo e]
      first | exact h.tail d e | exact h.own d e | exact h.cap d e
    · rw [cat_hi (by omega)]
      unfold two
      split <;> omega
theorem small_div7 {z : Int} (h : Small z) : (-9223372036854775808 ≤ z ∧ z ≤ 9223372036854775807) ∧ (-9223372036854775808 ≤ z.tdiv 7 ∧ z.tdiv 7 ≤ 9223372036854775807) := by
  have b1 : -9223372036854775808 ≤ z ∧ z ≤ 9223372036854775807 := by unfold Small at h; simp [Lit.wf, IntKind.min, IntKind.max, IntKind.signed, IntKind.bits] at h; omega
  have h1 := Int.mul_tdiv_add_tmod z 7
  have h2 := Int.tmod_lt_of_pos z (b := 7) (by omega)
  have h3 := Int.lt_tmod_of_pos z (b := 7) (by omega)
  omega
theorem small_div11 {z : Int} (h : Small z) : Small (z.tdiv 11) := by
  have b1 : -9223372036854775808 ≤ z ∧ z ≤ 9223372036854775807 := by unfold Small at h; simp [Lit.wf, IntKind.min, IntKind.max, IntKind.signed, IntKind.bits] at h; omega
  have h1 := Int.mul_tdiv_add_tmod z 11
  have h2 := Int.tmod_lt_of_pos z (b := 11) (by omega)
  have h3 := Int.lt_tmod_of_pos z (b := 11) (by omega)
  exact small_of (by omega) (by omega)

theorem Ow.cap_ge {w : World} {b n c : Nat} {x : Nat → Int} (h : Ow w (.slice (some ⟨b, 0, none⟩) n c) n x) : n ≤ c := by
  obtain ⟨xs, ⟨_, h1⟩, _⟩ := h
  rcases h1 with ⟨e, _⟩ | ⟨b', cap', cur, e, _, _, r, _⟩
  · cases e
  · injection e with _ _ e3
    omega
set_option maxRecDepth 100000 in
set_option maxHeartbeats 12800000 in
theorem make1_ok (w : World) (sz : Int) (V : Value) (n : Nat) (z : Nat → Int) (hV : Rd w V n z) (hz : ∀ i, i < n → Small (z i)) (hn : n ≤ 9223372036854775807) (hs : Small sz) :
    Calls Try.prog 17 #[.int .i64 sz, V] w fun e w' => ∃ (N m : Nat) (T X C : Value) (t x c : Nat → Int), e = .returned (.agg #[.int .i64 (N : Int), T, X, C]) ∧ Rows w' w.heap.size T X C m t x c ∧ (N : Int) = sz % 9 ∧ Made N m t x c ∧ Below w.heap.size w w' := by
  obtain ⟨YA, yc, rfl, ry⟩ := hV
  have HY := Lib.hid ry
  have HZ := Lib.hid hz
  clear ry hz
  obtain ⟨N, hN, hN9⟩ := small_within (d := sz) (m := 9) (by omega)
  have HN := Lib.hid hN
  go_enter Try.func17, Try.ntmps17
  go_upto_block 0 with (go_at_call 37; refine (within1_any _ sz 9 hs (by omega) (by omega)).mono ?_; rintro e w2 ⟨rfl, rfl⟩; rw [show sz % (9 : Int) = (N : Int) from HN.out])
  clear hN
  have QQ : Box ((w.alloc (.cells #[.int .i64 0, .slice none 0 0, .slice none 0 0, .slice none 0 0] 25)).alloc (.cells #[.int .i64 (N : Int), .slice none 0 0, .slice none 0 0, .slice none 0 0] 25)) w.heap.size 0 (.slice none 0 0) (.slice none 0 0) (.slice none 0 0) := (Below.block (below_new _ _) _ (by simp)).trans (heap_alloc_new _ _)
  have BX : Box ((w.alloc (.cells #[.int .i64 0, .slice none 0 0, .slice none 0 0, .slice none 0 0] 25)).alloc (.cells #[.int .i64 (N : Int), .slice none 0 0, .slice none 0 0, .slice none 0 0] 25)) (w.heap.size + 1) (N : Int) (.slice none 0 0) (.slice none 0 0) (.slice none 0 0) := by
    have h := heap_alloc_new (w.alloc (.cells #[.int .i64 0, .slice none 0 0, .slice none 0 0, .slice none 0 0] 25)) (.cells #[.int .i64 (N : Int), .slice none 0 0, .slice none 0 0, .slice none 0 0] 25)
    rw [show (w.alloc (.cells #[.int .i64 0, .slice none 0 0, .slice none 0 0, .slice none 0 0] 25)).heap.size = w.heap.size + 1 by simp] at h
    exact h
  have B1 : Below w.heap.size w ((w.alloc (.cells #[.int .i64 0, .slice none 0 0, .slice none 0 0, .slice none 0 0] 25)).alloc (.cells #[.int .i64 (N : Int), .slice none 0 0, .slice none 0 0, .slice none 0 0] 25)) := (below_new w _).trans ((below_new _ _).mono (by simp))
  generalize ((w.alloc (.cells #[.int .i64 0, .slice none 0 0, .slice none 0 0, .slice none 0 0] 25)).alloc (.cells #[.int .i64 (N : Int), .slice none 0 0, .slice none 0 0, .slice none 0 0] 25)) = w1 at *
  obtain ⟨q0, hq0⟩ : ∃ q, q = w.heap.size := ⟨_, rfl⟩
  rw [← hq0] at QQ BX ⊢
  have HQ := Lib.hid hq0
  have hqB : w.heap.size ≤ q0 := by omega
  clear hq0
  have R1 : Rows w1 (q0 + 2) (.slice none 0 0) (.slice none 0 0) (.slice none 0 0) 0 (fun _ => 0) (fun _ => 0) (fun _ => 0) := ⟨Ow.nil _ _, Ow.nil _ _, Ow.nil _ _, fun k hk => (by cases hk), fun k hk => (by cases hk), fun k hk => (by cases hk), fun k hk => (by cases hk), fun k hk => (by cases hk), fun k hk => (by cases hk)⟩
  go_cut [6] (fun _ wc => ∃ (i : Nat) (T X C : Value) (t x c : Nat → Int), i % 2 = 0 ∧ i ≤ 40 ∧ Hid (NetUp N i t x c) ∧ Box wc (q0 + 1) (N : Int) T X C ∧ Box wc q0 0 (.slice none 0 0) (.slice none 0 0) (.slice none 0 0) ∧ Rows wc (q0 + 2) T X C i t x c ∧ Below w.heap.size w wc)
  case first =>
    go_wp2_with fail
    go_loopw [6] (fun u wr => ∃ (i : Nat) (T X C : Value) (t x c : Nat → Int), u = .int .i64 (i : Int) ∧ i % 2 = 0 ∧ i ≤ 40 ∧ Hid (NetUp N i t x c) ∧ Box wr (q0 + 1) (N : Int) T X C ∧ Box wr q0 0 (.slice none 0 0) (.slice none 0 0) (.slice none 0 0) ∧ Rows wr (q0 + 2) T X C i t x c ∧ Below w.heap.size w wr) (fun u _ => 40 - (intOf u).toNat)
    case atStart => exact ⟨0, _, _, _, _, _, _, rfl, rfl, by omega, Lib.hid ⟨fun d h => by omega, fun d h => by omega, fun d h => by omega⟩, BX, QQ, R1, B1⟩
    case round =>
      clear BX QQ R1 B1
      obtain ⟨i, T, X, C, t, x, c, rfl, hi2, hi, HU, BX, QQ, R1, B1⟩ := hrel
      have c0 : wr.cell? ⟨q0 + 1, 0, none⟩ = some (.int .i64 (N : Int)) := blk_cell BX 0
      by_cases h1 : i + 1 < n
      rotate_left
      · have d1 : decide ((i : Int) + 1 < (n : Int)) = false := by simp; omega
        clear c0
        go_wp2_with fail
        go_meet
        exact ⟨i, T, X, C, t, x, c, hi2, hi, HU, BX, QQ, R1, B1⟩
      have d1 : decide ((i : Int) + 1 < (n : Int)) = true := by simp; omega
      by_cases h2 : i < 40
      rotate_left
      · have d2 : decide ((i : Int) < 40) = false := by simp; omega
        have d2' : decide (i < 40) = false := by simp; omega
        clear c0
        go_wp2_with fail
        go_meet
        exact ⟨i, T, X, C, t, x, c, hi2, hi, HU, BX, QQ, R1, B1⟩
      have d2 : decide ((i : Int) < 40) = true := by simp; omega
      have d2' : decide (i < 40) = true := by simp; omega
      by_cases h3 : 0 < N
      rotate_left
      · have d3 : decide ((N : Int) > 0) = false := by simp; omega
        have d3' : decide (0 < N) = false := by simp; omega
        go_wp2_with fail
        go_meet
        exact ⟨i, T, X, C, t, x, c, hi2, hi, HU, BX, QQ, R1, B1⟩
      have d3 : decide ((N : Int) > 0) = true := by simp; omega
      have d3' : decide (0 < N) = true := by simp; omega
      have dn : (i : Int) < (n : Int) := by omega
      obtain ⟨y, rfl, hy, hc⟩ := HY.out (by omega)
      have cy := rd_cell B1 hy (Nat.le_refl _) (hc i (by omega))
      have cy1 := rd_cell B1 hy (Nat.le_refl _) (hc (i + 1) h1)
      have sm := HZ.out i (by omega)
      have sm1 := HZ.out (i + 1) h1
      have lyw : y.block < wr.heap.size := Nat.lt_of_lt_of_le hy B1.size
      have nyq : y.block ≠ q0 + 1 := by omega
      clear hc
      go_upto_region 6 with (go_at_call 37; refine (within1_any _ (z i) 1099511627776 sm (by omega) (by omega)).mono ?_; rintro e w2 ⟨rfl, rfl⟩)
      have m1 := Int.emod_nonneg (z i) (b := 1099511627776) (by omega)
      have m2 := Int.emod_lt_of_pos (z i) (b := 1099511627776) (by omega)
      generalize (z i % 1099511627776) = k at *
      obtain ⟨i1, hi1⟩ : ∃ i1, i1 = i + 1 := ⟨_, rfl⟩
      rw [← hi1] at cy1 sm1
      have a0 := Int.emod_nonneg k (b := (N : Int)) (by omega)
      have a1 := Int.emod_lt_of_pos k (b := (N : Int)) (by omega)
      have a2 := Int.emod_nonneg (k / 9) (b := (N : Int)) (by omega)
      have a3 := Int.emod_lt_of_pos (k / 9) (b := (N : Int)) (by omega)
      have HU2 := Lib.hid (HU.out.step ⟨a0, a1⟩ ⟨a2, a3⟩ (capOf_in (z i1)) (capOf_in ((z i1).tdiv 11)))
      clear a0 a1 a2 a3 cy c0
      refine Code.wp_mono NoPanic.imp (make6 wr (q0 + 1) N i n yc i i1 y k (z i1) ((z i1).tdiv 11) (k % (N : Int)) (k / 9 % (N : Int)) T X C t x c _ _ _ _ _ _ _ _ _ _ _ _ _ _ _ _ _ _ _ _ _ _ _ _ _ _ _ _ _ _ _ _ _ _ _ _ _ _ _ _ _ _ _ _ _ _ _ _ _ _ _ _ _ _ _ _ _ _ _ _ _ _ _ _ _ _ _ _ _ _ _ _ _ _ _ _ _ _ _ _ _ _ _ _ _ _ _ _ _ _ _ _ _ _ _ _ _ _ _ _ _ _ _ _ _ _ _ _ _ _ _ _ _ _ _ _ BX R1.ot.rd R1.ox.rd R1.oc.rd (by omega) cy1 lyw nyq (by omega) hi1 hn sm1 (small_div11 sm1) rfl h3 (by omega) m1 m2 rfl rfl ?_)
      intro u36 u37 u38 u39 u40 u41 u42 u43 u44 u45 u46 u47 u48 u49 u50 u51 u52 u53 u54 u55 u56 u57 u58 u59 u60 u61 u62 u63 T' X' C' w2 b2 R2
      have B2 := put4_below (p := q0 + 1) (B1.trans (b2.mono B1.size)) (by omega) (N : Int) T' X' C'
      have lq := blk_lt BX
      have X2 := put4_box (BX.below b2 (Nat.le_refl _)) (N : Int) T' X' C'
      have Q2 : Box (put4 w2 (q0 + 1) (N : Int) T' X' C') q0 0 (.slice none 0 0) (.slice none 0 0) (.slice none 0 0) := (put4_ne (by omega)).trans (QQ.below b2 (Nat.le_refl _))
      have R3 : Rows (put4 w2 (q0 + 1) (N : Int) T' X' C') (q0 + 2) T' X' C' (i + 2) (cat t i (two (k % (N : Int)) (k / 9 % (N : Int)))) (cat x i (two (i : Int) ((i : Int) + 1))) (cat c i (two (capOf (z i1)) (capOf ((z i1).tdiv 11)))) :=
        (R2.keep fun k hk => put4_ne (by have := (R2.lt hk).1; omega)).base (by omega)
      clear BX QQ R1 B1 b2 R2 cy1 HU
      generalize put4 w2 (q0 + 1) (N : Int) T' X' C' = w3 at *
      go_wp2_with fail
      go_roundw
      case rel => exact ⟨i + 2, T', X', C', _, _, _, by simp, by omega, by omega, HU2, X2, Q2, R3, B2⟩
      case measure => simp [intOf]; omega
  case rest =>
    clear BX QQ R1 B1
    obtain ⟨m, T, X, C, t, x, c, hm2, hm, HU, BX, QQ, R1, B1⟩ := hcut
    generalize wc = w3 at *
    have LD : Hid (Laid t x m 0) := Lib.hid (Laid.start (fun d hd => (HU.out.tail d hd).1) HU.out.own)
    go_wp2_with fail
    go_loopw [8] (fun u wr => ∃ (v : Nat) (X : Value) (x : Nat → Int), u = .int .i64 (v : Int) ∧ v ≤ N ∧ Hid (Laid t x m v) ∧ Box wr (q0 + 1) (N : Int) T X C ∧ Box wr q0 0 (.slice none 0 0) (.slice none 0 0) (.slice none 0 0) ∧ Rows wr (q0 + 2) T X C m t x c ∧ Below w.heap.size w wr) (fun u _ => N - (intOf u).toNat)
    case atStart => exact ⟨0, X, x, rfl, Nat.zero_le _, LD, BX, QQ, R1, B1⟩
    case round =>
      clear BX QQ R1 B1 LD
      obtain ⟨v, X, x, rfl, hv, LD, BX, QQ, R1, B1⟩ := hrel
      have c0 : wr.cell? ⟨q0 + 1, 0, none⟩ = some (.int .i64 (N : Int)) := blk_cell BX 0
      by_cases hlt : v < N
      · have d1 : (v : Int) < (N : Int) := by omega
        obtain ⟨wo, rfl⟩ : ∃ wo : World, wo = wr := ⟨_, rfl⟩
        go_wp2_with fail
        clear c0
        go_loopw [9, 10] (fun u9 u10 wr => ∃ (d L : Nat) (l : Nat → Int), u10 = .int .i64 (d : Int) ∧ d ≤ m ∧ L ≤ d ∧ ((L = 0 ∧ u9 = .slice none 0 0) ∨ ∃ b cap, u9 = .slice (some ⟨b, 0, none⟩) L cap ∧ 0 < L ∧ L ≤ cap ∧ Ow wr (.slice (some ⟨b, 0, none⟩) L cap) L l) ∧ Hid (Darts t (v : Int) d L l) ∧ Below wo.heap.size wo wr) (fun _ u10 _ => m - (intOf u10).toNat)
        case atStart => exact ⟨0, 0, fun _ => 0, rfl, Nat.zero_le _, Nat.le_refl _, .inl ⟨rfl, rfl⟩, Lib.hid (Darts.start _ _ _), Below.refl _ _⟩
        case round =>
          obtain ⟨d, L, l, rfl, hd, hL, hrow, DD, B5⟩ := hrel
          have BX5 := BX.below B5 (Nat.le_refl _)
          have R5 := R1.below B5 (Nat.le_refl _)
          have B15 := B1.trans (B5.mono B1.size)
          have c1 : wr.cell? ⟨q0 + 1, 1, none⟩ = some T := blk_cell BX5 1
          obtain ⟨TA, tp, rfl, rt⟩ := id R5.ot.rd
          obtain ⟨A9, c9, rfl⟩ : ∃ A9 c9, u9 = .slice A9 L c9 := by
            rcases hrow with ⟨rfl, rfl⟩ | ⟨b, cap, rfl, _⟩
            · exact ⟨_, _, rfl⟩
            · exact ⟨_, _, rfl⟩
          by_cases hdm : d < m
          · have d2 : (d : Int) < (m : Int) := by omega
            obtain ⟨yt, rfl, lyt, ct⟩ := rt (by omega)
            have ctd := ct d hdm
            clear ct
            by_cases hq : t d = (v : Int)
            rotate_left
            · have q1 : (t d != (v : Int)) = true := by simpa using hq
              have DD2 := Lib.hid (DD.out.skip hq)
              clear hq
              go_wp2_with fail
              go_roundw
              case rel => exact ⟨d + 1, L, l, by simp, by omega, by omega, hrow, DD2, B5⟩
              case measure => simp [intOf]; omega
            have q1 : (t d != (v : Int)) = false := by simpa using hq
            have DS : Hid (∀ k0, k0 ≤ L → Darts t (v : Int) (d + 1) (L + 1) (insF l k0 d)) := Lib.hid fun k0 h => DD.out.step h hq
            clear hq
            go_upto_if 86 with fail
            clear c1 ctd
            go_cut [11] (fun u wx => ∃ k0 : Nat, u = .int .i64 (k0 : Int) ∧ k0 ≤ L ∧ wx = wr)
            case first =>
              by_cases hn0 : 0 < n
              · have p1 : decide ((n : Int) > 0) = true := by simp; omega
                have p2 : decide (0 < n) = true := by simp; omega
                obtain ⟨y, rfl, hy, hc⟩ := HY.out (by omega)
                have ln : d % n < n := Nat.mod_lt _ hn0
                have cz := rd_cell B15 hy (Nat.le_refl _) (hc (d % n) ln)
                have sz1 := HZ.out (d % n) ln
                obtain ⟨e, he⟩ : ∃ e, e = d % n := ⟨_, rfl⟩
                rw [← he] at cz sz1 ln
                have tm : (d : Int).tmod (n : Int) = (e : Int) := by rw [Int.tmod_eq_emod_of_nonneg (by omega), he]; exact (Int.natCast_emod d n).symm
                have e2 : (e : Int) < (n : Int) := by omega
                have nn : ¬ (n = 0) := by omega
                obtain ⟨⟨b1, b2⟩, b3, b4⟩ := small_div7 sz1
                obtain ⟨g, hg⟩ : ∃ g, (z e).tdiv 7 = g := ⟨_, rfl⟩
                rw [hg] at b3 b4
                have wg : IntKind.i64.wrap g = g := by rw [IntKind.wrap_i64]; omega
                have sg : Small g := small_of b3 b4
                have m1 := Int.emod_nonneg g (b := (L : Int) + 1) (by omega)
                have m2 := Int.emod_lt_of_pos g (b := (L : Int) + 1) (by omega)
                clear he hc
                go_wp2_with (go_at_call 37; refine (within1_any _ g ((L : Int) + 1) sg (by omega) (by omega)).mono ?_; rintro e w2 ⟨rfl, rfl⟩)
                go_meet
                exact ⟨(g % ((L : Int) + 1)).toNat, by rw [show (((g % ((L : Int) + 1)).toNat : Nat) : Int) = g % ((L : Int) + 1) by omega], by omega, rfl⟩
              · have p1 : decide ((n : Int) > 0) = false := by simp; omega
                have p2 : decide (0 < n) = false := by simp; omega
                go_wp2_with fail
                go_meet
                exact ⟨0, rfl, Nat.zero_le _, rfl⟩
            case rest =>
              obtain ⟨k0, rfl, hk0, rfl⟩ := hcut
              go_upto_region 18 with fail
              have DS2 := Lib.hid (DS.out k0 hk0)
              clear DS DD
              rcases hrow with ⟨rfl, e9⟩ | ⟨b, cap, e9, hL0, hLc, O9⟩
              · injection e9 with e1 e2 e3
                subst e1 e3
                obtain rfl : k0 = 0 := by omega
                refine Code.wp_mono NoPanic.imp (make18n wc 0 0 d l _ _ _ _ _ _ _ _ _ _ _ _ _ _ _ _ _ _ _ _ _ _ _ _ _ _ _ _ _ _ _ _ _ _ _ _ _ _ _ _ _ _ _ _ _ _ _ _ _ _ _ _ _ _ _ _ _ _ _ _ _ _ _ _ _ _ _ _ _ _ _ _ _ _ _ _ _ _ _ _ _ _ _ _ _ _ _ _ _ _ _ _ _ _ _ _ _ _ _ _ _ _ _ _ _ _ _ _ _ _ _ _ _ _ _ _ _ rfl rfl ?_)
                intro u99 u100 u101 u102 u103 u104 u105 u106 u107 u108 u109 u110 b2 c2 w6 b6 lb O6
                have cc := O6.cap_ge
                have B6 := B5.trans (b6.mono B5.size)
                go_wp2_with fail
                go_roundw
                case rel => exact ⟨d + 1, 0 + 1, _, by simp, by omega, by omega, .inr ⟨b2, c2, rfl, by omega, cc, O6⟩, DS2, B6⟩
                case measure => simp [intOf]; omega
              · injection e9 with e1 e2 e3
                subst e1 e3
                refine Code.wp_mono NoPanic.imp (make18b wc L k0 b c9 d l _ _ _ _ _ _ _ _ _ _ _ _ _ _ _ _ _ _ _ _ _ _ _ _ _ _ _ _ _ _ _ _ _ _ _ _ _ _ _ _ _ _ _ _ _ _ _ _ _ _ _ _ _ _ _ _ _ _ _ _ _ _ _ _ _ _ _ _ _ _ _ _ _ _ _ _ _ _ _ _ _ _ _ _ _ _ _ _ _ _ _ _ _ _ _ _ _ _ _ _ _ _ _ _ _ _ _ _ _ _ _ _ _ _ _ _ _ O9 (by omega) hLc hk0 ?_)
                intro u99 u100 u101 u102 u103 u104 u105 u106 u107 u108 u109 u110 b2 c2 w6 b6 lb O6
                have cc := O6.cap_ge
                have B6 := B5.trans (b6.mono B5.size)
                go_wp2_with fail
                go_roundw
                case rel => exact ⟨d + 1, L + 1, _, by simp, by omega, by omega, .inr ⟨b2, c2, rfl, by omega, cc, O6⟩, DS2, B6⟩
                case measure => simp [intOf]; omega
          · have d2 : ¬ ((d : Int) < (m : Int)) := by omega
            obtain rfl : m = d := by omega
            clear hdm
            have RV : Rd wr (.slice A9 L c9) L l ∧ (0 < L → ∃ lb lp, Value.slice A9 L c9 = .slice (some ⟨lb, 0, none⟩) L lp ∧ L ≤ lp) := by
              rcases hrow with ⟨rfl, e9⟩ | ⟨b, cap, e9, hL0, hLc, O9⟩
              · rw [e9]; exact ⟨(Ow.nil _ _).rd, fun h => by omega⟩
              · rw [e9]; exact ⟨O9.rd, fun _ => ⟨b, cap, rfl, hLc⟩⟩
            have HRV := Lib.hid RV
            clear RV hrow
            obtain ⟨XA, xp, rfl, -⟩ := id R5.ox.rd
            obtain ⟨CA, cp, rfl, -⟩ := id R5.oc.rd
            have c0 : wr.cell? ⟨q0 + 1, 0, none⟩ = some (.int .i64 (N : Int)) := blk_cell BX5 0
            have c2 : wr.cell? ⟨q0 + 1, 2, none⟩ = some (.slice XA m xp) := blk_cell BX5 2
            have c3 : wr.cell? ⟨q0 + 1, 3, none⟩ = some (.slice CA m cp) := blk_cell BX5 3
            have HRd := Lib.hid (And.intro R5.ot.rd (And.intro R5.ox.rd R5.oc.rd))
            have QQ5 := QQ.below B5 (Nat.le_refl _)
            have HR5 := Lib.hid R5
            have HBX := Lib.hid BX5
            have lq : q0 + 1 < wr.heap.size := blk_lt BX5
            clear R5 BX5 rt
            go_upto_region 9 with (go_at_call 39; refine (refRound1_ok _ (N : Int) (v : Int) _ _ _ _ m L t x c l HRd.out.1 HRd.out.2.1 HRd.out.2.2 HRV.out.1 (by omega) (by omega) HRV.out.2 DD.out.low DD.out.apart DD.out.all).mono ?_; rintro e w6 ⟨X', x', rfl, OX, lX, f1, f2, bb⟩; obtain ⟨A', c', rfl⟩ := OX.sliced; have Xc := HBX.out.below bb (Nat.le_refl _); have r0 : w6.cell? ⟨q0 + 1, 0, none⟩ = some (.int .i64 (N : Int)) := blk_cell Xc 0; have r1 : w6.cell? ⟨q0 + 1, 1, none⟩ = some (.slice TA m tp) := blk_cell Xc 1; have r2 : w6.cell? ⟨q0 + 1, 2, none⟩ = some (.slice XA m xp) := blk_cell Xc 2; have r3 : w6.cell? ⟨q0 + 1, 3, none⟩ = some (.slice CA m cp) := blk_cell Xc 3; have g0 := blk_frozen Xc 0; have g1 := blk_frozen Xc 1; have g2 := blk_frozen Xc 2; have g3 := blk_frozen Xc 3; have HF := Lib.hid (And.intro f1 f2); clear f1 f2)
            have LD2 := Lib.hid (LD.out.step DD.out HF.out.1 HF.out.2)
            have X7 := put4_box Xc (N : Int) (.slice TA m tp) (.slice A' m c') (.slice CA m cp)
            have Q7 : Box (put4 w6 (q0 + 1) (N : Int) (.slice TA m tp) (.slice A' m c') (.slice CA m cp)) q0 0 (.slice none 0 0) (.slice none 0 0) (.slice none 0 0) := (put4_ne (by omega)).trans (QQ5.below bb (Nat.le_refl _))
            have B7 := put4_below (p := q0 + 1) (B15.trans (bb.mono B15.size)) (by omega) (N : Int) (.slice TA m tp) (.slice A' m c') (.slice CA m cp)
            have R6 := HR5.out.below bb (Nat.le_refl _)
            have ltT := fun k hk => HR5.out.ot.lt (k := k) hk
            have ltC := fun k hk => HR5.out.oc.lt (k := k) hk
            have R7 : Rows (put4 w6 (q0 + 1) (N : Int) (.slice TA m tp) (.slice A' m c') (.slice CA m cp)) (q0 + 2) (.slice TA m tp) (.slice A' m c') (.slice CA m cp) m t x' c :=
              ⟨R6.ot.keep fun k hk => put4_ne (by have := R6.bt k hk; omega), OX.keep fun k hk => put4_ne (by have := lX k hk; omega), R6.oc.keep fun k hk => put4_ne (by have := R6.bc k hk; omega),
                R6.bt, fun k hk => by have := lX k hk; omega, R6.bc, fun k hk hk' => by have := lX k hk'; have := ltT k hk; omega, R6.tc, fun k hk hk' => by have := lX k hk; have := ltC k hk'; omega⟩
            clear ltT ltC R6 OX lX Xc r0 r1 r2 r3 g0 g1 g2 g3 bb
            unfold put4 at X7 Q7 B7 R7
            generalize (((w6.setCell ⟨q0 + 1, 0, none⟩ (.int .i64 (N : Int))).setCell ⟨q0 + 1, 1, none⟩ (.slice TA m tp)).setCell ⟨q0 + 1, 2, none⟩ (.slice A' m c')).setCell ⟨q0 + 1, 3, none⟩ (.slice CA m cp) = w7 at *
            go_wp2_with fail
            go_roundw
            case rel => exact ⟨v + 1, _, x', by simp, by omega, LD2, X7, Q7, R7, B7⟩
            case measure => simp [intOf]; omega
      · have d1 : ¬ ((v : Int) < (N : Int)) := by omega
        obtain rfl : N = v := by omega
        obtain ⟨TA, tp, rfl, -⟩ := id R1.ot.rd
        obtain ⟨XA, xp, rfl, -⟩ := id R1.ox.rd
        obtain ⟨CA, cp, rfl, -⟩ := id R1.oc.rd
        have MD : Hid (Made N m t x c) := Lib.hid (by
          obtain ⟨h1, h2⟩ := LD.out.turns HU.out.tail
          exact ⟨by omega, hm, hm2, HU.out.tail, h2, HU.out.cap, h1⟩)
        have c1 : wr.cell? ⟨q0 + 1, 1, none⟩ = some (.slice TA m tp) := blk_cell BX 1
        have c2 : wr.cell? ⟨q0 + 1, 2, none⟩ = some (.slice XA m xp) := blk_cell BX 2
        have c3 : wr.cell? ⟨q0 + 1, 3, none⟩ = some (.slice CA m cp) := blk_cell BX 3
        have r0 : wr.cell? ⟨q0, 0, none⟩ = some (.int .i64 0) := blk_cell QQ 0
        have r1 : wr.cell? ⟨q0, 1, none⟩ = some (.slice none 0 0) := blk_cell QQ 1
        have r2 : wr.cell? ⟨q0, 2, none⟩ = some (.slice none 0 0) := blk_cell QQ 2
        have r3 : wr.cell? ⟨q0, 3, none⟩ = some (.slice none 0 0) := blk_cell QQ 3
        have f0 := blk_frozen QQ 0
        have f1 := blk_frozen QQ 1
        have f2 := blk_frozen QQ 2
        have f3 := blk_frozen QQ 3
        have RB : Hid (Box (put4 wr q0 (N : Int) (.slice TA m tp) (.slice XA m xp) (.slice CA m cp)) q0 (N : Int) (.slice TA m tp) (.slice XA m xp) (.slice CA m cp)) := Lib.hid (put4_box QQ _ _ _ _)
        have FB : Hid (Below w.heap.size w (put4 wr q0 (N : Int) (.slice TA m tp) (.slice XA m xp) (.slice CA m cp))) := Lib.hid (put4_below B1 (by omega) _ _ _ _)
        have FO : Hid (Rows (put4 wr q0 (N : Int) (.slice TA m tp) (.slice XA m xp) (.slice CA m cp)) w.heap.size (.slice TA m tp) (.slice XA m xp) (.slice CA m cp) m t x c) := Lib.hid ((R1.keep fun k hk => put4_ne (by have := (R1.lt hk).1; omega)).base (by omega))
        clear BX QQ R1 B1
        unfold put4 at RB FB FO
        go_wp2_with fail
        generalize (((wr.setCell ⟨q0, 0, none⟩ (.int .i64 (N : Int))).setCell ⟨q0, 1, none⟩ (.slice TA m tp)).setCell ⟨q0, 2, none⟩ (.slice XA m xp)).setCell ⟨q0, 3, none⟩ (.slice CA m cp) = w9 at *
        have RBx := RB.out
        have z0 : w9.cell? ⟨q0, 0, none⟩ = some (.int .i64 (N : Int)) := blk_cell RBx 0
        have z1 : w9.cell? ⟨q0, 1, none⟩ = some (.slice TA m tp) := blk_cell RBx 1
        have z2 : w9.cell? ⟨q0, 2, none⟩ = some (.slice XA m xp) := blk_cell RBx 2
        have z3 : w9.cell? ⟨q0, 3, none⟩ = some (.slice CA m cp) := blk_cell RBx 3
        exact bodyPost_ret (v := .agg #[.int .i64 (N : Int), .slice TA m tp, .slice XA m xp, .slice CA m cp]) (by simp [results, Try.results17, go_sem, z0, z1, z2, z3]) rfl ⟨N, m, _, _, _, rfl, t, x, c, FO.out, HN.out.symm, MD.out, FB.out⟩
end Go.Proofs.Ytcejjcopchkmeaa.Ro
