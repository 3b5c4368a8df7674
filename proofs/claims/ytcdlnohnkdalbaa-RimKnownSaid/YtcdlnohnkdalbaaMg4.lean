/- Rows of arcs that grow. Walks: which arcs may be gone along; the distances ahead of all arcs. Arcs appended out of any row, nil too; in plain regions and in drawn ones. -/
import Derived.Deep.RegionLaw
import Derived.Test.YtcdlnohnkdalbaaMg1
import Derived.Test.YtcdlnohnkdalbaaMg3
namespace Go.Proofs.Ytcdlnohnkdalbaa.Ro
open Go.RowKit Go.Proofs Go.Maps
set_option linter.unusedVariables false
set_option maxRecDepth 100000
set_option linter.unusedSimpArgs false

/-- the cells of arcs, one behind the other -/
def arcCell (S : ArcsF) (i : Nat) : Value := if i % 3 = 0 then .int .i64 (S.fr (i / 3) : Int) else if i % 3 = 1 then .int .i64 (S.th (i / 3) : Int) else .int .i64 (S.ln (i / 3))
theorem arcCell_0 (S : ArcsF) (j : Nat) : arcCell S (j * 3) = .int .i64 (S.fr j : Int) := by unfold arcCell; rw [if_pos (by omega), show j * 3 / 3 = j by omega]
theorem arcCell_1 (S : ArcsF) (j : Nat) : arcCell S (j * 3 + 1) = .int .i64 (S.th j : Int) := by unfold arcCell; rw [if_neg (by omega), if_pos (by omega), show (j * 3 + 1) / 3 = j by omega]
theorem arcCell_2 (S : ArcsF) (j : Nat) : arcCell S (j * 3 + 2) = .int .i64 (S.ln j) := by unfold arcCell; rw [if_neg (by omega), if_neg (by omega), show (j * 3 + 2) / 3 = j by omega]
theorem arcCell_one (S : ArcsF) (i : Nat) : (arcCell S i).oneCell' = true := by
  unfold arcCell
  split
  · rfl
  · split <;> rfl
theorem arcCell_same {S S' : ArcsF} {k : Nat} (h : ∀ j, j < k → S.fr j = S'.fr j ∧ S.th j = S'.th j ∧ S.ln j = S'.ln j) {i : Nat} (hi : i < k * 3) : arcCell S i = arcCell S' i := by
  obtain ⟨h1, h2, h3⟩ := h (i / 3) (by omega)
  unfold arcCell
  rw [h1, h2, h3]
/-- arcs behind arcs -/
def catA (S : ArcsF) (n : Nat) (S' : ArcsF) : ArcsF := ⟨fun j => if j < n then S.fr j else S'.fr (j - n), fun j => if j < n then S.th j else S'.th (j - n), fun j => if j < n then S.ln j else S'.ln (j - n)⟩
theorem catA_cell (S S' : ArcsF) (n i : Nat) : arcCell (catA S n S') i = if i < n * 3 then arcCell S i else arcCell S' (i - n * 3) := by
  by_cases h : i < n * 3
  · rw [if_pos h]
    have q : i / 3 < n := by omega
    unfold arcCell catA
    simp only [if_pos q]
  · rw [if_neg h]
    have q : ¬ (i / 3 < n) := by omega
    unfold arcCell catA
    simp only [if_neg q]
    rw [show (i - n * 3) % 3 = i % 3 by omega, show (i - n * 3) / 3 = i / 3 - n by omega]
/-- a row of k arcs of the call's own -/
def OwA (w : World) (v : Value) (k : Nat) (S : ArcsF) : Prop := ∃ xs, w.ownsRow 0 75 3 v k xs ∧ ∀ i, i < k * 3 → xs[i]? = some (arcCell S i)
section
variable {w w' : World} {v : Value} {k cap b B : Nat} {S S' : ArcsF}
theorem OwA.nil (w : World) (S : ArcsF) : OwA w (.slice none 0 0) 0 S := ⟨[], World.ownsRow_nil _ _ _ _, fun j hj => by omega⟩
theorem OwA.form (h : OwA w v k S) (hn : 0 < k) : ∃ b cap, v = .slice (some ⟨b, 0, none⟩) k cap ∧ b < w.heap.size := by
  obtain ⟨xs, h1, _⟩ := h
  obtain ⟨b, cap, e, _, hlt⟩ := h1.form hn
  exact ⟨b, cap, e, hlt⟩
theorem OwA.cell (h : OwA w (.slice (some ⟨b, 0, none⟩) k cap) k S) {i : Nat} (hi : i < k * 3) : w.cell? ⟨b, i, none⟩ = some (arcCell S i) := by
  obtain ⟨xs, h1, h2⟩ := h
  rw [h1.cellAt i (by omega)]; exact h2 i hi
theorem OwA.congr (h : OwA w v k S) (e : ∀ j, j < k → S.fr j = S'.fr j ∧ S.th j = S'.th j ∧ S.ln j = S'.ln j) : OwA w v k S' := by
  obtain ⟨xs, h1, h2⟩ := h
  exact ⟨xs, h1, fun j hj => by rw [← arcCell_same e hj]; exact h2 j hj⟩
theorem OwA.keep (h : OwA w v k S) (hb : ∀ k, v.ownBlock = some k → w'.heap[k]? = w.heap[k]?) : OwA w' v k S := by
  obtain ⟨xs, ⟨h0, h1⟩, h2⟩ := h
  refine ⟨xs, ⟨h0, ?_⟩, h2⟩
  rcases h1 with h1 | ⟨b', cap', cur, rfl, q, hg, r⟩
  · exact .inl h1
  · exact .inr ⟨b', cap', cur, rfl, q, (hb b' rfl).trans hg, r⟩
theorem OwA.lt (h : OwA w v k S) {c : Nat} (hk : v.ownBlock = some c) : c < w.heap.size := by
  obtain ⟨xs, h1, _⟩ := h
  exact (h1.lt c hk).2
theorem OwA.below (h : OwA w v k S) (hb : Below B w w') (hB : w.heap.size ≤ B) : OwA w' v k S := h.keep fun c hc => hb.block c (Nat.lt_of_lt_of_le (h.lt hc) hB)
theorem OwA.rdA (h : OwA w v k S) : RdA w v k S := by
  rcases Nat.eq_zero_or_pos k with rfl | hn
  · obtain ⟨xs, h1, h2⟩ := h
    rcases h1.2 with ⟨e, _⟩ | ⟨g, cap, cur, e, _⟩
    · exact ⟨none, 0, e, fun q => by omega⟩
    · exact ⟨_, cap, e, fun q => by omega⟩
  · obtain ⟨b, cap, rfl, hlt⟩ := h.form hn
    exact ⟨_, cap, rfl, fun _ => ⟨b, rfl, hlt, fun i hi => ⟨by rw [h.cell (by omega), arcCell_0], by rw [h.cell (by omega), arcCell_1], by rw [h.cell (by omega), arcCell_2]⟩⟩⟩
theorem OwA.one (w : World) (a c : Nat) (l : Int) (S : ArcsF) (h1 : S.fr 0 = a) (h2 : S.th 0 = c) (h3 : S.ln 0 = l) : ∀ i, i < 3 → (w.alloc (.cells #[.int .i64 (a : Int), .int .i64 (c : Int), .int .i64 l] 75)).cell? ((⟨w.heap.size, 0, none⟩ : Addr).add i) = some (arcCell S i) := by
  intro i hi
  rw [add_head, blk_cell (heap_alloc_new w _)]
  have : i = 0 ∨ i = 1 ∨ i = 2 := by omega
  rcases this with rfl | rfl | rfl
  · rw [show (0 : Nat) = 0 * 3 from rfl, arcCell_0, h1]; rfl
  · rw [show (1 : Nat) = 0 * 3 + 1 from rfl, arcCell_1, h2]; rfl
  · rw [show (2 : Nat) = 0 * 3 + 2 from rfl, arcCell_2, h3]; rfl
end
theorem wpList_appA {w : World} {ops : Array Oper} {rest : List Oper} {o : Oper} {a : Act} {Q : Exit → Act → World → Prop} (hgd : o.guard = none) (s x : Operand)
    (ho : o.op = .call { callee := .builtin .append, args := #[s, x], argTypes := #[72, 72] })
    (v : Value) (n : Nat) (S : ArcsF) (hs : a.eval s = v) (h : OwA w v n S) (ad : Addr) (k c : Nat) (S' : ArcsF) (hx : a.eval x = .slice (some ad) k c) (h0 : ∀ i, i < k * 3 → w.cell? (ad.add i) = some (arcCell S' i)) (hn : n + k ≤ 100000) (hk : 0 < n + k)
    (hQ : ∀ b' c' w', OwA w' (.slice (some ⟨b', 0, none⟩) (n + k) c') (n + k) (catA S n S') → w.grownBy w' v.ownBlock → (some b' = v.ownBlock ∨ b' = w.heap.size) → wpList Try.prog ops Q rest (a.put o.dst (.slice (some ⟨b', 0, none⟩) (n + k) c')) w') :
    wpList Try.prog ops Q (o :: rest) a w := by
  obtain ⟨i0, hi, hz0, hz1, hz2⟩ := info_parts (P := Try.prog) (e := 75) (z := .agg #[.int .i64 0, .int .i64 0, .int .i64 0]) (size := 3) (bytes := 24) (by kernel_rfl)
  obtain ⟨xs, hown, hxs⟩ := h
  have hl : xs.length = n * 3 := hown.1
  have hnew : ∀ j, ((List.range (k * 3)).map fun i => arcCell S' i)[j]? = if j < k * 3 then some (arcCell S' j) else none := fun j => by
    by_cases q : j < k * 3
    · rw [if_pos q, List.getElem?_map, List.getElem?_range q]; rfl
    · rw [if_neg q, List.getElem?_eq_none (by simp; omega)]
  refine wpList_append_own_at w hgd s x 72 ho 0 75 i0 _ 3 24 Try.underlying72 hi hz0 hz1 hz2 rfl (by omega) v n xs hs hown ad k c ((List.range (k * 3)).map fun i => arcCell S' i) hx (by simp) ?_ ?_ (by unfold maxLen; omega) (by omega) (Nat.zero_le _) (fun v' w' h2 h3 _ h5 => ?_)
  rotate_left
  · intro u hu
    rw [List.mem_map] at hu
    obtain ⟨i, _, rfl⟩ := hu
    exact arcCell_one _ _
  · have hrow : OwA w' v' (n + k) (catA S n S') := ⟨_, h2, fun j hj => ?_⟩
    · obtain ⟨b', c', rfl, _⟩ := hrow.form hk
      refine hQ b' c' w' hrow h3 ?_
      simpa [Value.ownBlock, eq_comm] using h5
    rw [catA_cell]
    rcases Nat.lt_or_ge j (n * 3) with q | q
    · rw [if_pos q, List.getElem?_append_left (by omega)]
      exact hxs j q
    · rw [if_neg (by omega), List.getElem?_append_right (by omega), hnew, if_pos (by omega), show j - xs.length = j - n * 3 by omega]
  · intro j u hu
    rw [hnew] at hu
    split at hu
    · injection hu with hu; rw [← hu]; exact h0 j ‹_›
    · cases hu
end Go.Proofs.Ytcdlnohnkdalbaa.Ro
namespace Go.Proofs.Ytcdlnohnkdalbaa.Ro
open Go.RowKit Go.Proofs
set_option linter.unusedVariables false
set_option maxRecDepth 100000
set_option linter.unusedSimpArgs false

theorem RdA.arc {w : World} {v : Value} {k i : Nat} {S : ArcsF} (h : RdA w v k S) (hi : i < k) : ∃ b cap, v = .slice (some ⟨b, 0, none⟩) k cap ∧ b < w.heap.size ∧ w.cell? ⟨b, i * 3, none⟩ = some (.int .i64 (S.fr i : Int)) ∧ w.cell? ⟨b, i * 3 + 1, none⟩ = some (.int .i64 (S.th i : Int)) ∧ w.cell? ⟨b, i * 3 + 2, none⟩ = some (.int .i64 (S.ln i)) := by
  obtain ⟨A, c, rfl, r⟩ := h
  obtain ⟨b, rfl, h2, h3⟩ := r (by omega)
  exact ⟨b, c, rfl, h2, h3 i hi⟩

theorem fine1_no (w : World) (p : Nat) (n a c : Nat) (l : Int) (hp : w.cell? ⟨p, 0, none⟩ = some (.int .i64 (n : Int))) (hl : p < w.heap.size) (ha : a < n) (hc : c < n) (h1 : -1099511627776 ≤ l) (h2 : l ≤ 1099511627776) :
    Calls Try.prog 73 #[.agg #[.int .i64 (a : Int), .int .i64 (c : Int), .int .i64 l], .pointer (some ⟨p, 0, none⟩)] w fun e w' => e = .returned (.bool false) ∧ Below w.heap.size w w' := by
  have q1 : decide (min (a : Int) (c : Int) < 0) = false := by simp; omega
  have q2 : decide (max (a : Int) (c : Int) ≥ (n : Int)) = false := by simp; omega
  have q3 : decide (l > 1099511627776) = false := by simp; omega
  have q4 : decide (l < -1099511627776) = false := by simp; omega
  have n1 := World.new_ne w ⟨p, 0, none⟩ hp
  have hm : min (a : Int) (c : Int) = ((min a c : Nat) : Int) := by omega
  have hx : max (a : Int) (c : Int) = ((max a c : Nat) : Int) := by omega
  have r1 : ¬ (((min a c : Nat) : Int) < 0) := by omega
  have r2 : ¬ (((max a c : Nat) : Int) ≥ (n : Int)) := by omega
  have hca := Lib.hid (And.intro ha hc)
  clear ha hc
  go_enter Try.func73, Try.ntmps73
  go_wp2
  all_goals
    have hh := hca.out
    go_ret
    exact ⟨by simp; omega, below_new w _⟩
set_option maxHeartbeats 3200000 in
theorem index_fine (w : World) (V : Value) (k : Nat) (S : ArcsF) (hV : RdA w V k S) (hk : k ≤ 1000) (p n : Nat) (A : ArcsIn S k n 4294967296) (hp : w.cell? ⟨p, 0, none⟩ = some (.int .i64 (n : Int))) (hl : p < w.heap.size) :
    Calls Try.prog 82 #[V, .func (.func 73) #[] #[.pointer (some ⟨p, 0, none⟩)]] w fun e w' => e = .returned (.int .i64 (-1)) ∧ Below w.heap.size w w' := by
  obtain ⟨VA, vc, rfl, -⟩ := id hV
  go_enter Try.func82, Try.ntmps82
  go_wp2_with fail
  go_loopw [8] (fun u wr => ∃ i : Nat, u = .int .i64 (i : Int) ∧ i ≤ k ∧ Below w.heap.size w wr) (fun u _ => k - (intOf u).toNat)
  case atStart => exact ⟨0, rfl, Nat.zero_le _, Below.refl _ _⟩
  case round =>
    obtain ⟨i, rfl, hi, B⟩ := hrel
    by_cases hlt : i < k
    · have d1 : (i : Int) < (k : Int) := by omega
      obtain ⟨b, cap, e, hb, z1, z2, z3⟩ := hV.arc hlt
      injection e with e1 e2 e3
      subst e1
      have y1 := (B.cell (p := ⟨b, i * 3, none⟩) hb).trans z1
      have y2 := (B.cell (p := ⟨b, i * 3 + 1, none⟩) hb).trans z2
      have y3 := (B.cell (p := ⟨b, i * 3 + 2, none⟩) hb).trans z3
      clear z1 z2 z3 e2 e3
      go_wp2_with fail
      refine (fine1_no wr p n (S.fr i) (S.th i) (S.ln i) ((B.cell (p := ⟨p, 0, none⟩) hl).trans hp) (Nat.lt_of_lt_of_le hl B.size) (A.fr i hlt) (A.th i hlt) (by have := A.lo i hlt; omega) (by have := A.hi i hlt; omega)).mono ?_
      rintro e w2 ⟨rfl, b2⟩
      have B2 := B.trans (b2.mono B.size)
      clear b2 B y1 y2 y3
      go_wp2_with fail
      go_roundw
      case rel => exact ⟨i + 1, by simp, by omega, B2⟩
      case measure => simp [intOf]; omega
    · have d1 : ¬ ((i : Int) < (k : Int)) := by omega
      go_wp2_with fail
      go_ret
      exact ⟨rfl, B⟩
theorem contains_fine (w : World) (V : Value) (k : Nat) (S : ArcsF) (hV : RdA w V k S) (hk : k ≤ 1000) (p n : Nat) (A : ArcsIn S k n 4294967296) (hp : w.cell? ⟨p, 0, none⟩ = some (.int .i64 (n : Int))) (hl : p < w.heap.size) :
    Calls Try.prog 72 #[V, .func (.func 73) #[] #[.pointer (some ⟨p, 0, none⟩)]] w fun e w' => e = .returned (.bool false) ∧ Below w.heap.size w w' := by
  go_enter Try.func72, Try.ntmps72
  go_wp2_with fail
  refine (index_fine _ V k S hV hk p n A hp hl).mono ?_
  rintro e w2 ⟨rfl, b2⟩
  go_wp2_with fail
  go_ret
  exact ⟨rfl, b2⟩

theorem fine_yes (w : World) (n k s : Nat) (V : Value) (S : ArcsF) (hV : RdA w V k S) (hk : k ≤ 1000) (A : ArcsIn S k n 4294967296) (hs : s < n) (hn : n ≤ 300) :
    Calls Try.prog 59 #[.int .i64 (n : Int), V, .int .i64 (s : Int)] w fun e w' => e = .returned (.bool true) ∧ Below w.heap.size w w' := by
  have hmf : ∀ (fn : Fn) (first cap : Array Value) (w : World), (Instr.makeFunc fn first cap).run Try.prog w = .ok (.func fn first cap) w := fun _ _ _ _ => rfl
  have q1 : decide ((n : Int) ≥ 1) = true := by simp; omega
  have q2 : decide ((n : Int) ≤ 300) = true := by simp; omega
  have q3 : decide ((s : Int) ≥ 0) = true := by simp
  have q4 : decide ((s : Int) < (n : Int)) = true := by simp; omega
  have HS := Lib.hid hs
  clear hs
  go_enter Try.func59, Try.ntmps59
  go_wp2_with fail
  have c0 : (w.alloc (.cells #[.int .i64 (n : Int)] 3)).cell? ⟨w.heap.size, 0, none⟩ = some (.int .i64 (n : Int)) := by rw [blk_cell (heap_alloc_new w _)]; rfl
  refine (contains_fine _ V k S (hV.below (below_new w _) (Nat.le_refl _)) hk w.heap.size n A c0 (by simp)).mono ?_
  rintro e w2 ⟨rfl, b2⟩
  have B2 := (below_new w (.cells #[.int .i64 (n : Int)] 3)).trans (b2.mono (below_new w _).size)
  go_wp2_with fail
  go_ret
  exact ⟨rfl, B2⟩
theorem begin_any (w : World) (n s : Nat) (hs : s < n) (hn : n ≤ 300) :
    Calls Try.prog 60 #[.int .i64 (n : Int), .int .i64 (s : Int)] w fun e w' => ∃ b c, e = .returned (.slice (some ⟨b, 0, none⟩) n c) ∧ Ow w' (.slice (some ⟨b, 0, none⟩) n c) n (upd (fun _ => far) s 0) ∧ w.heap.size ≤ b ∧ Below w.heap.size w w' := by
  go_enter Try.func60, Try.ntmps60
  go_wp2_with fail
  have cn : (w.alloc (.cells #[.int .i64 1152921504606846976] 3)).cell? ⟨w.heap.size, 0, none⟩ = some (.int .i64 1152921504606846976) := by rw [blk_cell (heap_alloc_new w _)]; rfl
  refine (repeat_anyU _ 1152921504606846976 w.heap.size n (by omega) cn (by simp)).mono ?_
  rintro e w4 ⟨cap, rfl, O4, b4⟩
  have b1 := below_new w (.cells #[.int .i64 1152921504606846976] 3)
  have B4 := b1.trans (b4.mono b1.size)
  have hsz : (w.alloc (.cells #[.int .i64 1152921504606846976] 3)).heap.size = w.heap.size + 1 := by simp
  rw [hsz] at O4
  have co := O4.cell hs
  have zf := O4.frozen s
  have s1 : (s : Int) < (n : Int) := by omega
  have O5 := O4.set hs 0
  have B5 := B4.setCell (p := ⟨w.heap.size + 1, s, none⟩) (by show w.heap.size ≤ w.heap.size + 1; omega) (.int .i64 0)
  clear cn b4 b1 hsz O4 B4
  go_wp2_with fail
  go_ret
  exact ⟨_, cap, rfl, O5, by omega, B5⟩
end Go.Proofs.Ytcdlnohnkdalbaa.Ro
namespace Go.Proofs.Ytcdlnohnkdalbaa.Ro
open Go.RowKit Go.Proofs Go.Maps
set_option linter.unusedVariables false
set_option maxRecDepth 100000
set_option linter.unusedSimpArgs false

/-- m arcs that are read, from an address on (or none) -/
def SrcA (w : World) (A : Option Addr) (m : Nat) (S : ArcsF) : Prop := (A = none ∧ m = 0) ∨ ∃ ad, A = some ad ∧ ∀ i, i < m * 3 → w.cell? (ad.add i) = some (arcCell S i)
theorem run_appA (w : World) (ty : TypeId) (v : Value) (n : Nat) (S : ArcsF) (h : OwA w v n S) (A : Option Addr) (m c : Nat) (S' : ArcsF) (hr : SrcA w A m S') (hn : n + m ≤ 100000) :
    ∃ v' w', (Builtin.append_ #[72, 72] ty #[v, .slice A m c]).run Try.prog w = .ok v' w' ∧ OwA w' v' (n + m) (catA S n S') ∧ w.grownBy w' v.ownBlock ∧ (v'.ownBlock = v.ownBlock ∨ v'.ownBlock = some w.heap.size) := by
  obtain ⟨i0, hi, hz0, hz1, hz2⟩ := info_parts (P := Try.prog) (e := 75) (z := .agg #[.int .i64 0, .int .i64 0, .int .i64 0]) (size := 3) (bytes := 24) (by kernel_rfl)
  rcases hr with ⟨rfl, rfl⟩ | ⟨ad, rfl, hc⟩
  · have hsame : OwA w v (n + 0) (catA S n S') := h.congr (S' := catA S n S') (fun j hj => ⟨(if_pos hj).symm, (if_pos hj).symm, (if_pos hj).symm⟩)
    obtain ⟨xs, hown, _⟩ := h
    refine ⟨v, w, ?_, hsame, World.grownBy.refl w _, .inl rfl⟩
    rcases hown.2 with ⟨rfl, rfl⟩ | ⟨g, cap, cur, rfl, _, _, hnc, _⟩
    · simp [Builtin.append_, run_underlying Try.underlying72, sizeOf, typeInfo, hi, Builtin.lenOf, Builtin.firstCells]
    · simp [Builtin.append_, run_underlying Try.underlying72, sizeOf, typeInfo, hi, Builtin.lenOf, Builtin.firstCells, hnc, storeCells]
  · obtain ⟨xs, hown, hxs⟩ := h
    have hl : xs.length = n * 3 := hown.1
    have hnew : ∀ j, ((List.range (m * 3)).map fun i => arcCell S' i)[j]? = if j < m * 3 then some (arcCell S' j) else none := fun j => by
      by_cases q : j < m * 3
      · rw [if_pos q, List.getElem?_map, List.getElem?_range q]; rfl
      · rw [if_neg q, List.getElem?_eq_none (by simp; omega)]
    obtain ⟨v', w', hrun, h2, h3, _, h5⟩ := run_append_own_at (P := Try.prog) w 0 72 ty 75 i0 _ 3 24 Try.underlying72 hi hz0 hz1 hz2 rfl (by omega) v n xs hown ad m c ((List.range (m * 3)).map fun i => arcCell S' i) (by simp) (fun j u hu => by
      rw [hnew] at hu
      split at hu
      · injection hu with hu; rw [← hu]; exact hc j ‹_›
      · cases hu) (fun u hu => by
      rw [List.mem_map] at hu
      obtain ⟨i, _, rfl⟩ := hu
      exact arcCell_one _ _) (by unfold maxLen; omega) (by omega) (Nat.zero_le _)
    refine ⟨v', w', hrun, ⟨_, h2, fun j hj => ?_⟩, h3, h5⟩
    rw [catA_cell]
    rcases Nat.lt_or_ge j (n * 3) with q | q
    · rw [if_pos q, List.getElem?_append_left (by omega)]
      exact hxs j q
    · rw [if_neg (by omega), List.getElem?_append_right (by omega), hnew, if_pos (by omega), show j - xs.length = j - n * 3 by omega]
theorem wp_appA2 {w : World} {o : Oper} {a : Act} {K : Act → World → Prop} {Q : Exit → Act → World → Prop} (s x : Operand)
    (ho : o.op = .call { callee := .builtin .append, args := #[s, x], argTypes := #[72, 72] })
    (v : Value) (n : Nat) (S : ArcsF) (hs : a.eval s = v) (h : OwA w v n S) (A : Option Addr) (m c : Nat) (S' : ArcsF) (hx : a.eval x = .slice A m c) (hr : SrcA w A m S') (hn : n + m ≤ 100000)
    (hQ : ∀ v' w', OwA w' v' (n + m) (catA S n S') → w.grownBy w' v.ownBlock → (v'.ownBlock = v.ownBlock ∨ v'.ownBlock = some w.heap.size) → K (a.put o.dst v') w') : o.wp Try.prog a w K Q := by
  obtain ⟨v', w', hrun, h2, h3, h4⟩ := run_appA w o.type v n S h A m c S' hr hn
  unfold Oper.wp execOp
  simp only [ho, resolve, invoke, builtin, Sem.run_bind, Sem.run_pure, Result.andThen_ok, List.map_toArray, List.map_cons, List.map_nil, hs, hx, hrun]
  exact hQ v' w' h2 h3 h4
theorem wpList_appA2 {w : World} {ops : Array Oper} {rest : List Oper} {o : Oper} {a : Act} {Q : Exit → Act → World → Prop} (hgd : o.guard = none) (s x : Operand)
    (ho : o.op = .call { callee := .builtin .append, args := #[s, x], argTypes := #[72, 72] })
    (v : Value) (n : Nat) (S : ArcsF) (hs : a.eval s = v) (h : OwA w v n S) (A : Option Addr) (m c : Nat) (S' : ArcsF) (hx : a.eval x = .slice A m c) (hr : SrcA w A m S') (hn : n + m ≤ 100000)
    (hQ : ∀ v' w', OwA w' v' (n + m) (catA S n S') → w.grownBy w' v.ownBlock → (v'.ownBlock = v.ownBlock ∨ v'.ownBlock = some w.heap.size) → wpList Try.prog ops Q rest (a.put o.dst v') w') : wpList Try.prog ops Q (o :: rest) a w :=
  wpList_plain hgd fun _ hK => wp_appA2 s x ho v n S hs h A m c S' hx hr hn fun v' w' h2 h3 h4 => hK _ _ (hQ v' w' h2 h3 h4)
theorem step_appA2 {w : World} {ops : Array Oper} {o : Oper} {a : Act} {K : Act → World → Prop} {Q : Exit → Act → World → Prop} {E : Prop} (hgd : o.guard = none) (s x : Operand)
    (ho : o.op = .call { callee := .builtin .append, args := #[s, x], argTypes := #[72, 72] })
    (v : Value) (n : Nat) (S : ArcsF) (hs : a.eval s = v) (h : OwA w v n S) (A : Option Addr) (m c : Nat) (S' : ArcsF) (hx : a.eval x = .slice A m c) (hr : SrcA w A m S') (hn : n + m ≤ 100000)
    (hQ : ∀ v' w', OwA w' v' (n + m) (catA S n S') → w.grownBy w' v.ownBlock → (v'.ownBlock = v.ownBlock ∨ v'.ownBlock = some w.heap.size) → K (a.put o.dst v') w') :
    if Region.wanted o (yielded ops a.tmps) = true then Oper.wp Try.prog o a w K Q else E := by
  have hw : Region.wanted o (yielded ops a.tmps) = true := by simp [Region.wanted, hgd]
  rw [if_pos hw]
  exact wp_appA2 s x ho v n S hs h A m c S' hx hr hn hQ
section
variable {w w' : World} {v : Value} {k m n : Nat} {S S' : ArcsF}
theorem OwA.empty (w : World) (S : ArcsF) : OwA (w.alloc (.cells #[] 75)) (.slice (some ⟨w.heap.size, 0, none⟩) 0 0) 0 S :=
  ⟨[], World.ownsRow_made w #[] 0 (Nat.zero_le _) (by unfold maxLen; omega) (by simp), fun j hj => by omega⟩
/-- a row of arcs as a source -/
theorem RdA.src {A : Option Addr} {c : Nat} (h : RdA w (.slice A k c) k S) : SrcA w A k S := by
  rcases Nat.eq_zero_or_pos k with rfl | hk
  · rcases A with _ | ad
    · exact .inl ⟨rfl, rfl⟩
    · exact .inr ⟨ad, rfl, fun i hi => by omega⟩
  · obtain ⟨b, cap, e, hb, _⟩ := h.arc hk
    injection e with e1 e2 e3
    subst e1
    refine .inr ⟨_, rfl, fun i hi => ?_⟩
    rw [add_head]
    obtain ⟨b', cap', e', _, h1, h2, h3⟩ := h.arc (i := i / 3) (by omega)
    injection e' with e1 e2 e3
    injection e1 with e1
    injection e1 with e1
    subst e1
    have : i % 3 = 0 ∨ i % 3 = 1 ∨ i % 3 = 2 := by omega
    rcases this with q | q | q
    · rw [show i = i / 3 * 3 by omega, arcCell_0]; exact h1
    · rw [show i = i / 3 * 3 + 1 by omega, arcCell_1]
      exact h2
    · rw [show i = i / 3 * 3 + 2 by omega, arcCell_2]
      exact h3
theorem OwA.lit (w : World) (k : Nat) (S : ArcsF) (cs : Array Value) (h : ∀ i, i < k * 3 → cs[i]? = some (arcCell S i)) : SrcA (w.alloc (.cells cs 75)) (some ⟨w.heap.size, 0, none⟩) k S :=
  .inr ⟨_, rfl, fun i hi => by rw [add_head, blk_cell (heap_alloc_new w _)]; exact h i hi⟩
end
end Go.Proofs.Ytcdlnohnkdalbaa.Ro
