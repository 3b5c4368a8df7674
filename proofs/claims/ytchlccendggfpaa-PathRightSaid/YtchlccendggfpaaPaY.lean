/- Walks: within and Arcs, of the laws of chapter 6; rows of arcs that grow. -/
import Derived.Test.YtchlccendggfpaaRoSml
import Derived.Test.YtchlccendggfpaaPaL
namespace Go.Proofs.Ytchlccendggfpaa.Ro
open Go.RowKit Go.Proofs Go.Maps
set_option linter.unusedVariables false
set_option linter.unusedSimpArgs false

theorem within6_any (w : World) (a n : Int) (ha : Small a) (hn : 0 < n) (hm : n ≤ 1125899906842624) :
    Calls Try.prog 14 #[.int .i64 a, .int .i64 n] w fun e w' => e = .returned (.int .i64 (a % n)) ∧ w = w' := by
  have hb := small_bounds ha
  have h1 := Int.tmod_lt_of_pos a hn
  have h2 := Int.lt_tmod_of_pos a hn
  have h0 : (n == 0) = false := by simp; omega
  by_cases h : Int.tmod a n < 0
  · have d : decide (Int.tmod a n < 0) = true := by simpa using h
    have e : Int.tmod a n + n = a % n := by
      have := Int.emod_emod_of_dvd a (Int.dvd_refl n)
      have h3 : (Int.tmod a n + n) % n = a % n := by
        rw [Int.add_emod_right]
        have := Int.mul_tdiv_add_tmod a n
        conv => rhs; rw [← this]
        rw [Int.mul_add_emod_self_left]
      rw [← h3]
      exact (Int.emod_eq_of_lt (by omega) (by omega)).symm
    have E := Lib.hid e
    clear e h
    go_enter Try.func14, Try.ntmps14
    go_wp2
    go_ret
    exact ⟨by rw [← E.out]; rfl, rfl⟩
  · have d : decide (Int.tmod a n < 0) = false := by simpa using h
    have e : Int.tmod a n = a % n := by
      have h3 : (Int.tmod a n) % n = a % n := by
        have := Int.mul_tdiv_add_tmod a n
        conv => rhs; rw [← this]
        rw [Int.mul_add_emod_self_left]
      rw [← h3]
      exact (Int.emod_eq_of_lt (by omega) (by omega)).symm
    have E := Lib.hid e
    clear e h
    go_enter Try.func14, Try.ntmps14
    go_wp2
    go_ret
    exact ⟨by rw [← E.out]; rfl, rfl⟩

/-- the cells of arcs, one behind the other -/
def arcCell (S : ArcsF) (i : Nat) : Value := if i % 3 = 0 then .int .i64 (S.fr (i / 3) : Int) else if i % 3 = 1 then .int .i64 (S.th (i / 3) : Int) else .int .i64 (S.ln (i / 3))
theorem arcCell_0 (S : ArcsF) (j : Nat) : arcCell S (j * 3) = .int .i64 (S.fr j : Int) := by unfold arcCell; rw [if_pos (by omega), show j * 3 / 3 = j by omega]
theorem arcCell_1 (S : ArcsF) (j : Nat) : arcCell S (j * 3 + 1) = .int .i64 (S.th j : Int) := by unfold arcCell; rw [if_neg (by omega), if_pos (by omega), show (j * 3 + 1) / 3 = j by omega]
theorem arcCell_2 (S : ArcsF) (j : Nat) : arcCell S (j * 3 + 2) = .int .i64 (S.ln j) := by unfold arcCell; rw [if_neg (by omega), if_neg (by omega), show (j * 3 + 2) / 3 = j by omega]
theorem arcCell_one (S : ArcsF) (i : Nat) : (arcCell S i).oneCell' = true := by
  unfold arcCell
  split
  · rfl
  · split <;> rfl
theorem arcCell_same {S S' : ArcsF} {k : Nat} (h : ∀ j, j < k → S.fr j = S'.fr j ∧ S.th j = S'.th j ∧ S.ln j = S'.ln j) {i : Nat} (hi : i < k * 3) : arcCell S i = arcCell S' i := by
  obtain ⟨h1, h2, h3⟩ := h (i / 3) (by omega)
  unfold arcCell
  rw [h1, h2, h3]
/-- arcs behind arcs -/
def catA (S : ArcsF) (n : Nat) (S' : ArcsF) : ArcsF := ⟨fun j => if j < n then S.fr j else S'.fr (j - n), fun j => if j < n then S.th j else S'.th (j - n), fun j => if j < n then S.ln j else S'.ln (j - n)⟩
theorem catA_cell (S S' : ArcsF) (n i : Nat) : arcCell (catA S n S') i = if i < n * 3 then arcCell S i else arcCell S' (i - n * 3) := by
  by_cases h : i < n * 3
  · rw [if_pos h]
    have q : i / 3 < n := by omega
    unfold arcCell catA
    simp only [if_pos q]
  · rw [if_neg h]
    have q : ¬ (i / 3 < n) := by omega
    unfold arcCell catA
    simp only [if_neg q]
    rw [show (i - n * 3) % 3 = i % 3 by omega, show (i - n * 3) / 3 = i / 3 - n by omega]
/-- a row of k arcs of the call's own -/
def OwA (w : World) (v : Value) (k : Nat) (S : ArcsF) : Prop := ∃ xs, w.ownsRow 0 30 3 v k xs ∧ ∀ i, i < k * 3 → xs[i]? = some (arcCell S i)
section
variable {w w' : World} {v : Value} {k cap b B : Nat} {S S' : ArcsF}
theorem OwA.nil (w : World) (S : ArcsF) : OwA w (.slice none 0 0) 0 S := ⟨[], World.ownsRow_nil _ _ _ _, fun j hj => by omega⟩
theorem OwA.form (h : OwA w v k S) (hn : 0 < k) : ∃ b cap, v = .slice (some ⟨b, 0, none⟩) k cap ∧ b < w.heap.size := by
  obtain ⟨xs, h1, _⟩ := h
  obtain ⟨b, cap, e, _, hlt⟩ := h1.form hn
  exact ⟨b, cap, e, hlt⟩
theorem OwA.cell (h : OwA w (.slice (some ⟨b, 0, none⟩) k cap) k S) {i : Nat} (hi : i < k * 3) : w.cell? ⟨b, i, none⟩ = some (arcCell S i) := by
  obtain ⟨xs, h1, h2⟩ := h
  rw [h1.cellAt i (by omega)]; exact h2 i hi
theorem OwA.congr (h : OwA w v k S) (e : ∀ j, j < k → S.fr j = S'.fr j ∧ S.th j = S'.th j ∧ S.ln j = S'.ln j) : OwA w v k S' := by
  obtain ⟨xs, h1, h2⟩ := h
  exact ⟨xs, h1, fun j hj => by rw [← arcCell_same e hj]; exact h2 j hj⟩
theorem OwA.keep (h : OwA w v k S) (hb : ∀ k, v.ownBlock = some k → w'.heap[k]? = w.heap[k]?) : OwA w' v k S := by
  obtain ⟨xs, ⟨h0, h1⟩, h2⟩ := h
  refine ⟨xs, ⟨h0, ?_⟩, h2⟩
  rcases h1 with h1 | ⟨b', cap', cur, rfl, q, hg, r⟩
  · exact .inl h1
  · exact .inr ⟨b', cap', cur, rfl, q, (hb b' rfl).trans hg, r⟩
theorem OwA.lt (h : OwA w v k S) {c : Nat} (hk : v.ownBlock = some c) : c < w.heap.size := by
  obtain ⟨xs, h1, _⟩ := h
  exact (h1.lt c hk).2
theorem OwA.below (h : OwA w v k S) (hb : Below B w w') (hB : w.heap.size ≤ B) : OwA w' v k S := h.keep fun c hc => hb.block c (Nat.lt_of_lt_of_le (h.lt hc) hB)
theorem OwA.rdA (h : OwA w v k S) : RdA w v k S := by
  rcases Nat.eq_zero_or_pos k with rfl | hn
  · obtain ⟨xs, h1, h2⟩ := h
    rcases h1.2 with ⟨e, _⟩ | ⟨g, cap, cur, e, _⟩
    · exact ⟨none, 0, e, fun q => by omega⟩
    · exact ⟨_, cap, e, fun q => by omega⟩
  · obtain ⟨b, cap, rfl, hlt⟩ := h.form hn
    exact ⟨_, cap, rfl, fun _ => ⟨b, rfl, hlt, fun i hi => ⟨by rw [h.cell (by omega), arcCell_0], by rw [h.cell (by omega), arcCell_1], by rw [h.cell (by omega), arcCell_2]⟩⟩⟩
theorem OwA.one (w : World) (a c : Nat) (l : Int) (S : ArcsF) (h1 : S.fr 0 = a) (h2 : S.th 0 = c) (h3 : S.ln 0 = l) : ∀ i, i < 3 → (w.alloc (.cells #[.int .i64 (a : Int), .int .i64 (c : Int), .int .i64 l] 30)).cell? ((⟨w.heap.size, 0, none⟩ : Addr).add i) = some (arcCell S i) := by
  intro i hi
  rw [add_head, blk_cell (heap_alloc_new w _)]
  have : i = 0 ∨ i = 1 ∨ i = 2 := by omega
  rcases this with rfl | rfl | rfl
  · rw [show (0 : Nat) = 0 * 3 from rfl, arcCell_0, h1]; rfl
  · rw [show (1 : Nat) = 0 * 3 + 1 from rfl, arcCell_1, h2]; rfl
  · rw [show (2 : Nat) = 0 * 3 + 2 from rfl, arcCell_2, h3]; rfl
end
theorem wpList_appA {w : World} {ops : Array Oper} {rest : List Oper} {o : Oper} {a : Act} {Q : Exit → Act → World → Prop} (hgd : o.guard = none) (s x : Operand)
    (ho : o.op = .call { callee := .builtin .append, args := #[s, x], argTypes := #[25, 25] })
    (v : Value) (n : Nat) (S : ArcsF) (hs : a.eval s = v) (h : OwA w v n S) (ad : Addr) (k c : Nat) (S' : ArcsF) (hx : a.eval x = .slice (some ad) k c) (h0 : ∀ i, i < k * 3 → w.cell? (ad.add i) = some (arcCell S' i)) (hn : n + k ≤ 100000) (hk : 0 < n + k)
    (hQ : ∀ b' c' w', OwA w' (.slice (some ⟨b', 0, none⟩) (n + k) c') (n + k) (catA S n S') → w.grownBy w' v.ownBlock → (some b' = v.ownBlock ∨ b' = w.heap.size) → wpList Try.prog ops Q rest (a.put o.dst (.slice (some ⟨b', 0, none⟩) (n + k) c')) w') :
    wpList Try.prog ops Q (o :: rest) a w := by
  obtain ⟨i0, hi, hz0, hz1, hz2⟩ := info_parts (P := Try.prog) (e := 30) (z := .agg #[.int .i64 0, .int .i64 0, .int .i64 0]) (size := 3) (bytes := 24) (by kernel_rfl)
  obtain ⟨xs, hown, hxs⟩ := h
  have hl : xs.length = n * 3 := hown.1
  have hnew : ∀ j, ((List.range (k * 3)).map fun i => arcCell S' i)[j]? = if j < k * 3 then some (arcCell S' j) else none := fun j => by
    by_cases q : j < k * 3
    · rw [if_pos q, List.getElem?_map, List.getElem?_range q]; rfl
    · rw [if_neg q, List.getElem?_eq_none (by simp; omega)]
  refine wpList_append_own_at w hgd s x 25 ho 0 30 i0 _ 3 24 Try.underlying25 hi hz0 hz1 hz2 rfl (by omega) v n xs hs hown ad k c ((List.range (k * 3)).map fun i => arcCell S' i) hx (by simp) ?_ ?_ (by unfold maxLen; omega) (by omega) (Nat.zero_le _) (fun v' w' h2 h3 _ h5 => ?_)
  rotate_left
  · intro u hu
    rw [List.mem_map] at hu
    obtain ⟨i, _, rfl⟩ := hu
    exact arcCell_one _ _
  · have hrow : OwA w' v' (n + k) (catA S n S') := ⟨_, h2, fun j hj => ?_⟩
    · obtain ⟨b', c', rfl, _⟩ := hrow.form hk
      refine hQ b' c' w' hrow h3 ?_
      simpa [Value.ownBlock, eq_comm] using h5
    rw [catA_cell]
    rcases Nat.lt_or_ge j (n * 3) with q | q
    · rw [if_pos q, List.getElem?_append_left (by omega)]
      exact hxs j q
    · rw [if_neg (by omega), List.getElem?_append_right (by omega), hnew, if_pos (by omega), show j - xs.length = j - n * 3 by omega]
  · intro j u hu
    rw [hnew] at hu
    split at hu
    · injection hu with hu; rw [← hu]; exact h0 j ‹_›
    · cases hu
end Go.Proofs.Ytchlccendggfpaa.Ro
