/- Walks: slices.Repeat of one pair of numbers, both the same; rows of pairs. -/
import Derived.Test.YtchlccendggfpaaPaR
import Derived.Test.YtchlccendggfpaaPaV
namespace Go.Proofs.Ytchlccendggfpaa.Ro
open Go.RowKit Go.Proofs
set_option linter.unusedVariables false
set_option linter.unusedSimpArgs false

theorem run_copy_pairs {P : Program} (w : World) (dT sT ty elem : TypeId) (b o dLen dCap : Nat) (a : Addr) (sLen sCap : Nat) (cs : List Value)
    (hu : P.underlying dT = some (.slice elem)) (hs : (P.info? elem).map (·.size) = some 2) (hn : cs.length = Nat.min sLen dLen * 2)
    (hsrc : ∀ j v, cs[j]? = some v → w.cell? (a.add j) = some v) (hc : ∀ j, j < cs.length → (w.cell? ⟨b, o + j, none⟩).isSome = true) (hf : ∀ j, j < cs.length → w.frozen? ⟨b, o + j, none⟩ = false) (h1 : ∀ v ∈ cs, v.oneCell' = true) :
    (Builtin.copy_ #[dT, sT] ty #[.slice (some ⟨b, o, none⟩) dLen dCap, .slice (some a) sLen sCap]).run P w = .ok (goInt (Nat.min sLen dLen)) (w.setCells b o cs) := by
  have hl := run_loadCells_list (P := P) w a cs hsrc
  have hst := run_storeCells_cells (P := P) b o cs 0 w (by simpa using hc) (by simpa using hf) h1
  cases hq : P.info? elem with
  | none => simp [hq] at hs
  | some i =>
    have hi : i.size = 2 := by simpa [hq] using hs
    simp [Builtin.copy_, run_underlying hu, Builtin.lenOf, Builtin.firstCells, sizeOf, typeInfo, hq, hi, ← hn, hl, hst]

section
variable {u : Int} {w : World} {B c n : Nat}
abbrev HalfP (u : Int) (w : World) (B c n : Nat) : Prop := w.ownsRow 0 65 2 (.slice (some ⟨B, 0, none⟩) n n) n (halfU u c (n * 2))
theorem HalfP.low (h : HalfP u w B c n) {i : Nat} (hi : i < c) (hk : c ≤ n * 2) : w.cell? ⟨B, i, none⟩ = some (.int .i64 u) := by
  have := World.ownsRow.cellAt h i (by omega)
  rw [this]; exact half_lowU hi
theorem HalfP.there (h : HalfP u w B c n) {i : Nat} (hi : i < n * 2) : (w.cell? ⟨B, i, none⟩).isSome = true := by
  have := World.ownsRow.cellAt h i (by omega)
  rw [this]
  have hl : (halfU u c (n * 2)).length = n * 2 := h.1
  rw [List.getElem?_eq_getElem (by omega)]
  rfl
theorem HalfP.sets : ∀ (m c : Nat) (w : World), HalfP u w B c n → c + m ≤ n * 2 → HalfP u (w.setCells B c (List.replicate m (.int .i64 u))) B (c + m) n ∧ ∀ W0 : World, W0.heap.size ≤ B → Below W0.heap.size W0 w → Below W0.heap.size W0 (w.setCells B c (List.replicate m (.int .i64 u)))
  | 0, c, w, h, _ => ⟨h, fun _ _ b => b⟩
  | m + 1, c, w, h, hk => by
    have h1 := (World.ownsRow.stored h c (.int .i64 u)).1
    rw [half_setU (by omega)] at h1
    obtain ⟨r1, r2⟩ := HalfP.sets m (c + 1) _ h1 (by omega)
    rw [List.replicate_succ, World.setCells]
    exact ⟨by rw [show c + (m + 1) = c + 1 + m by omega]; exact r1, fun W0 hB b => r2 W0 hB (b.setCell hB _)⟩
end

theorem toList_madeCells_two (z : Value) (n : Nat) : (madeCells #[z, z] (n * 2)).toList = List.replicate (n * 2) z := by
  apply List.ext_getElem?
  intro j
  by_cases hj : j < n * 2
  · have h2 : j % 2 = 0 ∨ j % 2 = 1 := by omega
    rcases h2 with h2 | h2 <;> simp [madeCells, hj, h2]
  · simp [madeCells, hj]

/-- n pairs in a block of the call's own -/
def OwP (w : World) (b n : Nat) (g a : Nat → Int) : Prop := ∃ cur, w.heap[b]? = some (.cells cur 65 (0, 0)) ∧ ∀ j, j < n → cur[j * 2]? = some (.int .i64 (g j)) ∧ cur[j * 2 + 1]? = some (.int .i64 (a j))
section
variable {w w' : World} {b n B : Nat} {g a : Nat → Int}
theorem OwP.lt (h : OwP w b n g a) : b < w.heap.size := by
  obtain ⟨cur, h1, _⟩ := h
  exact blk_lt h1
theorem OwP.keep (h : OwP w b n g a) (hb : w'.heap[b]? = w.heap[b]?) : OwP w' b n g a := by
  obtain ⟨cur, h1, h2⟩ := h
  exact ⟨cur, hb.trans h1, h2⟩
theorem OwP.below (h : OwP w b n g a) (hb : Below B w w') (hB : w.heap.size ≤ B) : OwP w' b n g a := h.keep (hb.block b (Nat.lt_of_lt_of_le h.lt hB))
theorem OwP.one (h : OwP w b n g a) {j : Nat} (hj : j < n) : w.cell? ⟨b, j * 2, none⟩ = some (.int .i64 (g j)) := by
  obtain ⟨cur, h1, h2⟩ := h
  rw [blk_cell h1]; exact (h2 j hj).1
theorem OwP.two (h : OwP w b n g a) {j : Nat} (hj : j < n) : w.cell? ⟨b, j * 2 + 1, none⟩ = some (.int .i64 (a j)) := by
  obtain ⟨cur, h1, h2⟩ := h
  rw [blk_cell h1]; exact (h2 j hj).2
theorem OwP.frozen (h : OwP w b n g a) (j : Nat) : w.frozen? ⟨b, j, none⟩ = false := by
  obtain ⟨cur, h1, h2⟩ := h
  simp [World.frozen?, h1]
theorem blk_set2 {w : World} {q i : Nat} {cs : Array Value} {ty : TypeId} (h : w.heap[q]? = some (.cells cs ty (0, 0))) (u : Value) : (w.setCell ⟨q, i, none⟩ u).heap[q]? = some (.cells (cs.setIfInBounds i u) ty (0, 0)) := by
  simp [World.setCell, Array.getElem?_modify, h]
theorem OwP.set (h : OwP w b n g a) {i : Nat} (hi : i < n) (u v : Int) : OwP ((w.setCell ⟨b, i * 2, none⟩ (.int .i64 u)).setCell ⟨b, i * 2 + 1, none⟩ (.int .i64 v)) b n (upd g i u) (upd a i v) := by
  obtain ⟨cur, h1, h2⟩ := h
  have lt : i * 2 + 1 < cur.size := by
    have := (h2 i hi).2
    rcases Nat.lt_or_ge (i * 2 + 1) cur.size with q | q
    · exact q
    · rw [Array.getElem?_eq_none q] at this; cases this
  refine ⟨_, blk_set2 (blk_set2 h1 _) _, fun j hj => ?_⟩
  by_cases e : j = i
  · subst e
    rw [upd_same, upd_same]
    refine ⟨?_, ?_⟩
    · rw [Array.getElem?_setIfInBounds_ne (by omega), Array.getElem?_setIfInBounds_self_of_lt (by omega)]
    · rw [Array.getElem?_setIfInBounds_self_of_lt (by simpa using lt)]
  · rw [upd_ne e, upd_ne e]
    obtain ⟨k1, k2⟩ := h2 j hj
    exact ⟨by rw [Array.getElem?_setIfInBounds_ne (by omega), Array.getElem?_setIfInBounds_ne (by omega)]; exact k1, by rw [Array.getElem?_setIfInBounds_ne (by omega), Array.getElem?_setIfInBounds_ne (by omega)]; exact k2⟩
end

set_option maxHeartbeats 1600000 in
theorem repeat_pairs (w : World) (u : Int) (b n : Nat) (hn : n ≤ 1000) (hb : w.cell? ⟨b, 0, none⟩ = some (.int .i64 u)) (hb1 : w.cell? ⟨b, 1, none⟩ = some (.int .i64 u)) (hl : b < w.heap.size) :
    Calls Try.prog 50 #[.slice (some ⟨b, 0, none⟩) 1 1, .int .i64 (n : Int)] w
      fun e w' => ∃ c, e = .returned (.slice (some ⟨w.heap.size, 0, none⟩) n c) ∧ OwP w' w.heap.size n (fun _ => u) (fun _ => u) ∧ Below w.heap.size w w' := by
  have w1 : IntKind.u64.wrap 1 = 1 := by decide +kernel
  have wn := wrap_low n hn
  go_enter Try.func50, Try.ntmps50
  go_wp2_with fail
  refine (mul_one _ n hn).mono ?_
  rintro e w2 ⟨rfl, rfl⟩
  obtain ⟨ii, hi, hz, hs, hby⟩ := info_parts (P := Try.prog) (e := 65) (z := .agg #[.int .i64 0, .int .i64 0]) (size := 2) (bytes := 16) (by kernel_rfl)
  have hlim : ¬ (9223372036854775807 < (n : Int)) := by omega
  go_upto_region 7 with (at_make; refine wpList_make_full _ rfl _ _ _ rfl 0 65 ii (.agg #[.int .i64 0, .int .i64 0]) 2 Try.underlying62 hi hz hs .i64 .i64 (n : Int) (n : Int) n rfl rfl rfl rfl (by rw [hby]; omega) (by unfold maxLen; omega) (Nat.zero_le _) ?_; intro w3 hm3 hg3)
  have H3 : HalfP u w3 w.heap.size 0 n := by
    have := hm3
    rw [show (Value.agg #[.int .i64 0, .int .i64 0]).cells = #[.int .i64 0, .int .i64 0] from rfl, toList_madeCells_two] at this
    unfold HalfP; rw [half_zeroU]; exact this
  have B3 : Below w.heap.size w w3 := ⟨hg3.os, hg3.tape, hg3.output, hg3.size, fun k hk => hg3.block k hk (by simp)⟩
  have hb3 : w3.cell? ⟨b, 0, none⟩ = some (.int .i64 u) := (B3.cell hl).trans hb
  have hb4 : w3.cell? ⟨b, 1, none⟩ = some (.int .i64 u) := (B3.cell (p := ⟨b, 1, none⟩) hl).trans hb1
  have cp : (Builtin.copy_ #[62, 62] 3 #[.slice (some ⟨w.heap.size, 0, none⟩) n n, .slice (some ⟨b, 0, none⟩) 1 1]).run Try.prog w3 = .ok (goInt ((min 1 n : Nat) : Int)) (w3.setCells w.heap.size 0 (List.replicate (min 1 n * 2) (.int .i64 u))) := by
    refine run_copy_pairs (P := Try.prog) w3 62 62 3 65 w.heap.size 0 n n ⟨b, 0, none⟩ 1 1 (List.replicate (min 1 n * 2) (.int .i64 u)) Try.underlying62 (by kernel_rfl) (by simp [Nat.min_def]) ?_ ?_ ?_ ?_
    · intro j v hv
      have hj : j < min 1 n * 2 := by
        rcases Nat.lt_or_ge j (min 1 n * 2) with q | q
        · exact q
        · rw [List.getElem?_eq_none (by simpa using q)] at hv; cases hv
      rw [List.getElem?_replicate, if_pos hj] at hv
      injection hv with hv
      rw [← hv, add_head]
      rcases Nat.lt_or_ge j 1 with q | q
      · rw [show j = 0 by omega]; exact hb3
      · rw [show j = 1 by omega]; exact hb4
    · intro j hj
      rw [List.length_replicate] at hj
      rw [Nat.zero_add]
      exact H3.there (i := j) (by omega)
    · intro j hj
      rw [Nat.zero_add]
      exact World.ownsRow.frozenAt H3 j
    · intro v hv
      rw [List.mem_replicate] at hv
      rw [hv.2]; rfl
  obtain ⟨H4, B4⟩ := HalfP.sets (min 1 n * 2) 0 w3 H3 (by omega)
  have B5 := B4 w (Nat.le_refl _) B3
  have C := Lib.hid cp
  clear B4 hm3 hg3 hb3 hb4 H3 B3 cp
  rw [Nat.zero_add] at H4
  have cp := C.out
  clear C
  go_wp2_with fail
  clear cp
  generalize w3.setCells w.heap.size 0 (List.replicate (min 1 n * 2) (.int .i64 u)) = w4 at *
  clear w3
  go_loopw [8] (fun u8 wr => ∃ k : Nat, u8 = .int .i64 (k : Int) ∧ k ≤ n ∧ (0 < n → 0 < k) ∧ HalfP u wr w.heap.size (k * 2) n ∧ Below w.heap.size w wr) (fun u8 _ => n - (intOf u8).toNat)
  case atStart => exact ⟨min 1 n, by simp [goInt], by omega, by omega, H4, B5⟩
  case round =>
    clear H4 B5
    obtain ⟨k, rfl, hk, h0, H, Bk⟩ := hrel
    by_cases hlt : k < n
    · have d1 : (k : Int) < (n : Int) := by omega
      have d2 : (k : Int) ≤ (n : Int) := by omega
      have k0 := h0 (by omega)
      clear h0
      have cp : ∀ c, (Builtin.copy_ #[62, 62] 3 #[.slice (some ⟨w.heap.size, k * 2, none⟩) (n - k) (n - k), .slice (some ⟨w.heap.size, 0, none⟩) k c]).run Try.prog wr.drew = .ok (goInt ((min k (n - k) : Nat) : Int)) ((wr.setCells w.heap.size (k * 2) (List.replicate (min k (n - k) * 2) (.int .i64 u))).drew) := by
        intro c
        rw [← setCells_drew]
        have H' : HalfP u wr.drew w.heap.size (k * 2) n := H
        refine run_copy_pairs (P := Try.prog) wr.drew 62 62 3 65 w.heap.size (k * 2) (n - k) (n - k) ⟨w.heap.size, 0, none⟩ k c (List.replicate (min k (n - k) * 2) (.int .i64 u)) Try.underlying62 (by kernel_rfl) (by simp [Nat.min_def]) ?_ ?_ ?_ ?_
        · intro j v hv
          have hj : j < min k (n - k) * 2 := by
            rcases Nat.lt_or_ge j (min k (n - k) * 2) with q | q
            · exact q
            · rw [List.getElem?_eq_none (by simpa using q)] at hv; cases hv
          rw [List.getElem?_replicate, if_pos hj] at hv
          injection hv with hv
          rw [← hv, add_head]
          exact H'.low (i := j) (by omega) (by omega)
        · intro j hj
          rw [List.length_replicate] at hj
          exact H'.there (i := k * 2 + j) (by omega)
        · intro j hj
          exact World.ownsRow.frozenAt H' (k * 2 + j)
        · intro v hv
          rw [List.mem_replicate] at hv
          rw [hv.2]; rfl
      obtain ⟨H4, B4⟩ := HalfP.sets (min k (n - k) * 2) (k * 2) wr H (by omega)
      have B5 := B4 w (Nat.le_refl _) Bk
      go_wp2_with fail
      have wk : IntKind.i64.wrap ((k : Int) + ((min k (n - k) : Nat) : Int)) = (k : Int) + ((min k (n - k) : Nat) : Int) := by
        rw [IntKind.wrap_i64]
        omega
      go_region_with (fail)
      all_goals
        go_simp
        go_wp2_with fail
        go_roundw
        case rel =>
          exact ⟨k + min k (n - k), by simp [goInt, wk], by omega, by omega, by rw [Nat.add_mul]; exact H4, B5.drew⟩
        case measure => simp only [intOf, wk]; omega
    · have d1 : ¬ ((k : Int) < (n : Int)) := by omega
      obtain rfl : k = n := by omega
      go_wp2
      go_ret
      refine ⟨⟨_, rfl⟩, ?_, Bk⟩
      have hl := fun i hi => H.low (i := i) hi (Nat.le_refl _)
      obtain ⟨_, h2⟩ := H
      rcases h2 with ⟨e, _⟩ | ⟨b', cap', cur, e, _, hg, _⟩
      · cases e
      · simp only [Value.slice.injEq, Option.some.injEq, Addr.mk.injEq, and_true, true_and] at e
        obtain ⟨rfl, rfl⟩ := e
        exact ⟨cur, hg, fun j hj => ⟨by rw [← blk_cell hg]; exact hl _ (by omega), by rw [← blk_cell hg]; exact hl _ (by omega)⟩⟩
end Go.Proofs.Ytchlccendggfpaa.Ro
