/- Walks: slices.Repeat of any one number. -/
import Derived.Test.YtchlccendggfpaaRoW
namespace Go.Proofs.Ytchlccendggfpaa.Ro
open Go.RowKit Go.Proofs
set_option linter.unusedVariables false
set_option linter.unusedSimpArgs false

def halfU (u : Int) (k n : Nat) : List Value := List.replicate k (.int .i64 u) ++ List.replicate (n - k) (.int .i64 0)
theorem half_zeroU (u : Int) (n : Nat) : halfU u 0 n = List.replicate n (.int .i64 0) := by simp [halfU]
theorem half_allU (u : Int) (n : Nat) : halfU u n n = (List.replicate n u).map fun x => Value.int .i64 x := by simp [halfU]
theorem half_setU {u : Int} {k n : Nat} (h : k < n) : (halfU u k n).set k (.int .i64 u) = halfU u (k + 1) n := by
  have e : n - k = (n - (k + 1)) + 1 := by omega
  unfold halfU
  rw [e, List.replicate_succ, List.set_append, List.length_replicate, if_neg (by omega), Nat.sub_self, List.replicate_succ', List.append_assoc]
  rfl
theorem half_lowU {u : Int} {k n i : Nat} (h : i < k) : (halfU u k n)[i]? = some (.int .i64 u) := by
  unfold halfU
  rw [List.getElem?_append_left (by simpa using h)]
  simp [h]

section
variable {u : Int} {w : World} {B k n : Nat}
abbrev HalfU (u : Int) (w : World) (B k n : Nat) : Prop := w.ownsRow 0 3 1 (.slice (some ⟨B, 0, none⟩) n n) n (halfU u k n)
theorem HalfU.low (h : HalfU u w B k n) {i : Nat} (hi : i < k) (hk : k ≤ n) : w.cell? ⟨B, i, none⟩ = some (.int .i64 u) := by
  have := World.ownsRow.cellAt h i (by omega)
  rw [this]; exact half_lowU hi
theorem HalfU.there (h : HalfU u w B k n) {i : Nat} (hi : i < n) : (w.cell? ⟨B, i, none⟩).isSome = true := by
  have := World.ownsRow.cellAt h i (by omega)
  rw [this]
  have hl : (halfU u k n).length = n * 1 := h.1
  rw [List.getElem?_eq_getElem (by omega)]
  rfl
theorem HalfU.sets : ∀ (m k : Nat) (w : World), HalfU u w B k n → k + m ≤ n → HalfU u (w.setCells B k (List.replicate m (.int .i64 u))) B (k + m) n ∧ ∀ W0 : World, W0.heap.size ≤ B → Below W0.heap.size W0 w → Below W0.heap.size W0 (w.setCells B k (List.replicate m (.int .i64 u)))
  | 0, k, w, h, _ => ⟨h, fun _ _ b => b⟩
  | m + 1, k, w, h, hk => by
    have h1 := (World.ownsRow.stored h k (.int .i64 u)).1
    rw [half_setU (by omega)] at h1
    obtain ⟨r1, r2⟩ := HalfU.sets m (k + 1) _ h1 (by omega)
    rw [List.replicate_succ, World.setCells]
    exact ⟨by rw [show k + (m + 1) = k + 1 + m by omega]; exact r1, fun W0 hB b => r2 W0 hB (b.setCell hB _)⟩
end

set_option maxHeartbeats 1600000 in
theorem repeat_anyU (w : World) (u : Int) (b n : Nat) (hn : n ≤ 1000) (hb : w.cell? ⟨b, 0, none⟩ = some (.int .i64 u)) (hl : b < w.heap.size) :
    Calls Try.prog 33 #[.slice (some ⟨b, 0, none⟩) 1 1, .int .i64 (n : Int)] w
      fun e w' => ∃ c, e = .returned (.slice (some ⟨w.heap.size, 0, none⟩) n c) ∧ Ow w' (.slice (some ⟨w.heap.size, 0, none⟩) n c) n (fun _ => u) ∧ Below w.heap.size w w' := by
  have w1 : IntKind.u64.wrap 1 = 1 := by decide +kernel
  have wn := wrap_low n hn
  go_enter Try.func33, Try.ntmps33
  go_wp2_with fail
  refine (mul_one _ n hn).mono ?_
  rintro e w2 ⟨rfl, rfl⟩
  obtain ⟨ii, hi, hz, hs, hby⟩ := info_parts (P := Try.prog) (e := 3) (z := .int .i64 0) (size := 1) (bytes := 8) (by kernel_rfl)
  have hlim : ¬ (9223372036854775807 < (n : Int)) := by omega
  go_upto_region 7 with (at_make; refine wpList_make_full _ rfl _ _ _ rfl 0 3 ii (.int .i64 0) 1 Try.underlying22 hi hz hs .i64 .i64 (n : Int) (n : Int) n rfl rfl rfl rfl (by rw [hby]; omega) (by unfold maxLen; omega) (Nat.zero_le _) ?_; intro w3 hm3 hg3)
  have H3 : HalfU u w3 w.heap.size 0 n := by
    have := hm3
    rw [show (Value.int IntKind.i64 0).cells = #[.int .i64 0] from rfl, Nat.mul_one, toList_madeCells_one] at this
    unfold HalfU; rw [half_zeroU]; exact this
  have B3 : Below w.heap.size w w3 := ⟨hg3.os, hg3.tape, hg3.output, hg3.size, fun k hk => hg3.block k hk (by simp)⟩
  have hb3 : w3.cell? ⟨b, 0, none⟩ = some (.int .i64 u) := (B3.cell hl).trans hb
  have cp : (Builtin.copy_ #[22, 22] 3 #[.slice (some ⟨w.heap.size, 0, none⟩) n n, .slice (some ⟨b, 0, none⟩) 1 1]).run Try.prog w3 = .ok (goInt ((min 1 n : Nat) : Int)) (w3.setCells w.heap.size 0 (List.replicate (min 1 n) (.int .i64 u))) := by
    have := run_copy_cells (P := Try.prog) w3 22 22 3 3 w.heap.size 0 n n ⟨b, 0, none⟩ 1 1 (List.replicate (min 1 n) (.int .i64 u)) Try.underlying22 (by kernel_rfl) (by simp [Nat.min_def]) ?_ ?_ ?_ ?_
    · simpa using this
    · intro j v hv
      have hj : j < min 1 n := by
        rcases Nat.lt_or_ge j (min 1 n) with q | q
        · exact q
        · rw [List.getElem?_eq_none (by simpa using q)] at hv; cases hv
      obtain rfl : j = 0 := by omega
      rw [List.getElem?_replicate, if_pos hj] at hv
      injection hv with hv
      rw [← hv]
      exact hb3
    · intro j hj
      rw [List.length_replicate] at hj
      rw [Nat.zero_add]
      exact H3.there (i := j) (by omega)
    · intro j hj
      rw [Nat.zero_add]
      exact World.ownsRow.frozenAt H3 j
    · intro v hv
      rw [List.mem_replicate] at hv
      rw [hv.2]; rfl
  obtain ⟨H4, B4⟩ := HalfU.sets (min 1 n) 0 w3 H3 (by omega)
  have B5 := B4 w (Nat.le_refl _) B3
  have C := Lib.hid cp
  clear B4 hm3 hg3 hb3 H3 B3 cp
  rw [Nat.zero_add] at H4
  have cp := C.out
  clear C
  go_wp2_with fail
  clear cp
  generalize w3.setCells w.heap.size 0 (List.replicate (min 1 n) (.int .i64 u)) = w4 at *
  clear w3
  go_loopw [8] (fun u8 wr => ∃ k : Nat, u8 = .int .i64 (k : Int) ∧ k ≤ n ∧ (0 < n → 0 < k) ∧ HalfU u wr w.heap.size k n ∧ Below w.heap.size w wr) (fun u8 _ => n - (intOf u8).toNat)
  case atStart => exact ⟨min 1 n, by simp [goInt], by omega, by omega, H4, B5⟩
  case round =>
    clear H4 B5
    obtain ⟨k, rfl, hk, h0, H, Bk⟩ := hrel
    by_cases hlt : k < n
    · have d1 : (k : Int) < (n : Int) := by omega
      have d2 : (k : Int) ≤ (n : Int) := by omega
      have k0 := h0 (by omega)
      clear h0
      have cp : ∀ c, (Builtin.copy_ #[22, 22] 3 #[.slice (some ⟨w.heap.size, k, none⟩) (n - k) (n - k), .slice (some ⟨w.heap.size, 0, none⟩) k c]).run Try.prog wr.drew = .ok (goInt ((min k (n - k) : Nat) : Int)) ((wr.setCells w.heap.size k (List.replicate (min k (n - k)) (.int .i64 u))).drew) := by
        intro c
        rw [← setCells_drew]
        have H' : HalfU u wr.drew w.heap.size k n := H
        have := run_copy_cells (P := Try.prog) wr.drew 22 22 3 3 w.heap.size k (n - k) (n - k) ⟨w.heap.size, 0, none⟩ k c (List.replicate (min k (n - k)) (.int .i64 u)) Try.underlying22 (by kernel_rfl) (by simp [Nat.min_def]) ?_ ?_ ?_ ?_
        · simpa using this
        · intro j v hv
          have hj : j < min k (n - k) := by
            rcases Nat.lt_or_ge j (min k (n - k)) with q | q
            · exact q
            · rw [List.getElem?_eq_none (by simpa using q)] at hv; cases hv
          rw [List.getElem?_replicate, if_pos hj] at hv
          injection hv with hv
          rw [← hv]
          have := H'.low (i := j) (by omega) hk
          have e : (⟨w.heap.size, 0, none⟩ : Addr).add j = ⟨w.heap.size, j, none⟩ := by unfold Addr.add; split <;> simp_all
          rw [e]; exact this
        · intro j hj
          rw [List.length_replicate] at hj
          exact H'.there (i := k + j) (by omega)
        · intro j hj
          exact World.ownsRow.frozenAt H' (k + j)
        · intro v hv
          rw [List.mem_replicate] at hv
          rw [hv.2]; rfl
      obtain ⟨H4, B4⟩ := HalfU.sets (min k (n - k)) k wr H (by omega)
      have B5 := B4 w (Nat.le_refl _) Bk
      go_wp2_with fail
      have wk : IntKind.i64.wrap ((k : Int) + ((min k (n - k) : Nat) : Int)) = (k : Int) + ((min k (n - k) : Nat) : Int) := by
        rw [IntKind.wrap_i64]
        omega
      go_region_with (fail)
      all_goals
        go_simp
        go_wp2_with fail
        go_roundw
        case rel =>
          exact ⟨k + min k (n - k), by simp [goInt, wk], by omega, by omega, H4, B5.drew⟩
        case measure => simp only [intOf, wk]; omega
    · have d1 : ¬ ((k : Int) < (n : Int)) := by omega
      obtain rfl : k = n := by omega
      go_wp2
      go_ret
      exact ⟨_, rfl, ⟨_, H, fun j hj => half_lowU hj⟩, Bk⟩
end Go.Proofs.Ytchlccendggfpaa.Ro
