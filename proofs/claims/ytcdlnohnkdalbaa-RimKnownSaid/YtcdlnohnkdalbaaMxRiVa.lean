/- Walks: Value, of the document's chapter 9. -/
import Derived.Test.YtcdlnohnkdalbaaMg12
import Derived.Test.YtcdlnohnkdalbaaMxRiCv
namespace Go.Proofs.Ytcdlnohnkdalbaa.Ro
open Go.RowKit Go.Proofs Go.Maps
set_option linter.unusedVariables false
set_option maxRecDepth 100000
set_option linter.unusedSimpArgs false

theorem sm_bound {f : Nat → Int} {L : Int} (hL : 0 ≤ L) : ∀ n : Nat, (∀ d, d < n → -L ≤ f d ∧ f d ≤ L) → -(n * L) ≤ sm f n ∧ sm f n ≤ n * L
  | 0, _ => by simp [sm]
  | n + 1, h => by
    have h1 := sm_bound hL n fun d hd => h d (by omega)
    have h2 := h n (by omega)
    have e : ((n + 1 : Nat) : Int) * L = n * L + L := by rw [Int.natCast_add, Int.add_mul]; simp
    show -(((n + 1 : Nat) : Int) * L) ≤ sm f n + f n ∧ sm f n + f n ≤ ((n + 1 : Nat) : Int) * L
    rw [e]
    omega

set_option maxHeartbeats 6400000 in
theorem value_any (w : World) (N : Int) (T X C V : Value) (m : Nat) (t x c f : Nat → Int) (hT : Rd w T m t) (hX : Rd w X m x) (hC : Rd w C m c) (hV : Rd w V m f) (s : Int) (hf : ∀ d, d < m → -4294967296 ≤ f d ∧ f d ≤ 4294967296) (hm : m ≤ 1000) :
    Calls Try.prog 24 #[.agg #[.int .i64 N, T, X, C], .int .i64 s, V] w fun e w' => e = .returned (.int .i64 (val m t f s)) ∧ Below w.heap.size w w' := by
  obtain ⟨TA, tp, rfl, rt⟩ := id hT
  obtain ⟨VA, vp, rfl, rv⟩ := id hV
  have HT := Lib.hid rt
  have HV := Lib.hid rv
  have HB : Hid (∀ n : Nat, n ≤ m → -(n * 4294967296) ≤ sm (fun d => if t d = s then f d else 0) n ∧ sm (fun d => if t d = s then f d else 0) n ≤ n * 4294967296) := Lib.hid fun n hn => sm_bound (by omega) n fun d hd => by
    split
    · exact hf d (by omega)
    · omega
  have HF := Lib.hid hf
  clear rt rv hf
  go_enter Try.func24, Try.ntmps24
  go_upto_region 1 with fail
  obtain ⟨w1, hw1, N1, B1⟩ := net_enter N hT hX hC
  rw [hw1]
  clear hw1
  have RV := hV.below B1 (Nat.le_refl _)
  have NN := N1
  clear N1 hT hX hC hV
  go_wp2_with fail
  go_loopw [7, 8] (fun u7 u8 wr => ∃ j : Nat, u8 = .int .i64 (j : Int) ∧ j ≤ m ∧ u7 = .int .i64 (sm (fun d => if t d = s then f d else 0) j) ∧ wr = w1) (fun _ u8 _ => m - (intOf u8).toNat)
  case atStart => exact ⟨0, rfl, Nat.zero_le _, rfl, rfl⟩
  case round =>
    obtain ⟨j, rfl, hj, rfl, rfl⟩ := hrel
    have c1 := NN.c1
    obtain ⟨b1, b2⟩ := HB.out j hj
    by_cases hlt : j < m
    · have d1 : (j : Int) < (m : Int) := by omega
      obtain ⟨A', q', e', rt'⟩ := NN.rt
      injection e' with e1 e2 e3
      obtain ⟨y, h1, h2, h3⟩ := rt' (by omega)
      obtain rfl : TA = some y := e1.trans h1
      have y1 := h3 j hlt
      obtain ⟨A2, q2, e4, rv'⟩ := id RV
      injection e4 with e5 e6 e7
      obtain ⟨z, h4, h5, h6⟩ := rv' (by omega)
      obtain rfl : VA = some z := e5.trans h4
      have y2 := h6 j hlt
      obtain ⟨b3, b4⟩ := HB.out (j + 1) (by omega)
      obtain ⟨f1, f2⟩ := HF.out j hlt
      have ee : sm (fun d => if t d = s then f d else 0) (j + 1) = sm (fun d => if t d = s then f d else 0) j + (if t j = s then f j else 0) := rfl
      have EE := Lib.hid ee
      clear ee rt' rv' h3 h6 b3 b4 e1 e2 e3 e5 e6 e7 h1 h2 h4 h5
      by_cases q : t j = s
      · have q1 : (t j == s) = true := by simp; exact q
        have E2 : Hid (sm (fun d => if t d = s then f d else 0) (j + 1) = sm (fun d => if t d = s then f d else 0) j + f j) := Lib.hid (by rw [EE.out, if_pos q])
        clear q
        generalize sm (fun d => if t d = s then f d else 0) j = S at *
        go_wp2_with fail
        go_roundw
        case rel => exact ⟨j + 1, by simp, by omega, by rw [E2.out], by first | trivial | rfl⟩
        case measure => simp [intOf]; omega
      · have q1 : (t j == s) = false := by simp; exact q
        have E2 : Hid (sm (fun d => if t d = s then f d else 0) (j + 1) = sm (fun d => if t d = s then f d else 0) j) := Lib.hid (by rw [EE.out, if_neg q]; omega)
        clear q
        generalize sm (fun d => if t d = s then f d else 0) j = S at *
        go_wp2_with fail
        go_roundw
        case rel => exact ⟨j + 1, by simp, by omega, by rw [E2.out], by first | trivial | rfl⟩
        case measure => simp [intOf]; omega
    · have d1 : ¬ ((j : Int) < (m : Int)) := by omega
      obtain rfl : j = m := by omega
      go_wp2_with fail
      go_ret
      exact ⟨rfl, B1⟩
end Go.Proofs.Ytcdlnohnkdalbaa.Ro
