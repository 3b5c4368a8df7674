/- Memory words: rows of whole numbers that are read, that are the call's own; slices.Repeat. -/
import Derived.WalkKit
import Derived.WalkSpells
import Derived.WalkLawsBesides
import Derived.RegionTactic
import Derived.BigRegion
import Derived.Outline
import Derived.Deep.QuietTactic
import Derived.BigQuiet
import Derived.StillTailTactics
import Derived.Deep.RegionHeld3
import Derived.Deep.DeepFit
import Derived.Lib.Hide
import Derived.KernelRfl
import Derived.Below
import Derived.OwnWalk
import Derived.Laws.OwnMore
import Derived.Laws.IdiomCopy
import Derived.Laws.Bits64b
import Derived.Deep.AppendLies
import Derived.Deep.Draws
import Derived.Deep.Cut
import Derived.Deep.CutBlock
import Derived.Deep.CutRange
import Derived.Maps.AppendAt
import Derived.WalkSmall
import Derived.Test.YtcejjcopchkmeaaProg
namespace Go.Proofs.Ytcejjcopchkmeaa.Ro
open Go.RowKit Go.Proofs
set_option linter.unusedVariables false
set_option maxRecDepth 100000
set_option linter.unusedSimpArgs false

def upd {A B : Type} [DecidableEq A] (f : A → B) (a : A) (b : B) : A → B := fun x => if x = a then b else f x
theorem upd_same {A B : Type} [DecidableEq A] (f : A → B) (a : A) (b : B) : upd f a b a = b := by simp [upd]
theorem upd_ne {A B : Type} [DecidableEq A] {f : A → B} {a x : A} {b : B} (h : x ≠ a) : upd f a b x = f x := by simp [upd, h]

/-- what may turn (F), and what is new: all else is as it was -/
structure Turn (F : Nat → Prop) (w w' : World) : Prop where
  os : w'.os = w.os
  tape : w'.tape = w.tape
  output : w'.output = w.output
  size : w.heap.size ≤ w'.heap.size
  block : ∀ k, k < w.heap.size → ¬ F k → w'.heap[k]? = w.heap[k]?
section
variable {F F' : Nat → Prop} {a b c w w' : World}
theorem Turn.refl (F : Nat → Prop) (w : World) : Turn F w w := ⟨rfl, rfl, rfl, Nat.le_refl _, fun _ _ _ => rfl⟩
theorem Turn.below (h : Turn F a w) {B : Nat} (hF : ∀ k, F k → B ≤ k) (hB : B ≤ a.heap.size) : Below B a w :=
  ⟨h.os, h.tape, h.output, h.size, fun k hk => h.block k (by omega) fun q => by have := hF k q; omega⟩
theorem Turn.of_below {B : Nat} (h : Below B a b) (hF : ∀ k, k < a.heap.size → ¬ F k → k < B) : Turn F a b := ⟨h.os, h.tape, h.output, h.size, fun k hk hn => h.block k (hF k hk hn)⟩
end
theorem blk_lt {w : World} {g : Nat} {o : Obj} (h : w.heap[g]? = some o) : g < w.heap.size := by
  rcases Nat.lt_or_ge g w.heap.size with hlt | hge
  · exact hlt
  · rw [Array.getElem?_eq_none hge] at h; cases h
theorem blk_cell {w : World} {g : Nat} {cs : Array Value} {t : TypeId} {fr : Nat × Nat} (h : w.heap[g]? = some (.cells cs t fr)) (i : Nat) : w.cell? ⟨g, i, none⟩ = cs[i]? := by simp [World.cell?, h]
theorem block_add (a : Addr) (n : Nat) : (a.add n).block = a.block := by unfold Addr.add; split <;> rfl
theorem add_head (b j : Nat) : (⟨b, 0, none⟩ : Addr).add j = ⟨b, j, none⟩ := by unfold Addr.add; split <;> simp_all

/-- a row of n whole numbers that is read -/
def Rd (w : World) (v : Value) (n : Nat) (x : Nat → Int) : Prop :=
  ∃ A cap, v = .slice A n cap ∧ (0 < n → ∃ y, A = some y ∧ y.block < w.heap.size ∧ ∀ i, i < n → w.cell? (y.add i) = some (.int .i64 (x i)))
/-- a row of n whole numbers of the call's own -/
def Ow (w : World) (v : Value) (n : Nat) (x : Nat → Int) : Prop :=
  ∃ xs, w.ownsRow 0 3 1 v n xs ∧ ∀ j, j < n → xs[j]? = some (.int .i64 (x j))

section
variable {w w' : World} {v : Value} {n cap b B : Nat} {x : Nat → Int}
theorem Rd.below (h : Rd w v n x) (hb : Below B w w') (hB : w.heap.size ≤ B) : Rd w' v n x := by
  obtain ⟨A, c, e, r⟩ := h
  refine ⟨A, c, e, fun hn => ?_⟩
  obtain ⟨y, h1, h2, h3⟩ := r hn
  exact ⟨y, h1, Nat.lt_of_lt_of_le h2 hb.size, fun i hi => (hb.cell (by rw [block_add]; omega)).trans (h3 i hi)⟩
theorem Rd.congr {x' : Nat → Int} (h : Rd w v n x) (e : ∀ j, j < n → x j = x' j) : Rd w v n x' := by
  obtain ⟨A, c, e1, r⟩ := h
  refine ⟨A, c, e1, fun hn => ?_⟩
  obtain ⟨y, h1, h2, h3⟩ := r hn
  exact ⟨y, h1, h2, fun i hi => by rw [← e i hi]; exact h3 i hi⟩
theorem Ow.nil (w : World) (x : Nat → Int) : Ow w (.slice none 0 0) 0 x := ⟨[], World.ownsRow_nil _ _ _ _, fun j hj => by omega⟩
theorem Ow.form (h : Ow w v n x) (hn : 0 < n) : ∃ b cap, v = .slice (some ⟨b, 0, none⟩) n cap ∧ b < w.heap.size := by
  obtain ⟨xs, h1, _⟩ := h
  obtain ⟨b, cap, e, _, hlt⟩ := h1.form hn
  exact ⟨b, cap, e, hlt⟩
theorem Ow.cell (h : Ow w (.slice (some ⟨b, 0, none⟩) n cap) n x) {j : Nat} (hj : j < n) : w.cell? ⟨b, j, none⟩ = some (.int .i64 (x j)) := by
  obtain ⟨xs, h1, h2⟩ := h
  rw [h1.cellAt j (by omega)]; exact h2 j hj
theorem Ow.frozen (h : Ow w (.slice (some ⟨b, 0, none⟩) n cap) n x) (j : Nat) : w.frozen? ⟨b, j, none⟩ = false := by
  obtain ⟨xs, h1, h2⟩ := h
  exact h1.frozenAt j
theorem Ow.congr {x' : Nat → Int} (h : Ow w v n x) (e : ∀ j, j < n → x j = x' j) : Ow w v n x' := by
  obtain ⟨xs, h1, h2⟩ := h
  exact ⟨xs, h1, fun j hj => by rw [← e j hj]; exact h2 j hj⟩
theorem Ow.set (h : Ow w (.slice (some ⟨b, 0, none⟩) n cap) n x) {i : Nat} (hi : i < n) (u : Int) : Ow (w.setCell ⟨b, i, none⟩ (.int .i64 u)) (.slice (some ⟨b, 0, none⟩) n cap) n (upd x i u) := by
  obtain ⟨xs, h1, h2⟩ := h
  refine ⟨_, (h1.stored i _).1, fun j hj => ?_⟩
  have hl : xs.length = n * 1 := h1.1
  by_cases e : j = i
  · subst e; rw [upd_same, List.getElem?_set_self (by omega)]
  · rw [upd_ne e, List.getElem?_set_ne (by omega)]; exact h2 j hj
theorem Ow.keep (h : Ow w v n x) (hb : ∀ k, v.ownBlock = some k → w'.heap[k]? = w.heap[k]?) : Ow w' v n x := by
  obtain ⟨xs, ⟨h0, h1⟩, h2⟩ := h
  refine ⟨xs, ⟨h0, ?_⟩, h2⟩
  rcases h1 with h1 | ⟨b', cap', cur, rfl, q, hg, r⟩
  · exact .inl h1
  · exact .inr ⟨b', cap', cur, rfl, q, (hb b' rfl).trans hg, r⟩
theorem Ow.lt (h : Ow w v n x) {k : Nat} (hk : v.ownBlock = some k) : k < w.heap.size := by
  obtain ⟨xs, h1, _⟩ := h
  exact (h1.lt k hk).2
theorem Ow.below (h : Ow w v n x) (hb : Below B w w') (hB : w.heap.size ≤ B) : Ow w' v n x := h.keep fun k hk => hb.block k (Nat.lt_of_lt_of_le (h.lt hk) hB)
theorem Ow.rd (h : Ow w v n x) : Rd w v n x := by
  obtain ⟨xs, h1, h2⟩ := h
  rcases Nat.eq_zero_or_pos n with rfl | hn
  · rcases h1.2 with ⟨e, _⟩ | ⟨g, cap, cur, e, _⟩
    · exact ⟨none, 0, e, fun q => by omega⟩
    · exact ⟨_, cap, e, fun q => by omega⟩
  · obtain ⟨b, cap, e, _, hlt⟩ := h1.form hn
    subst e
    exact ⟨_, cap, rfl, fun _ => ⟨_, rfl, hlt, fun i hi => by rw [add_head]; exact Ow.cell ⟨xs, h1, h2⟩ hi⟩⟩
end

theorem still_tail {P : Program} {id : Nat} {Q : Exit → Act → World → Prop} {a : Act} {w : World} {l : List Oper} (n : Nat) (hm : P.follows .mixedOrders = true) (hB : Region.lexTailB .any l.toArray n = true)
    (h : wpStill P l.toArray w.drew (fun a' => wpList P l.toArray Q (l.drop n) a' w.drew) (l.take n) a) : (Code.region id l.toArray true).wp P Q a w := wp_region_still_tail n hm hB h

theorem still_on {P : Program} {ops : Array Oper} {w : World} {Q : Act → Prop} {a : Act} {o : Oper} {rest : List Oper} (hw : Region.wanted o (yielded ops a.tmps) = true)
    (h : ∀ K : Act → Prop, (∀ a, wpStill P ops w Q rest a → K a) → o.still P a w K) : wpStill P ops w Q (o :: rest) a := by
  unfold wpStill
  rw [if_pos hw]
  exact h _ fun _ h => h

theorem and_low (n : Nat) (hn : n ≤ 1000) : bits BinOp.and IntKind.u64 (n : Int) 4294967295 = (n : Int) := by
  have e : n &&& 4294967295 = n := by
    have := Nat.and_two_pow_sub_one_eq_mod n 32
    simp at this
    rw [this]; omega
  have h := bits_and_u64_nat n 4294967295 (by omega) (by omega)
  rw [e] at h
  exact h
theorem wrap_low (n : Nat) (hn : n ≤ 1000) : IntKind.u64.wrap (n : Int) = n := by
  have hb : IntKind.u64.bits = 64 := by decide +kernel
  have hs : IntKind.u64.signed = false := by decide +kernel
  simp [IntKind.wrap, hb, hs]
  omega

theorem mul64_one (w : World) (n : Nat) (hn : n ≤ 1000) :
    Calls Try.prog 56 #[.int .u64 1, .int .u64 (n : Int)] w fun e w' => e = .returned (.tuple #[.int .u64 0, .int .u64 (n : Int)]) ∧ w = w' := by
  have b1 : bits BinOp.and IntKind.u64 1 4294967295 = 1 := by decide +kernel
  have b0 : bits BinOp.and IntKind.u64 0 4294967295 = 0 := by decide +kernel
  have bn := and_low n hn
  have dn : (n : Int) / 4294967296 = 0 := by omega
  have wn : IntKind.u64.wrap (n : Int) = n := wrap_low n hn
  have w0 : IntKind.u64.wrap 0 = 0 := by decide +kernel
  go_enter Try.func56, Try.ntmps56
  go_wp2_with fail
  go_ret2
  exact ⟨by simp [b1, bn, dn, wn, w0, b0], rfl⟩
theorem mul_one (w : World) (n : Nat) (hn : n ≤ 1000) :
    Calls Try.prog 54 #[.int .u64 1, .int .u64 (n : Int)] w fun e w' => e = .returned (.tuple #[.int .u64 0, .int .u64 (n : Int)]) ∧ w = w' := by
  have wn : IntKind.u64.wrap (n : Int) = n := wrap_low n hn
  go_enter Try.func54, Try.ntmps54
  go_wp2_with fail
  refine (mul64_one _ n hn).mono ?_
  rintro e w1 ⟨rfl, rfl⟩
  go_wp2_with fail
  go_ret2
  exact ⟨by simp [wn], rfl⟩

def half (k n : Nat) : List Value := List.replicate k (.int .i64 (-1)) ++ List.replicate (n - k) (.int .i64 0)
theorem half_zero (n : Nat) : half 0 n = List.replicate n (.int .i64 0) := by simp [half]
theorem half_all (n : Nat) : half n n = (List.replicate n (-1)).map fun x => Value.int .i64 x := by simp [half]
theorem half_set {k n : Nat} (h : k < n) : (half k n).set k (.int .i64 (-1)) = half (k + 1) n := by
  have e : n - k = (n - (k + 1)) + 1 := by omega
  unfold half
  rw [e, List.replicate_succ, List.set_append, List.length_replicate, if_neg (by omega), Nat.sub_self, List.replicate_succ', List.append_assoc]
  rfl
theorem half_low {k n i : Nat} (h : i < k) : (half k n)[i]? = some (.int .i64 (-1)) := by
  unfold half
  rw [List.getElem?_append_left (by simpa using h)]
  simp [h]

section
variable {w : World} {B k n : Nat}
abbrev Half (w : World) (B k n : Nat) : Prop := w.ownsRow 0 3 1 (.slice (some ⟨B, 0, none⟩) n n) n (half k n)
theorem Half.low (h : Half w B k n) {i : Nat} (hi : i < k) (hk : k ≤ n) : w.cell? ⟨B, i, none⟩ = some (.int .i64 (-1)) := by
  have := World.ownsRow.cellAt h i (by omega)
  rw [this]; exact half_low hi
theorem Half.there (h : Half w B k n) {i : Nat} (hi : i < n) : (w.cell? ⟨B, i, none⟩).isSome = true := by
  have := World.ownsRow.cellAt h i (by omega)
  rw [this]
  have hl : (half k n).length = n * 1 := h.1
  rw [List.getElem?_eq_getElem (by omega)]
  rfl
theorem Half.sets : ∀ (m k : Nat) (w : World), Half w B k n → k + m ≤ n → Half (w.setCells B k (List.replicate m (.int .i64 (-1)))) B (k + m) n ∧ ∀ W0 : World, W0.heap.size ≤ B → Below W0.heap.size W0 w → Below W0.heap.size W0 (w.setCells B k (List.replicate m (.int .i64 (-1))))
  | 0, k, w, h, _ => ⟨h, fun _ _ b => b⟩
  | m + 1, k, w, h, hk => by
    have h1 := (World.ownsRow.stored h k (.int .i64 (-1))).1
    rw [half_set (by omega)] at h1
    obtain ⟨r1, r2⟩ := Half.sets m (k + 1) _ h1 (by omega)
    rw [List.replicate_succ, World.setCells]
    exact ⟨by rw [show k + (m + 1) = k + 1 + m by omega]; exact r1, fun W0 hB b => r2 W0 hB (b.setCell hB _)⟩
end

theorem setCells_drew (b : Nat) : ∀ (vs : List Value) (o : Nat) (w : World), w.drew.setCells b o vs = (w.setCells b o vs).drew
  | [], _, _ => rfl
  | v :: r, o, w => setCells_drew b r (o + 1) (w.setCell ⟨b, o, none⟩ v)

set_option maxHeartbeats 1600000 in
theorem repeat_any (w : World) (b n : Nat) (hn : n ≤ 1000) (hb : w.cell? ⟨b, 0, none⟩ = some (.int .i64 (-1))) (hl : b < w.heap.size) :
    Calls Try.prog 46 #[.slice (some ⟨b, 0, none⟩) 1 1, .int .i64 (n : Int)] w
      fun e w' => ∃ c, e = .returned (.slice (some ⟨w.heap.size, 0, none⟩) n c) ∧ Ow w' (.slice (some ⟨w.heap.size, 0, none⟩) n c) n (fun _ => -1) ∧ Below w.heap.size w w' := by
  have w1 : IntKind.u64.wrap 1 = 1 := by decide +kernel
  have wn := wrap_low n hn
  go_enter Try.func46, Try.ntmps46
  go_wp2_with fail
  refine (mul_one _ n hn).mono ?_
  rintro e w2 ⟨rfl, rfl⟩
  obtain ⟨ii, hi, hz, hs, hby⟩ := info_parts (P := Try.prog) (e := 3) (z := .int .i64 0) (size := 1) (bytes := 8) (by kernel_rfl)
  have hlim : ¬ (9223372036854775807 < (n : Int)) := by omega
  go_upto_region 7 with (at_make; refine wpList_make_full _ rfl _ _ _ rfl 0 3 ii (.int .i64 0) 1 Try.underlying22 hi hz hs .i64 .i64 (n : Int) (n : Int) n rfl rfl rfl rfl (by rw [hby]; omega) (by unfold maxLen; omega) (Nat.zero_le _) ?_; intro w3 hm3 hg3)
  have H3 : Half w3 w.heap.size 0 n := by
    have := hm3
    rw [show (Value.int IntKind.i64 0).cells = #[.int .i64 0] from rfl, Nat.mul_one, toList_madeCells_one] at this
    unfold Half; rw [half_zero]; exact this
  have B3 : Below w.heap.size w w3 := ⟨hg3.os, hg3.tape, hg3.output, hg3.size, fun k hk => hg3.block k hk (by simp)⟩
  have hb3 : w3.cell? ⟨b, 0, none⟩ = some (.int .i64 (-1)) := (B3.cell hl).trans hb
  have cp : (Builtin.copy_ #[22, 22] 3 #[.slice (some ⟨w.heap.size, 0, none⟩) n n, .slice (some ⟨b, 0, none⟩) 1 1]).run Try.prog w3 = .ok (goInt ((min 1 n : Nat) : Int)) (w3.setCells w.heap.size 0 (List.replicate (min 1 n) (.int .i64 (-1)))) := by
    have := run_copy_cells (P := Try.prog) w3 22 22 3 3 w.heap.size 0 n n ⟨b, 0, none⟩ 1 1 (List.replicate (min 1 n) (.int .i64 (-1))) Try.underlying22 (by kernel_rfl) (by simp [Nat.min_def]) ?_ ?_ ?_ ?_
    · simpa using this
    · intro j v hv
      have hj : j < min 1 n := by
        rcases Nat.lt_or_ge j (min 1 n) with q | q
        · exact q
        · rw [List.getElem?_eq_none (by simpa using q)] at hv; cases hv
      obtain rfl : j = 0 := by omega
      rw [List.getElem?_replicate, if_pos hj] at hv
      injection hv with hv
      rw [← hv]
      exact hb3
    · intro j hj
      rw [List.length_replicate] at hj
      rw [Nat.zero_add]
      exact H3.there (i := j) (by omega)
    · intro j hj
      rw [Nat.zero_add]
      exact World.ownsRow.frozenAt H3 j
    · intro v hv
      rw [List.mem_replicate] at hv
      rw [hv.2]; rfl
  obtain ⟨H4, B4⟩ := Half.sets (min 1 n) 0 w3 H3 (by omega)
  have B5 := B4 w (Nat.le_refl _) B3
  have C := Lib.hid cp
  clear B4 hm3 hg3 hb3 H3 B3 cp
  rw [Nat.zero_add] at H4
  have cp := C.out
  clear C
  go_wp2_with fail
  clear cp
  generalize w3.setCells w.heap.size 0 (List.replicate (min 1 n) (.int .i64 (-1))) = w4 at *
  clear w3
  go_loopw [8] (fun u wr => ∃ k : Nat, u = .int .i64 (k : Int) ∧ k ≤ n ∧ (0 < n → 0 < k) ∧ Half wr w.heap.size k n ∧ Below w.heap.size w wr) (fun u _ => n - (intOf u).toNat)
  case atStart => exact ⟨min 1 n, by simp [goInt], by omega, by omega, H4, B5⟩
  case round =>
    clear H4 B5
    obtain ⟨k, rfl, hk, h0, H, Bk⟩ := hrel
    by_cases hlt : k < n
    · have d1 : (k : Int) < (n : Int) := by omega
      have d2 : (k : Int) ≤ (n : Int) := by omega
      have k0 := h0 (by omega)
      clear h0
      have cp : ∀ c, (Builtin.copy_ #[22, 22] 3 #[.slice (some ⟨w.heap.size, k, none⟩) (n - k) (n - k), .slice (some ⟨w.heap.size, 0, none⟩) k c]).run Try.prog wr.drew = .ok (goInt ((min k (n - k) : Nat) : Int)) ((wr.setCells w.heap.size k (List.replicate (min k (n - k)) (.int .i64 (-1)))).drew) := by
        intro c
        rw [← setCells_drew]
        have H' : Half wr.drew w.heap.size k n := H
        have := run_copy_cells (P := Try.prog) wr.drew 22 22 3 3 w.heap.size k (n - k) (n - k) ⟨w.heap.size, 0, none⟩ k c (List.replicate (min k (n - k)) (.int .i64 (-1))) Try.underlying22 (by kernel_rfl) (by simp [Nat.min_def]) ?_ ?_ ?_ ?_
        · simpa using this
        · intro j v hv
          have hj : j < min k (n - k) := by
            rcases Nat.lt_or_ge j (min k (n - k)) with q | q
            · exact q
            · rw [List.getElem?_eq_none (by simpa using q)] at hv; cases hv
          rw [List.getElem?_replicate, if_pos hj] at hv
          injection hv with hv
          rw [← hv]
          have := H'.low (i := j) (by omega) hk
          have e : (⟨w.heap.size, 0, none⟩ : Addr).add j = ⟨w.heap.size, j, none⟩ := by unfold Addr.add; split <;> simp_all
          rw [e]; exact this
        · intro j hj
          rw [List.length_replicate] at hj
          exact H'.there (i := k + j) (by omega)
        · intro j hj
          exact World.ownsRow.frozenAt H' (k + j)
        · intro v hv
          rw [List.mem_replicate] at hv
          rw [hv.2]; rfl
      obtain ⟨H4, B4⟩ := Half.sets (min k (n - k)) k wr H (by omega)
      have B5 := B4 w (Nat.le_refl _) Bk
      go_wp2_with fail
      have wk : IntKind.i64.wrap ((k : Int) + ((min k (n - k) : Nat) : Int)) = (k : Int) + ((min k (n - k) : Nat) : Int) := by
        rw [IntKind.wrap_i64]
        omega
      go_region_with (fail)
      all_goals
        go_simp
        go_wp2_with fail
        go_roundw
        case rel =>
          exact ⟨k + min k (n - k), by simp [goInt, wk], by omega, by omega, H4, B5.drew⟩
        case measure => simp only [intOf, wk]; omega
    · have d1 : ¬ ((k : Int) < (n : Int)) := by omega
      obtain rfl : k = n := by omega
      go_wp2
      go_ret
      exact ⟨_, rfl, ⟨_, H, fun j hj => half_low hj⟩, Bk⟩
theorem below_new (w : World) (o : Obj) : Below w.heap.size w (w.alloc o) := (Below.refl _ w).alloc (Nat.le_refl _) _
theorem Ow.made {w : World} {b n : Nat} (h : w.ownsRow 0 3 1 (.slice (some ⟨b, 0, none⟩) n n) n (List.replicate n (.int .i64 0))) : Ow w (.slice (some ⟨b, 0, none⟩) n n) n (fun _ => 0) :=
  ⟨_, h, fun j hj => by simp [hj]⟩
end Go.Proofs.Ytcejjcopchkmeaa.Ro
