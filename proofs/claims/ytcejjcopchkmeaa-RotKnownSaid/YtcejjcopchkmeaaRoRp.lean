/- Walks: the reference's Parts. -/
import Derived.Test.YtcejjcopchkmeaaRoOr
import Derived.Test.YtcejjcopchkmeaaRoZ
import Derived.Test.YtcejjcopchkmeaaRoJ2
import Derived.Test.YtcejjcopchkmeaaRoNt
import Derived.Deep.RegionHeld3
import Derived.Outline
namespace Go.Proofs.Ytcejjcopchkmeaa.Ro
open Go.RowKit Go.Proofs Go.Maps
set_option linter.unusedVariables false
set_option maxRecDepth 100000
set_option linter.unusedSimpArgs false

/-- each vertex is told one of its piece that is no greater -/
structure Low (N m : Nat) (tl : Nat → Nat) (o : Nat → Int) : Prop where
  lo : ∀ v, v < N → 0 ≤ o v ∧ o v ≤ v
  conn : ∀ v, v < N → Conn m tl (o v).toNat v
theorem Low.start (N m : Nat) (tl : Nat → Nat) : Low N m tl (fun v => (v : Int)) :=
  ⟨fun v _ => ⟨by omega, Int.le_refl _⟩, fun v _ => by show Conn m tl ((v : Int).toNat) v; rw [Int.toNat_natCast]; exact .refl⟩
theorem Low.step {N m d : Nat} {tl : Nat → Nat} {o : Nat → Int} (h : Low N m tl o) (hd : d < m) (ht : tl d < N) (hh : tl (oth d) < N) (hg : o (tl (oth d)) > o (tl d)) : Low N m tl (upd o (tl (oth d)) (o (tl d))) :=
  ⟨fun v hv => by
    by_cases e : v = tl (oth d)
    · subst e; rw [upd_same]; have := h.lo _ ht; have := h.lo _ hh; omega
    · rw [upd_ne e]; exact h.lo v hv, fun v hv => by
    by_cases e : v = tl (oth d)
    · subst e; rw [upd_same]; exact .step hd (h.conn _ ht)
    · rw [upd_ne e]; exact h.conn v hv⟩
/-- the sum of a row's numbers -/
def tot (o : Nat → Int) : Nat → Nat
  | 0 => 0
  | n + 1 => tot o n + (o n).toNat
theorem tot_far {o : Nat → Int} {a : Nat} {u : Int} : ∀ {n}, n ≤ a → tot (upd o a u) n = tot o n
  | 0, _ => rfl
  | n + 1, h => by unfold tot; rw [tot_far (by omega), upd_ne (by omega)]
theorem tot_less {o : Nat → Int} {a : Nat} {u : Int} (h0 : 0 ≤ u) (h1 : u < o a) : ∀ {n}, a < n → tot (upd o a u) n < tot o n
  | 0, h => by omega
  | n + 1, h => by
    unfold tot
    by_cases e : a = n
    · subst e
      rw [tot_far (Nat.le_refl _), upd_same]
      omega
    · have := tot_less (n := n) h0 h1 (by omega)
      rw [upd_ne (by omega)]
      omega
/-- nothing is left to be made less: each vertex is told its piece's least -/
structure Least (N m : Nat) (tl : Nat → Nat) (o : Nat → Int) : Prop extends Low N m tl o where
  edge : ∀ d, d < m → o (tl (oth d)) = o (tl d)
theorem Least.of {N m : Nat} {tl : Nat → Nat} {o : Nat → Int} (h : Low N m tl o) (he : m % 2 = 0) (full : ∀ d, d < m → o (tl (oth d)) ≤ o (tl d)) : Least N m tl o :=
  ⟨h, fun d hd => by
    have h1 := full d hd
    have h2 := full (oth d) (oth_lt hd he)
    rw [oth_oth] at h2
    omega⟩
theorem Least.same {N m : Nat} {tl : Nat → Nat} {o : Nat → Int} (h : Least N m tl o) {u v : Nat} (c : Conn m tl u v) : o u = o v := by
  induction c with
  | refl => rfl
  | step hd _ ih => rw [h.edge _ hd]; exact ih
theorem Least.root {N m : Nat} {tl : Nat → Nat} {o : Nat → Int} (h : Least N m tl o) {v : Nat} (hv : v < N) : o (o v).toNat = o v := h.same (h.conn v hv)
/-- the pieces' numbers, of the first i vertices -/
structure NumUp (N m : Nat) (tl : Nat → Nat) (o : Nat → Int) (i k : Nat) (num : Nat → Int) : Prop where
  lo : ∀ v, v < i → 0 ≤ num v ∧ num v < k
  root : ∀ v, v < i → num v = num (o v).toNat
  one : ∀ u v, u < i → v < i → num u = num v → o u = o v
  each : ∀ e : Nat, e < k → ∃ v, v < i ∧ num v = e
  first : ∀ v, v < i → ∀ e : Nat, (e : Int) < num v → ∃ u, u < v ∧ num u = e
  le : k ≤ i
section
variable {N m i k : Nat} {tl : Nat → Nat} {o num : Nat → Int}
theorem NumUp.start (N m : Nat) (tl : Nat → Nat) (o num : Nat → Int) : NumUp N m tl o 0 0 num :=
  ⟨fun v h => by omega, fun v h => by omega, fun u v h => by omega, fun e h => by omega, fun v h => by omega, Nat.le_refl _⟩
theorem upd_low {num : Nat → Int} {i v : Nat} {u : Int} (h : v < i) : upd num i u v = num v := upd_ne (by omega)
theorem NumUp.new (h : NumUp N m tl o i k num) (L : Least N m tl o) (hi : i < N) (e : o i = i) : NumUp N m tl o (i + 1) (k + 1) (upd num i (k : Int)) := by
  have lt : ∀ v, v < i + 1 → v ≠ i → v < i := fun v h1 h2 => by omega
  refine ⟨fun v hv => ?_, fun v hv => ?_, fun u v hu hv q => ?_, fun e' he => ?_, fun v hv e' he => ?_, by have := h.le; omega⟩
  · by_cases q : v = i
    · subst q; rw [upd_same]; omega
    · rw [upd_low (lt v hv q)]; have := h.lo v (lt v hv q); omega
  · by_cases q : v = i
    · subst q; rw [e, Int.toNat_natCast]
    · have h1 := L.lo v (by omega)
      have h2 := lt v hv q
      rw [upd_low h2, upd_low (by omega)]; exact h.root v h2
  · by_cases q1 : u = i <;> by_cases q2 : v = i
    · rw [q1, q2]
    · rw [q1, upd_same, upd_low (lt v hv q2)] at q; have := h.lo v (lt v hv q2); omega
    · rw [q2, upd_same, upd_low (lt u hu q1)] at q; have := h.lo u (lt u hu q1); omega
    · rw [upd_low (lt u hu q1), upd_low (lt v hv q2)] at q; exact h.one u v (lt u hu q1) (lt v hv q2) q
  · rcases Nat.lt_or_ge e' k with q | q
    · obtain ⟨v, h1, h2⟩ := h.each e' q
      exact ⟨v, by omega, by rw [upd_low h1]; exact h2⟩
    · exact ⟨i, by omega, by rw [upd_same]; omega⟩
  · by_cases q : v = i
    · subst q; rw [upd_same] at he
      obtain ⟨u, h1, h2⟩ := h.each e' (by omega)
      exact ⟨u, h1, by rw [upd_low h1]; exact h2⟩
    · rw [upd_low (lt v hv q)] at he
      obtain ⟨u, h1, h2⟩ := h.first v (lt v hv q) e' he
      exact ⟨u, h1, by rw [upd_low (by omega)]; exact h2⟩
theorem NumUp.old (h : NumUp N m tl o i k num) (L : Least N m tl o) (hi : i < N) (e : o i ≠ i) : (o i).toNat < i ∧ NumUp N m tl o (i + 1) k (upd num i (num (o i).toNat)) := by
  have lt : ∀ v, v < i + 1 → v ≠ i → v < i := fun v h1 h2 => by omega
  have l0 := L.lo i hi
  have l1 : (o i).toNat < i := by omega
  have r := L.root hi
  refine ⟨l1, fun v hv => ?_, fun v hv => ?_, fun u v hu hv q => ?_, fun e' he => ?_, fun v hv e' he => ?_, by have := h.le; omega⟩
  · by_cases q : v = i
    · subst q; rw [upd_same]; exact h.lo _ l1
    · rw [upd_low (lt v hv q)]; exact h.lo v (lt v hv q)
  · by_cases q : v = i
    · subst q; rw [upd_same, upd_low l1]
    · have h1 := L.lo v (by omega)
      have h2 := lt v hv q
      rw [upd_low h2, upd_low (by omega)]; exact h.root v h2
  · by_cases q1 : u = i <;> by_cases q2 : v = i
    · rw [q1, q2]
    · rw [q1, upd_same, upd_low (lt v hv q2)] at q
      rw [q1]; exact r.symm.trans (h.one _ v l1 (lt v hv q2) q)
    · rw [q2, upd_same, upd_low (lt u hu q1)] at q
      rw [q2]; exact (h.one u _ (lt u hu q1) l1 q).trans r
    · rw [upd_low (lt u hu q1), upd_low (lt v hv q2)] at q; exact h.one u v (lt u hu q1) (lt v hv q2) q
  · obtain ⟨v, h1, h2⟩ := h.each e' he
    exact ⟨v, by omega, by rw [upd_low h1]; exact h2⟩
  · by_cases q : v = i
    · subst q; rw [upd_same] at he
      obtain ⟨u, h1, h2⟩ := h.first _ l1 e' he
      exact ⟨u, by omega, by rw [upd_low (by omega)]; exact h2⟩
    · rw [upd_low (lt v hv q)] at he
      obtain ⟨u, h1, h2⟩ := h.first v (lt v hv q) e' he
      exact ⟨u, h1, by rw [upd_low (by omega)]; exact h2⟩
theorem NumUp.pcs (h : NumUp N m tl o N k num) (L : Least N m tl o) (he : m % 2 = 0) (ht : ∀ d, d < m → tl d < N) : Pcs N m tl num k := by
  refine ⟨h.lo, fun d hd => ?_, fun u v hu hv q => ?_, h.each, h.first⟩
  · have e := L.edge d hd
    rw [h.root _ (ht _ (oth_lt hd he)), e, ← h.root _ (ht d hd)]
  · have e := h.one u v hu hv q
    have c1 := L.conn u hu
    rw [e] at c1
    exact (c1.symm he).trans (L.conn v hv)
end

set_option maxHeartbeats 6400000 in
theorem refParts_ok (w : World) (N : Nat) (T X C : Value) (m : Nat) (t x c : Nat → Int) (hT : Rd w T m t) (hX : Rd w X m x) (hC : Rd w C m c) (g : Good N m t x) :
    Calls Try.prog 24 #[.agg #[.int .i64 (N : Int), T, X, C]] w
      fun e w' => ∃ v o k, e = .returned (.tuple #[v, .int .i64 ((k : Nat) : Int)]) ∧ Ow w' v N o ∧ (∀ j, v.ownBlock = some j → w.heap.size ≤ j) ∧ Pcs N m (tlOf t) o k ∧ Below w.heap.size w w' := by
  have hN := g.most
  have hm := g.few
  have hv : ∀ d, d < m → t d = (tlOf t d : Int) ∧ tlOf t d < N := fun d hd => by
    have := g.tail d hd
    unfold tlOf; omega
  obtain ⟨TA, tp, rfl, rt⟩ := id hT
  obtain ⟨ii, hi, hz, hs, hby⟩ := info_parts (P := Try.prog) (e := 3) (z := .int .i64 0) (size := 1) (bytes := 8) (by kernel_rfl)
  go_enter Try.func24, Try.ntmps24
  go_upto_region 1 with fail
  obtain ⟨w1, hw1, N1, B1⟩ := net_enter (N : Int) hT hX hC
  rw [hw1]
  clear hw1
  have c0 := N1.c0
  go_upto_region 2 with (at_make; refine wpList_make_full _ rfl _ _ _ rfl 0 3 ii (.int .i64 0) 1 Try.underlying22 hi hz hs .i64 .i64 (N : Int) (N : Int) N rfl rfl rfl rfl (by rw [hby]; omega) (by unfold maxLen; omega) (Nat.zero_le _) ?_; intro w3 hm3 hg3)
  rw [show (Value.int IntKind.i64 0).cells = #[.int .i64 0] from rfl, Nat.mul_one, toList_madeCells_one] at hm3
  have O3 := Ow.made hm3
  have b3 : Below w1.heap.size w1 w3 := ⟨hg3.os, hg3.tape, hg3.output, hg3.size, fun k hk => hg3.block k hk (by simp)⟩
  have N3 := N1.below b3 (Nat.le_refl _)
  have B3 := B1.trans (b3.mono B1.size)
  have lp := N1.lt
  have hbw : w.heap.size ≤ w1.heap.size := B1.size
  obtain ⟨p, hp⟩ : ∃ p, p = w.heap.size := ⟨_, rfl⟩
  rw [← hp] at N3 lp ⊢
  clear hp
  clear hm3 hg3 b3 c0 B1 N1
  generalize w1.heap.size = b at *
  clear w1
  have hbp : b ≠ p := by omega
  go_wp2_with fail
  go_loopw [5] (fun u wr => ∃ j : Nat, u = .int .i64 (j : Int) ∧ j ≤ N ∧ Ow wr (.slice (some ⟨b, 0, none⟩) N N) N (fun i => if i < j then (i : Int) else 0) ∧ NetAt wr p N (.slice TA m tp) X C m t x c ∧ Below w.heap.size w wr) (fun u _ => N - (intOf u).toNat)
  case atStart => exact ⟨0, rfl, Nat.zero_le _, O3.congr fun j _ => by simp, N3, B3⟩
  case round =>
    clear O3 N3 B3 w3
    obtain ⟨j, rfl, hj, O, Nr, B⟩ := hrel
    have c0 := Nr.c0
    by_cases hlt : j < N
    · have d1 : (j : Int) < (N : Int) := by omega
      have co := O.cell hlt
      have zf := O.frozen j
      have O5 := (O.set hlt (j : Int)).congr (x' := fun i => if i < j + 1 then (i : Int) else 0) (fun i hi => by
        by_cases e : i = j
        · subst e; rw [upd_same, if_pos (by omega)]
        · rw [upd_ne e]
          by_cases q : i < j
          · rw [if_pos q, if_pos (by omega)]
          · rw [if_neg q, if_neg (by omega)])
      have B5 := B.setCell (p := ⟨b, j, none⟩) hbw (.int .i64 (j : Int))
      have N5 : NetAt (wr.setCell ⟨b, j, none⟩ (.int .i64 (j : Int))) p N (.slice TA m tp) X C m t x c := ⟨(Below.heap_setCell _ _ _ _ (Ne.symm hbp)).trans Nr.box, hT.below B5 (Nat.le_refl _), hX.below B5 (Nat.le_refl _), hC.below B5 (Nat.le_refl _)⟩
      clear O B Nr
      go_wp2_with fail
      go_roundw
      case rel => exact ⟨j + 1, by simp, by omega, O5, N5, B5⟩
      case measure => simp [intOf]; omega
    · have d1 : ¬ ((j : Int) < (N : Int)) := by omega
      have O5 := O.congr (x' := fun i => (i : Int)) fun i hi => if_pos (by omega)
      clear O
      go_wp2_with fail
      clear d1 hlt hj c0
      go_loopg [6] (tot (fun i => (i : Int)) N + 1) (fun n u wr => ∃ (gr : Bool) (o : Nat → Int), u = .bool gr ∧ (if gr then tot o N + 1 else 0) = n ∧ Low N m (tlOf t) o ∧ (gr = false → ∀ d, d < m → o (tlOf t (oth d)) ≤ o (tlOf t d)) ∧ Ow wr (.slice (some ⟨b, 0, none⟩) N N) N o ∧ NetAt wr p N (.slice TA m tp) X C m t x c ∧ Below w.heap.size w wr)
      case atStart => exact ⟨true, _, rfl, rfl, Low.start N m _, fun h => (by cases h), O5, Nr, B⟩
      case round =>
        clear O5 Nr B
        obtain ⟨gr, o, rfl, hn, L, full, O, Nr, B⟩ := hrel
        cases gr
        · have LL := Lib.hid (Least.of L g.even (full rfl))
          have c0 := Nr.c0
          clear full L
          go_upto_region 18 with (at_make; refine wpList_make_full _ rfl _ _ _ rfl 0 3 ii (.int .i64 0) 1 Try.underlying22 hi hz hs .i64 .i64 (N : Int) (N : Int) N rfl rfl rfl rfl (by rw [hby]; omega) (by unfold maxLen; omega) (Nat.zero_le _) ?_; intro w5 hm5 hg5)
          rw [show (Value.int IntKind.i64 0).cells = #[.int .i64 0] from rfl, Nat.mul_one, toList_madeCells_one] at hm5
          have M5 := Ow.made hm5
          have b5 : Below wr.heap.size wr w5 := ⟨hg5.os, hg5.tape, hg5.output, hg5.size, fun k hk => hg5.block k hk (by simp)⟩
          have N5 := Nr.below b5 (Nat.le_refl _)
          have O5 := O.below b5 (Nat.le_refl _)
          have B5 := B.trans (b5.mono B.size)
          have lp := Nr.lt
          have hqw : w.heap.size ≤ wr.heap.size := B.size
          have hqb : 0 < N → wr.heap.size ≠ b := fun _ => by have := O.lt (k := b) rfl; omega
          clear hm5 hg5 b5 c0 B Nr O
          generalize wr.heap.size = q at *
          clear wr
          have hqp : q ≠ p := by omega
          go_wp2_with fail
          go_loopw [10, 12] (fun u v wr => ∃ (k i : Nat) (num : Nat → Int), u = .int .i64 (k : Int) ∧ v = .int .i64 (i : Int) ∧ i ≤ N ∧ NumUp N m (tlOf t) o i k num ∧ Ow wr (.slice (some ⟨q, 0, none⟩) N N) N num ∧ Ow wr (.slice (some ⟨b, 0, none⟩) N N) N o ∧ NetAt wr p N (.slice TA m tp) X C m t x c ∧ Below w.heap.size w wr) (fun _ v _ => N - (intOf v).toNat)
          case atStart => exact ⟨0, 0, _, rfl, rfl, Nat.zero_le _, NumUp.start _ _ _ _ _, M5, O5, N5, B5⟩
          case round =>
            clear M5 O5 N5 B5 w5
            obtain ⟨k, i, num, rfl, rfl, hi', U, M, O, Nr, B⟩ := hrel
            have c0 := Nr.c0
            by_cases hlt : i < N
            · have d1 : (i : Int) < (N : Int) := by omega
              have co := O.cell hlt
              have cm := M.cell hlt
              have zf := M.frozen i
              have hne := hqb (by omega)
              by_cases he : o i = (i : Int)
              · have U2 := Lib.hid (U.new LL.out hlt he)
                have M2 := M.set hlt (k : Int)
                have B2 := B.setCell (p := ⟨q, i, none⟩) hqw (.int .i64 (k : Int))
                have O2 : Ow (wr.setCell ⟨q, i, none⟩ (.int .i64 (k : Int))) (.slice (some ⟨b, 0, none⟩) N N) N o := O.apart (Ne.symm hne) _
                have N2 : NetAt (wr.setCell ⟨q, i, none⟩ (.int .i64 (k : Int))) p N (.slice TA m tp) X C m t x c := ⟨(Below.heap_setCell _ _ _ _ (Ne.symm hqp)).trans Nr.box, hT.below B2 (Nat.le_refl _), hX.below B2 (Nat.le_refl _), hC.below B2 (Nat.le_refl _)⟩
                have hk : (k : Int) < 9223372036854775807 := by have := U.le; omega
                rw [he] at co
                have q1 : ((i : Int) == (i : Int)) = true := by simp
                clear he U M B O Nr
                go_wp2_with fail
                go_roundw
                case rel => exact ⟨k + 1, i + 1, _, by simp, by simp, by omega, U2.out, M2, O2, N2, B2⟩
                case measure => simp [intOf]; omega
              · obtain ⟨l1, U2⟩ := U.old LL.out hlt he
                have l0 := LL.out.lo i hlt
                obtain ⟨a, ha⟩ : ∃ a : Nat, o i = (a : Int) := ⟨(o i).toNat, by omega⟩
                rw [ha, Int.toNat_natCast] at U2 l1
                have U2 := Lib.hid U2
                have q1 : ((a : Int) == (i : Int)) = false := by simp; omega
                rw [ha] at co
                have ca := M.cell (j := a) (by omega)
                have la : (a : Int) < (N : Int) := by omega
                have M2 := M.set hlt (num a)
                have B2 := B.setCell (p := ⟨q, i, none⟩) hqw (.int .i64 (num a))
                have O2 : Ow (wr.setCell ⟨q, i, none⟩ (.int .i64 (num a))) (.slice (some ⟨b, 0, none⟩) N N) N o := O.apart (Ne.symm hne) _
                have N2 : NetAt (wr.setCell ⟨q, i, none⟩ (.int .i64 (num a))) p N (.slice TA m tp) X C m t x c := ⟨(Below.heap_setCell _ _ _ _ (Ne.symm hqp)).trans Nr.box, hT.below B2 (Nat.le_refl _), hX.below B2 (Nat.le_refl _), hC.below B2 (Nat.le_refl _)⟩
                clear he U M B O Nr l0 ha
                go_wp2_with fail
                go_roundw
                case rel => exact ⟨k, i + 1, _, rfl, by simp, by omega, U2.out, M2, O2, N2, B2⟩
                case measure => simp [intOf]; omega
            · have d1 : ¬ ((i : Int) < (N : Int)) := by omega
              obtain rfl : i = N := by omega
              have PP := Lib.hid (U.pcs LL.out g.even fun d hd => (hv d hd).2)
              clear U
              go_wp2_with fail
              go_ret2
              exact ⟨_, num, k, rfl, M, fun z hz => by simp [Value.ownBlock] at hz; omega, PP.out, B⟩
        · clear full
          go_wp2_with fail
          go_loopw [6, 7] (fun u v wr => ∃ (gr : Bool) (j : Nat) (o2 : Nat → Int), u = .bool gr ∧ v = .int .i64 (j : Int) ∧ j ≤ m ∧ (if gr then tot o2 N < tot o N else tot o2 N ≤ tot o N) ∧ Low N m (tlOf t) o2 ∧ (gr = false → ∀ d, d < j → o2 (tlOf t (oth d)) ≤ o2 (tlOf t d)) ∧ Ow wr (.slice (some ⟨b, 0, none⟩) N N) N o2 ∧ NetAt wr p N (.slice TA m tp) X C m t x c ∧ Below w.heap.size w wr) (fun _ v _ => m - (intOf v).toNat)
          case atStart => exact ⟨false, 0, o, rfl, rfl, Nat.zero_le _, by simp, L, fun _ d hd => by omega, O, Nr, B⟩
          case round =>
            clear L O Nr B
            obtain ⟨gr, j, o2, rfl, rfl, hj, hng, L, full, O, Nr, B⟩ := hrel
            have c0 := Nr.c0
            have c1 := Nr.c1
            have c2 := Nr.c2
            have c3 := Nr.c3
            by_cases hjm : j < m
            · have e1 : (j : Int) < (m : Int) := by omega
              obtain ⟨y, rfl, hy, hc⟩ := rt (by omega)
              have cr : wr.cell? (y.add j) = some (.int .i64 (tlOf t j : Int)) := by rw [← (hv j hjm).1]; exact rd_cell B hy (Nat.le_refl _) (hc j hjm)
              have ho := oth_lt hjm g.even
              have t1 := (hv j hjm).2
              have t2 := (hv (oth j) ho).2
              have t3 := (hv (oth j) ho).1
              have D : Below wr.heap.size wr wr.drew := (Below.refl _ wr).drew
              have lp := Nr.lt
              have ly : y.block < wr.heap.size := by have := B.size; omega
              have KK : Hid (∀ W, Below wr.heap.size wr W → W.cell? ⟨p, 0, none⟩ = some (.int .i64 (N : Int)) ∧ W.cell? ⟨p, 1, none⟩ = some (.slice (some y) m tp) ∧ W.cell? ⟨p, 2, none⟩ = some X ∧ W.cell? ⟨p, 3, none⟩ = some C ∧ W.cell? (y.add j) = some (.int .i64 (tlOf t j : Int))) :=
                Lib.hid fun W b => ⟨(b.cell (p := ⟨p, 0, none⟩) lp).trans c0, (b.cell (p := ⟨p, 1, none⟩) lp).trans c1, (b.cell (p := ⟨p, 2, none⟩) lp).trans c2, (b.cell (p := ⟨p, 3, none⟩) lp).trans c3, rd_cell b ly (Nat.le_refl _) cr⟩
              have hj9 : j ≤ 999 := by omega
              clear hc
              go_upto_region 12 with fail
              go_region_held3 (fun w' => w'.cell? ⟨p, 0, none⟩ = some (.int .i64 (N : Int)) ∧ w'.cell? ⟨p, 1, none⟩ = some (.slice (some y) m tp) ∧ w'.cell? ⟨p, 2, none⟩ = some X ∧ w'.cell? ⟨p, 3, none⟩ = some C ∧ w'.cell? (y.add j) = some (.int .i64 (tlOf t j : Int)))
                (first | with_reducible exact k1 | go_keep)
                ((go_at_call 30; refine (refHead_ok wr.drew N _ X C m t (Nr.rt.below D (Nat.le_refl _)) j hj9 ho).mono ?_; rintro e w6 ⟨he, b6⟩; rw [t3] at he; subst he; have E6 : Below wr.heap.size wr w6 := D.trans (b6.mono (Nat.le_refl _)); have k1 := KK.out w6 E6; clear b6))
              have B6 := B.trans (E6.mono B.size)
              have O6 := O.below E6 (Nat.le_refl _)
              have N6 := Nr.below E6 (Nat.le_refl _)
              clear O B Nr E6 KK k1 c0 c1 c2 c3 cr t3 D
              have q1 := O6.cell t1
              have q2 := O6.cell t2
              have q3 := O6.frozen (tlOf t (oth j))
              have s1 : (tlOf t j : Int) < (N : Int) := by omega
              have s2 : (tlOf t (oth j) : Int) < (N : Int) := by omega
              have l1 := (L.lo _ t1).1
              by_cases k2 : o2 (tlOf t (oth j)) > o2 (tlOf t j)
              · have f2 : decide (o2 (tlOf t (oth j)) > o2 (tlOf t j)) = true := by simpa using k2
                have L7 := Lib.hid (L.step hjm t1 t2 k2)
                have n7 := tot_less (o := o2) (a := tlOf t (oth j)) (u := o2 (tlOf t j)) l1 (by omega) t2
                have O7 := O6.set t2 (o2 (tlOf t j))
                have B7 := B6.setCell (p := ⟨b, tlOf t (oth j), none⟩) hbw (.int .i64 (o2 (tlOf t j)))
                have N7 := N6.store (a := ⟨b, tlOf t (oth j), none⟩) hT hX hC B7 (Ne.symm hbp)
                have hn7 : tot (upd o2 (tlOf t (oth j)) (o2 (tlOf t j))) N < tot o N := by cases gr <;> simp at hng <;> omega
                clear k2 L full
                go_upto_region 13 with fail
                go_big_quiet (fail)
                go_wp2_with fail
                go_roundw
                case rel => exact ⟨true, j + 1, _, rfl, by simp, by omega, by simpa using hn7, L7.out, fun h => (by cases h), O7, ⟨N7.box, N7.rt, N7.rx, N7.rc⟩, ⟨B7.os, B7.tape, B7.output, B7.size, B7.block⟩⟩
                case measure => simp [intOf]; omega
              · have f2 : decide (o2 (tlOf t (oth j)) > o2 (tlOf t j)) = false := by simpa using k2
                have FU : Hid (gr = false → ∀ d, d < j + 1 → o2 (tlOf t (oth d)) ≤ o2 (tlOf t d)) := Lib.hid fun h d hd => by
                  rcases Nat.lt_or_ge d j with q | q
                  · exact full h d q
                  · rw [show d = j by omega]; omega
                clear k2 full
                go_upto_region 13 with fail
                go_big_quiet (fail)
                go_wp2_with fail
                go_roundw
                case rel => exact ⟨gr, j + 1, o2, rfl, by simp, by omega, hng, L, FU.out, O6, ⟨N6.box, N6.rt, N6.rx, N6.rc⟩, ⟨B6.os, B6.tape, B6.output, B6.size, B6.block⟩⟩
                case measure => simp [intOf]; omega
            · have e1 : ¬ ((j : Int) < (m : Int)) := by omega
              obtain rfl : j = m := by omega
              have HM : Hid ((if gr then tot o2 N + 1 else 0) < gk) := Lib.hid (by
                simp at hn
                cases gr <;> simp at hng ⊢ <;> omega)
              clear hng
              go_wp2_with fail
              go_roundg (if gr then tot o2 N + 1 else 0)
              case measure => exact HM.out
              case rel => exact ⟨gr, o2, rfl, rfl, L, full, O, Nr, B⟩
end Go.Proofs.Ytcejjcopchkmeaa.Ro
