/- Walks: what less and lay of the heap do. -/
import Derived.WalkKit
import Derived.WalkSpells
import Derived.WalkLawsBesides
import Derived.RegionTactic
import Derived.BigRegion
import Derived.Outline
import Derived.Deep.QuietTactic
import Derived.BigQuiet
import Derived.StillTailTactics
import Derived.Deep.RegionHeld3
import Derived.Deep.DeepFit
import Derived.Lib.Hide
import Derived.KernelRfl
import Derived.Test.YtchlccendggfpaaHpW
namespace Go.Proofs.Ytchlccendggfpaa.Hp
open Go.RowKit Go.Maps Go.Proofs
set_option linter.unusedVariables false
set_option linter.unusedSimpArgs false

theorem still_tail {P : Program} {id : Nat} {Q : Exit → Act → World → Prop} {a : Act} {w : World} {l : List Oper} (n : Nat) (hm : P.follows .mixedOrders = true) (hB : Region.lexTailB .any l.toArray n = true)
    (h : wpStill P l.toArray w.drew (fun a' => wpList P l.toArray Q (l.drop n) a' w.drew) (l.take n) a) : (Code.region id l.toArray true).wp P Q a w := wp_region_still_tail n hm hB h

theorem still_on {P : Program} {ops : Array Oper} {w : World} {Q : Act → Prop} {a : Act} {o : Oper} {rest : List Oper} (hw : Region.wanted o (yielded ops a.tmps) = true)
    (h : ∀ K : Act → Prop, (∀ a, wpStill P ops w Q rest a → K a) → o.still P a w K) : wpStill P ops w Q (o :: rest) a := by
  unfold wpStill
  rw [if_pos hw]
  exact h _ fun _ h => h
theorem still_off {P : Program} {ops : Array Oper} {w : World} {Q : Act → Prop} {a a' : Act} {o : Oper} {rest : List Oper} (hw : Region.wanted o (yielded ops a.tmps) = false) (ha : a.put o.dst undef = a')
    (h : wpStill P ops w Q rest a') : wpStill P ops w Q (o :: rest) a := by
  unfold wpStill
  rw [if_neg (by rw [hw]; exact Bool.false_ne_true), ha]
  exact h

theorem less_any (a b : It) (w : World) :
    Calls Try.prog 51 #[.agg #[.int .i64 a.1, .int .i64 a.2], .agg #[.int .i64 b.1, .int .i64 b.2]] w
      fun e w' => e = .returned (.bool (lessB a b)) ∧ Below w.heap.size w w' := by
  obtain ⟨ak, ar⟩ := a
  obtain ⟨bk, br⟩ := b
  by_cases h : ar = br
  · have hd : (ar != br) = false := by simp [h]
    have hl : lessB (ak, ar) (bk, br) = decide (ak < bk) := by unfold lessB; rw [if_pos h]
    have HL := Lib.hid hl
    clear hl h
    go_enter Try.func51, Try.ntmps51
    go_wp2
    go_ret
    exact ⟨by rw [HL.out]; rfl, ((Below.refl _ _).alloc (Nat.le_refl _) _).alloc (by simp) _⟩
  · have hd : (ar != br) = true := by simp [h]
    have hl : lessB (ak, ar) (bk, br) = decide (ar < br) := by unfold lessB; rw [if_neg h]
    have HL := Lib.hid hl
    clear hl h
    go_enter Try.func51, Try.ntmps51
    go_wp2
    go_ret
    exact ⟨by rw [HL.out]; rfl, ((Below.refl _ _).alloc (Nat.le_refl _) _).alloc (by simp) _⟩

abbrev RawH := Raw Try.prog 3 52 70
theorem small_key {k : Int} (h : 0 ≤ k ∧ k < 300) : Small k := WalkArith.wf_i64 (by omega)
theorem small_nat {k : Nat} (h : k ≤ 1000) : Small (k : Int) := WalkArith.wf_i64 (by omega)

set_option maxHeartbeats 800000 in
theorem lay_any (w : World) (g : Nat) (v : Value) (bm n : Nat) (G : Nat → It) (m : Int → Option Int) (s : Nat) (at_ : Nat) (x : It) (z : Int) (hz : z = (at_ : Int)) (h : RawH w g v bm n G m s) (ha : at_ < n) (hx : 0 ≤ x.1 ∧ x.1 < 300) (hs : s ≤ 1000) (hn : n ≤ 1000) :
    Calls Try.prog 52 #[.pointer (some ⟨g, 0, none⟩), .int .i64 z, .agg #[.int .i64 x.1, .int .i64 x.2]] w
      fun e w' => e = .returned (.tuple #[]) ∧ RawH w' g v bm n (upd G at_ x) (upd m x.1 (some (at_ : Int))) (bump m x.1 s) ∧ Turn (Foot g bm v) w w' := by
  subst hz
  obtain ⟨b, cap, rfl, hb⟩ := h.row.form (by omega)
  obtain ⟨xk, xr⟩ := x
  have c0 : w.cell? ⟨g, 0, none⟩ = some (.slice (some ⟨b, 0, none⟩) n cap) := (blk_cell h.hg 0).trans rfl
  have c1 : w.cell? ⟨g, 1, none⟩ = some (.map (some bm)) := (blk_cell h.hg 1).trans rfl
  have k0 := h.row.key ha
  have k1 := h.row.rank ha
  have f0 := h.row.frozen (at_ * 2)
  have f1 := h.row.frozen (at_ * 2 + 1)
  have hi : (at_ : Int) < (n : Int) := by omega
  have hgl : g < w.heap.size := blk_lt h.hg
  go_enter Try.func52, Try.ntmps52
  go_wp2
  refine still_tail 7 (by kernel_rfl) (by kernel_rfl) ?_
  simp only [List.take_succ_cons, List.take_zero, List.drop_succ_cons, List.drop_zero]
  repeat still_step
  with_reducible refine wpStill_nil ?_
  go_wp2
  obtain ⟨W, hW⟩ : ∃ W, W = (((w.setCell ⟨b, at_ * 2, none⟩ (.int .i64 xk)).setCell ⟨b, at_ * 2 + 1, none⟩ (.int .i64 xr)).alloc (.cells #[.int .i64 xk, .int .i64 xr] 52)).drew := ⟨_, rfl⟩
  have R2 : RawH W g (.slice (some ⟨b, 0, none⟩) n cap) bm n (upd G at_ (xk, xr)) m s := by rw [hW]; exact ((h.store ha (xk, xr)).alloc _).drew
  have T2 : Turn (Foot g bm (.slice (some ⟨b, 0, none⟩) n cap)) w W := by
    rw [hW]; exact (((((Turn.refl _ _).setCell (.inl (.inr (.inr rfl))) _).setCell (.inl (.inr (.inr rfl))) _).alloc _).drew)
  have x2 : W.cell? ⟨w.heap.size, 0, none⟩ = some (.int .i64 xk) := by
    rw [hW]; exact new_cell (by rw [size_set, size_set]) _ _ _ 0
  rw [← hW]
  have n0 := w.heap.size
  generalize w.heap.size = y at *
  clear hW k0 k1 f0 f1 c0 c1
  have c1 := R2.c1
  refine still_tail 7 (by kernel_rfl) (by kernel_rfl) ?_
  simp only [List.take_succ_cons, List.take_zero, List.drop_succ_cons, List.drop_zero]
  repeat still_step
  with_reducible refine wpStill_nil ?_
  refine wpList_put (P := Try.prog) (K := 3) _ rfl _ _ _ 67 rfl Try.underlying3 Try.underlying67 bm s m rfl R2.map.drew (by unfold maxLen; omega) xk at_ rfl rfl (small_key hx) (small_nat (by omega)) ?_
  intro w1 hm1 ht1
  go_wp2
  go_end0
  exact ⟨rfl, R2.drew.put hm1 ht1, T2.drew.map ht1 (.inl (.inr (.inl rfl)))⟩

end Go.Proofs.Ytchlccendggfpaa.Hp
