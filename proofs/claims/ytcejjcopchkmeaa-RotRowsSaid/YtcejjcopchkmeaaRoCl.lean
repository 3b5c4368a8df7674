/- Walks: slices.Clone. -/
import Derived.Test.YtcejjcopchkmeaaRoI
namespace Go.Proofs.Ytcejjcopchkmeaa.Ro
open Go.RowKit Go.Proofs Go.Maps
set_option linter.unusedVariables false
set_option maxRecDepth 100000
set_option linter.unusedSimpArgs false

theorem wpList_clo {w : World} {ops : Array Oper} {rest : List Oper} {o : Oper} {a : Act} {Q : Exit → Act → World → Prop} (hgd : o.guard = none) (s x : Operand)
    (ho : o.op = .call { callee := .builtin .append, args := #[s, x], argTypes := #[22, 22] })
    (v : Value) (g : Nat → Int) (hs : a.eval s = v) (h : Ow w v 0 g) (ad : Addr) (k c : Nat) (y : Nat → Int) (hx : a.eval x = .slice (some ad) k c) (h0 : ∀ i, i < k → w.cell? (ad.add i) = some (.int .i64 (y i))) (hn : k ≤ 100000)
    (hQ : ∀ v' w', Ow w' v' k y → w.grownBy w' v.ownBlock → (v'.ownBlock = v.ownBlock ∨ v'.ownBlock = some w.heap.size) → wpList Try.prog ops Q rest (a.put o.dst v') w') :
    wpList Try.prog ops Q (o :: rest) a w := by
  obtain ⟨i0, hi, hz0, hz1, hz2⟩ := info_parts (P := Try.prog) (e := 3) (z := .int .i64 0) (size := 1) (bytes := 8) (by kernel_rfl)
  obtain ⟨xs, hown, hxs⟩ := h
  have hl : xs.length = 0 * 1 := hown.1
  have hx0 : xs = [] := List.eq_nil_of_length_eq_zero (by omega)
  have hnew : ∀ j, ((List.range k).map fun i => Value.int .i64 (y i))[j]? = if j < k then some (.int .i64 (y j)) else none := fun j => by
    by_cases q : j < k
    · rw [if_pos q, List.getElem?_map, List.getElem?_range q]; rfl
    · rw [if_neg q, List.getElem?_eq_none (by simp; omega)]
  refine wpList_append_own_at w hgd s x 22 ho 0 3 i0 _ 1 8 Try.underlying22 hi hz0 hz1 hz2 rfl (by omega) v 0 xs hs hown ad k c ((List.range k).map fun i => Value.int .i64 (y i)) hx (by simp) ?_ ?_ (by unfold maxLen; omega) (by omega) (Nat.zero_le _) (fun v' w' h2 h3 _ h5 => ?_)
  · intro j u hu
    rw [hnew] at hu
    split at hu
    · injection hu with hu; rw [← hu]; exact h0 j ‹_›
    · cases hu
  · intro u hu
    rw [List.mem_map] at hu
    obtain ⟨i, _, rfl⟩ := hu
    rfl
  · rw [Nat.zero_add] at h2
    refine hQ v' w' ⟨_, h2, fun j hj => ?_⟩ h3 h5
    rw [hx0, List.nil_append, hnew, if_pos hj]

set_option maxHeartbeats 1600000 in
theorem clone_any (w : World) (v : Value) (n : Nat) (x : Nat → Int) (h : Rd w v n x) (hn : n ≤ 1000) :
    Calls Try.prog 47 #[v] w fun e w' => ∃ A c, e = .returned (.slice A n c) ∧ Ow w' (.slice A n c) n x ∧ (∀ k, (Value.slice A n c).ownBlock = some k → w.heap.size ≤ k) ∧ Below w.heap.size w w' := by
  obtain ⟨A, cap, rfl, r⟩ := h
  cases A with
  | none =>
    have h0 : n = 0 := by
      rcases Nat.eq_zero_or_pos n with q | q
      · exact q
      · obtain ⟨y, e, _⟩ := r q; cases e
    subst h0
    have q := fun w => Lib.run_eql_slice_nil (P := Try.prog) w 22 3 none 0 cap 0 0 Try.underlying22
    go_enter Try.func47, Try.ntmps47
    go_wp2_with fail
    go_ret
    exact ⟨none, 0, rfl, Ow.nil _ _, fun k hk => by simp [Value.ownBlock] at hk, Below.refl _ _⟩
  | some y =>
    have hy : ∀ i, i < n → y.block < w.heap.size ∧ w.cell? (y.add i) = some (.int .i64 (x i)) := fun i hi => by
      obtain ⟨y', e, h1, h2⟩ := r (by omega)
      injection e with e; subst e
      exact ⟨h1, h2 i hi⟩
    have bE : Below w.heap.size w (w.alloc (.cells #[] 3)) := (Below.refl _ _).alloc (Nat.le_refl _) _
    have sE : (w.alloc (.cells #[] 3)).heap.size = w.heap.size + 1 := by simp
    have OE := Ow.empty w (fun _ => 0)
    have HT := Lib.hid (fun i (hi : i < n) => (show (w.alloc (.cells #[] 3)).cell? (y.add i) = some (.int .i64 (x i)) from (bE.cell (by rw [block_add]; exact (hy i hi).1)).trans (hy i hi).2))
    have HE := Lib.hid sE
    clear sE hy r
    have q := fun w => Lib.run_eql_slice_nil (P := Try.prog) w 22 3 (some y) n cap 0 0 Try.underlying22
    go_enter Try.func47, Try.ntmps47
    go_wp2_with (at_builtin; refine wpList_clo rfl _ _ rfl (.slice (some ⟨w.heap.size, 0, none⟩) 0 0) (fun _ => 0) rfl OE y n cap x rfl HT.out (by omega) ?_; intro v' w1 O1 g1 l1; have B1 : Below w.heap.size w w1 := Below.grown bE g1 (by rw [HE.out]; omega) (fun k hk => by simp [Value.ownBlock] at hk; omega))
    go_ret
    obtain ⟨A, c, rfl, -⟩ := id O1.rd
    refine ⟨A, c, rfl, O1, fun k hk => ?_, B1⟩
    have h2 := HE.out
    rw [hk] at l1
    simp [Value.ownBlock] at l1
    omega

end Go.Proofs.Ytcejjcopchkmeaa.Ro
