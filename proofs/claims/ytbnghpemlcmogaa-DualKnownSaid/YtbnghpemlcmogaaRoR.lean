/- Walks: what is about a face, from a dart on. -/
import Derived.Test.YtbnghpemlcmogaaRoF
namespace Go.Proofs.Ytbnghpemlcmogaa.Ro
open Go.RowKit Go.Proofs Go.Maps
set_option linter.unusedVariables false
set_option linter.unusedSimpArgs false

/-- a round of k darts from d on -/
structure Rnd (f : Nat → Nat) (d k : Nat) : Prop where
  pos : 0 < k
  back : it f k d = d
  apart : ∀ i j, i < j → j < k → it f i d ≠ it f j d
theorem Rnd.one {f : Nat → Nat} {d k k' : Nat} (h : Rnd f d k) (h' : Rnd f d k') : k = k' := by
  rcases Nat.lt_trichotomy k k' with q | q | q
  · have := h'.apart 0 k h.pos q
    exact absurd h.back.symm this
  · exact q
  · have := h.apart 0 k' h'.pos q
    exact absurd h'.back.symm this

theorem add_zero (a : Addr) : a.add 0 = a := by unfold Addr.add; simp

/-- a number appended -/
theorem wpList_grow {w : World} {ops : Array Oper} {rest : List Oper} {o : Oper} {a : Act} {Q : Exit → Act → World → Prop} (hgd : o.guard = none) (s x : Operand)
    (ho : o.op = .call { callee := .builtin .append, args := #[s, x], argTypes := #[22, 22] })
    (v : Value) (n : Nat) (g : Nat → Int) (hs : a.eval s = v) (h : Ow w v n g) (ad : Addr) (c : Nat) (k : Int) (hx : a.eval x = .slice (some ad) 1 c) (h0 : w.cell? ad = some (.int .i64 k)) (hn : n ≤ 100000)
    (hQ : ∀ b' c' w', Ow w' (.slice (some ⟨b', 0, none⟩) (n + 1) c') (n + 1) (upd g n k) → w.grownBy w' v.ownBlock → (some b' = v.ownBlock ∨ b' = w.heap.size) → wpList Try.prog ops Q rest (a.put o.dst (.slice (some ⟨b', 0, none⟩) (n + 1) c')) w') :
    wpList Try.prog ops Q (o :: rest) a w := by
  obtain ⟨i0, hi, hz0, hz1, hz2⟩ := info_parts (P := Try.prog) (e := 3) (z := .int .i64 0) (size := 1) (bytes := 8) (by kernel_rfl)
  obtain ⟨xs, hown, hxs⟩ := h
  have hl : xs.length = n * 1 := hown.1
  refine wpList_append_own_at w hgd s x 22 ho 0 3 i0 _ 1 8 Try.underlying22 hi hz0 hz1 hz2 rfl (by omega) v n xs hs hown ad 1 c [.int .i64 k] hx rfl ?_ (by simp [Value.oneCell']) (by unfold maxLen; omega) (by omega) (Nat.zero_le _) (fun v' w' h2 h3 _ h5 => ?_)
  rotate_left
  · have hrow : Ow w' v' (n + 1) (upd g n k) := ⟨_, h2, fun j hj => ?_⟩
    · obtain ⟨b', c', rfl, _⟩ := hrow.form (by omega)
      refine hQ b' c' w' hrow h3 ?_
      simpa [Value.ownBlock, eq_comm] using h5
    by_cases e : j = n
    · subst e
      rw [upd_same, List.getElem?_append_right (by omega), show j - xs.length = 0 from by omega]
      rfl
    · rw [upd_ne e, List.getElem?_append_left (by omega)]
      exact hxs j (by omega)
  · intro j u hu
    match j, hu with
    | 0, hu => simp at hu; subst hu; rw [add_zero]; exact h0
    | j + 1, hu => simp at hu

/-- the row of what has been gone along -/
structure Gone (f : Nat → Nat) (m d k a : Nat) (o : Nat → Int) : Prop where
  here : a = it f k d
  row : ∀ j, j < k → o j = (it f j d : Int)
  apart : ∀ i j, i < j → j < k → it f i d ≠ it f j d
  fresh : 0 < k → ∀ j, 0 < j → j < k → it f j d ≠ d
theorem Gone.step {f : Nat → Nat} {m d k a : Nat} {o : Nat → Int} (h : Gone f m d k a o) (p : Perm f m) (hd : d < m) (hn : 0 < k → a ≠ d) : Gone f m d (k + 1) (f a) (upd o k (a : Int)) := by
  refine ⟨by rw [h.here]; rfl, fun j hj => ?_, fun i j hij hj => ?_, fun _ j h0 hj => ?_⟩
  · by_cases e : j = k
    · subst e; rw [upd_same, h.here]
    · rw [upd_ne e]; exact h.row j (by omega)
  · rcases Nat.lt_or_ge j k with q | q
    · exact h.apart i j hij q
    · obtain rfl : j = k := by omega
      intro e
      rcases Nat.eq_zero_or_pos i with rfl | hi
      · exact hn (by omega) (by rw [h.here, ← e]; rfl)
      · obtain ⟨i', rfl⟩ : ∃ i', i = i' + 1 := ⟨i - 1, by omega⟩
        obtain ⟨j', rfl⟩ : ∃ j', j = j' + 1 := ⟨j - 1, by omega⟩
        exact h.apart i' j' (by omega) (by omega) (p.inj _ _ (p.it_lt hd _) (p.it_lt hd _) e)
  · rcases Nat.lt_or_ge j k with q | q
    · exact h.fresh (by omega) j h0 q
    · obtain rfl : j = k := by omega
      rw [← h.here]; exact hn (by omega)
theorem apart_le {m : Nat} : ∀ (k : Nat) (s : Nat → Nat), (∀ j, j < k → s j < m) → (∀ i j, i < j → j < k → s i ≠ s j) → k ≤ m := by
  induction m with
  | zero => intro k s h _; rcases Nat.eq_zero_or_pos k with q | q
            · omega
            · have := h 0 q; omega
  | succ m ih =>
    intro k s h ha
    -- take out the place that holds m
    by_cases hm : ∃ i, i < k ∧ s i = m
    · obtain ⟨i, hi, e⟩ := hm
      have := ih (k - 1) (fun j => if j < i then s j else s (j + 1)) (fun j hj => by
        by_cases q : j < i
        · simp only [if_pos q]
          have h1 := h j (by omega); have h2 := ha j i q hi; omega
        · simp only [if_neg q]
          have h1 := h (j + 1) (by omega); have h2 := ha i (j + 1) (by omega) (by omega); omega) (fun a b hab hb => by
        by_cases q : b < i
        · simp only [if_pos q, if_pos (show a < i by omega)]
          exact ha a b hab (by omega)
        · by_cases q2 : a < i
          · simp only [if_neg q, if_pos q2]
            exact ha a (b + 1) (by omega) (by omega)
          · simp only [if_neg q, if_neg q2]
            exact ha (a + 1) (b + 1) (by omega) (by omega))
      omega
    · have := ih k s (fun j hj => by
        have h1 := h j hj
        have h2 : s j ≠ m := fun e => hm ⟨j, hj, e⟩
        omega) ha
      omega
theorem Gone.le {f : Nat → Nat} {m d k a : Nat} {o : Nat → Int} (h : Gone f m d k a o) (p : Perm f m) (hd : d < m) : k ≤ m := apart_le k (fun j => it f j d) (fun j _ => p.it_lt hd j) h.apart
theorem Gone.full {f : Nat → Nat} {m d k a : Nat} {o : Nat → Int} (h : Gone f m d k a o) (p : Perm f m) (hd : d < m) (hk : k = m) : a = d := by
  -- one more would be too many
  apply Decidable.byContradiction
  intro hn
  have := (h.step p hd (fun _ => hn)).le p hd
  omega
end Go.Proofs.Ytbnghpemlcmogaa.Ro
