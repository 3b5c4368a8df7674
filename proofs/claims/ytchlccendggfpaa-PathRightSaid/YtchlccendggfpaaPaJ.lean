/- Plain laws: the row of arcs that is gone along. -/
import Derived.Test.YtchlccendggfpaaPaH
import Derived.Test.YtchlccendggfpaaPaE
namespace Go.Proofs.Ytchlccendggfpaa.Ro
set_option linter.unusedVariables false
set_option linter.unusedSimpArgs false

/-- m arcs from s to t, each the first of the best -/
structure Trail (S : ArcsF) (k : Nat) (D F : Nat → Int) (s t m : Nat) (p r : Nat → Nat) : Prop where
  here : p 0 = s
  pick : ∀ i, i < m → Pick S k D F (p i) (r i)
  on : ∀ i, i < m → p i ≠ t
  next : ∀ i, i < m → p (i + 1) = S.th (r i)
section
variable {S : ArcsF} {k n s t m m' T : Nat} {L : Int} {D F D' F' : Nat → Int} {p r p' r' : Nat → Nat}
theorem Trail.start (S : ArcsF) (k : Nat) (D F : Nat → Int) (s t : Nat) (r : Nat → Nat) : Trail S k D F s t 0 (fun _ => s) r := ⟨rfl, fun i h => by omega, fun i h => by omega, fun i h => by omega⟩
theorem Trail.step (h : Trail S k D F s t m p r) {i : Nat} (hp : Pick S k D F (p m) i) (ht : p m ≠ t) : Trail S k D F s t (m + 1) (upd p (m + 1) (S.th i)) (upd r m i) := by
  refine ⟨by rw [upd_ne (by omega)]; exact h.here, fun j hj => ?_, fun j hj => ?_, fun j hj => ?_⟩
  · by_cases e : j = m
    · subst e; rw [upd_same, upd_ne (by omega)]; exact hp
    · rw [upd_ne e, upd_ne (by omega)]; exact h.pick j (by omega)
  · rw [upd_ne (by omega)]
    by_cases e : j = m
    · subst e; exact ht
    · exact h.on j (by omega)
  · by_cases e : j = m
    · subst e; rw [upd_same, upd_same]
    · rw [upd_ne e, upd_ne (by omega)]; exact h.next j (by omega)
theorem Trail.lt (h : Trail S k D F s t m p r) (A : ArcsIn S k n L) (hs : s < n) : ∀ i, i ≤ m → p i < n
  | 0, _ => by rw [h.here]; exact hs
  | i + 1, hi => by rw [h.next i hi]; exact A.th _ (h.pick i hi).lt
theorem Trail.same (h : Trail S k D F s t m p r) (h' : Trail S k D' F' s t m' p' r') (A : ArcsIn S k n L) (hs : s < n) (b : Best S k t n D F) (b' : Best S k t n D' F') : ∀ i, i ≤ m → i ≤ m' → p i = p' i ∧ ∀ j, j < i → r j = r' j
  | 0, _, _ => ⟨by rw [h.here, h'.here], fun j hj => by omega⟩
  | i + 1, hi, hi' => by
    obtain ⟨k1, k2⟩ := Trail.same h h' A hs b b' i (by omega) (by omega)
    have e : r i = r' i := (h.pick i hi).one (by rw [k1]; exact h'.pick i hi') A (h.lt A hs i (by omega)) b b'
    refine ⟨by rw [h.next i hi, h'.next i hi', e], fun j hj => ?_⟩
    by_cases q : j = i
    · rw [q]; exact e
    · exact k2 j (by omega)
/-- two rows to the end are the same -/
theorem Trail.one (h : Trail S k D F s t m p r) (h' : Trail S k D' F' s t m' p' r') (he : p m = t) (he' : p' m' = t) (A : ArcsIn S k n L) (hs : s < n) (b : Best S k t n D F) (b' : Best S k t n D' F') : m = m' ∧ ∀ j, j < m → r j = r' j := by
  rcases Nat.lt_trichotomy m m' with q | q | q
  · have := (h.same h' A hs b b' m (Nat.le_refl _) (by omega)).1
    exact absurd (by rw [← this]; exact he) (h'.on m q)
  · exact ⟨q, (h.same h' A hs b b' m (Nat.le_refl _) (by omega)).2⟩
  · have := (h.same h' A hs b b' m' (by omega) (Nat.le_refl _)).1
    exact absurd (by rw [this]; exact he') (h.on m' q)
theorem Trail.sum (h : Trail S k D F s t m p r) : ∀ i, i ≤ m → sumN (fun j => S.ln (r j)) i + D (p i) = D s ∧ F (p i) + i = F s
  | 0, _ => by rw [h.here]; simp [sumN]
  | i + 1, hi => by
    have h1 := h.sum i (by omega)
    have h2 := h.pick i hi
    have h3 := h2.len
    have h4 := h2.few
    rw [h.next i hi]
    show sumN _ i + S.ln (r i) + D (S.th (r i)) = D s ∧ F (S.th (r i)) + ((i + 1 : Nat) : Int) = F s
    omega
theorem Trail.way (h : Trail S k D F s t m p r) : ∀ i, i ≤ m → Way S k s (p i) (sumN (fun j => S.ln (r j)) i) i
  | 0, _ => by rw [h.here]; exact .nil
  | i + 1, hi => by
    have w := h.way i (by omega)
    rw [← (h.pick i hi).fr] at w
    rw [h.next i hi]
    exact .snoc w (h.pick i hi).lt
theorem Best.here (b : Best S k t n D F) (ht : t < n) (h0 : ∀ i, i < k → 0 ≤ S.ln i) : D t = 0 ∧ F t = 0 := by
  have hd : D t ≠ far := fun e => b.none_ t ht e 0 0 .nil
  obtain ⟨m, hm, w⟩ := b.way t ht hd
  have := w.nonneg (S := S.rev) h0
  have := b.least t 0 0 ht .nil
  omega
theorem Best.pos (b : Best S k t n D F) (ht : t < n) (h0 : ∀ i, i < k → 0 ≤ S.ln i) {v : Nat} (hv : v < n) (hd : D v ≠ far) : 0 ≤ D v ∧ 0 ≤ F v ∧ (v ≠ t → 1 ≤ F v) := by
  obtain ⟨m, hm, w⟩ := b.way v hv hd
  have h1 := w.nonneg (S := S.rev) h0
  refine ⟨h1, by omega, fun e => ?_⟩
  rcases Nat.eq_zero_or_pos m with z | z
  · subst z
    generalize hc : D v = c at w
    cases w with
    | nil => exact absurd rfl e
  · omega
/-- ways, the other way about -/
theorem Way.front {c : Int} {u i : Nat} (h : Way S k u t c m) : ∀ s l, s = S.fr i → i < k → S.th i = u → l = S.ln i → Way S k s t (l + c) (m + 1) := by
  intro s l hs hi hu hl
  induction h with
  | nil =>
    subst hs hl
    have : Way S k (S.fr i) (S.th i) (0 + S.ln i) (0 + 1) := .snoc .nil hi
    rw [hu] at this
    rw [Int.add_zero]
    rw [Int.zero_add] at this
    exact this
  | @snoc c m j w hj ih =>
    rw [← Int.add_assoc]
    exact .snoc ih hj
theorem Way.back {c : Int} {u v : Nat} (h : Way S k u v c m) : Way S.rev k v u c m := by
  induction h with
  | nil => exact .nil
  | @snoc c m i w hi ih =>
    have := Way.front (S := S.rev) (i := i) ih (S.th i) (S.ln i) rfl hi rfl rfl
    rw [Int.add_comm]
    exact this
theorem rev_rev (S : ArcsF) : S.rev.rev = S := rfl
/-- the shortest ways from s are those to t, seen from behind -/
theorem Best.from (b : Best S k t n D F) {d : Nat → Int} {U : Nat} (fd : Fix S k d) (hd : Sound S k s n U d) (A : ArcsIn S k n L) (hL : 0 ≤ L) (hb : (U : Int) * L + L < far) (hs : s < n) (ht : t < n) : D s = d t := by
  rcases hd.each t ht with q | ⟨m, _, w⟩
  · rw [q]
    by_cases e : D s = far
    · exact e
    · obtain ⟨m, _, w⟩ := b.way s hs e
      have w2 : Way S k s t (D s) m := w.back
      exact absurd q (fd.le hd A hL hb hs w2).1
  · have w2 : Way S.rev k t s (d t) m := w.back
    have hf : D s ≠ far := fun e => b.none_ s hs e _ _ w2
    obtain ⟨m', _, w'⟩ := b.way s hs hf
    have l1 := b.least s _ _ hs w2
    have l2 := (fd.le hd A hL hb hs w'.back).2
    omega
end
end Go.Proofs.Ytchlccendggfpaa.Ro
