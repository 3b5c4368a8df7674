/- Plain laws: the rounds of any step, numbered as far as it comes round. -/
import Derived.Test.YtcejjcopchkmeaaRoTr
import Derived.Test.YtcejjcopchkmeaaRoRc
namespace Go.Proofs.Ytcejjcopchkmeaa.Ro
open Go.RowKit Go.Proofs Go.Maps
set_option linter.unusedVariables false
set_option maxRecDepth 100000
set_option linter.unusedSimpArgs false

/-- what has been numbered so far (all below i), of any step -/
structure PartA (f : Nat → Nat) (m i : Nat) (o : Nat → Int) (c : Nat) : Prop where
  some : ∀ x, x < m → o x = -1 ∨ (0 ≤ o x ∧ o x < c)
  done : ∀ x, x < i → x < m → 0 ≤ o x
  fwd : ∀ x, x < m → 0 ≤ o x → o (f x) = o x
  one : ∀ x y, x < m → y < m → 0 ≤ o x → o x = o y → ∃ k, it f k x = y
  each : ∀ e : Nat, e < c → ∃ y, y < i ∧ y < m ∧ o y = e
  first : ∀ x, x < m → ∀ e : Nat, (e : Int) < o x → ∃ y, y < x ∧ o y = e
  ring : ∀ x, x < m → 0 ≤ o x → ∃ k, 0 < k ∧ it f k x = x

theorem PartA.start (f : Nat → Nat) (m : Nat) : PartA f m 0 (fun _ => -1) 0 :=
  ⟨fun _ _ => .inl rfl, fun x h => by omega, fun x _ h => by simp at h, fun x y _ _ h => by simp at h, fun e h => by omega, fun x _ e h => by omega, fun x _ h => by simp at h⟩
theorem PartA.skip {f : Nat → Nat} {m i c : Nat} {o : Nat → Int} (h : PartA f m i o c) (hi : 0 ≤ o i) : PartA f m (i + 1) o c :=
  ⟨h.some, fun x hx hm => by
    rcases Nat.lt_or_ge x i with q | q
    · exact h.done x q hm
    · rw [show x = i by omega]; exact hi, h.fwd, h.one, fun e he => by obtain ⟨y, h1, h2⟩ := h.each e he; exact ⟨y, by omega, h2⟩, h.first, h.ring⟩
theorem it_ltA {f : Nat → Nat} {m : Nat} (lt : ∀ x, x < m → f x < m) {d : Nat} (hd : d < m) : ∀ k, it f k d < m
  | 0 => hd
  | k + 1 => lt _ (it_ltA lt hd k)
theorem PartA.part {f : Nat → Nat} {m i c : Nat} {o : Nat → Int} (h : PartA f m i o c) (p : Perm f m) : Part f m i o c :=
  ⟨h.some, h.done, h.fwd, fun x hx hp => by
    obtain ⟨k, hk, e⟩ := h.ring (f x) (p.lt x hx) hp
    obtain ⟨k, rfl⟩ : ∃ j, k = j + 1 := ⟨k - 1, by omega⟩
    have e1 : it f k (f x) = x := p.inj _ _ (p.it_lt (p.lt x hx) k) hx e
    have e2 : ∀ j, o (it f j (f x)) = o (f x) := fun j => by
      induction j with
      | zero => rfl
      | succ j ih => exact (h.fwd _ (p.it_lt (p.lt x hx) j) (by omega)).trans ih
    have := e2 k
    rw [e1] at this
    omega, h.one, h.each, h.first⟩
theorem PartA.perm {f : Nat → Nat} {m c : Nat} {o : Nat → Int} (h : PartA f m m o c) (lt : ∀ x, x < m → f x < m) : Perm f m :=
  Perm.of_rnds lt fun d hd => by
    obtain ⟨k, h0, hk⟩ := h.ring d hd (h.done d hd hd)
    obtain ⟨j, ⟨h2, h3⟩, h4⟩ := least_of (P := fun l => 0 < l ∧ it f l d = d) k ⟨h0, hk⟩
    exact ⟨j, Rnd.first h2 h3 fun i hi hij e => h4 i hij ⟨hi, e⟩⟩

section
variable {f : Nat → Nat} {m d c k at_ : Nat} {o o' : Nat → Int}
theorem Chain.ltA (h : Chain f m o d c k at_ o') (lt : ∀ x, x < m → f x < m) (hd : d < m) : at_ < m := by rw [h.here]; exact it_ltA lt hd k
theorem Chain.stepA (h : Chain f m o d c k at_ o') (lt : ∀ x, x < m → f x < m) (hd : d < m) (P : PartA f m d o c) (hn : o' at_ < 0) : Chain f m o d c (k + 1) (f at_) (upd o' at_ (c : Int)) := by
  have hlt := h.ltA lt hd
  have hk : o at_ = -1 ∧ ∀ j, j < k → at_ ≠ it f j d := by
    rcases h.now at_ hlt with ⟨e, _⟩ | ⟨e, q⟩
    · omega
    · refine ⟨?_, q⟩
      rcases P.some at_ hlt with e2 | e2
      · exact e2
      · omega
  refine ⟨by rw [h.here]; rfl, fun j hj => ?_, fun x hx => ?_, fun i j hij hj => ?_⟩
  · rcases Nat.lt_or_ge j k with q | q
    · exact h.was j q
    · rw [show j = k by omega, ← h.here]; exact hk.1
  · by_cases e : x = at_
    · subst e; rw [upd_same]; exact .inl ⟨rfl, k, by omega, h.here⟩
    · rw [upd_ne e]
      rcases h.now x hx with ⟨e2, j, hj, ej⟩ | ⟨e2, q⟩
      · exact .inl ⟨e2, j, by omega, ej⟩
      · refine .inr ⟨e2, fun j hj => ?_⟩
        rcases Nat.lt_or_ge j k with q2 | q2
        · exact q j q2
        · rw [show j = k by omega, ← h.here]; exact e
  · rcases Nat.lt_or_ge j k with q | q
    · exact h.apart i j hij q
    · rw [show j = k by omega, ← h.here]; exact (hk.2 i (by omega)).symm
theorem Chain.off (h : Chain f m o d c k at_ o') (hd : d < m) (P : PartA f m d o c) (h0 : o d = -1) (hn : 0 ≤ o' at_) (hne : at_ ≠ d) : ¬ Perm f m := fun p =>
  hne (h.back p hd (P.part p) h0 hn).1
theorem Chain.doneA (h : Chain f m o d c k at_ o') (lt : ∀ x, x < m → f x < m) (hd : d < m) (P : PartA f m d o c) (h0 : o d = -1) (hn : 0 ≤ o' at_) (hat : at_ = d) : PartA f m (d + 1) o' (c + 1) := by
  have hk : 0 < k := by
    rcases Nat.eq_zero_or_pos k with rfl | q
    · exfalso
      rw [hat] at hn
      rcases h.now d hd with ⟨_, j, hj, _⟩ | ⟨e, _⟩ <;> omega
    · exact q
  have il := fun j => it_ltA lt hd (d := d) j
  have hk0 : it f k d = d := by rw [← h.here]; exact hat
  have inC : ∀ j, j < k → o' (it f j d) = c := fun j hj => by
    rcases h.now _ (il j) with ⟨e, _⟩ | ⟨_, q⟩
    · exact e
    · exact absurd rfl (q j hj)
  have old : ∀ x, x < m → 0 ≤ o x → o' x = o x := fun x hx hp => by
    rcases h.now x hx with ⟨_, j, hj, ej⟩ | ⟨e, _⟩
    · have := h.was j hj; rw [← ej] at this; omega
    · exact e
  have nxt : ∀ j, j < k → ∃ i, i < k ∧ f (it f j d) = it f i d := fun j hj => by
    rcases Nat.lt_or_ge (j + 1) k with q | q
    · exact ⟨j + 1, q, rfl⟩
    · refine ⟨0, hk, ?_⟩
      show it f (j + 1) d = d
      rw [show j + 1 = k by omega]; exact hk0
  have inCh : ∀ x, x < m → o' x = c → ∃ j, j < k ∧ x = it f j d := fun x hx e => by
    rcases h.now x hx with ⟨_, q⟩ | ⟨e2, _⟩
    · exact q
    · rcases P.some x hx with q | q <;> omega
  have notC : ∀ x, x < m → 0 ≤ o' x → o' x ≠ c → 0 ≤ o x ∧ o' x = o x := fun x hx hp hc => by
    rcases h.now x hx with ⟨e, _⟩ | ⟨e, _⟩
    · exact absurd e hc
    · exact ⟨by omega, e⟩
  refine ⟨fun x hx => ?_, fun x hx hm => ?_, fun x hx hp => ?_, fun x y hx hy hp e => ?_, fun e he => ?_, fun x hx e he => ?_, fun x hx hp => ?_⟩
  · rcases h.now x hx with ⟨e, _⟩ | ⟨e, _⟩
    · right; omega
    · rcases P.some x hx with q | q
      · left; omega
      · right; omega
  · rcases Nat.lt_or_ge x d with q | q
    · have := P.done x q hm; rw [old x hm this]; exact this
    · rw [show x = d by omega]; have := inC 0 hk; rw [show it f 0 d = d from rfl] at this; omega
  · by_cases hc : o' x = c
    · obtain ⟨j, hj, rfl⟩ := inCh x hx hc
      obtain ⟨i, hi, e⟩ := nxt j hj
      rw [e, inC i hi, hc]
    · obtain ⟨h1, h2⟩ := notC x hx hp hc
      have h3 := P.fwd x hx h1
      rw [old (f x) (lt x hx) (by omega), h2, h3]
  · by_cases hc : o' x = c
    · obtain ⟨i, hi, rfl⟩ := inCh x hx hc
      obtain ⟨j, hj, rfl⟩ := inCh y hy (by omega)
      refine ⟨j + (k - i), ?_⟩
      rw [it_add, ← it_add f d (k - i) i, show k - i + i = k by omega, hk0]
    · obtain ⟨h1, h2⟩ := notC x hx hp hc
      obtain ⟨h3, h4⟩ := notC y hy (by omega) (by omega)
      exact P.one x y hx hy h1 (by omega)
  · rcases Nat.lt_or_ge e c with q | q
    · obtain ⟨y, h1, h2, h3⟩ := P.each e q
      exact ⟨y, by omega, h2, by rw [old y h2 (by omega)]; exact h3⟩
    · refine ⟨d, by omega, hd, ?_⟩
      have := inC 0 hk; rw [show it f 0 d = d from rfl] at this; omega
  · by_cases hc : o' x = c
    · obtain ⟨j, hj, ej⟩ := inCh x hx hc
      have hxd : d ≤ x := by
        rcases Nat.lt_or_ge x d with q | q
        · have := P.done x q hx
          have := h.was j hj
          rw [← ej] at this; omega
        · exact q
      obtain ⟨y, h1, h2, h3⟩ := P.each e (by omega)
      exact ⟨y, by omega, by rw [old y h2 (by omega)]; exact h3⟩
    · obtain ⟨h1, h2⟩ := notC x hx (by omega) hc
      obtain ⟨y, h3, h4⟩ := P.first x hx e (by omega)
      exact ⟨y, h3, by rw [old y (by omega) (by omega)]; exact h4⟩
  · by_cases hc : o' x = c
    · obtain ⟨j, hj, rfl⟩ := inCh x hx hc
      exact ⟨k, hk, by rw [← it_add, Nat.add_comm, it_add, hk0]⟩
    · exact P.ring x hx (notC x hx hp hc).1
end

/-- what orbits tells of a step -/
def OrbPost (B : Nat) (w : World) (f : Nat → Nat) (m : Nat) (e : Ending) (w' : World) : Prop :=
  ((∃ v o c, e = .returned (.tuple #[v, .int .i64 ((c : Nat) : Int), .bool true]) ∧ Ow w' v m o ∧ (∀ k, v.ownBlock = some k → B ≤ k) ∧ Perm f m ∧ Orb f m o c) ∨ (e = .returned (.tuple #[.slice none 0 0, .int .i64 0, .bool false]) ∧ ¬ Perm f m)) ∧ Below B w w'

/-- the error of a net's rows -/
def shapeF (N : Int) (m mx mc : Nat) (t x : Nat → Int) : Int :=
  if N > 60 ∨ 240 < m then 2 else if mx ≠ m ∨ mc ≠ m ∨ m % 2 ≠ 0 then 5 else if ¬ ∀ d, d < m → 0 ≤ x d ∧ x d < m then 5 else if N < 1 then 3 else if ¬ ∀ d, d < m → 0 ≤ t d ∧ t d < N then 3 else 0
section
variable {N : Int} {m mx mc : Nat} {t x : Nat → Int}
theorem shapeF_many (h : N > 60 ∨ 240 < m) : shapeF N m mx mc t x = 2 := by unfold shapeF; rw [if_pos h]
theorem shapeF_len (h : ¬ (N > 60 ∨ 240 < m)) (h1 : mx ≠ m ∨ mc ≠ m ∨ m % 2 ≠ 0) : shapeF N m mx mc t x = 5 := by unfold shapeF; rw [if_neg h, if_pos h1]
theorem shapeF_next (h : ¬ (N > 60 ∨ 240 < m)) (h1 : ¬ (mx ≠ m ∨ mc ≠ m ∨ m % 2 ≠ 0)) {d : Nat} (hd : d < m) (h2 : ¬ (0 ≤ x d ∧ x d < m)) : shapeF N m mx mc t x = 5 := by
  unfold shapeF; rw [if_neg h, if_neg h1, if_pos (fun q => h2 (q d hd))]
theorem shapeF_none (h : ¬ (N > 60 ∨ 240 < m)) (h1 : ¬ (mx ≠ m ∨ mc ≠ m ∨ m % 2 ≠ 0)) (h2 : ∀ d, d < m → 0 ≤ x d ∧ x d < m) (h3 : N < 1) : shapeF N m mx mc t x = 3 := by
  unfold shapeF; rw [if_neg h, if_neg h1, if_neg (fun q => q h2), if_pos h3]
theorem shapeF_tail (h : ¬ (N > 60 ∨ 240 < m)) (h1 : ¬ (mx ≠ m ∨ mc ≠ m ∨ m % 2 ≠ 0)) (h2 : ∀ d, d < m → 0 ≤ x d ∧ x d < m) (h3 : ¬ N < 1) {d : Nat} (hd : d < m) (h4 : ¬ (0 ≤ t d ∧ t d < N)) : shapeF N m mx mc t x = 3 := by
  unfold shapeF; rw [if_neg h, if_neg h1, if_neg (fun q => q h2), if_neg h3, if_pos (fun q => h4 (q d hd))]
theorem shapeF_ok (h : ¬ (N > 60 ∨ 240 < m)) (h1 : ¬ (mx ≠ m ∨ mc ≠ m ∨ m % 2 ≠ 0)) (h2 : ∀ d, d < m → 0 ≤ x d ∧ x d < m) (h3 : ¬ N < 1) (h4 : ∀ d, d < m → 0 ≤ t d ∧ t d < N) : shapeF N m mx mc t x = 0 := by
  unfold shapeF; rw [if_neg h, if_neg h1, if_neg (fun q => q h2), if_neg h3, if_neg (fun q => q h4)]
theorem shapeF_good (h : shapeF N m mx mc t x = 0) : ∃ n : Nat, N = n ∧ mx = m ∧ mc = m ∧ Good n m t x := by
  unfold shapeF at h
  split at h
  · omega
  · split at h
    · omega
    · split at h
      · omega
      · split at h
        · omega
        · split at h
          · omega
          · rename_i h1 h2 h3 h4 h5
            have h3 := Classical.not_not.1 h3
            have h5 := Classical.not_not.1 h5
            exact ⟨N.toNat, by omega, by omega, by omega, by omega, by omega, by omega, by omega, h3, fun d hd => by have := h5 d hd; omega⟩
theorem Good.shapeF {n : Nat} (g : Good n m t x) : shapeF n m m m t x = 0 := by
  have h1 := g.one
  have h2 := g.most
  have h3 := g.few
  have h4 := g.even
  exact shapeF_ok (by omega) (by omega) g.next (by omega) g.tail
/-- what Check tells of any net -/
def TellsAny (N : Int) (m mx mc : Nat) (t x c : Nat → Int) (r : Int) : Prop :=
  (shapeF N m mx mc t x ≠ 0 ∧ r = shapeF N m mx mc t x) ∨ (shapeF N m mx mc t x = 0 ∧ ((¬ Turns m t x ∧ r = 6) ∨ (Turns m t x ∧ ¬ (∀ d, d < m → 0 ≤ c d ∧ c d ≤ 2147483648) ∧ r = 4) ∨ (Turns m t x ∧ (∀ d, d < m → 0 ≤ c d ∧ c d ≤ 2147483648) ∧ Tells N.toNat m t x r)))
theorem TellsAny.one {c : Nat → Int} {r r' : Int} (h : TellsAny N m mx mc t x c r) (h' : TellsAny N m mx mc t x c r') : r = r' := by
  rcases h with ⟨a1, a2⟩ | ⟨a1, h⟩ <;> rcases h' with ⟨b1, b2⟩ | ⟨b1, h'⟩
  · rw [a2, b2]
  · exact absurd b1 a1
  · exact absurd a1 b1
  · obtain ⟨_, _, _, _, g⟩ := shapeF_good a1
    rcases h with ⟨h1, h2⟩ | ⟨h1, h2, h3⟩ | ⟨h1, h2, h3⟩ <;> rcases h' with ⟨k1, k2⟩ | ⟨k1, k2, k3⟩ | ⟨k1, k2, k3⟩
    · rw [h2, k2]
    · exact absurd k1 h1
    · exact absurd k1 h1
    · exact absurd h1 k1
    · rw [h3, k3]
    · exact absurd k2 h2
    · exact absurd h1 k1
    · exact absurd h2 k2
    · exact h3.one g.even k3
end
end Go.Proofs.Ytcejjcopchkmeaa.Ro
