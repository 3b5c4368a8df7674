/- Two rows of 300 beside a heap; what was taken last. -/
import Derived.Test.YtnbemaijhmgooaaHpC
namespace Go.Proofs.Ytnbemaijhmgooaa.Hp
open Go.RowKit Go.Maps Go.Proofs
set_option linter.unusedVariables false
set_option linter.unusedSimpArgs false

/-- a block of 300 cells -/
def Arr (w : World) (y : Nat) (T : TypeId) (c : Nat → Value) : Prop := ∃ cs, w.heap[y]? = some (.cells cs T (0, 0)) ∧ ∀ i, i < 300 → cs[i]? = some (c i)

section
variable {w w' : World} {y : Nat} {T : TypeId} {c : Nat → Value}
theorem Arr.lt (h : Arr w y T c) : y < w.heap.size := by obtain ⟨cs, h1, _⟩ := h; exact blk_lt h1
theorem Arr.cell (h : Arr w y T c) {i : Nat} (hi : i < 300) : w.cell? ⟨y, i, none⟩ = some (c i) := by obtain ⟨cs, h1, h2⟩ := h; rw [blk_cell h1]; exact h2 i hi
theorem Arr.frozen (h : Arr w y T c) (i : Nat) : w.frozen? ⟨y, i, none⟩ = false := by obtain ⟨cs, h1, h2⟩ := h; exact blk_frozen h1 i
theorem Arr.keep (h : Arr w y T c) (hb : w'.heap[y]? = w.heap[y]?) : Arr w' y T c := by obtain ⟨cs, h1, h2⟩ := h; exact ⟨cs, hb.trans h1, h2⟩
theorem Arr.set (h : Arr w y T c) (i : Nat) (hi : i < 300) (u : Value) : Arr (w.setCell ⟨y, i, none⟩ u) y T (upd c i u) := by
  obtain ⟨cs, h1, h2⟩ := h
  refine ⟨_, blk_set h1 i u, fun j hj => ?_⟩
  have hs : i < cs.size := by
    rcases Nat.lt_or_ge i cs.size with q | q
    · exact q
    · have := h2 i hi; rw [Array.getElem?_eq_none q] at this; cases this
  by_cases e : j = i
  · subst e; rw [upd_same]; simp [hs]
  · rw [upd_ne e]; simp [Array.getElem?_setIfInBounds, Ne.symm e, h2 j hj]
theorem Arr.far (h : Arr w y T c) {p : Addr} (hp : y ≠ p.block) (u : Value) : Arr (w.setCell p u) y T c := h.keep (Below.heap_setCell w p u y hp)
theorem Arr.new (w : World) (cs : Array Value) (hc : ∀ i, i < 300 → cs[i]? = some (c i)) : Arr (w.alloc (.cells cs T)) w.heap.size T c := ⟨cs, heap_alloc_new _ _, hc⟩
theorem Arr.below (h : Arr w y T c) {B : Nat} (hb : Below B w w') (hy : y < B) : Arr w' y T c := h.keep (hb.block y hy)
end

def ints : Array Value := Array.replicate 300 (.int .i64 0)
def bools : Array Value := Array.replicate 300 (.bool false)
theorem zero_ints (w : World) : Sem.run Try.prog (zeroValue 26) w = Result.ok (.agg ints) w := by kernel_rfl
theorem zero_bools (w : World) : Sem.run Try.prog (zeroValue 27) w = Result.ok (.agg bools) w := by kernel_rfl


/-- the two rows of 300 beside a heap: what rank each key has, whether it is there -/
structure Ars (w : World) (y4 y5 : Nat) (wr : World) (F : Nat → Prop) (h : Int → Option Int) : Prop where
  ranks : ∃ r : Nat → Int, Arr wr y4 26 (fun i => .int .i64 (r i)) ∧ ∀ i v, i < 300 → h ((i : Nat) : Int) = some v → r i = v
  has : Arr wr y5 27 (fun i => .bool (h ((i : Nat) : Int)).isSome)
  notF4 : ¬ F y4
  notF5 : ¬ F y5
  ne : y4 ≠ y5
  le4 : w.heap.size ≤ y4
  le5 : w.heap.size ≤ y5

section
variable {w wr w' : World} {y4 y5 : Nat} {F F' : Nat → Prop} {h : Int → Option Int}
theorem Ars.lt4 (a : Ars w y4 y5 wr F h) : y4 < wr.heap.size := by obtain ⟨r, h1, _⟩ := a.ranks; exact h1.lt
theorem Ars.lt5 (a : Ars w y4 y5 wr F h) : y5 < wr.heap.size := a.has.lt
theorem Ars.keep (a : Ars w y4 y5 wr F h) (h4 : w'.heap[y4]? = wr.heap[y4]?) (h5 : w'.heap[y5]? = wr.heap[y5]?) : Ars w y4 y5 w' F h := by
  obtain ⟨r, h1, h2⟩ := a.ranks
  exact ⟨⟨r, h1.keep h4, h2⟩, a.has.keep h5, a.notF4, a.notF5, a.ne, a.le4, a.le5⟩
theorem Ars.later (a : Ars w y4 y5 wr F h) (hb : Below wr.heap.size wr w') : Ars w y4 y5 w' F h := a.keep (hb.block _ a.lt4) (hb.block _ a.lt5)
theorem Ars.turned (a : Ars w y4 y5 wr F h) (hF : ∀ k, F' k → F k ∨ wr.heap.size ≤ k) (ht : Turn F wr w') : Ars w y4 y5 w' F' h := by
  have b := a.keep (ht.block _ a.lt4 a.notF4) (ht.block _ a.lt5 a.notF5)
  exact ⟨b.ranks, b.has, fun q => (hF _ q).elim a.notF4 (fun e => by have := a.lt4; omega), fun q => (hF _ q).elim a.notF5 (fun e => by have := a.lt5; omega), b.ne, b.le4, b.le5⟩
theorem Ars.put (a : Ars w y4 y5 wr F h) {j : Nat} (hj : j < 300) (v : Int) : Ars w y4 y5 ((wr.setCell ⟨y4, j, none⟩ (.int .i64 v)).setCell ⟨y5, j, none⟩ (.bool true)) F (upd h (j : Int) (some v)) := by
  obtain ⟨r, h1, h2⟩ := a.ranks
  refine ⟨⟨upd r j v, ?_, fun i u hi hu => ?_⟩, ?_, a.notF4, a.notF5, a.ne, a.le4, a.le5⟩
  · have b := (h1.set j hj (.int .i64 v)).far (p := ⟨y5, j, none⟩) a.ne (.bool true)
    obtain ⟨cs, b1, b2⟩ := b
    refine ⟨cs, b1, fun i hi => (b2 i hi).trans ?_⟩
    by_cases e : i = j
    · subst e; simp [upd]
    · simp [upd, e]
  · by_cases e : i = j
    · subst e; rw [upd_same] at hu; rw [upd_same]; simpa using hu
    · have e' : (i : Int) ≠ (j : Int) := by omega
      rw [upd_ne e'] at hu; rw [upd_ne e]; exact h2 i u hi hu
  · have b := (a.has.far (p := ⟨y4, j, none⟩) (Ne.symm a.ne) (.int .i64 v)).set j hj (.bool true)
    obtain ⟨cs, b1, b2⟩ := b
    refine ⟨cs, b1, fun i hi => (b2 i hi).trans ?_⟩
    by_cases e : i = j
    · subst e; simp [upd]
    · have e' : (i : Int) ≠ (j : Int) := by omega
      rw [upd_ne e]
      show some (Value.bool (h (i : Int)).isSome) = some (Value.bool (upd h (j : Int) _ (i : Int)).isSome)
      rw [upd_ne e']
theorem Ars.strike (a : Ars w y4 y5 wr F h) {j : Nat} (hj : j < 300) : Ars w y4 y5 (wr.setCell ⟨y5, j, none⟩ (.bool false)) F (upd h (j : Int) none) := by
  obtain ⟨r, h1, h2⟩ := a.ranks
  refine ⟨⟨r, h1.far a.ne _, fun i u hi hu => ?_⟩, ?_, a.notF4, a.notF5, a.ne, a.le4, a.le5⟩
  · by_cases e : i = j
    · subst e; rw [upd_same] at hu; cases hu
    · have e' : (i : Int) ≠ (j : Int) := by omega
      rw [upd_ne e'] at hu; exact h2 i u hi hu
  · have b := a.has.set j hj (.bool false)
    obtain ⟨cs, b1, b2⟩ := b
    refine ⟨cs, b1, fun i hi => (b2 i hi).trans ?_⟩
    by_cases e : i = j
    · subst e; simp [upd]
    · have e' : (i : Int) ≠ (j : Int) := by omega
      rw [upd_ne e]
      show some (Value.bool (h (i : Int)).isSome) = some (Value.bool (upd h (j : Int) _ (i : Int)).isSome)
      rw [upd_ne e']
theorem Own.set {g n : Nat} {Q : (Int → Option Int) → Prop} {f : Int → Option Int} (o : Own w g Q wr F f n) {p : Addr} (hp : ¬ F p.block) (hw : w.heap.size ≤ p.block) (u : Value) : Own w g Q (wr.setCell p u) F f n := by
  refine ⟨o.heap.keep fun k hk => Below.heap_setCell wr p u k (fun e => hp (e ▸ hk)), o.told, o.new, o.below.trans ?_⟩
  exact ⟨rfl, rfl, rfl, by simp [World.setCell], fun k hk => Below.heap_setCell wr p u k (by omega)⟩
end

/-- the block of what was taken last -/
structure Last (w : World) (y4 y5 y9 : Nat) (wr : World) (F : Nat → Prop) (l : It) : Prop where
  blk : wr.heap[y9]? = some (.cells #[.int .i64 l.1, .int .i64 l.2] 31 (0, 0))
  notF : ¬ F y9
  ne4 : y9 ≠ y4
  ne5 : y9 ≠ y5
  le9 : w.heap.size ≤ y9
/-- all that is left lies above l -/
def Over (l : It) (f : Int → Option Int) : Prop := ∀ k r, f k = some r → l.2 < r ∨ l.2 = r ∧ l.1 < k

section
variable {w wr w' : World} {y4 y5 y9 : Nat} {F F' : Nat → Prop} {l : It}
theorem Last.keep (a : Last w y4 y5 y9 wr F l) (h : w'.heap[y9]? = wr.heap[y9]?) : Last w y4 y5 y9 w' F l := ⟨h.trans a.blk, a.notF, a.ne4, a.ne5, a.le9⟩
theorem Last.later (a : Last w y4 y5 y9 wr F l) (hb : Below wr.heap.size wr w') : Last w y4 y5 y9 w' F l := a.keep (hb.block _ (blk_lt a.blk))
theorem Last.turned (a : Last w y4 y5 y9 wr F l) (hF : ∀ k, F' k → F k ∨ wr.heap.size ≤ k) (ht : Turn F wr w') : Last w y4 y5 y9 w' F' l :=
  ⟨(ht.block _ (blk_lt a.blk) a.notF).trans a.blk, fun q => (hF _ q).elim a.notF (fun e => by have := blk_lt a.blk; omega), a.ne4, a.ne5, a.le9⟩
theorem Over.taken {x : It} {f : Int → Option Int} (h : Least f x) : Over x (upd f x.1 none) := by
  intro k r hk
  by_cases e : k = x.1
  · subst e; rw [upd_same] at hk; cases hk
  · rw [upd_ne e] at hk
    have a := h.2 k r hk
    unfold le at a
    simp only at a
    omega
end

theorem at_ints (w : World) (y j : Nat) (hj : j < 300) : (Instr.indexAt 26 (.pointer (some ⟨y, 0, none⟩)) (.int .i64 (j : Int))).run Try.prog w = .ok (.pointer (some ⟨y, j, none⟩)) w := by
  rw [run_indexAt_array (P := Try.prog) (w := w) 26 ⟨y, 0, none⟩ .i64 (j : Int) (by kernel_rfl)]
  have e : Try.prog.arrayLen 26 = 300 := by kernel_rfl
  rw [e, if_pos ⟨by omega, by omega⟩]
  have e2 : (sizeOf (Try.prog.elem 26)).run Try.prog w = .ok 1 w := by kernel_rfl
  rw [e2]
  simp [Result.andThen, Addr.add]
  exact fun q => q.symm
theorem at_bools (w : World) (y j : Nat) (hj : j < 300) : (Instr.indexAt 27 (.pointer (some ⟨y, 0, none⟩)) (.int .i64 (j : Int))).run Try.prog w = .ok (.pointer (some ⟨y, j, none⟩)) w := by
  rw [run_indexAt_array (P := Try.prog) (w := w) 27 ⟨y, 0, none⟩ .i64 (j : Int) (by kernel_rfl)]
  have e : Try.prog.arrayLen 27 = 300 := by kernel_rfl
  rw [e, if_pos ⟨by omega, by omega⟩]
  have e2 : (sizeOf (Try.prog.elem 27)).run Try.prog w = .ok 1 w := by kernel_rfl
  rw [e2]
  simp [Result.andThen, Addr.add]
  exact fun q => q.symm

end Go.Proofs.Ytnbemaijhmgooaa.Hp
