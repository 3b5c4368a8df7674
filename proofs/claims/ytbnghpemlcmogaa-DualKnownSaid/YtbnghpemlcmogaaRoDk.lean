/- Walks: the law DualKnown. -/
import Derived.Test.YtbnghpemlcmogaaRoPp
import Derived.Test.YtbnghpemlcmogaaRoK3
import Derived.Test.YtbnghpemlcmogaaRoDp
import Derived.Test.YtbnghpemlcmogaaRoDm
import Derived.Test.YtbnghpemlcmogaaRoSm
import Derived.Test.YtbnghpemlcmogaaRoWi
import Derived.Deep.RegionHeld3
namespace Go.Proofs.Ytbnghpemlcmogaa.Ro
open Go.RowKit Go.Proofs Go.Maps
set_option linter.unusedVariables false
set_option linter.unusedSimpArgs false

def four (a b c d : Int) : Nat → Int := fun j => if j = 0 then a else if j = 1 then b else if j = 2 then c else d
theorem four_cases4 {P : Nat → Prop} (h0 : P 0) (h1 : P 1) (h2 : P 2) (h3 : P 3) : ∀ d, d < 4 → P d := fun d h => by
  rcases (show d = 0 ∨ d = 1 ∨ d = 2 ∨ d = 3 by omega) with rfl | rfl | rfl | rfl
  · exact h0
  · exact h1
  · exact h2
  · exact h3
theorem Rd.of_heap {w : World} {b n : Nat} {cs : Array Value} {f : Nat → Int} (h : w.heap[b]? = some (.cells cs 3 (0, 0))) (hc : ∀ i, i < n → cs[i]? = some (.int .i64 (f i))) : Rd w (.slice (some ⟨b, 0, none⟩) n n) n f :=
  ⟨_, _, rfl, fun _ => ⟨_, rfl, blk_lt h, fun i hi => by rw [add_head, blk_cell h]; exact hc i hi⟩⟩
/-- the faces of the nets of the law -/
theorem loop_orb {o : Nat → Int} {k : Nat} (O : Orb (bh (two 1 0)) 2 o k) : k = 2 ∧ o 0 = 0 ∧ o 1 = 1 := by
  have h0 : o 0 = 0 := by
    have l := O.lo 0 (by omega)
    rcases Int.lt_or_eq_of_le l.1 with q | q
    · obtain ⟨y, h1, _⟩ := O.first 0 (by omega) 0 q
      omega
    · exact q.symm
  have st : ∀ j, it (bh (two 1 0)) j 0 = 0 := fun j => by
    induction j with
    | zero => rfl
    | succ j ih => show bh (two 1 0) (it (bh (two 1 0)) j 0) = 0; rw [ih]; rfl
  have h1 : o 1 ≠ 0 := fun e => by
    obtain ⟨j, hj⟩ := O.one 0 1 (by omega) (by omega) (h0.trans e.symm)
    rw [st] at hj; omega
  have l1 := O.lo 1 (by omega)
  have h2 : o 1 = 1 := by
    rcases Int.lt_trichotomy (o 1) 1 with q | q | q
    · omega
    · exact q
    · obtain ⟨y, z1, z2⟩ := O.first 1 (by omega) 1 q
      rw [show y = 0 by omega, h0] at z2; omega
  refine ⟨?_, h0, h2⟩
  rcases Nat.lt_trichotomy k 2 with q | q | q
  · omega
  · exact q
  · obtain ⟨y, z1, z2⟩ := O.each 2 q
    rcases (show y = 0 ∨ y = 1 by omega) with rfl | rfl <;> omega
theorem pair_orb {o : Nat → Int} {k : Nat} (O : Orb (bh (four 2 3 0 1)) 4 o k) : k = 2 ∧ o 0 = 0 ∧ o 1 = 1 ∧ o 2 = 1 ∧ o 3 = 0 := by
  have h0 : o 0 = 0 := by
    have l := O.lo 0 (by omega)
    rcases Int.lt_or_eq_of_le l.1 with q | q
    · obtain ⟨y, h1, _⟩ := O.first 0 (by omega) 0 q
      omega
    · exact q.symm
  have h3 : o 3 = 0 := (O.fwd 0 (by omega)).trans h0
  have h21 : o 2 = o 1 := O.fwd 1 (by omega)
  have st : ∀ j, it (bh (four 2 3 0 1)) j 0 = 0 ∨ it (bh (four 2 3 0 1)) j 0 = 3 := fun j => by
    induction j with
    | zero => exact .inl rfl
    | succ j ih =>
      show bh (four 2 3 0 1) (it (bh (four 2 3 0 1)) j 0) = 0 ∨ bh (four 2 3 0 1) (it (bh (four 2 3 0 1)) j 0) = 3
      rcases ih with e | e <;> rw [e]
      · exact .inr rfl
      · exact .inl rfl
  have h1 : o 1 ≠ 0 := fun e => by
    obtain ⟨j, hj⟩ := O.one 0 1 (by omega) (by omega) (h0.trans e.symm)
    rcases st j with q | q <;> omega
  have l1 := O.lo 1 (by omega)
  have h2 : o 1 = 1 := by
    rcases Int.lt_trichotomy (o 1) 1 with q | q | q
    · omega
    · exact q
    · obtain ⟨y, z1, z2⟩ := O.first 1 (by omega) 1 q
      rw [show y = 0 by omega, h0] at z2; omega
  refine ⟨?_, h0, h2, by omega, h3⟩
  rcases Nat.lt_trichotomy k 2 with q | q | q
  · omega
  · exact q
  · obtain ⟨y, z1, z2⟩ := O.each 2 q
    rcases (show y = 0 ∨ y = 1 ∨ y = 2 ∨ y = 3 by omega) with rfl | rfl | rfl | rfl <;> omega
theorem pair_good : Good 2 4 (four 0 1 0 1) (four 2 3 0 1) :=
  ⟨by omega, by omega, by omega, by omega, four_cases4 (by show (0 : Int) ≤ 2 ∧ (2 : Int) < 4; omega) (by show (0 : Int) ≤ 3 ∧ (3 : Int) < 4; omega) (by show (0 : Int) ≤ 0 ∧ (0 : Int) < 4; omega) (by show (0 : Int) ≤ 1 ∧ (1 : Int) < 4; omega),
    four_cases4 (by show (0 : Int) ≤ 0 ∧ (0 : Int) < 2; omega) (by show (0 : Int) ≤ 1 ∧ (1 : Int) < 2; omega) (by show (0 : Int) ≤ 0 ∧ (0 : Int) < 2; omega) (by show (0 : Int) ≤ 1 ∧ (1 : Int) < 2; omega)⟩
theorem pair_perm : Perm (bh (four 2 3 0 1)) 4 := by
  have v : bh (four 2 3 0 1) 0 = 3 ∧ bh (four 2 3 0 1) 1 = 2 ∧ bh (four 2 3 0 1) 2 = 1 ∧ bh (four 2 3 0 1) 3 = 0 := ⟨rfl, rfl, rfl, rfl⟩
  obtain ⟨v0, v1, v2, v3⟩ := v
  refine ⟨four_cases4 (by omega) (by omega) (by omega) (by omega), fun x y hx hy e => ?_⟩
  rcases (show x = 0 ∨ x = 1 ∨ x = 2 ∨ x = 3 by omega) with rfl | rfl | rfl | rfl <;> rcases (show y = 0 ∨ y = 1 ∨ y = 2 ∨ y = 3 by omega) with rfl | rfl | rfl | rfl <;> omega

def allocs : World → List Obj → World
  | w, [] => w
  | w, o :: l => allocs (w.alloc o) l
theorem allocs_below : ∀ (l : List Obj) (w : World), Below w.heap.size w (allocs w l)
  | [], w => Below.refl _ w
  | o :: l, w => by
    have h := allocs_below l (w.alloc o)
    exact (below_new w o).trans (h.mono (below_new w o).size)
theorem allocs_heap : ∀ (l : List Obj) (w : World) (i : Nat) (h : i < l.length), (allocs w l).heap[w.heap.size + i]? = some (l[i]'h)
  | o :: l, w, 0, _ => by
    have b := allocs_below l (w.alloc o)
    exact (b.block _ (by simp)).trans (heap_alloc_new w o)
  | o :: l, w, i + 1, h => by
    have := allocs_heap l (w.alloc o) i (by simpa using h)
    rw [show (w.alloc o).heap.size + i = w.heap.size + (i + 1) by simp; omega] at this
    exact this

set_option maxRecDepth 100000 in
set_option maxHeartbeats 12800000 in
theorem dknown_walk (which : Int) (w : World) (hwh : Small which) :
    Calls Try.prog 9 #[.int .i64 which] w fun e w' => e = .returned (.bool true) ∧ Below w.heap.size w w' := by
  have g1 : Grown 1 0 (fun _ => 0) (fun _ => 0) (fun _ => 0) := Grown.start _ _ _
  have g2 : Grown 2 2 (two 0 1) (two 0 1) (two 5 3) := Grown.edge1 rfl rfl rfl rfl (by show (0 : Int) ≤ 5 ∧ (5 : Int) ≤ 2147483648; omega) (by show (0 : Int) ≤ 3 ∧ (3 : Int) ≤ 2147483648; omega)
  have g3 : Grown 1 2 (two 0 0) (two 1 0) (two 5 3) := Grown.loop1 rfl rfl rfl rfl (by show (0 : Int) ≤ 5 ∧ (5 : Int) ≤ 2147483648; omega) (by show (0 : Int) ≤ 3 ∧ (3 : Int) ≤ 2147483648; omega)
  have PP := Lib.hid (And.intro (g1.turns.perm.bh g1.good.even) (And.intro (g2.turns.perm.bh g2.good.even) (g3.turns.perm.bh g3.good.even)))
  have GG := Lib.hid (And.intro g1.good (And.intro g2.good g3.good))
  clear g1 g2 g3
  obtain ⟨k, hk, hk4⟩ := small_within (d := which) (m := 4) (by omega)
  go_enter Try.func9, Try.ntmps9
  go_wp2_with fail
  refine (known3_ok _).mono ?_
  rintro e w0 ⟨rfl, B1⟩
  go_upto_region 5 with fail
  obtain ⟨g, hg⟩ : ∃ g, g = w0.heap.size := ⟨_, rfl⟩
  rw [← hg]
  have HA := allocs_heap [(.cells #[.int .i64 0, .int .i64 1] 3), (.cells #[.int .i64 0, .int .i64 1] 3), (.cells #[.int .i64 5, .int .i64 3] 3), (.cells #[.int .i64 0, .int .i64 0] 3), (.cells #[.int .i64 1, .int .i64 0] 3), (.cells #[.int .i64 5, .int .i64 3] 3), (.cells #[.int .i64 0, .int .i64 1, .int .i64 0, .int .i64 1] 3), (.cells #[.int .i64 2, .int .i64 3, .int .i64 0, .int .i64 1] 3), (.cells #[.int .i64 5, .int .i64 3, .int .i64 2, .int .i64 1] 3), (.cells #[.int .i64 1, .slice none 0 0, .slice none 0 0, .slice none 0 0, .int .i64 2, .slice (some ⟨g, 0, none⟩) 2 2, .slice (some ⟨g + 1, 0, none⟩) 2 2, .slice (some ⟨g + 1 + 1, 0, none⟩) 2 2, .int .i64 1, .slice (some ⟨g + 1 + 1 + 1, 0, none⟩) 2 2, .slice (some ⟨g + 1 + 1 + 1 + 1, 0, none⟩) 2 2, .slice (some ⟨g + 1 + 1 + 1 + 1 + 1, 0, none⟩) 2 2, .int .i64 2, .slice (some ⟨g + 1 + 1 + 1 + 1 + 1 + 1, 0, none⟩) 4 4, .slice (some ⟨g + 1 + 1 + 1 + 1 + 1 + 1 + 1, 0, none⟩) 4 4, .slice (some ⟨g + 1 + 1 + 1 + 1 + 1 + 1 + 1 + 1, 0, none⟩) 4 4] 25), (.cells #[.int .i64 0, .int .i64 0] 3), (.cells #[.int .i64 1, .int .i64 0] 3), (.cells #[.int .i64 5, .int .i64 3] 3), (.cells #[.int .i64 0, .int .i64 1] 3), (.cells #[.int .i64 0, .int .i64 1] 3), (.cells #[.int .i64 5, .int .i64 3] 3), (.cells #[.int .i64 0, .int .i64 1, .int .i64 1, .int .i64 0] 3), (.cells #[.int .i64 3, .int .i64 2, .int .i64 1, .int .i64 0] 3), (.cells #[.int .i64 5, .int .i64 3, .int .i64 2, .int .i64 1] 3), (.cells #[.int .i64 1, .slice none 0 0, .slice none 0 0, .slice none 0 0, .int .i64 1, .slice (some ⟨g + 1 + 1 + 1 + 1 + 1 + 1 + 1 + 1 + 1 + 1, 0, none⟩) 2 2, .slice (some ⟨g + 1 + 1 + 1 + 1 + 1 + 1 + 1 + 1 + 1 + 1 + 1, 0, none⟩) 2 2, .slice (some ⟨g + 1 + 1 + 1 + 1 + 1 + 1 + 1 + 1 + 1 + 1 + 1 + 1, 0, none⟩) 2 2, .int .i64 2, .slice (some ⟨g + 1 + 1 + 1 + 1 + 1 + 1 + 1 + 1 + 1 + 1 + 1 + 1 + 1, 0, none⟩) 2 2, .slice (some ⟨g + 1 + 1 + 1 + 1 + 1 + 1 + 1 + 1 + 1 + 1 + 1 + 1 + 1 + 1, 0, none⟩) 2 2, .slice (some ⟨g + 1 + 1 + 1 + 1 + 1 + 1 + 1 + 1 + 1 + 1 + 1 + 1 + 1 + 1 + 1, 0, none⟩) 2 2, .int .i64 2, .slice (some ⟨g + 1 + 1 + 1 + 1 + 1 + 1 + 1 + 1 + 1 + 1 + 1 + 1 + 1 + 1 + 1 + 1, 0, none⟩) 4 4, .slice (some ⟨g + 1 + 1 + 1 + 1 + 1 + 1 + 1 + 1 + 1 + 1 + 1 + 1 + 1 + 1 + 1 + 1 + 1, 0, none⟩) 4 4, .slice (some ⟨g + 1 + 1 + 1 + 1 + 1 + 1 + 1 + 1 + 1 + 1 + 1 + 1 + 1 + 1 + 1 + 1 + 1 + 1, 0, none⟩) 4 4] 25)] w0
  have HB := allocs_below [(.cells #[.int .i64 0, .int .i64 1] 3), (.cells #[.int .i64 0, .int .i64 1] 3), (.cells #[.int .i64 5, .int .i64 3] 3), (.cells #[.int .i64 0, .int .i64 0] 3), (.cells #[.int .i64 1, .int .i64 0] 3), (.cells #[.int .i64 5, .int .i64 3] 3), (.cells #[.int .i64 0, .int .i64 1, .int .i64 0, .int .i64 1] 3), (.cells #[.int .i64 2, .int .i64 3, .int .i64 0, .int .i64 1] 3), (.cells #[.int .i64 5, .int .i64 3, .int .i64 2, .int .i64 1] 3), (.cells #[.int .i64 1, .slice none 0 0, .slice none 0 0, .slice none 0 0, .int .i64 2, .slice (some ⟨g, 0, none⟩) 2 2, .slice (some ⟨g + 1, 0, none⟩) 2 2, .slice (some ⟨g + 1 + 1, 0, none⟩) 2 2, .int .i64 1, .slice (some ⟨g + 1 + 1 + 1, 0, none⟩) 2 2, .slice (some ⟨g + 1 + 1 + 1 + 1, 0, none⟩) 2 2, .slice (some ⟨g + 1 + 1 + 1 + 1 + 1, 0, none⟩) 2 2, .int .i64 2, .slice (some ⟨g + 1 + 1 + 1 + 1 + 1 + 1, 0, none⟩) 4 4, .slice (some ⟨g + 1 + 1 + 1 + 1 + 1 + 1 + 1, 0, none⟩) 4 4, .slice (some ⟨g + 1 + 1 + 1 + 1 + 1 + 1 + 1 + 1, 0, none⟩) 4 4] 25), (.cells #[.int .i64 0, .int .i64 0] 3), (.cells #[.int .i64 1, .int .i64 0] 3), (.cells #[.int .i64 5, .int .i64 3] 3), (.cells #[.int .i64 0, .int .i64 1] 3), (.cells #[.int .i64 0, .int .i64 1] 3), (.cells #[.int .i64 5, .int .i64 3] 3), (.cells #[.int .i64 0, .int .i64 1, .int .i64 1, .int .i64 0] 3), (.cells #[.int .i64 3, .int .i64 2, .int .i64 1, .int .i64 0] 3), (.cells #[.int .i64 5, .int .i64 3, .int .i64 2, .int .i64 1] 3), (.cells #[.int .i64 1, .slice none 0 0, .slice none 0 0, .slice none 0 0, .int .i64 1, .slice (some ⟨g + 1 + 1 + 1 + 1 + 1 + 1 + 1 + 1 + 1 + 1, 0, none⟩) 2 2, .slice (some ⟨g + 1 + 1 + 1 + 1 + 1 + 1 + 1 + 1 + 1 + 1 + 1, 0, none⟩) 2 2, .slice (some ⟨g + 1 + 1 + 1 + 1 + 1 + 1 + 1 + 1 + 1 + 1 + 1 + 1, 0, none⟩) 2 2, .int .i64 2, .slice (some ⟨g + 1 + 1 + 1 + 1 + 1 + 1 + 1 + 1 + 1 + 1 + 1 + 1 + 1, 0, none⟩) 2 2, .slice (some ⟨g + 1 + 1 + 1 + 1 + 1 + 1 + 1 + 1 + 1 + 1 + 1 + 1 + 1 + 1, 0, none⟩) 2 2, .slice (some ⟨g + 1 + 1 + 1 + 1 + 1 + 1 + 1 + 1 + 1 + 1 + 1 + 1 + 1 + 1 + 1, 0, none⟩) 2 2, .int .i64 2, .slice (some ⟨g + 1 + 1 + 1 + 1 + 1 + 1 + 1 + 1 + 1 + 1 + 1 + 1 + 1 + 1 + 1 + 1, 0, none⟩) 4 4, .slice (some ⟨g + 1 + 1 + 1 + 1 + 1 + 1 + 1 + 1 + 1 + 1 + 1 + 1 + 1 + 1 + 1 + 1 + 1, 0, none⟩) 4 4, .slice (some ⟨g + 1 + 1 + 1 + 1 + 1 + 1 + 1 + 1 + 1 + 1 + 1 + 1 + 1 + 1 + 1 + 1 + 1 + 1, 0, none⟩) 4 4] 25)] w0
  generalize hv : ((((((((((((((((((((w0.alloc (.cells #[.int .i64 0, .int .i64 1] 3)).alloc (.cells #[.int .i64 0, .int .i64 1] 3)).alloc (.cells #[.int .i64 5, .int .i64 3] 3)).alloc (.cells #[.int .i64 0, .int .i64 0] 3)).alloc (.cells #[.int .i64 1, .int .i64 0] 3)).alloc (.cells #[.int .i64 5, .int .i64 3] 3)).alloc (.cells #[.int .i64 0, .int .i64 1, .int .i64 0, .int .i64 1] 3)).alloc (.cells #[.int .i64 2, .int .i64 3, .int .i64 0, .int .i64 1] 3)).alloc (.cells #[.int .i64 5, .int .i64 3, .int .i64 2, .int .i64 1] 3)).alloc (.cells #[.int .i64 1, .slice none 0 0, .slice none 0 0, .slice none 0 0, .int .i64 2, .slice (some ⟨g, 0, none⟩) 2 2, .slice (some ⟨g + 1, 0, none⟩) 2 2, .slice (some ⟨g + 1 + 1, 0, none⟩) 2 2, .int .i64 1, .slice (some ⟨g + 1 + 1 + 1, 0, none⟩) 2 2, .slice (some ⟨g + 1 + 1 + 1 + 1, 0, none⟩) 2 2, .slice (some ⟨g + 1 + 1 + 1 + 1 + 1, 0, none⟩) 2 2, .int .i64 2, .slice (some ⟨g + 1 + 1 + 1 + 1 + 1 + 1, 0, none⟩) 4 4, .slice (some ⟨g + 1 + 1 + 1 + 1 + 1 + 1 + 1, 0, none⟩) 4 4, .slice (some ⟨g + 1 + 1 + 1 + 1 + 1 + 1 + 1 + 1, 0, none⟩) 4 4] 25)).alloc (.cells #[.int .i64 0, .int .i64 0] 3)).alloc (.cells #[.int .i64 1, .int .i64 0] 3)).alloc (.cells #[.int .i64 5, .int .i64 3] 3)).alloc (.cells #[.int .i64 0, .int .i64 1] 3)).alloc (.cells #[.int .i64 0, .int .i64 1] 3)).alloc (.cells #[.int .i64 5, .int .i64 3] 3)).alloc (.cells #[.int .i64 0, .int .i64 1, .int .i64 1, .int .i64 0] 3)).alloc (.cells #[.int .i64 3, .int .i64 2, .int .i64 1, .int .i64 0] 3)).alloc (.cells #[.int .i64 5, .int .i64 3, .int .i64 2, .int .i64 1] 3)).alloc (.cells #[.int .i64 1, .slice none 0 0, .slice none 0 0, .slice none 0 0, .int .i64 1, .slice (some ⟨g + 1 + 1 + 1 + 1 + 1 + 1 + 1 + 1 + 1 + 1, 0, none⟩) 2 2, .slice (some ⟨g + 1 + 1 + 1 + 1 + 1 + 1 + 1 + 1 + 1 + 1 + 1, 0, none⟩) 2 2, .slice (some ⟨g + 1 + 1 + 1 + 1 + 1 + 1 + 1 + 1 + 1 + 1 + 1 + 1, 0, none⟩) 2 2, .int .i64 2, .slice (some ⟨g + 1 + 1 + 1 + 1 + 1 + 1 + 1 + 1 + 1 + 1 + 1 + 1 + 1, 0, none⟩) 2 2, .slice (some ⟨g + 1 + 1 + 1 + 1 + 1 + 1 + 1 + 1 + 1 + 1 + 1 + 1 + 1 + 1, 0, none⟩) 2 2, .slice (some ⟨g + 1 + 1 + 1 + 1 + 1 + 1 + 1 + 1 + 1 + 1 + 1 + 1 + 1 + 1 + 1, 0, none⟩) 2 2, .int .i64 2, .slice (some ⟨g + 1 + 1 + 1 + 1 + 1 + 1 + 1 + 1 + 1 + 1 + 1 + 1 + 1 + 1 + 1 + 1, 0, none⟩) 4 4, .slice (some ⟨g + 1 + 1 + 1 + 1 + 1 + 1 + 1 + 1 + 1 + 1 + 1 + 1 + 1 + 1 + 1 + 1 + 1, 0, none⟩) 4 4, .slice (some ⟨g + 1 + 1 + 1 + 1 + 1 + 1 + 1 + 1 + 1 + 1 + 1 + 1 + 1 + 1 + 1 + 1 + 1 + 1, 0, none⟩) 4 4] 25)) = v
  rw [show allocs w0 [(.cells #[.int .i64 0, .int .i64 1] 3), (.cells #[.int .i64 0, .int .i64 1] 3), (.cells #[.int .i64 5, .int .i64 3] 3), (.cells #[.int .i64 0, .int .i64 0] 3), (.cells #[.int .i64 1, .int .i64 0] 3), (.cells #[.int .i64 5, .int .i64 3] 3), (.cells #[.int .i64 0, .int .i64 1, .int .i64 0, .int .i64 1] 3), (.cells #[.int .i64 2, .int .i64 3, .int .i64 0, .int .i64 1] 3), (.cells #[.int .i64 5, .int .i64 3, .int .i64 2, .int .i64 1] 3), (.cells #[.int .i64 1, .slice none 0 0, .slice none 0 0, .slice none 0 0, .int .i64 2, .slice (some ⟨g, 0, none⟩) 2 2, .slice (some ⟨g + 1, 0, none⟩) 2 2, .slice (some ⟨g + 1 + 1, 0, none⟩) 2 2, .int .i64 1, .slice (some ⟨g + 1 + 1 + 1, 0, none⟩) 2 2, .slice (some ⟨g + 1 + 1 + 1 + 1, 0, none⟩) 2 2, .slice (some ⟨g + 1 + 1 + 1 + 1 + 1, 0, none⟩) 2 2, .int .i64 2, .slice (some ⟨g + 1 + 1 + 1 + 1 + 1 + 1, 0, none⟩) 4 4, .slice (some ⟨g + 1 + 1 + 1 + 1 + 1 + 1 + 1, 0, none⟩) 4 4, .slice (some ⟨g + 1 + 1 + 1 + 1 + 1 + 1 + 1 + 1, 0, none⟩) 4 4] 25), (.cells #[.int .i64 0, .int .i64 0] 3), (.cells #[.int .i64 1, .int .i64 0] 3), (.cells #[.int .i64 5, .int .i64 3] 3), (.cells #[.int .i64 0, .int .i64 1] 3), (.cells #[.int .i64 0, .int .i64 1] 3), (.cells #[.int .i64 5, .int .i64 3] 3), (.cells #[.int .i64 0, .int .i64 1, .int .i64 1, .int .i64 0] 3), (.cells #[.int .i64 3, .int .i64 2, .int .i64 1, .int .i64 0] 3), (.cells #[.int .i64 5, .int .i64 3, .int .i64 2, .int .i64 1] 3), (.cells #[.int .i64 1, .slice none 0 0, .slice none 0 0, .slice none 0 0, .int .i64 1, .slice (some ⟨g + 1 + 1 + 1 + 1 + 1 + 1 + 1 + 1 + 1 + 1, 0, none⟩) 2 2, .slice (some ⟨g + 1 + 1 + 1 + 1 + 1 + 1 + 1 + 1 + 1 + 1 + 1, 0, none⟩) 2 2, .slice (some ⟨g + 1 + 1 + 1 + 1 + 1 + 1 + 1 + 1 + 1 + 1 + 1 + 1, 0, none⟩) 2 2, .int .i64 2, .slice (some ⟨g + 1 + 1 + 1 + 1 + 1 + 1 + 1 + 1 + 1 + 1 + 1 + 1 + 1, 0, none⟩) 2 2, .slice (some ⟨g + 1 + 1 + 1 + 1 + 1 + 1 + 1 + 1 + 1 + 1 + 1 + 1 + 1 + 1, 0, none⟩) 2 2, .slice (some ⟨g + 1 + 1 + 1 + 1 + 1 + 1 + 1 + 1 + 1 + 1 + 1 + 1 + 1 + 1 + 1, 0, none⟩) 2 2, .int .i64 2, .slice (some ⟨g + 1 + 1 + 1 + 1 + 1 + 1 + 1 + 1 + 1 + 1 + 1 + 1 + 1 + 1 + 1 + 1, 0, none⟩) 4 4, .slice (some ⟨g + 1 + 1 + 1 + 1 + 1 + 1 + 1 + 1 + 1 + 1 + 1 + 1 + 1 + 1 + 1 + 1 + 1, 0, none⟩) 4 4, .slice (some ⟨g + 1 + 1 + 1 + 1 + 1 + 1 + 1 + 1 + 1 + 1 + 1 + 1 + 1 + 1 + 1 + 1 + 1 + 1, 0, none⟩) 4 4] 25)] = v from hv, ← hg] at HA
  rw [show allocs w0 [(.cells #[.int .i64 0, .int .i64 1] 3), (.cells #[.int .i64 0, .int .i64 1] 3), (.cells #[.int .i64 5, .int .i64 3] 3), (.cells #[.int .i64 0, .int .i64 0] 3), (.cells #[.int .i64 1, .int .i64 0] 3), (.cells #[.int .i64 5, .int .i64 3] 3), (.cells #[.int .i64 0, .int .i64 1, .int .i64 0, .int .i64 1] 3), (.cells #[.int .i64 2, .int .i64 3, .int .i64 0, .int .i64 1] 3), (.cells #[.int .i64 5, .int .i64 3, .int .i64 2, .int .i64 1] 3), (.cells #[.int .i64 1, .slice none 0 0, .slice none 0 0, .slice none 0 0, .int .i64 2, .slice (some ⟨g, 0, none⟩) 2 2, .slice (some ⟨g + 1, 0, none⟩) 2 2, .slice (some ⟨g + 1 + 1, 0, none⟩) 2 2, .int .i64 1, .slice (some ⟨g + 1 + 1 + 1, 0, none⟩) 2 2, .slice (some ⟨g + 1 + 1 + 1 + 1, 0, none⟩) 2 2, .slice (some ⟨g + 1 + 1 + 1 + 1 + 1, 0, none⟩) 2 2, .int .i64 2, .slice (some ⟨g + 1 + 1 + 1 + 1 + 1 + 1, 0, none⟩) 4 4, .slice (some ⟨g + 1 + 1 + 1 + 1 + 1 + 1 + 1, 0, none⟩) 4 4, .slice (some ⟨g + 1 + 1 + 1 + 1 + 1 + 1 + 1 + 1, 0, none⟩) 4 4] 25), (.cells #[.int .i64 0, .int .i64 0] 3), (.cells #[.int .i64 1, .int .i64 0] 3), (.cells #[.int .i64 5, .int .i64 3] 3), (.cells #[.int .i64 0, .int .i64 1] 3), (.cells #[.int .i64 0, .int .i64 1] 3), (.cells #[.int .i64 5, .int .i64 3] 3), (.cells #[.int .i64 0, .int .i64 1, .int .i64 1, .int .i64 0] 3), (.cells #[.int .i64 3, .int .i64 2, .int .i64 1, .int .i64 0] 3), (.cells #[.int .i64 5, .int .i64 3, .int .i64 2, .int .i64 1] 3), (.cells #[.int .i64 1, .slice none 0 0, .slice none 0 0, .slice none 0 0, .int .i64 1, .slice (some ⟨g + 1 + 1 + 1 + 1 + 1 + 1 + 1 + 1 + 1 + 1, 0, none⟩) 2 2, .slice (some ⟨g + 1 + 1 + 1 + 1 + 1 + 1 + 1 + 1 + 1 + 1 + 1, 0, none⟩) 2 2, .slice (some ⟨g + 1 + 1 + 1 + 1 + 1 + 1 + 1 + 1 + 1 + 1 + 1 + 1, 0, none⟩) 2 2, .int .i64 2, .slice (some ⟨g + 1 + 1 + 1 + 1 + 1 + 1 + 1 + 1 + 1 + 1 + 1 + 1 + 1, 0, none⟩) 2 2, .slice (some ⟨g + 1 + 1 + 1 + 1 + 1 + 1 + 1 + 1 + 1 + 1 + 1 + 1 + 1 + 1, 0, none⟩) 2 2, .slice (some ⟨g + 1 + 1 + 1 + 1 + 1 + 1 + 1 + 1 + 1 + 1 + 1 + 1 + 1 + 1 + 1, 0, none⟩) 2 2, .int .i64 2, .slice (some ⟨g + 1 + 1 + 1 + 1 + 1 + 1 + 1 + 1 + 1 + 1 + 1 + 1 + 1 + 1 + 1 + 1, 0, none⟩) 4 4, .slice (some ⟨g + 1 + 1 + 1 + 1 + 1 + 1 + 1 + 1 + 1 + 1 + 1 + 1 + 1 + 1 + 1 + 1 + 1, 0, none⟩) 4 4, .slice (some ⟨g + 1 + 1 + 1 + 1 + 1 + 1 + 1 + 1 + 1 + 1 + 1 + 1 + 1 + 1 + 1 + 1 + 1 + 1, 0, none⟩) 4 4] 25)] = v from hv] at HB
  clear hv
  have H0 : v.heap[g]? = some (.cells #[.int .i64 0, .int .i64 1] 3 (0, 0)) := HA 0 (by simp)
  have H1 : v.heap[g + 1]? = some (.cells #[.int .i64 0, .int .i64 1] 3 (0, 0)) := HA 1 (by simp)
  have H2 : v.heap[g + 1 + 1]? = some (.cells #[.int .i64 5, .int .i64 3] 3 (0, 0)) := HA 2 (by simp)
  have H3 : v.heap[g + 1 + 1 + 1]? = some (.cells #[.int .i64 0, .int .i64 0] 3 (0, 0)) := HA 3 (by simp)
  have H4 : v.heap[g + 1 + 1 + 1 + 1]? = some (.cells #[.int .i64 1, .int .i64 0] 3 (0, 0)) := HA 4 (by simp)
  have H5 : v.heap[g + 1 + 1 + 1 + 1 + 1]? = some (.cells #[.int .i64 5, .int .i64 3] 3 (0, 0)) := HA 5 (by simp)
  have H6 : v.heap[g + 1 + 1 + 1 + 1 + 1 + 1]? = some (.cells #[.int .i64 0, .int .i64 1, .int .i64 0, .int .i64 1] 3 (0, 0)) := HA 6 (by simp)
  have H7 : v.heap[g + 1 + 1 + 1 + 1 + 1 + 1 + 1]? = some (.cells #[.int .i64 2, .int .i64 3, .int .i64 0, .int .i64 1] 3 (0, 0)) := HA 7 (by simp)
  have H8 : v.heap[g + 1 + 1 + 1 + 1 + 1 + 1 + 1 + 1]? = some (.cells #[.int .i64 5, .int .i64 3, .int .i64 2, .int .i64 1] 3 (0, 0)) := HA 8 (by simp)
  have H9 : v.heap[g + 1 + 1 + 1 + 1 + 1 + 1 + 1 + 1 + 1]? = some (.cells #[.int .i64 1, .slice none 0 0, .slice none 0 0, .slice none 0 0, .int .i64 2, .slice (some ⟨g, 0, none⟩) 2 2, .slice (some ⟨g + 1, 0, none⟩) 2 2, .slice (some ⟨g + 1 + 1, 0, none⟩) 2 2, .int .i64 1, .slice (some ⟨g + 1 + 1 + 1, 0, none⟩) 2 2, .slice (some ⟨g + 1 + 1 + 1 + 1, 0, none⟩) 2 2, .slice (some ⟨g + 1 + 1 + 1 + 1 + 1, 0, none⟩) 2 2, .int .i64 2, .slice (some ⟨g + 1 + 1 + 1 + 1 + 1 + 1, 0, none⟩) 4 4, .slice (some ⟨g + 1 + 1 + 1 + 1 + 1 + 1 + 1, 0, none⟩) 4 4, .slice (some ⟨g + 1 + 1 + 1 + 1 + 1 + 1 + 1 + 1, 0, none⟩) 4 4] 25 (0, 0)) := HA 9 (by simp)
  have H10 : v.heap[g + 1 + 1 + 1 + 1 + 1 + 1 + 1 + 1 + 1 + 1]? = some (.cells #[.int .i64 0, .int .i64 0] 3 (0, 0)) := HA 10 (by simp)
  have H11 : v.heap[g + 1 + 1 + 1 + 1 + 1 + 1 + 1 + 1 + 1 + 1 + 1]? = some (.cells #[.int .i64 1, .int .i64 0] 3 (0, 0)) := HA 11 (by simp)
  have H12 : v.heap[g + 1 + 1 + 1 + 1 + 1 + 1 + 1 + 1 + 1 + 1 + 1 + 1]? = some (.cells #[.int .i64 5, .int .i64 3] 3 (0, 0)) := HA 12 (by simp)
  have H13 : v.heap[g + 1 + 1 + 1 + 1 + 1 + 1 + 1 + 1 + 1 + 1 + 1 + 1 + 1]? = some (.cells #[.int .i64 0, .int .i64 1] 3 (0, 0)) := HA 13 (by simp)
  have H14 : v.heap[g + 1 + 1 + 1 + 1 + 1 + 1 + 1 + 1 + 1 + 1 + 1 + 1 + 1 + 1]? = some (.cells #[.int .i64 0, .int .i64 1] 3 (0, 0)) := HA 14 (by simp)
  have H15 : v.heap[g + 1 + 1 + 1 + 1 + 1 + 1 + 1 + 1 + 1 + 1 + 1 + 1 + 1 + 1 + 1]? = some (.cells #[.int .i64 5, .int .i64 3] 3 (0, 0)) := HA 15 (by simp)
  have H16 : v.heap[g + 1 + 1 + 1 + 1 + 1 + 1 + 1 + 1 + 1 + 1 + 1 + 1 + 1 + 1 + 1 + 1]? = some (.cells #[.int .i64 0, .int .i64 1, .int .i64 1, .int .i64 0] 3 (0, 0)) := HA 16 (by simp)
  have H17 : v.heap[g + 1 + 1 + 1 + 1 + 1 + 1 + 1 + 1 + 1 + 1 + 1 + 1 + 1 + 1 + 1 + 1 + 1]? = some (.cells #[.int .i64 3, .int .i64 2, .int .i64 1, .int .i64 0] 3 (0, 0)) := HA 17 (by simp)
  have H18 : v.heap[g + 1 + 1 + 1 + 1 + 1 + 1 + 1 + 1 + 1 + 1 + 1 + 1 + 1 + 1 + 1 + 1 + 1 + 1]? = some (.cells #[.int .i64 5, .int .i64 3, .int .i64 2, .int .i64 1] 3 (0, 0)) := HA 18 (by simp)
  have H19 : v.heap[g + 1 + 1 + 1 + 1 + 1 + 1 + 1 + 1 + 1 + 1 + 1 + 1 + 1 + 1 + 1 + 1 + 1 + 1 + 1]? = some (.cells #[.int .i64 1, .slice none 0 0, .slice none 0 0, .slice none 0 0, .int .i64 1, .slice (some ⟨g + 1 + 1 + 1 + 1 + 1 + 1 + 1 + 1 + 1 + 1, 0, none⟩) 2 2, .slice (some ⟨g + 1 + 1 + 1 + 1 + 1 + 1 + 1 + 1 + 1 + 1 + 1, 0, none⟩) 2 2, .slice (some ⟨g + 1 + 1 + 1 + 1 + 1 + 1 + 1 + 1 + 1 + 1 + 1 + 1, 0, none⟩) 2 2, .int .i64 2, .slice (some ⟨g + 1 + 1 + 1 + 1 + 1 + 1 + 1 + 1 + 1 + 1 + 1 + 1 + 1, 0, none⟩) 2 2, .slice (some ⟨g + 1 + 1 + 1 + 1 + 1 + 1 + 1 + 1 + 1 + 1 + 1 + 1 + 1 + 1, 0, none⟩) 2 2, .slice (some ⟨g + 1 + 1 + 1 + 1 + 1 + 1 + 1 + 1 + 1 + 1 + 1 + 1 + 1 + 1 + 1, 0, none⟩) 2 2, .int .i64 2, .slice (some ⟨g + 1 + 1 + 1 + 1 + 1 + 1 + 1 + 1 + 1 + 1 + 1 + 1 + 1 + 1 + 1 + 1, 0, none⟩) 4 4, .slice (some ⟨g + 1 + 1 + 1 + 1 + 1 + 1 + 1 + 1 + 1 + 1 + 1 + 1 + 1 + 1 + 1 + 1 + 1, 0, none⟩) 4 4, .slice (some ⟨g + 1 + 1 + 1 + 1 + 1 + 1 + 1 + 1 + 1 + 1 + 1 + 1 + 1 + 1 + 1 + 1 + 1 + 1, 0, none⟩) 4 4] 25 (0, 0)) := HA 19 (by simp)
  replace B1 := B1.trans (HB.mono B1.size)
  clear HA HB hg
  go_wp2_with fail
  refine (within3_any _ _ _ hwh (by omega) (by omega)).mono ?_
  rintro e v2 ⟨rfl, rfl⟩
  rw [show which % (4 : Int) = (k : Int) from hk]
  clear hk
  go_upto_region 6 with fail
  rcases (show k = 0 ∨ k = 1 ∨ k = 2 ∨ k = 3 by omega) with rfl | rfl | rfl | rfl
  · have d0 : v.cell? ⟨g + 1 + 1 + 1 + 1 + 1 + 1 + 1 + 1 + 1, 0, none⟩ = some (.int .i64 1) := by rw [blk_cell H9]; rfl
    have d1 : v.cell? ⟨g + 1 + 1 + 1 + 1 + 1 + 1 + 1 + 1 + 1, 1, none⟩ = some (.slice none 0 0) := by rw [blk_cell H9]; rfl
    have d2 : v.cell? ⟨g + 1 + 1 + 1 + 1 + 1 + 1 + 1 + 1 + 1, 2, none⟩ = some (.slice none 0 0) := by rw [blk_cell H9]; rfl
    have d3 : v.cell? ⟨g + 1 + 1 + 1 + 1 + 1 + 1 + 1 + 1 + 1, 3, none⟩ = some (.slice none 0 0) := by rw [blk_cell H9]; rfl
    have d4 : v.cell? ⟨g + 1 + 1 + 1 + 1 + 1 + 1 + 1 + 1 + 1 + 1 + 1 + 1 + 1 + 1 + 1 + 1 + 1 + 1 + 1, 0, none⟩ = some (.int .i64 1) := by rw [blk_cell H19]; rfl
    have d5 : v.cell? ⟨g + 1 + 1 + 1 + 1 + 1 + 1 + 1 + 1 + 1 + 1 + 1 + 1 + 1 + 1 + 1 + 1 + 1 + 1 + 1, 1, none⟩ = some (.slice none 0 0) := by rw [blk_cell H19]; rfl
    have d6 : v.cell? ⟨g + 1 + 1 + 1 + 1 + 1 + 1 + 1 + 1 + 1 + 1 + 1 + 1 + 1 + 1 + 1 + 1 + 1 + 1 + 1, 2, none⟩ = some (.slice none 0 0) := by rw [blk_cell H19]; rfl
    have d7 : v.cell? ⟨g + 1 + 1 + 1 + 1 + 1 + 1 + 1 + 1 + 1 + 1 + 1 + 1 + 1 + 1 + 1 + 1 + 1 + 1 + 1, 3, none⟩ = some (.slice none 0 0) := by rw [blk_cell H19]; rfl
    have l1 : g + 1 + 1 + 1 + 1 + 1 + 1 + 1 + 1 + 1 < v.heap.size := blk_lt H9
    have l2 : g + 1 + 1 + 1 + 1 + 1 + 1 + 1 + 1 + 1 + 1 + 1 + 1 + 1 + 1 + 1 + 1 + 1 + 1 + 1 < v.heap.size := blk_lt H19
    have KK : Hid (∀ W, Below v.heap.size v W → W.cell? ⟨g + 1 + 1 + 1 + 1 + 1 + 1 + 1 + 1 + 1, 0, none⟩ = some (.int .i64 1) ∧ W.cell? ⟨g + 1 + 1 + 1 + 1 + 1 + 1 + 1 + 1 + 1, 1, none⟩ = some (.slice none 0 0) ∧ W.cell? ⟨g + 1 + 1 + 1 + 1 + 1 + 1 + 1 + 1 + 1, 2, none⟩ = some (.slice none 0 0) ∧ W.cell? ⟨g + 1 + 1 + 1 + 1 + 1 + 1 + 1 + 1 + 1, 3, none⟩ = some (.slice none 0 0) ∧ W.cell? ⟨g + 1 + 1 + 1 + 1 + 1 + 1 + 1 + 1 + 1 + 1 + 1 + 1 + 1 + 1 + 1 + 1 + 1 + 1 + 1, 0, none⟩ = some (.int .i64 1) ∧ W.cell? ⟨g + 1 + 1 + 1 + 1 + 1 + 1 + 1 + 1 + 1 + 1 + 1 + 1 + 1 + 1 + 1 + 1 + 1 + 1 + 1, 1, none⟩ = some (.slice none 0 0) ∧ W.cell? ⟨g + 1 + 1 + 1 + 1 + 1 + 1 + 1 + 1 + 1 + 1 + 1 + 1 + 1 + 1 + 1 + 1 + 1 + 1 + 1, 2, none⟩ = some (.slice none 0 0) ∧ W.cell? ⟨g + 1 + 1 + 1 + 1 + 1 + 1 + 1 + 1 + 1 + 1 + 1 + 1 + 1 + 1 + 1 + 1 + 1 + 1 + 1, 3, none⟩ = some (.slice none 0 0)) :=
      Lib.hid fun W b => ⟨(b.cell (p := ⟨g + 1 + 1 + 1 + 1 + 1 + 1 + 1 + 1 + 1, 0, none⟩) l1).trans d0, (b.cell (p := ⟨g + 1 + 1 + 1 + 1 + 1 + 1 + 1 + 1 + 1, 1, none⟩) l1).trans d1, (b.cell (p := ⟨g + 1 + 1 + 1 + 1 + 1 + 1 + 1 + 1 + 1, 2, none⟩) l1).trans d2, (b.cell (p := ⟨g + 1 + 1 + 1 + 1 + 1 + 1 + 1 + 1 + 1, 3, none⟩) l1).trans d3, (b.cell (p := ⟨g + 1 + 1 + 1 + 1 + 1 + 1 + 1 + 1 + 1 + 1 + 1 + 1 + 1 + 1 + 1 + 1 + 1 + 1 + 1, 0, none⟩) l2).trans d4, (b.cell (p := ⟨g + 1 + 1 + 1 + 1 + 1 + 1 + 1 + 1 + 1 + 1 + 1 + 1 + 1 + 1 + 1 + 1 + 1 + 1 + 1, 1, none⟩) l2).trans d5, (b.cell (p := ⟨g + 1 + 1 + 1 + 1 + 1 + 1 + 1 + 1 + 1 + 1 + 1 + 1 + 1 + 1 + 1 + 1 + 1 + 1 + 1, 2, none⟩) l2).trans d6, (b.cell (p := ⟨g + 1 + 1 + 1 + 1 + 1 + 1 + 1 + 1 + 1 + 1 + 1 + 1 + 1 + 1 + 1 + 1 + 1 + 1 + 1, 3, none⟩) l2).trans d7⟩
    have r0 : Rd v (.slice none 0 0) 0 (fun _ => 0) := (Ow.nil _ _).rd
    have r1 : Rd v (.slice none 0 0) 0 (fun _ => 0) := (Ow.nil _ _).rd
    have r2 : Rd v (.slice none 0 0) 0 (fun _ => 0) := (Ow.nil _ _).rd
    have q0 : Rd v (.slice none 0 0) 0 (fun _ => 0) := (Ow.nil _ _).rd
    have q1 : Rd v (.slice none 0 0) 0 (fun _ => 0) := (Ow.nil _ _).rd
    have q2 : Rd v (.slice none 0 0) 0 (fun _ => 0) := (Ow.nil _ _).rd
    have D0 : Below v.heap.size v v.drew := (Below.refl _ v).drew
    have RQ := Lib.hid (And.intro r0 (And.intro r1 (And.intro r2 (And.intro q0 (And.intro q1 q2)))))
    clear r0 r1 r2 q0 q1 q2 H0 H1 H2 H3 H4 H5 H6 H7 H8 H9 H10 H11 H12 H13 H14 H15 H16 H17 H18 H19
    go_region_held3 (fun w' => w'.cell? ⟨g + 1 + 1 + 1 + 1 + 1 + 1 + 1 + 1 + 1, 0, none⟩ = some (.int .i64 1) ∧ w'.cell? ⟨g + 1 + 1 + 1 + 1 + 1 + 1 + 1 + 1 + 1, 1, none⟩ = some (.slice none 0 0) ∧ w'.cell? ⟨g + 1 + 1 + 1 + 1 + 1 + 1 + 1 + 1 + 1, 2, none⟩ = some (.slice none 0 0) ∧ w'.cell? ⟨g + 1 + 1 + 1 + 1 + 1 + 1 + 1 + 1 + 1, 3, none⟩ = some (.slice none 0 0) ∧ w'.cell? ⟨g + 1 + 1 + 1 + 1 + 1 + 1 + 1 + 1 + 1 + 1 + 1 + 1 + 1 + 1 + 1 + 1 + 1 + 1 + 1, 0, none⟩ = some (.int .i64 1) ∧ w'.cell? ⟨g + 1 + 1 + 1 + 1 + 1 + 1 + 1 + 1 + 1 + 1 + 1 + 1 + 1 + 1 + 1 + 1 + 1 + 1 + 1, 1, none⟩ = some (.slice none 0 0) ∧ w'.cell? ⟨g + 1 + 1 + 1 + 1 + 1 + 1 + 1 + 1 + 1 + 1 + 1 + 1 + 1 + 1 + 1 + 1 + 1 + 1 + 1, 2, none⟩ = some (.slice none 0 0) ∧ w'.cell? ⟨g + 1 + 1 + 1 + 1 + 1 + 1 + 1 + 1 + 1 + 1 + 1 + 1 + 1 + 1 + 1 + 1 + 1 + 1 + 1, 3, none⟩ = some (.slice none 0 0))
      (first | with_reducible exact k1 | go_keep)
      (first
        | (go_at_call 15; refine (make_ok v.drew 1 _ _ _ 0 (fun _ => 0) (fun _ => 0) (fun _ => 0) (RQ.out.1.below D0 (Nat.le_refl _)) (RQ.out.2.1.below D0 (Nat.le_refl _)) (RQ.out.2.2.1.below D0 (Nat.le_refl _)) GG.out.1 PP.out.1).mono ?_; rintro e v3 ⟨T3, X3, C3, o, kk, rfl, R3, O1, bb⟩; have hk1 : kk = 0 := (by have := O1.le; omega); subst hk1; have E3 : Below v.heap.size v v3 := D0.trans (bb.mono (Nat.le_refl _)); have OO := Lib.hid O1; have k1 := KK.out v3 E3; clear bb O1)
        | (go_at_call 16; refine (same_ok v3 1 _ _ _ _ _ _ 0 o (dualX (fun _ => 0)) (fun _ => 0) (fun _ => 0) (fun _ => 0) (fun _ => 0) (by omega) R3.ot.rd R3.ox.rd R3.oc.rd (RQ.out.2.2.2.1.below E3 (Nat.le_refl _)) (RQ.out.2.2.2.2.1.below E3 (Nat.le_refl _)) (RQ.out.2.2.2.2.2.below E3 (Nat.le_refl _)) (fun j h => by omega) (fun j h => by omega) (fun j h => by omega)).mono ?_; rintro e v4 ⟨rfl, bb⟩; have E4 : Below v.heap.size v v4 := E3.trans (bb.mono E3.size); have k1 := KK.out v4 E4; clear bb))
    go_wp2_with fail
    go_ret
    exact ⟨rfl, B1.trans (E4.mono B1.size)⟩
  · have d0 : v.cell? ⟨g + 1 + 1 + 1 + 1 + 1 + 1 + 1 + 1 + 1, 4, none⟩ = some (.int .i64 2) := by rw [blk_cell H9]; rfl
    have d1 : v.cell? ⟨g + 1 + 1 + 1 + 1 + 1 + 1 + 1 + 1 + 1, 5, none⟩ = some (.slice (some ⟨g, 0, none⟩) 2 2) := by rw [blk_cell H9]; rfl
    have d2 : v.cell? ⟨g + 1 + 1 + 1 + 1 + 1 + 1 + 1 + 1 + 1, 6, none⟩ = some (.slice (some ⟨g + 1, 0, none⟩) 2 2) := by rw [blk_cell H9]; rfl
    have d3 : v.cell? ⟨g + 1 + 1 + 1 + 1 + 1 + 1 + 1 + 1 + 1, 7, none⟩ = some (.slice (some ⟨g + 1 + 1, 0, none⟩) 2 2) := by rw [blk_cell H9]; rfl
    have d4 : v.cell? ⟨g + 1 + 1 + 1 + 1 + 1 + 1 + 1 + 1 + 1 + 1 + 1 + 1 + 1 + 1 + 1 + 1 + 1 + 1 + 1, 4, none⟩ = some (.int .i64 1) := by rw [blk_cell H19]; rfl
    have d5 : v.cell? ⟨g + 1 + 1 + 1 + 1 + 1 + 1 + 1 + 1 + 1 + 1 + 1 + 1 + 1 + 1 + 1 + 1 + 1 + 1 + 1, 5, none⟩ = some (.slice (some ⟨g + 1 + 1 + 1 + 1 + 1 + 1 + 1 + 1 + 1 + 1, 0, none⟩) 2 2) := by rw [blk_cell H19]; rfl
    have d6 : v.cell? ⟨g + 1 + 1 + 1 + 1 + 1 + 1 + 1 + 1 + 1 + 1 + 1 + 1 + 1 + 1 + 1 + 1 + 1 + 1 + 1, 6, none⟩ = some (.slice (some ⟨g + 1 + 1 + 1 + 1 + 1 + 1 + 1 + 1 + 1 + 1 + 1, 0, none⟩) 2 2) := by rw [blk_cell H19]; rfl
    have d7 : v.cell? ⟨g + 1 + 1 + 1 + 1 + 1 + 1 + 1 + 1 + 1 + 1 + 1 + 1 + 1 + 1 + 1 + 1 + 1 + 1 + 1, 7, none⟩ = some (.slice (some ⟨g + 1 + 1 + 1 + 1 + 1 + 1 + 1 + 1 + 1 + 1 + 1 + 1, 0, none⟩) 2 2) := by rw [blk_cell H19]; rfl
    have l1 : g + 1 + 1 + 1 + 1 + 1 + 1 + 1 + 1 + 1 < v.heap.size := blk_lt H9
    have l2 : g + 1 + 1 + 1 + 1 + 1 + 1 + 1 + 1 + 1 + 1 + 1 + 1 + 1 + 1 + 1 + 1 + 1 + 1 + 1 < v.heap.size := blk_lt H19
    have KK : Hid (∀ W, Below v.heap.size v W → W.cell? ⟨g + 1 + 1 + 1 + 1 + 1 + 1 + 1 + 1 + 1, 4, none⟩ = some (.int .i64 2) ∧ W.cell? ⟨g + 1 + 1 + 1 + 1 + 1 + 1 + 1 + 1 + 1, 5, none⟩ = some (.slice (some ⟨g, 0, none⟩) 2 2) ∧ W.cell? ⟨g + 1 + 1 + 1 + 1 + 1 + 1 + 1 + 1 + 1, 6, none⟩ = some (.slice (some ⟨g + 1, 0, none⟩) 2 2) ∧ W.cell? ⟨g + 1 + 1 + 1 + 1 + 1 + 1 + 1 + 1 + 1, 7, none⟩ = some (.slice (some ⟨g + 1 + 1, 0, none⟩) 2 2) ∧ W.cell? ⟨g + 1 + 1 + 1 + 1 + 1 + 1 + 1 + 1 + 1 + 1 + 1 + 1 + 1 + 1 + 1 + 1 + 1 + 1 + 1, 4, none⟩ = some (.int .i64 1) ∧ W.cell? ⟨g + 1 + 1 + 1 + 1 + 1 + 1 + 1 + 1 + 1 + 1 + 1 + 1 + 1 + 1 + 1 + 1 + 1 + 1 + 1, 5, none⟩ = some (.slice (some ⟨g + 1 + 1 + 1 + 1 + 1 + 1 + 1 + 1 + 1 + 1, 0, none⟩) 2 2) ∧ W.cell? ⟨g + 1 + 1 + 1 + 1 + 1 + 1 + 1 + 1 + 1 + 1 + 1 + 1 + 1 + 1 + 1 + 1 + 1 + 1 + 1, 6, none⟩ = some (.slice (some ⟨g + 1 + 1 + 1 + 1 + 1 + 1 + 1 + 1 + 1 + 1 + 1, 0, none⟩) 2 2) ∧ W.cell? ⟨g + 1 + 1 + 1 + 1 + 1 + 1 + 1 + 1 + 1 + 1 + 1 + 1 + 1 + 1 + 1 + 1 + 1 + 1 + 1, 7, none⟩ = some (.slice (some ⟨g + 1 + 1 + 1 + 1 + 1 + 1 + 1 + 1 + 1 + 1 + 1 + 1, 0, none⟩) 2 2)) :=
      Lib.hid fun W b => ⟨(b.cell (p := ⟨g + 1 + 1 + 1 + 1 + 1 + 1 + 1 + 1 + 1, 4, none⟩) l1).trans d0, (b.cell (p := ⟨g + 1 + 1 + 1 + 1 + 1 + 1 + 1 + 1 + 1, 5, none⟩) l1).trans d1, (b.cell (p := ⟨g + 1 + 1 + 1 + 1 + 1 + 1 + 1 + 1 + 1, 6, none⟩) l1).trans d2, (b.cell (p := ⟨g + 1 + 1 + 1 + 1 + 1 + 1 + 1 + 1 + 1, 7, none⟩) l1).trans d3, (b.cell (p := ⟨g + 1 + 1 + 1 + 1 + 1 + 1 + 1 + 1 + 1 + 1 + 1 + 1 + 1 + 1 + 1 + 1 + 1 + 1 + 1, 4, none⟩) l2).trans d4, (b.cell (p := ⟨g + 1 + 1 + 1 + 1 + 1 + 1 + 1 + 1 + 1 + 1 + 1 + 1 + 1 + 1 + 1 + 1 + 1 + 1 + 1, 5, none⟩) l2).trans d5, (b.cell (p := ⟨g + 1 + 1 + 1 + 1 + 1 + 1 + 1 + 1 + 1 + 1 + 1 + 1 + 1 + 1 + 1 + 1 + 1 + 1 + 1, 6, none⟩) l2).trans d6, (b.cell (p := ⟨g + 1 + 1 + 1 + 1 + 1 + 1 + 1 + 1 + 1 + 1 + 1 + 1 + 1 + 1 + 1 + 1 + 1 + 1 + 1, 7, none⟩) l2).trans d7⟩
    have r0 : Rd v (.slice (some ⟨g, 0, none⟩) 2 2) 2 (two 0 1) := (Rd.of_heap (f := (two 0 1)) H0 (by intro i hi; rcases (show i = 0 ∨ i = 1 by omega) with rfl | rfl <;> rfl))
    have r1 : Rd v (.slice (some ⟨g + 1, 0, none⟩) 2 2) 2 (two 0 1) := (Rd.of_heap (f := (two 0 1)) H1 (by intro i hi; rcases (show i = 0 ∨ i = 1 by omega) with rfl | rfl <;> rfl))
    have r2 : Rd v (.slice (some ⟨g + 1 + 1, 0, none⟩) 2 2) 2 (two 5 3) := (Rd.of_heap (f := (two 5 3)) H2 (by intro i hi; rcases (show i = 0 ∨ i = 1 by omega) with rfl | rfl <;> rfl))
    have q0 : Rd v (.slice (some ⟨g + 1 + 1 + 1 + 1 + 1 + 1 + 1 + 1 + 1 + 1, 0, none⟩) 2 2) 2 (two 0 0) := (Rd.of_heap (f := (two 0 0)) H10 (by intro i hi; rcases (show i = 0 ∨ i = 1 by omega) with rfl | rfl <;> rfl))
    have q1 : Rd v (.slice (some ⟨g + 1 + 1 + 1 + 1 + 1 + 1 + 1 + 1 + 1 + 1 + 1, 0, none⟩) 2 2) 2 (two 1 0) := (Rd.of_heap (f := (two 1 0)) H11 (by intro i hi; rcases (show i = 0 ∨ i = 1 by omega) with rfl | rfl <;> rfl))
    have q2 : Rd v (.slice (some ⟨g + 1 + 1 + 1 + 1 + 1 + 1 + 1 + 1 + 1 + 1 + 1 + 1, 0, none⟩) 2 2) 2 (two 5 3) := (Rd.of_heap (f := (two 5 3)) H12 (by intro i hi; rcases (show i = 0 ∨ i = 1 by omega) with rfl | rfl <;> rfl))
    have D0 : Below v.heap.size v v.drew := (Below.refl _ v).drew
    have RQ := Lib.hid (And.intro r0 (And.intro r1 (And.intro r2 (And.intro q0 (And.intro q1 q2)))))
    clear r0 r1 r2 q0 q1 q2 H0 H1 H2 H3 H4 H5 H6 H7 H8 H9 H10 H11 H12 H13 H14 H15 H16 H17 H18 H19
    go_region_held3 (fun w' => w'.cell? ⟨g + 1 + 1 + 1 + 1 + 1 + 1 + 1 + 1 + 1, 4, none⟩ = some (.int .i64 2) ∧ w'.cell? ⟨g + 1 + 1 + 1 + 1 + 1 + 1 + 1 + 1 + 1, 5, none⟩ = some (.slice (some ⟨g, 0, none⟩) 2 2) ∧ w'.cell? ⟨g + 1 + 1 + 1 + 1 + 1 + 1 + 1 + 1 + 1, 6, none⟩ = some (.slice (some ⟨g + 1, 0, none⟩) 2 2) ∧ w'.cell? ⟨g + 1 + 1 + 1 + 1 + 1 + 1 + 1 + 1 + 1, 7, none⟩ = some (.slice (some ⟨g + 1 + 1, 0, none⟩) 2 2) ∧ w'.cell? ⟨g + 1 + 1 + 1 + 1 + 1 + 1 + 1 + 1 + 1 + 1 + 1 + 1 + 1 + 1 + 1 + 1 + 1 + 1 + 1, 4, none⟩ = some (.int .i64 1) ∧ w'.cell? ⟨g + 1 + 1 + 1 + 1 + 1 + 1 + 1 + 1 + 1 + 1 + 1 + 1 + 1 + 1 + 1 + 1 + 1 + 1 + 1, 5, none⟩ = some (.slice (some ⟨g + 1 + 1 + 1 + 1 + 1 + 1 + 1 + 1 + 1 + 1, 0, none⟩) 2 2) ∧ w'.cell? ⟨g + 1 + 1 + 1 + 1 + 1 + 1 + 1 + 1 + 1 + 1 + 1 + 1 + 1 + 1 + 1 + 1 + 1 + 1 + 1, 6, none⟩ = some (.slice (some ⟨g + 1 + 1 + 1 + 1 + 1 + 1 + 1 + 1 + 1 + 1 + 1, 0, none⟩) 2 2) ∧ w'.cell? ⟨g + 1 + 1 + 1 + 1 + 1 + 1 + 1 + 1 + 1 + 1 + 1 + 1 + 1 + 1 + 1 + 1 + 1 + 1 + 1, 7, none⟩ = some (.slice (some ⟨g + 1 + 1 + 1 + 1 + 1 + 1 + 1 + 1 + 1 + 1 + 1 + 1, 0, none⟩) 2 2))
      (first | with_reducible exact k1 | go_keep)
      (first
        | (go_at_call 15; refine (make_ok v.drew 2 _ _ _ 2 (two 0 1) (two 0 1) (two 5 3) (RQ.out.1.below D0 (Nat.le_refl _)) (RQ.out.2.1.below D0 (Nat.le_refl _)) (RQ.out.2.2.1.below D0 (Nat.le_refl _)) GG.out.2.1 PP.out.2.1).mono ?_; rintro e v3 ⟨T3, X3, C3, o, kk, rfl, R3, O1, bb⟩; have hk1 : kk = 1 := (known_orb O1).1; subst hk1; have E3 : Below v.heap.size v v3 := D0.trans (bb.mono (Nat.le_refl _)); have OO := Lib.hid O1; have k1 := KK.out v3 E3; clear bb O1)
        | (go_at_call 16; refine (same_ok v3 1 _ _ _ _ _ _ 2 o (dualX (two 0 1)) (two 5 3) (two 0 0) (two 1 0) (two 5 3) (by omega) R3.ot.rd R3.ox.rd R3.oc.rd (RQ.out.2.2.2.1.below E3 (Nat.le_refl _)) (RQ.out.2.2.2.2.1.below E3 (Nat.le_refl _)) (RQ.out.2.2.2.2.2.below E3 (Nat.le_refl _)) (two_cases (known_orb OO.out).2.1 (known_orb OO.out).2.2) (two_cases rfl rfl) (fun _ _ => rfl)).mono ?_; rintro e v4 ⟨rfl, bb⟩; have E4 : Below v.heap.size v v4 := E3.trans (bb.mono E3.size); have k1 := KK.out v4 E4; clear bb))
    go_wp2_with fail
    go_ret
    exact ⟨rfl, B1.trans (E4.mono B1.size)⟩
  · have d0 : v.cell? ⟨g + 1 + 1 + 1 + 1 + 1 + 1 + 1 + 1 + 1, 8, none⟩ = some (.int .i64 1) := by rw [blk_cell H9]; rfl
    have d1 : v.cell? ⟨g + 1 + 1 + 1 + 1 + 1 + 1 + 1 + 1 + 1, 9, none⟩ = some (.slice (some ⟨g + 1 + 1 + 1, 0, none⟩) 2 2) := by rw [blk_cell H9]; rfl
    have d2 : v.cell? ⟨g + 1 + 1 + 1 + 1 + 1 + 1 + 1 + 1 + 1, 10, none⟩ = some (.slice (some ⟨g + 1 + 1 + 1 + 1, 0, none⟩) 2 2) := by rw [blk_cell H9]; rfl
    have d3 : v.cell? ⟨g + 1 + 1 + 1 + 1 + 1 + 1 + 1 + 1 + 1, 11, none⟩ = some (.slice (some ⟨g + 1 + 1 + 1 + 1 + 1, 0, none⟩) 2 2) := by rw [blk_cell H9]; rfl
    have d4 : v.cell? ⟨g + 1 + 1 + 1 + 1 + 1 + 1 + 1 + 1 + 1 + 1 + 1 + 1 + 1 + 1 + 1 + 1 + 1 + 1 + 1, 8, none⟩ = some (.int .i64 2) := by rw [blk_cell H19]; rfl
    have d5 : v.cell? ⟨g + 1 + 1 + 1 + 1 + 1 + 1 + 1 + 1 + 1 + 1 + 1 + 1 + 1 + 1 + 1 + 1 + 1 + 1 + 1, 9, none⟩ = some (.slice (some ⟨g + 1 + 1 + 1 + 1 + 1 + 1 + 1 + 1 + 1 + 1 + 1 + 1 + 1, 0, none⟩) 2 2) := by rw [blk_cell H19]; rfl
    have d6 : v.cell? ⟨g + 1 + 1 + 1 + 1 + 1 + 1 + 1 + 1 + 1 + 1 + 1 + 1 + 1 + 1 + 1 + 1 + 1 + 1 + 1, 10, none⟩ = some (.slice (some ⟨g + 1 + 1 + 1 + 1 + 1 + 1 + 1 + 1 + 1 + 1 + 1 + 1 + 1 + 1, 0, none⟩) 2 2) := by rw [blk_cell H19]; rfl
    have d7 : v.cell? ⟨g + 1 + 1 + 1 + 1 + 1 + 1 + 1 + 1 + 1 + 1 + 1 + 1 + 1 + 1 + 1 + 1 + 1 + 1 + 1, 11, none⟩ = some (.slice (some ⟨g + 1 + 1 + 1 + 1 + 1 + 1 + 1 + 1 + 1 + 1 + 1 + 1 + 1 + 1 + 1, 0, none⟩) 2 2) := by rw [blk_cell H19]; rfl
    have l1 : g + 1 + 1 + 1 + 1 + 1 + 1 + 1 + 1 + 1 < v.heap.size := blk_lt H9
    have l2 : g + 1 + 1 + 1 + 1 + 1 + 1 + 1 + 1 + 1 + 1 + 1 + 1 + 1 + 1 + 1 + 1 + 1 + 1 + 1 < v.heap.size := blk_lt H19
    have KK : Hid (∀ W, Below v.heap.size v W → W.cell? ⟨g + 1 + 1 + 1 + 1 + 1 + 1 + 1 + 1 + 1, 8, none⟩ = some (.int .i64 1) ∧ W.cell? ⟨g + 1 + 1 + 1 + 1 + 1 + 1 + 1 + 1 + 1, 9, none⟩ = some (.slice (some ⟨g + 1 + 1 + 1, 0, none⟩) 2 2) ∧ W.cell? ⟨g + 1 + 1 + 1 + 1 + 1 + 1 + 1 + 1 + 1, 10, none⟩ = some (.slice (some ⟨g + 1 + 1 + 1 + 1, 0, none⟩) 2 2) ∧ W.cell? ⟨g + 1 + 1 + 1 + 1 + 1 + 1 + 1 + 1 + 1, 11, none⟩ = some (.slice (some ⟨g + 1 + 1 + 1 + 1 + 1, 0, none⟩) 2 2) ∧ W.cell? ⟨g + 1 + 1 + 1 + 1 + 1 + 1 + 1 + 1 + 1 + 1 + 1 + 1 + 1 + 1 + 1 + 1 + 1 + 1 + 1, 8, none⟩ = some (.int .i64 2) ∧ W.cell? ⟨g + 1 + 1 + 1 + 1 + 1 + 1 + 1 + 1 + 1 + 1 + 1 + 1 + 1 + 1 + 1 + 1 + 1 + 1 + 1, 9, none⟩ = some (.slice (some ⟨g + 1 + 1 + 1 + 1 + 1 + 1 + 1 + 1 + 1 + 1 + 1 + 1 + 1, 0, none⟩) 2 2) ∧ W.cell? ⟨g + 1 + 1 + 1 + 1 + 1 + 1 + 1 + 1 + 1 + 1 + 1 + 1 + 1 + 1 + 1 + 1 + 1 + 1 + 1, 10, none⟩ = some (.slice (some ⟨g + 1 + 1 + 1 + 1 + 1 + 1 + 1 + 1 + 1 + 1 + 1 + 1 + 1 + 1, 0, none⟩) 2 2) ∧ W.cell? ⟨g + 1 + 1 + 1 + 1 + 1 + 1 + 1 + 1 + 1 + 1 + 1 + 1 + 1 + 1 + 1 + 1 + 1 + 1 + 1, 11, none⟩ = some (.slice (some ⟨g + 1 + 1 + 1 + 1 + 1 + 1 + 1 + 1 + 1 + 1 + 1 + 1 + 1 + 1 + 1, 0, none⟩) 2 2)) :=
      Lib.hid fun W b => ⟨(b.cell (p := ⟨g + 1 + 1 + 1 + 1 + 1 + 1 + 1 + 1 + 1, 8, none⟩) l1).trans d0, (b.cell (p := ⟨g + 1 + 1 + 1 + 1 + 1 + 1 + 1 + 1 + 1, 9, none⟩) l1).trans d1, (b.cell (p := ⟨g + 1 + 1 + 1 + 1 + 1 + 1 + 1 + 1 + 1, 10, none⟩) l1).trans d2, (b.cell (p := ⟨g + 1 + 1 + 1 + 1 + 1 + 1 + 1 + 1 + 1, 11, none⟩) l1).trans d3, (b.cell (p := ⟨g + 1 + 1 + 1 + 1 + 1 + 1 + 1 + 1 + 1 + 1 + 1 + 1 + 1 + 1 + 1 + 1 + 1 + 1 + 1, 8, none⟩) l2).trans d4, (b.cell (p := ⟨g + 1 + 1 + 1 + 1 + 1 + 1 + 1 + 1 + 1 + 1 + 1 + 1 + 1 + 1 + 1 + 1 + 1 + 1 + 1, 9, none⟩) l2).trans d5, (b.cell (p := ⟨g + 1 + 1 + 1 + 1 + 1 + 1 + 1 + 1 + 1 + 1 + 1 + 1 + 1 + 1 + 1 + 1 + 1 + 1 + 1, 10, none⟩) l2).trans d6, (b.cell (p := ⟨g + 1 + 1 + 1 + 1 + 1 + 1 + 1 + 1 + 1 + 1 + 1 + 1 + 1 + 1 + 1 + 1 + 1 + 1 + 1, 11, none⟩) l2).trans d7⟩
    have r0 : Rd v (.slice (some ⟨g + 1 + 1 + 1, 0, none⟩) 2 2) 2 (two 0 0) := (Rd.of_heap (f := (two 0 0)) H3 (by intro i hi; rcases (show i = 0 ∨ i = 1 by omega) with rfl | rfl <;> rfl))
    have r1 : Rd v (.slice (some ⟨g + 1 + 1 + 1 + 1, 0, none⟩) 2 2) 2 (two 1 0) := (Rd.of_heap (f := (two 1 0)) H4 (by intro i hi; rcases (show i = 0 ∨ i = 1 by omega) with rfl | rfl <;> rfl))
    have r2 : Rd v (.slice (some ⟨g + 1 + 1 + 1 + 1 + 1, 0, none⟩) 2 2) 2 (two 5 3) := (Rd.of_heap (f := (two 5 3)) H5 (by intro i hi; rcases (show i = 0 ∨ i = 1 by omega) with rfl | rfl <;> rfl))
    have q0 : Rd v (.slice (some ⟨g + 1 + 1 + 1 + 1 + 1 + 1 + 1 + 1 + 1 + 1 + 1 + 1 + 1, 0, none⟩) 2 2) 2 (two 0 1) := (Rd.of_heap (f := (two 0 1)) H13 (by intro i hi; rcases (show i = 0 ∨ i = 1 by omega) with rfl | rfl <;> rfl))
    have q1 : Rd v (.slice (some ⟨g + 1 + 1 + 1 + 1 + 1 + 1 + 1 + 1 + 1 + 1 + 1 + 1 + 1 + 1, 0, none⟩) 2 2) 2 (two 0 1) := (Rd.of_heap (f := (two 0 1)) H14 (by intro i hi; rcases (show i = 0 ∨ i = 1 by omega) with rfl | rfl <;> rfl))
    have q2 : Rd v (.slice (some ⟨g + 1 + 1 + 1 + 1 + 1 + 1 + 1 + 1 + 1 + 1 + 1 + 1 + 1 + 1 + 1, 0, none⟩) 2 2) 2 (two 5 3) := (Rd.of_heap (f := (two 5 3)) H15 (by intro i hi; rcases (show i = 0 ∨ i = 1 by omega) with rfl | rfl <;> rfl))
    have D0 : Below v.heap.size v v.drew := (Below.refl _ v).drew
    have RQ := Lib.hid (And.intro r0 (And.intro r1 (And.intro r2 (And.intro q0 (And.intro q1 q2)))))
    clear r0 r1 r2 q0 q1 q2 H0 H1 H2 H3 H4 H5 H6 H7 H8 H9 H10 H11 H12 H13 H14 H15 H16 H17 H18 H19
    go_region_held3 (fun w' => w'.cell? ⟨g + 1 + 1 + 1 + 1 + 1 + 1 + 1 + 1 + 1, 8, none⟩ = some (.int .i64 1) ∧ w'.cell? ⟨g + 1 + 1 + 1 + 1 + 1 + 1 + 1 + 1 + 1, 9, none⟩ = some (.slice (some ⟨g + 1 + 1 + 1, 0, none⟩) 2 2) ∧ w'.cell? ⟨g + 1 + 1 + 1 + 1 + 1 + 1 + 1 + 1 + 1, 10, none⟩ = some (.slice (some ⟨g + 1 + 1 + 1 + 1, 0, none⟩) 2 2) ∧ w'.cell? ⟨g + 1 + 1 + 1 + 1 + 1 + 1 + 1 + 1 + 1, 11, none⟩ = some (.slice (some ⟨g + 1 + 1 + 1 + 1 + 1, 0, none⟩) 2 2) ∧ w'.cell? ⟨g + 1 + 1 + 1 + 1 + 1 + 1 + 1 + 1 + 1 + 1 + 1 + 1 + 1 + 1 + 1 + 1 + 1 + 1 + 1, 8, none⟩ = some (.int .i64 2) ∧ w'.cell? ⟨g + 1 + 1 + 1 + 1 + 1 + 1 + 1 + 1 + 1 + 1 + 1 + 1 + 1 + 1 + 1 + 1 + 1 + 1 + 1, 9, none⟩ = some (.slice (some ⟨g + 1 + 1 + 1 + 1 + 1 + 1 + 1 + 1 + 1 + 1 + 1 + 1 + 1, 0, none⟩) 2 2) ∧ w'.cell? ⟨g + 1 + 1 + 1 + 1 + 1 + 1 + 1 + 1 + 1 + 1 + 1 + 1 + 1 + 1 + 1 + 1 + 1 + 1 + 1, 10, none⟩ = some (.slice (some ⟨g + 1 + 1 + 1 + 1 + 1 + 1 + 1 + 1 + 1 + 1 + 1 + 1 + 1 + 1, 0, none⟩) 2 2) ∧ w'.cell? ⟨g + 1 + 1 + 1 + 1 + 1 + 1 + 1 + 1 + 1 + 1 + 1 + 1 + 1 + 1 + 1 + 1 + 1 + 1 + 1, 11, none⟩ = some (.slice (some ⟨g + 1 + 1 + 1 + 1 + 1 + 1 + 1 + 1 + 1 + 1 + 1 + 1 + 1 + 1 + 1, 0, none⟩) 2 2))
      (first | with_reducible exact k1 | go_keep)
      (first
        | (go_at_call 15; refine (make_ok v.drew 1 _ _ _ 2 (two 0 0) (two 1 0) (two 5 3) (RQ.out.1.below D0 (Nat.le_refl _)) (RQ.out.2.1.below D0 (Nat.le_refl _)) (RQ.out.2.2.1.below D0 (Nat.le_refl _)) GG.out.2.2 PP.out.2.2).mono ?_; rintro e v3 ⟨T3, X3, C3, o, kk, rfl, R3, O1, bb⟩; have hk1 : kk = 2 := (loop_orb O1).1; subst hk1; have E3 : Below v.heap.size v v3 := D0.trans (bb.mono (Nat.le_refl _)); have OO := Lib.hid O1; have k1 := KK.out v3 E3; clear bb O1)
        | (go_at_call 16; refine (same_ok v3 2 _ _ _ _ _ _ 2 o (dualX (two 1 0)) (two 5 3) (two 0 1) (two 0 1) (two 5 3) (by omega) R3.ot.rd R3.ox.rd R3.oc.rd (RQ.out.2.2.2.1.below E3 (Nat.le_refl _)) (RQ.out.2.2.2.2.1.below E3 (Nat.le_refl _)) (RQ.out.2.2.2.2.2.below E3 (Nat.le_refl _)) (two_cases (loop_orb OO.out).2.1 (loop_orb OO.out).2.2) (two_cases rfl rfl) (fun _ _ => rfl)).mono ?_; rintro e v4 ⟨rfl, bb⟩; have E4 : Below v.heap.size v v4 := E3.trans (bb.mono E3.size); have k1 := KK.out v4 E4; clear bb))
    go_wp2_with fail
    go_ret
    exact ⟨rfl, B1.trans (E4.mono B1.size)⟩
  · have d0 : v.cell? ⟨g + 1 + 1 + 1 + 1 + 1 + 1 + 1 + 1 + 1, 12, none⟩ = some (.int .i64 2) := by rw [blk_cell H9]; rfl
    have d1 : v.cell? ⟨g + 1 + 1 + 1 + 1 + 1 + 1 + 1 + 1 + 1, 13, none⟩ = some (.slice (some ⟨g + 1 + 1 + 1 + 1 + 1 + 1, 0, none⟩) 4 4) := by rw [blk_cell H9]; rfl
    have d2 : v.cell? ⟨g + 1 + 1 + 1 + 1 + 1 + 1 + 1 + 1 + 1, 14, none⟩ = some (.slice (some ⟨g + 1 + 1 + 1 + 1 + 1 + 1 + 1, 0, none⟩) 4 4) := by rw [blk_cell H9]; rfl
    have d3 : v.cell? ⟨g + 1 + 1 + 1 + 1 + 1 + 1 + 1 + 1 + 1, 15, none⟩ = some (.slice (some ⟨g + 1 + 1 + 1 + 1 + 1 + 1 + 1 + 1, 0, none⟩) 4 4) := by rw [blk_cell H9]; rfl
    have d4 : v.cell? ⟨g + 1 + 1 + 1 + 1 + 1 + 1 + 1 + 1 + 1 + 1 + 1 + 1 + 1 + 1 + 1 + 1 + 1 + 1 + 1, 12, none⟩ = some (.int .i64 2) := by rw [blk_cell H19]; rfl
    have d5 : v.cell? ⟨g + 1 + 1 + 1 + 1 + 1 + 1 + 1 + 1 + 1 + 1 + 1 + 1 + 1 + 1 + 1 + 1 + 1 + 1 + 1, 13, none⟩ = some (.slice (some ⟨g + 1 + 1 + 1 + 1 + 1 + 1 + 1 + 1 + 1 + 1 + 1 + 1 + 1 + 1 + 1 + 1, 0, none⟩) 4 4) := by rw [blk_cell H19]; rfl
    have d6 : v.cell? ⟨g + 1 + 1 + 1 + 1 + 1 + 1 + 1 + 1 + 1 + 1 + 1 + 1 + 1 + 1 + 1 + 1 + 1 + 1 + 1, 14, none⟩ = some (.slice (some ⟨g + 1 + 1 + 1 + 1 + 1 + 1 + 1 + 1 + 1 + 1 + 1 + 1 + 1 + 1 + 1 + 1 + 1, 0, none⟩) 4 4) := by rw [blk_cell H19]; rfl
    have d7 : v.cell? ⟨g + 1 + 1 + 1 + 1 + 1 + 1 + 1 + 1 + 1 + 1 + 1 + 1 + 1 + 1 + 1 + 1 + 1 + 1 + 1, 15, none⟩ = some (.slice (some ⟨g + 1 + 1 + 1 + 1 + 1 + 1 + 1 + 1 + 1 + 1 + 1 + 1 + 1 + 1 + 1 + 1 + 1 + 1, 0, none⟩) 4 4) := by rw [blk_cell H19]; rfl
    have l1 : g + 1 + 1 + 1 + 1 + 1 + 1 + 1 + 1 + 1 < v.heap.size := blk_lt H9
    have l2 : g + 1 + 1 + 1 + 1 + 1 + 1 + 1 + 1 + 1 + 1 + 1 + 1 + 1 + 1 + 1 + 1 + 1 + 1 + 1 < v.heap.size := blk_lt H19
    have KK : Hid (∀ W, Below v.heap.size v W → W.cell? ⟨g + 1 + 1 + 1 + 1 + 1 + 1 + 1 + 1 + 1, 12, none⟩ = some (.int .i64 2) ∧ W.cell? ⟨g + 1 + 1 + 1 + 1 + 1 + 1 + 1 + 1 + 1, 13, none⟩ = some (.slice (some ⟨g + 1 + 1 + 1 + 1 + 1 + 1, 0, none⟩) 4 4) ∧ W.cell? ⟨g + 1 + 1 + 1 + 1 + 1 + 1 + 1 + 1 + 1, 14, none⟩ = some (.slice (some ⟨g + 1 + 1 + 1 + 1 + 1 + 1 + 1, 0, none⟩) 4 4) ∧ W.cell? ⟨g + 1 + 1 + 1 + 1 + 1 + 1 + 1 + 1 + 1, 15, none⟩ = some (.slice (some ⟨g + 1 + 1 + 1 + 1 + 1 + 1 + 1 + 1, 0, none⟩) 4 4) ∧ W.cell? ⟨g + 1 + 1 + 1 + 1 + 1 + 1 + 1 + 1 + 1 + 1 + 1 + 1 + 1 + 1 + 1 + 1 + 1 + 1 + 1, 12, none⟩ = some (.int .i64 2) ∧ W.cell? ⟨g + 1 + 1 + 1 + 1 + 1 + 1 + 1 + 1 + 1 + 1 + 1 + 1 + 1 + 1 + 1 + 1 + 1 + 1 + 1, 13, none⟩ = some (.slice (some ⟨g + 1 + 1 + 1 + 1 + 1 + 1 + 1 + 1 + 1 + 1 + 1 + 1 + 1 + 1 + 1 + 1, 0, none⟩) 4 4) ∧ W.cell? ⟨g + 1 + 1 + 1 + 1 + 1 + 1 + 1 + 1 + 1 + 1 + 1 + 1 + 1 + 1 + 1 + 1 + 1 + 1 + 1, 14, none⟩ = some (.slice (some ⟨g + 1 + 1 + 1 + 1 + 1 + 1 + 1 + 1 + 1 + 1 + 1 + 1 + 1 + 1 + 1 + 1 + 1, 0, none⟩) 4 4) ∧ W.cell? ⟨g + 1 + 1 + 1 + 1 + 1 + 1 + 1 + 1 + 1 + 1 + 1 + 1 + 1 + 1 + 1 + 1 + 1 + 1 + 1, 15, none⟩ = some (.slice (some ⟨g + 1 + 1 + 1 + 1 + 1 + 1 + 1 + 1 + 1 + 1 + 1 + 1 + 1 + 1 + 1 + 1 + 1 + 1, 0, none⟩) 4 4)) :=
      Lib.hid fun W b => ⟨(b.cell (p := ⟨g + 1 + 1 + 1 + 1 + 1 + 1 + 1 + 1 + 1, 12, none⟩) l1).trans d0, (b.cell (p := ⟨g + 1 + 1 + 1 + 1 + 1 + 1 + 1 + 1 + 1, 13, none⟩) l1).trans d1, (b.cell (p := ⟨g + 1 + 1 + 1 + 1 + 1 + 1 + 1 + 1 + 1, 14, none⟩) l1).trans d2, (b.cell (p := ⟨g + 1 + 1 + 1 + 1 + 1 + 1 + 1 + 1 + 1, 15, none⟩) l1).trans d3, (b.cell (p := ⟨g + 1 + 1 + 1 + 1 + 1 + 1 + 1 + 1 + 1 + 1 + 1 + 1 + 1 + 1 + 1 + 1 + 1 + 1 + 1, 12, none⟩) l2).trans d4, (b.cell (p := ⟨g + 1 + 1 + 1 + 1 + 1 + 1 + 1 + 1 + 1 + 1 + 1 + 1 + 1 + 1 + 1 + 1 + 1 + 1 + 1, 13, none⟩) l2).trans d5, (b.cell (p := ⟨g + 1 + 1 + 1 + 1 + 1 + 1 + 1 + 1 + 1 + 1 + 1 + 1 + 1 + 1 + 1 + 1 + 1 + 1 + 1, 14, none⟩) l2).trans d6, (b.cell (p := ⟨g + 1 + 1 + 1 + 1 + 1 + 1 + 1 + 1 + 1 + 1 + 1 + 1 + 1 + 1 + 1 + 1 + 1 + 1 + 1, 15, none⟩) l2).trans d7⟩
    have r0 : Rd v (.slice (some ⟨g + 1 + 1 + 1 + 1 + 1 + 1, 0, none⟩) 4 4) 4 (four 0 1 0 1) := (Rd.of_heap (f := (four 0 1 0 1)) H6 (by intro i hi; rcases (show i = 0 ∨ i = 1 ∨ i = 2 ∨ i = 3 by omega) with rfl | rfl | rfl | rfl <;> rfl))
    have r1 : Rd v (.slice (some ⟨g + 1 + 1 + 1 + 1 + 1 + 1 + 1, 0, none⟩) 4 4) 4 (four 2 3 0 1) := (Rd.of_heap (f := (four 2 3 0 1)) H7 (by intro i hi; rcases (show i = 0 ∨ i = 1 ∨ i = 2 ∨ i = 3 by omega) with rfl | rfl | rfl | rfl <;> rfl))
    have r2 : Rd v (.slice (some ⟨g + 1 + 1 + 1 + 1 + 1 + 1 + 1 + 1, 0, none⟩) 4 4) 4 (four 5 3 2 1) := (Rd.of_heap (f := (four 5 3 2 1)) H8 (by intro i hi; rcases (show i = 0 ∨ i = 1 ∨ i = 2 ∨ i = 3 by omega) with rfl | rfl | rfl | rfl <;> rfl))
    have q0 : Rd v (.slice (some ⟨g + 1 + 1 + 1 + 1 + 1 + 1 + 1 + 1 + 1 + 1 + 1 + 1 + 1 + 1 + 1 + 1, 0, none⟩) 4 4) 4 (four 0 1 1 0) := (Rd.of_heap (f := (four 0 1 1 0)) H16 (by intro i hi; rcases (show i = 0 ∨ i = 1 ∨ i = 2 ∨ i = 3 by omega) with rfl | rfl | rfl | rfl <;> rfl))
    have q1 : Rd v (.slice (some ⟨g + 1 + 1 + 1 + 1 + 1 + 1 + 1 + 1 + 1 + 1 + 1 + 1 + 1 + 1 + 1 + 1 + 1, 0, none⟩) 4 4) 4 (four 3 2 1 0) := (Rd.of_heap (f := (four 3 2 1 0)) H17 (by intro i hi; rcases (show i = 0 ∨ i = 1 ∨ i = 2 ∨ i = 3 by omega) with rfl | rfl | rfl | rfl <;> rfl))
    have q2 : Rd v (.slice (some ⟨g + 1 + 1 + 1 + 1 + 1 + 1 + 1 + 1 + 1 + 1 + 1 + 1 + 1 + 1 + 1 + 1 + 1 + 1, 0, none⟩) 4 4) 4 (four 5 3 2 1) := (Rd.of_heap (f := (four 5 3 2 1)) H18 (by intro i hi; rcases (show i = 0 ∨ i = 1 ∨ i = 2 ∨ i = 3 by omega) with rfl | rfl | rfl | rfl <;> rfl))
    have D0 : Below v.heap.size v v.drew := (Below.refl _ v).drew
    have RQ := Lib.hid (And.intro r0 (And.intro r1 (And.intro r2 (And.intro q0 (And.intro q1 q2)))))
    clear r0 r1 r2 q0 q1 q2 H0 H1 H2 H3 H4 H5 H6 H7 H8 H9 H10 H11 H12 H13 H14 H15 H16 H17 H18 H19
    go_region_held3 (fun w' => w'.cell? ⟨g + 1 + 1 + 1 + 1 + 1 + 1 + 1 + 1 + 1, 12, none⟩ = some (.int .i64 2) ∧ w'.cell? ⟨g + 1 + 1 + 1 + 1 + 1 + 1 + 1 + 1 + 1, 13, none⟩ = some (.slice (some ⟨g + 1 + 1 + 1 + 1 + 1 + 1, 0, none⟩) 4 4) ∧ w'.cell? ⟨g + 1 + 1 + 1 + 1 + 1 + 1 + 1 + 1 + 1, 14, none⟩ = some (.slice (some ⟨g + 1 + 1 + 1 + 1 + 1 + 1 + 1, 0, none⟩) 4 4) ∧ w'.cell? ⟨g + 1 + 1 + 1 + 1 + 1 + 1 + 1 + 1 + 1, 15, none⟩ = some (.slice (some ⟨g + 1 + 1 + 1 + 1 + 1 + 1 + 1 + 1, 0, none⟩) 4 4) ∧ w'.cell? ⟨g + 1 + 1 + 1 + 1 + 1 + 1 + 1 + 1 + 1 + 1 + 1 + 1 + 1 + 1 + 1 + 1 + 1 + 1 + 1, 12, none⟩ = some (.int .i64 2) ∧ w'.cell? ⟨g + 1 + 1 + 1 + 1 + 1 + 1 + 1 + 1 + 1 + 1 + 1 + 1 + 1 + 1 + 1 + 1 + 1 + 1 + 1, 13, none⟩ = some (.slice (some ⟨g + 1 + 1 + 1 + 1 + 1 + 1 + 1 + 1 + 1 + 1 + 1 + 1 + 1 + 1 + 1 + 1, 0, none⟩) 4 4) ∧ w'.cell? ⟨g + 1 + 1 + 1 + 1 + 1 + 1 + 1 + 1 + 1 + 1 + 1 + 1 + 1 + 1 + 1 + 1 + 1 + 1 + 1, 14, none⟩ = some (.slice (some ⟨g + 1 + 1 + 1 + 1 + 1 + 1 + 1 + 1 + 1 + 1 + 1 + 1 + 1 + 1 + 1 + 1 + 1, 0, none⟩) 4 4) ∧ w'.cell? ⟨g + 1 + 1 + 1 + 1 + 1 + 1 + 1 + 1 + 1 + 1 + 1 + 1 + 1 + 1 + 1 + 1 + 1 + 1 + 1, 15, none⟩ = some (.slice (some ⟨g + 1 + 1 + 1 + 1 + 1 + 1 + 1 + 1 + 1 + 1 + 1 + 1 + 1 + 1 + 1 + 1 + 1 + 1, 0, none⟩) 4 4))
      (first | with_reducible exact k1 | go_keep)
      (first
        | (go_at_call 15; refine (make_ok v.drew 2 _ _ _ 4 (four 0 1 0 1) (four 2 3 0 1) (four 5 3 2 1) (RQ.out.1.below D0 (Nat.le_refl _)) (RQ.out.2.1.below D0 (Nat.le_refl _)) (RQ.out.2.2.1.below D0 (Nat.le_refl _)) pair_good pair_perm).mono ?_; rintro e v3 ⟨T3, X3, C3, o, kk, rfl, R3, O1, bb⟩; have hk1 : kk = 2 := (pair_orb O1).1; subst hk1; have E3 : Below v.heap.size v v3 := D0.trans (bb.mono (Nat.le_refl _)); have OO := Lib.hid O1; have k1 := KK.out v3 E3; clear bb O1)
        | (go_at_call 16; refine (same_ok v3 2 _ _ _ _ _ _ 4 o (dualX (four 2 3 0 1)) (four 5 3 2 1) (four 0 1 1 0) (four 3 2 1 0) (four 5 3 2 1) (by omega) R3.ot.rd R3.ox.rd R3.oc.rd (RQ.out.2.2.2.1.below E3 (Nat.le_refl _)) (RQ.out.2.2.2.2.1.below E3 (Nat.le_refl _)) (RQ.out.2.2.2.2.2.below E3 (Nat.le_refl _)) (four_cases4 (pair_orb OO.out).2.1 (pair_orb OO.out).2.2.1 (pair_orb OO.out).2.2.2.1 (pair_orb OO.out).2.2.2.2) (four_cases4 rfl rfl rfl rfl) (fun _ _ => rfl)).mono ?_; rintro e v4 ⟨rfl, bb⟩; have E4 : Below v.heap.size v v4 := E3.trans (bb.mono E3.size); have k1 := KK.out v4 E4; clear bb))
    go_wp2_with fail
    go_ret
    exact ⟨rfl, B1.trans (E4.mono B1.size)⟩
end Go.Proofs.Ytbnghpemlcmogaa.Ro
