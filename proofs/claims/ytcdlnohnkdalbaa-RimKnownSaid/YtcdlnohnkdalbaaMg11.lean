/- Walks: Shared, of the reference's chapter 3. Plain: how a face is parted between two vertices: the two halves. Plain: the edge of the known nets, its face parted. -/
import Derived.Test.YtcdlnohnkdalbaaMg10
import Derived.Test.YtcdlnohnkdalbaaMg9
namespace Go.Proofs.Ytcdlnohnkdalbaa.Ro
open Go.RowKit Go.Proofs Go.Maps
set_option linter.unusedVariables false
set_option maxRecDepth 100000
set_option linter.unusedSimpArgs false

/-- has a round a dart that begins at a vertex -/
def Meets (m : Nat) (o t : Nat → Int) (f v : Int) : Prop := ∃ d, d < m ∧ o d = f ∧ t d = v
/-- what Shared tells of rounds -/
def Shares (m : Nat) (o t : Nat → Int) (k : Nat) (s v r : Int) : Bool → Prop
  | true => s ≠ v ∧ ∃ f : Nat, r = (f : Int) ∧ f < k ∧ Meets m o t f s ∧ Meets m o t f v ∧ ∀ g : Nat, g < f → ¬ (Meets m o t g s ∧ Meets m o t g v)
  | false => r = 0 ∧ (s = v ∨ ∀ g : Nat, g < k → ¬ (Meets m o t g s ∧ Meets m o t g v))
def SharedPost (B : Nat) (w : World) (m : Nat) (x t : Nat → Int) (s v : Int) (e : Ending) (w' : World) : Prop :=
  ∃ o k r b, Orb (bh x) m o k ∧ e = .returned (.tuple #[.int .i64 r, .bool b]) ∧ Shares m o t (max k 1) s v r b ∧ Below B w w'

set_option maxHeartbeats 3200000 in
theorem refShared_ok (w : World) (N : Int) (T X C : Value) (m : Nat) (t x : Nat → Int) (hT : Rd w T m t) (hX : Rd w X m x) (hm : m ≤ 240) (hev : m % 2 = 0) (hn : ∀ d, d < m → 0 ≤ x d) (pf : Perm (bh x) m) (s v : Int) :
    Calls Try.prog 21 #[.agg #[.int .i64 N, T, X, C], .int .i64 s, .int .i64 v] w (SharedPost w.heap.size w m x t s v) := by
  obtain ⟨TA, tp, rfl, -⟩ := id hT
  obtain ⟨XA, xp, rfl, -⟩ := id hX
  go_enter Try.func21, Try.ntmps21
  go_wp2_with fail
  have B1 : Below w.heap.size w (w.alloc (.cells #[.int .i64 N, .slice TA m tp, .slice XA m xp, C] 25)) := (Below.refl _ w).alloc (Nat.le_refl _) _
  have X1 : (w.alloc (.cells #[.int .i64 N, .slice TA m tp, .slice XA m xp, C] 25)).heap[w.heap.size]? = some (.cells #[.int .i64 N, .slice TA m tp, .slice XA m xp, C] 25 (0, 0)) := heap_alloc_new _ _
  generalize (w.alloc (.cells #[.int .i64 N, .slice TA m tp, .slice XA m xp, C] 25)) = w1 at *
  have c0 : w1.cell? ⟨w.heap.size, 0, none⟩ = some (.int .i64 N) := blk_cell X1 0
  have c1 : w1.cell? ⟨w.heap.size, 1, none⟩ = some (.slice TA m tp) := blk_cell X1 1
  have c2 : w1.cell? ⟨w.heap.size, 2, none⟩ = some (.slice XA m xp) := blk_cell X1 2
  have c3 : w1.cell? ⟨w.heap.size, 3, none⟩ = some C := blk_cell X1 3
  refine (refFaces_ok _ N _ _ _ m t x (hT.below B1 (Nat.le_refl _)) (hX.below B1 (Nat.le_refl _)) (by omega) hev hn pf).mono ?_
  rintro e w2 ⟨fb, o, k, rfl, F2, nF, O, km, b2⟩
  have B2 := B1.trans (b2.mono B1.size)
  have X2 : w2.heap[w.heap.size]? = some (.cells #[.int .i64 N, .slice TA m tp, .slice XA m xp, C] 25 (0, 0)) := (b2.block _ (blk_lt X1)).trans X1
  obtain ⟨F, hF⟩ : ∃ F : Nat, F = max k 1 := ⟨_, rfl⟩
  rw [← hF]
  have HF := Lib.hid hF
  have hFm : F ≤ 240 := by omega
  clear hF c0 c1 c2 c3 X1 b2 B1
  go_wp2_with fail
  obtain ⟨p, hp⟩ : ∃ p, p = w.heap.size := ⟨_, rfl⟩
  rw [← hp] at X2 ⊢
  have hle : p ≤ w.heap.size := by omega
  clear hp
  have R2 := F2.rd
  have lp : p < w2.heap.size := blk_lt X2
  have OO := Lib.hid O
  clear F2 O
  go_loopw [10] (fun u wr => ∃ i : Nat, u = .int .i64 (i : Int) ∧ i ≤ F ∧ (∀ g : Nat, g < i → ¬ (Meets m o t g s ∧ Meets m o t g v)) ∧ Below w2.heap.size w2 wr) (fun u _ => F - (intOf u).toNat)
  case atStart => exact ⟨0, rfl, Nat.zero_le _, fun j h => by omega, Below.refl _ _⟩
  case round =>
    obtain ⟨i, rfl, hi, hno, E⟩ := hrel
    have HN := Lib.hid hno
    clear hno
    have Xr : wr.heap[p]? = some (.cells #[.int .i64 N, .slice TA m tp, .slice XA m xp, C] 25 (0, 0)) := (E.block p lp).trans X2
    have Rr := R2.below E (Nat.le_refl _)
    have BB := B2.trans (E.mono B2.size)
    have Tr := hT.below BB (Nat.le_refl _)
    have c0 : wr.cell? ⟨p, 0, none⟩ = some (.int .i64 N) := blk_cell Xr 0
    have c1 : wr.cell? ⟨p, 1, none⟩ = some (.slice TA m tp) := blk_cell Xr 1
    have c2 : wr.cell? ⟨p, 2, none⟩ = some (.slice XA m xp) := blk_cell Xr 2
    have c3 : wr.cell? ⟨p, 3, none⟩ = some C := blk_cell Xr 3
    by_cases hlt : i < F
    · have d1 : (i : Int) < (F : Int) := by omega
      by_cases hsv : s = v
      · have q0 : (s != v) = false := by simpa using hsv
        have HS := Lib.hid hsv
        clear hsv
        go_wp2_with fail
        go_ret2
        exact ⟨o, k, 0, false, OO.out, rfl, ⟨rfl, .inl HS.out⟩, by first | exact BB | exact BB.mono hle⟩
      · have q0 : (s != v) = true := by simpa using hsv
        have HS := Lib.hid hsv
        clear hsv
        go_wp2_with fail
        refine (meets_any wr N _ _ _ _ m t o (i : Int) s Tr Rr (by omega)).mono ?_
        rintro e w5 ⟨b, rfl, hb, b5⟩
        have E5 := E.trans (b5.mono E.size)
        have X5 : w5.heap[p]? = some (.cells #[.int .i64 N, .slice TA m tp, .slice XA m xp, C] 25 (0, 0)) := (E5.block p lp).trans X2
        have R5 := R2.below E5 (Nat.le_refl _)
        have B5 := B2.trans (E5.mono B2.size)
        have T5 := hT.below B5 (Nat.le_refl _)
        clear c0 c1 c2 c3 Xr Rr Tr BB E b5
        have c0 : w5.cell? ⟨p, 0, none⟩ = some (.int .i64 N) := blk_cell X5 0
        have c1 : w5.cell? ⟨p, 1, none⟩ = some (.slice TA m tp) := blk_cell X5 1
        have c2 : w5.cell? ⟨p, 2, none⟩ = some (.slice XA m xp) := blk_cell X5 2
        have c3 : w5.cell? ⟨p, 3, none⟩ = some C := blk_cell X5 3
        have HM := Lib.hid hb
        clear hb
        cases b with
        | false =>
          have H2 : Hid (∀ g : Nat, g < i + 1 → ¬ (Meets m o t g s ∧ Meets m o t g v)) := Lib.hid fun g hg => by
            rcases Nat.lt_or_ge g i with q | q
            · exact HN.out g q
            · rw [show g = i by omega]; exact fun h => by have := HM.out.2 h.1; simp at this
          go_wp2_with fail
          go_roundw
          case rel => exact ⟨i + 1, by simp, by omega, H2.out, E5⟩
          case measure => simp [intOf]; omega
        | true =>
          go_wp2_with fail
          refine (meets_any w5 N _ _ _ _ m t o (i : Int) v T5 R5 (by omega)).mono ?_
          rintro e w6 ⟨b, rfl, hb, b6⟩
          have E6 := E5.trans (b6.mono E5.size)
          have B6 := B2.trans (E6.mono B2.size)
          have HV := Lib.hid hb
          clear hb c0 c1 c2 c3 X5 R5 T5 b6
          cases b with
          | false =>
            have H2 : Hid (∀ g : Nat, g < i + 1 → ¬ (Meets m o t g s ∧ Meets m o t g v)) := Lib.hid fun g hg => by
              rcases Nat.lt_or_ge g i with q | q
              · exact HN.out g q
              · rw [show g = i by omega]; exact fun h => by have := HV.out.2 h.2; simp at this
            go_wp2_with fail
            go_roundw
            case rel => exact ⟨i + 1, by simp, by omega, H2.out, E6⟩
            case measure => simp [intOf]; omega
          | true =>
            go_wp2_with fail
            go_ret2
            exact ⟨o, k, (i : Int), true, OO.out, rfl, ⟨HS.out, i, rfl, by rw [← HF.out]; exact hlt, HM.out.1 trivial, HV.out.1 trivial, HN.out⟩, by first | exact B6 | exact B6.mono hle⟩
    · have d1 : ¬ ((i : Int) < (F : Int)) := by omega
      obtain rfl : F = i := by omega
      go_wp2_with fail
      go_ret2
      exact ⟨o, k, 0, false, OO.out, rfl, ⟨rfl, .inr (by rw [← HF.out]; exact HN.out)⟩, by first | exact BB | exact BB.mono hle⟩
end Go.Proofs.Ytcdlnohnkdalbaa.Ro
namespace Go.Proofs.Ytcdlnohnkdalbaa.Ro
open Go.RowKit Go.Proofs Go.Maps
set_option linter.unusedVariables false
set_option maxRecDepth 100000
set_option linter.unusedSimpArgs false

theorem Orb.le {f : Nat → Nat} {m c : Nat} {o : Nat → Int} (h : Orb f m o c) : c ≤ m := by
  apply apart_le c (fun j => if hj : j < c then (h.each j hj).choose else 0)
  · intro j hj
    simp only [hj, dif_pos]
    exact (h.each j hj).choose_spec.1
  · intro i j hij hj e
    have hi : i < c := by omega
    simp only [hj, hi, dif_pos] at e
    have a := (h.each i hi).choose_spec.2
    have b := (h.each j hj).choose_spec.2
    rw [e, b] at a
    omega
theorem Rnd.mod {f : Nat → Nat} {d k : Nat} (h : Rnd f d k) (j : Nat) : it f (j % k) d = it f j d := by
  have hk := h.pos
  have : ∀ q i, it f (i + q * k) d = it f i d := by
    intro q
    induction q with
    | zero => intro i; rw [Nat.zero_mul, Nat.add_zero]
    | succ q ih => intro i; rw [Nat.add_mul, Nat.one_mul, ← Nat.add_assoc, it_add, h.back, ih]
  have e := this (j / k) (j % k)
  rw [Nat.mul_comm, Nat.mod_add_div] at e
  exact e.symm
theorem Rnd.inj {f : Nat → Nat} {d k i j : Nat} (h : Rnd f d k) (hi : i < k) (hj : j < k) (e : it f i d = it f j d) : i = j := by
  rcases Nat.lt_trichotomy i j with q | q | q
  · exact absurd e (h.apart i j q hj)
  · exact q
  · exact absurd e.symm (h.apart j i q hi)
theorem Rnd.shift {f : Nat → Nat} {d k a : Nat} (h : Rnd f d k) {i j : Nat} (hi : i < k) (hj : j < k) (e : it f (a + i) d = it f (a + j) d) : i = j := by
  have hk := h.pos
  rw [← h.mod, ← h.mod (a + j)] at e
  have e2 := h.inj (Nat.mod_lt _ hk) (Nat.mod_lt _ hk) e
  have e3 : (a % k + i) % k = (a % k + j) % k := by rw [Nat.mod_add_mod, Nat.mod_add_mod]; exact e2
  have ha := Nat.mod_lt a hk
  generalize a % k = b at *
  have low : ∀ u, u < k → (b + u) % k = if b + u < k then b + u else b + u - k := fun u hu => by
    split
    · exact Nat.mod_eq_of_lt ‹_›
    · rw [Nat.mod_eq_sub_mod (by omega), Nat.mod_eq_of_lt (by omega)]
  rw [low i hi, low j hj] at e3
  split at e3 <;> split at e3 <;> omega
/-- what is about one is a round's -/
theorem Orb.on {f : Nat → Nat} {m c d k y : Nat} {o : Nat → Int} (h : Orb f m o c) (R : Rnd f d k) (hd : d < m) (hy : y < m) (e : o d = o y) : ∃ j, j < k ∧ Ro.it f j d = y := by
  obtain ⟨j, hj⟩ := h.one d y hd hy e
  exact ⟨j % k, Nat.mod_lt _ R.pos, by rw [R.mod]; exact hj⟩

theorem Shares.one {m k : Nat} {o o' t : Nat → Int} {s v r r' : Int} {b b' : Bool} (h : Shares m o t k s v r b) (h' : Shares m o' t k s v r' b') (e : ∀ d, d < m → o d = o' d) : r = r' ∧ b = b' := by
  have M : ∀ f u, Meets m o t f u ↔ Meets m o' t f u := fun f u => ⟨fun ⟨d, h1, h2, h3⟩ => ⟨d, h1, by rw [← e d h1]; exact h2, h3⟩, fun ⟨d, h1, h2, h3⟩ => ⟨d, h1, by rw [e d h1]; exact h2, h3⟩⟩
  cases b <;> cases b'
  · exact ⟨h.1.trans h'.1.symm, rfl⟩
  · obtain ⟨h1, f, rfl, h2, h3, h4, _⟩ := h'
    rcases h.2 with q | q
    · exact absurd q h1
    · exact absurd ⟨(M f s).2 h3, (M f v).2 h4⟩ (q f h2)
  · obtain ⟨h1, f, rfl, h2, h3, h4, _⟩ := h
    rcases h'.2 with q | q
    · exact absurd q h1
    · exact absurd ⟨(M f s).1 h3, (M f v).1 h4⟩ (q f h2)
  · obtain ⟨h1, f, rfl, h2, h3, h4, h5⟩ := h
    obtain ⟨_, g, rfl, h7, h8, h9, h10⟩ := h'
    rcases Nat.lt_trichotomy f g with q | q | q
    · exact absurd ⟨(M f s).1 h3, (M f v).1 h4⟩ (h10 f q)
    · exact ⟨by rw [q], rfl⟩
    · exact absurd ⟨(M g s).2 h8, (M g v).2 h9⟩ (h5 g q)
theorem First.one {x x' : Nat → Int} {n : Nat} {v r r' : Int} (h : First x n v r) (h' : First x' n v r') (e : ∀ j, j < n → x j = x' j) : r = r' := by
  rcases h with ⟨rfl, h1⟩ | ⟨i, rfl, h1, h2, h3⟩ <;> rcases h' with ⟨rfl, k1⟩ | ⟨j, rfl, k1, k2, k3⟩
  · rfl
  · exact absurd ((e j k1).trans k2) (h1 j k1)
  · exact absurd ((e i h1).symm.trans h2) (k1 i h1)
  · rcases Nat.lt_trichotomy i j with q | q | q
    · exact absurd ((e i h1).symm.trans h2) (k3 i q)
    · rw [q]
    · exact absurd ((e j k1).trans k2) (h3 j q)

/-- where a face is parted: its least dart e0; it is l darts long; a darts behind e0 the first one of s; r darts behind that the first one of v -/
structure Halved (m : Nat) (x t o : Nat → Int) (f : Nat) (s v : Int) (e0 l a r : Nat) : Prop where
  lt : e0 < m
  face : o e0 = f
  least : ∀ j, j < e0 → o j ≠ f
  rnd : Rnd (bh x) e0 l
  alt : a < l
  here : t (it (bh x) a e0) = s
  aleast : ∀ j, j < a → t (it (bh x) j e0) ≠ s
  rpos : 0 < r
  rlt : r < l
  there : t (it (bh x) (a + r) e0) = v
  rleast : ∀ j, j < r → t (it (bh x) (a + j) e0) ≠ v
/-- each dart's face then, told up to place j -/
noncomputable def halfO (x o : Nat → Int) (K : Int) (e0 a r j : Nat) : Nat → Int := open Classical in fun d => if ∃ i, r ≤ i ∧ i < j ∧ d = it (bh x) (a + i) e0 then K else o d
theorem halfO_start (x o : Nat → Int) (K : Int) (e0 a r : Nat) : halfO x o K e0 a r r = o := by
  funext d
  unfold halfO
  rw [if_neg]
  rintro ⟨i, h1, h2, _⟩
  omega
theorem halfO_step (x o : Nat → Int) (K : Int) (e0 a : Nat) {r j : Nat} (h : r ≤ j) : upd (halfO x o K e0 a r j) (it (bh x) (a + j) e0) K = halfO x o K e0 a r (j + 1) := by
  funext d
  by_cases e : d = it (bh x) (a + j) e0
  · rw [e, upd_same]
    unfold halfO
    rw [if_pos ⟨j, h, by omega, rfl⟩]
  · rw [upd_ne e]
    unfold halfO
    by_cases q : ∃ i, r ≤ i ∧ i < j ∧ d = it (bh x) (a + i) e0
    · obtain ⟨i, h1, h2, h3⟩ := q
      rw [if_pos ⟨i, h1, h2, h3⟩, if_pos ⟨i, h1, by omega, h3⟩]
    · rw [if_neg q, if_neg]
      rintro ⟨i, h1, h2, h3⟩
      rcases Nat.lt_or_ge i j with z | z
      · exact q ⟨i, h1, z, h3⟩
      · rw [show i = j by omega] at h3; exact e h3

/-- what Split hands back -/
def SplitPost (B : Nat) (w : World) (m : Nat) (x t : Nat → Int) (s v : Int) (e : Ending) (w' : World) : Prop :=
  ∃ o k, Orb (bh x) m o k ∧ Below B w w' ∧
    ((Shares m o t (max k 1) s v 0 false ∧ e = .returned (.tuple #[.slice none 0 0, .int .i64 0, .int .i64 0, .int .i64 0, .bool false])) ∨
     (∃ (f e0 l a r b cap : Nat), Shares m o t (max k 1) s v (f : Int) true ∧ Halved m x t o f s v e0 l a r ∧
       e = .returned (.tuple #[.slice (some ⟨b, 0, none⟩) m cap, .int .i64 ((max k 1 + 1 : Nat) : Int), .int .i64 (f : Int), .int .i64 ((max k 1 : Nat) : Int), .bool true]) ∧
       Ow w' (.slice (some ⟨b, 0, none⟩) m cap) m (halfO x o ((max k 1 : Nat) : Int) e0 a r l) ∧ B ≤ b))

theorem Halved.one {m : Nat} {x t o o' : Nat → Int} {f : Nat} {s v : Int} {e0 l a r e0' l' a' r' : Nat} (h : Halved m x t o f s v e0 l a r) (h' : Halved m x t o' f s v e0' l' a' r') (e : ∀ d, d < m → o d = o' d) : e0 = e0' ∧ l = l' ∧ a = a' ∧ r = r' := by
  have i1 : e0 = e0' := by
    rcases Nat.lt_trichotomy e0 e0' with q | q | q
    · exact absurd ((e e0 h.lt).symm.trans h.face) (h'.least e0 q)
    · exact q
    · exact absurd ((e e0' h'.lt).trans h'.face) (h.least e0' q)
  subst i1
  have i2 := h.rnd.one h'.rnd
  subst i2
  have i3 : a = a' := by
    rcases Nat.lt_trichotomy a a' with q | q | q
    · exact absurd h.here (h'.aleast a q)
    · exact q
    · exact absurd h'.here (h.aleast a' q)
  subst i3
  refine ⟨rfl, rfl, rfl, ?_⟩
  rcases Nat.lt_trichotomy r r' with q | q | q
  · exact absurd h.there (h'.rleast r q)
  · exact q
  · exact absurd h'.there (h.rleast r' q)
theorem halfO_same {m : Nat} {x o o' : Nat → Int} (K : Int) (e0 a r l : Nat) (e : ∀ d, d < m → o d = o' d) {d : Nat} (hd : d < m) : halfO x o K e0 a r l d = halfO x o' K e0 a r l d := by
  unfold halfO
  split
  · rfl
  · exact e d hd

section
variable {m f e0 l a r k : Nat} {x t o : Nat → Int} {s v : Int}
theorem Halved.in_ (h : Halved m x t o f s v e0 l a r) (O : Orb (bh x) m o k) (p : Perm (bh x) m) (j : Nat) : o (it (bh x) j e0) = f := by rw [O.it p h.lt]; exact h.face
/-- a dart of the face stands j darts behind the first one of s -/
theorem Halved.place (h : Halved m x t o f s v e0 l a r) (O : Orb (bh x) m o k) (p : Perm (bh x) m) {d : Nat} (hd : d < m) (e : o d = f) : ∃ j, j < l ∧ d = it (bh x) (a + j) e0 := by
  obtain ⟨i, h1, h2⟩ := O.on h.rnd h.lt hd (h.face.trans e.symm)
  have := h.alt
  refine ⟨(i + l - a) % l, Nat.mod_lt _ h.rnd.pos, ?_⟩
  rw [← h.rnd.mod, Nat.add_mod_mod, show a + (i + l - a) = i + l by omega, Nat.add_mod_right, Nat.mod_eq_of_lt h1, h2]
theorem Halved.value (h : Halved m x t o f s v e0 l a r) (O : Orb (bh x) m o k) (p : Perm (bh x) m) (K : Int) {j : Nat} (hj : j < l) : halfO x o K e0 a r l (it (bh x) (a + j) e0) = if r ≤ j then K else f := by
  unfold halfO
  by_cases q : r ≤ j
  · rw [if_pos ⟨j, q, hj, rfl⟩, if_pos q]
  · rw [if_neg, if_neg q, h.in_ O p]
    rintro ⟨i, h1, h2, h3⟩
    have := h.rnd.shift h2 hj h3.symm
    omega
theorem Halved.other (h : Halved m x t o f s v e0 l a r) (O : Orb (bh x) m o k) (p : Perm (bh x) m) (K : Int) {d : Nat} (e : o d ≠ f) : halfO x o K e0 a r l d = o d := by
  unfold halfO
  rw [if_neg]
  rintro ⟨i, h1, h2, h3⟩
  rw [h3, h.in_ O p] at e
  exact e rfl
/-- where a shared face is parted -/
theorem Shares.halved {F : Nat} (h : Shares m o t F s v (f : Int) true) (O : Orb (bh x) m o k) (p : Perm (bh x) m) : ∃ e0 l a r, Halved m x t o f s v e0 l a r := by
  obtain ⟨hsv, g, hg, hF, ⟨d1, u1, u2, u3⟩, ⟨d2, q1, q2, q3⟩, _⟩ := h
  obtain rfl : f = g := by omega
  obtain ⟨e0, ⟨z1, z2⟩, z3⟩ := least_of (P := fun d => d < m ∧ o d = (f : Int)) d1 ⟨u1, u2⟩
  obtain ⟨l, R⟩ : ∃ l, Rnd (bh x) e0 l := by
    obtain ⟨j, hj⟩ := O.one (bh x e0) e0 (p.lt _ z1) z1 (O.fwd e0 z1)
    have h1 : it (bh x) (j + 1) e0 = e0 := by rw [it_in]; exact hj
    obtain ⟨l, ⟨h2, h3⟩, h4⟩ := least_of (P := fun l => 0 < l ∧ it (bh x) l e0 = e0) (j + 1) ⟨by omega, h1⟩
    refine ⟨l, h2, h3, fun i j hij hj e => ?_⟩
    have back : ∀ n u v, u < m → v < m → it (bh x) n u = it (bh x) n v → u = v := by
      intro n
      induction n with
      | zero => intro u v _ _ h; exact h
      | succ n ih =>
        intro u v hu hv h
        exact ih u v hu hv (p.inj _ _ (p.it_lt hu n) (p.it_lt hv n) h)
    have e2 : it (bh x) i e0 = it (bh x) i (it (bh x) (j - i) e0) := by rw [← it_add, show i + (j - i) = j by omega]; exact e
    exact h4 (j - i) (by omega) ⟨by omega, (back i _ _ z1 (p.it_lt z1 _) e2).symm⟩
  obtain ⟨i1, w1, w2⟩ := O.on R z1 u1 (z2.trans u2.symm)
  obtain ⟨i2, w3, w4⟩ := O.on R z1 q1 (z2.trans q2.symm)
  obtain ⟨a, ⟨y1, y2⟩, y3⟩ := least_of (P := fun j => j < l ∧ t (it (bh x) j e0) = s) i1 ⟨w1, by rw [w2]; exact u3⟩
  have hthere : t (it (bh x) (a + (i2 + l - a) % l) e0) = v := by
    rw [← R.mod, Nat.add_mod_mod, show a + (i2 + l - a) = i2 + l by omega, Nat.add_mod_right, Nat.mod_eq_of_lt w3, w4]; exact q3
  obtain ⟨r, ⟨x1, x2⟩, x3⟩ := least_of (P := fun j => j < l ∧ t (it (bh x) (a + j) e0) = v) ((i2 + l - a) % l) ⟨Nat.mod_lt _ R.pos, hthere⟩
  refine ⟨e0, l, a, r, z1, z2, fun j hj e => z3 j hj ⟨by omega, e⟩, R, y1, y2, fun j hj e => y3 j hj ⟨by omega, e⟩, ?_, x1, x2, fun j hj e => x3 j hj ⟨by omega, e⟩⟩
  rcases Nat.eq_zero_or_pos r with q | q
  · subst q
    rw [Nat.add_zero, y2] at x2
    exact absurd x2 hsv
  · exact q
end
end Go.Proofs.Ytcdlnohnkdalbaa.Ro
namespace Go.Proofs.Ytcdlnohnkdalbaa.Ro
open Go.RowKit Go.Proofs Go.Maps
set_option linter.unusedVariables false
set_option maxRecDepth 100000
set_option linter.unusedSimpArgs false

theorem known_orb {o : Nat → Int} {k : Nat} (O : Orb (bh (two 0 1)) 2 o k) : k = 1 ∧ o 0 = 0 ∧ o 1 = 0 := by
  have h0 : o 0 = 0 := by
    have l := O.lo 0 (by omega)
    rcases Int.lt_or_eq_of_le l.1 with q | q
    · obtain ⟨y, h1, _⟩ := O.first 0 (by omega) 0 q
      omega
    · exact q.symm
  have h1 : o 1 = 0 := (O.fwd 0 (by omega)).trans h0
  have hk : k = 1 := by
    have l := O.lo 0 (by omega)
    rcases Nat.lt_or_ge 1 k with q | q
    · obtain ⟨y, z1, z2⟩ := O.each 1 q
      rcases (show y = 0 ∨ y = 1 by omega) with rfl | rfl <;> omega
    · omega
  exact ⟨hk, h0, h1⟩
theorem known_shares {o : Nat → Int} {k : Nat} (O : Orb (bh (two 0 1)) 2 o k) : Shares 2 o (two 0 1) (max k 1) 0 1 ((0 : Nat) : Int) true := by
  obtain ⟨rfl, h0, h1⟩ := known_orb O
  exact ⟨by omega, 0, rfl, by omega, ⟨0, by omega, h0, rfl⟩, ⟨1, by omega, h1, rfl⟩, fun g h => by omega⟩
theorem known_halved {o : Nat → Int} {k : Nat} (O : Orb (bh (two 0 1)) 2 o k) : Halved 2 (two 0 1) (two 0 1) o 0 0 1 0 2 0 1 := by
  obtain ⟨rfl, h0, h1⟩ := known_orb O
  exact ⟨by omega, h0, fun j h => by omega, ⟨by omega, rfl, fun i j h h' => by
      rw [show i = 0 by omega, show j = 1 by omega]
      show 0 ≠ 1
      omega⟩, by omega, rfl, fun j h => by omega, by omega, by omega, rfl, fun j h => by
    rw [show j = 0 by omega]
    show (0 : Int) ≠ 1
    omega⟩
theorem known_half {o : Nat → Int} {k : Nat} (O : Orb (bh (two 0 1)) 2 o k) : halfO (two 0 1) o 1 0 0 1 2 0 = 0 ∧ halfO (two 0 1) o 1 0 0 1 2 1 = 1 := by
  have H := known_halved O
  have p : Perm (bh (two 0 1)) 2 := ⟨two_cases (by show 1 < 2; omega) (by show 0 < 2; omega), fun x y hx hy e => by
    have e : (two 0 1 (oth x)).toNat = (two 0 1 (oth y)).toNat := e
    rcases (show x = 0 ∨ x = 1 by omega) with rfl | rfl <;> rcases (show y = 0 ∨ y = 1 by omega) with rfl | rfl
    · rfl
    · exact absurd e (by show ¬ (1 = 0); omega)
    · exact absurd e (by show ¬ (0 = 1); omega)
    · rfl⟩
  have a := H.value O p 1 (j := 0) (by omega)
  have b := H.value O p 1 (j := 1) (by omega)
  exact ⟨a, b⟩

end Go.Proofs.Ytcdlnohnkdalbaa.Ro
