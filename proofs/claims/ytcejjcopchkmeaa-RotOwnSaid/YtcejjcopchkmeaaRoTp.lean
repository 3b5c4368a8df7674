/- Plain laws: a net seen from behind is a net as well. Walks: nets that are the same. -/
import Derived.Test.YtcejjcopchkmeaaRoKn
namespace Go.Proofs.Ytcejjcopchkmeaa.Ro
open Go.RowKit Go.Proofs Go.Maps
set_option linter.unusedVariables false
set_option linter.unusedSimpArgs false

theorem Perm.onto {f : Nat → Nat} {m e : Nat} (p : Perm f m) (he : e < m) : ∃ d, d < m ∧ f d = e := by
  obtain ⟨j, hj⟩ := p.back (x := e) (y := f e) (k := 1) he rfl
  cases j with
  | zero => exact ⟨e, he, hj⟩
  | succ j => exact ⟨it f j (f e), p.it_lt (p.lt e he) j, hj⟩
theorem turnUp_at {x : Nat → Int} {m : Nat} (p : Perm (ab x) m) {d : Nat} : ∀ i, i ≤ m → d < i → turnUp x i (ab x d) = d
  | 0, _, h => by omega
  | i + 1, hi, h => by
    show upd (turnUp x i) (ab x i) (i : Int) (ab x d) = d
    by_cases e : d = i
    · subst e; rw [upd_same]
    · rw [upd_ne (fun q => e (p.inj d i (by omega) (by omega) q))]
      exact turnUp_at p i (by omega) (by omega)
section
variable {N m : Nat} {t x c : Nat → Int}
theorem ab_turn (p : Perm (ab x) m) {d : Nat} (hd : d < m) : ab (turnUp x m) (ab x d) = d := by
  show (turnUp x m (ab x d)).toNat = d
  rw [turnUp_at p m (Nat.le_refl _) hd]; rfl
theorem it_turn (p : Perm (ab x) m) {d : Nat} (hd : d < m) : ∀ k, it (ab (turnUp x m)) k (it (ab x) k d) = d
  | 0 => rfl
  | k + 1 => by
    rw [it_in]
    show it (ab (turnUp x m)) k (ab (turnUp x m) (ab x (it (ab x) k d))) = d
    rw [ab_turn p (p.it_lt hd k)]
    exact it_turn p hd k
theorem turn_bh (p : Perm (ab x) m) (he : m % 2 = 0) {u e : Nat} (hu : u < m) (hE : e < m) (h : bh x (oth e) = oth u) : bh (turnUp x m) u = e := by
  have h1 : ab x e = oth u := by rw [← h]; unfold bh ab; rw [oth_oth]
  show (turnUp x m (oth u)).toNat = e
  rw [← h1]; exact ab_turn p hE
theorem turn_reach (p : Perm (ab x) m) (he : m % 2 = 0) {v : Nat} (hv : v < m) : ∀ k u, u < m → it (bh x) k (oth v) = oth u → it (bh (turnUp x m)) k u = v
  | 0, u, hu, h => by
    have : oth v = oth u := h
    show u = v
    exact (oth_inj this).symm
  | k + 1, u, hu, h => by
    have pb := p.bh he
    have hl := pb.it_lt (oth_lt hv he) k
    rw [it_in, turn_bh p he hu (oth_lt hl he) (by rw [oth_oth]; exact h)]
    exact turn_reach p he hv k _ (oth_lt hl he) (by rw [oth_oth])
theorem Grown.turn (h : Grown N m t x c) : Grown N m t (turnUp x m) c := by
  have g := h.good
  have p := h.turns.perm
  have ev := g.even
  have pb := p.bh ev
  have val : ∀ e, e < m → ∃ d, d < m ∧ ab x d = e ∧ turnUp x m e = d := fun e he => by
    obtain ⟨d, hd, e1⟩ := p.onto he
    exact ⟨d, hd, e1, by rw [← e1]; exact turnUp_at p m (Nat.le_refl _) hd⟩
  have pt : Perm (ab (turnUp x m)) m := ⟨fun e he => by
    obtain ⟨d, hd, e1, e2⟩ := val e he
    show (turnUp x m e).toNat < m
    rw [e2]; exact hd, fun a b ha hb q => by
    obtain ⟨d, hd, e1, e2⟩ := val a ha
    obtain ⟨d', hd', e1', e2'⟩ := val b hb
    have q1 : (turnUp x m a).toNat = (turnUp x m b).toNat := q
    rw [e2, e2'] at q1
    have : d = d' := by simpa using q1
    rw [← e1, ← e1', this]⟩
  refine ⟨⟨g.one, g.most, g.few, ev, fun e he => ?_, g.tail⟩, ⟨pt, fun e he => ?_, fun d e hd he q => ?_⟩, h.caps, h.whole, ?_⟩
  · obtain ⟨d, hd, _, e2⟩ := val e he
    rw [e2]; omega
  · obtain ⟨d, hd, e1, e2⟩ := val e he
    rw [← e1, ab_turn p hd, h.turns.keep d hd]
  · obtain ⟨k, hk⟩ := h.turns.one e d he hd q.symm
    exact ⟨k, by rw [← hk]; exact it_turn p he k⟩
  · obtain ⟨o, k, K, eu⟩ := h.euler
    refine ⟨fun d => o (oth d), k, ⟨⟨fun d hd => ?_, fun u v hu hv q => ?_⟩, fun d hd => K.lo _ (oth_lt hd ev), fun e he => ?_⟩, eu⟩
    · obtain ⟨e, he, e1, e2⟩ := val (oth d) (oth_lt hd ev)
      have e3 : bh (turnUp x m) d = e := by show (turnUp x m (oth d)).toNat = e; rw [e2]; rfl
      have e4 : bh x (oth e) = oth d := by rw [← e1]; unfold bh ab; rw [oth_oth]
      show o (oth (bh (turnUp x m) d)) = o (oth d)
      rw [e3, ← e4, K.cy.fwd _ (oth_lt he ev)]
    · obtain ⟨k, hk⟩ := K.cy.one _ _ (oth_lt hv ev) (oth_lt hu ev) (show o (oth v) = o (oth u) from q.symm)
      exact ⟨k, turn_reach p ev hv k u hu hk⟩
    · obtain ⟨y, h1, h2⟩ := K.each e he
      exact ⟨oth y, oth_lt h1 ev, by show o (oth (oth y)) = e; rw [oth_oth]; exact h2⟩
theorem turn_turn (h : Grown N m t x c) {j : Nat} (hj : j < m) : turnUp (turnUp x m) m j = x j := by
  have p := h.turns.perm
  have pt := h.turn.turns.perm
  have e1 := turnUp_at (x := turnUp x m) pt m (Nat.le_refl _) (p.lt j hj)
  rw [ab_turn p hj] at e1
  rw [e1]
  have := h.good.next j hj
  unfold ab; omega
theorem turn_count (h : Grown N m t x c) {o o' : Nat → Int} {k k' : Nat} (O : Orb (bh x) m o k) (O' : Orb (bh (turnUp x m)) m o' k') : max k 1 = max k' 1 := by
  have e1 := h.plane.euler _ _ O
  have e2 := h.turn.plane.euler _ _ O'
  omega
end

set_option maxHeartbeats 3200000 in
theorem same_ok (w : World) (N : Int) (T X C T' X' C' : Value) (m : Nat) (t x c t' x' c' : Nat → Int) (hm : m ≤ 1000) (hT : Rd w T m t) (hX : Rd w X m x) (hC : Rd w C m c) (hT' : Rd w T' m t') (hX' : Rd w X' m x') (hC' : Rd w C' m c')
    (et : ∀ j, j < m → t j = t' j) (ex : ∀ j, j < m → x j = x' j) (ec : ∀ j, j < m → c j = c' j) :
    Calls Try.prog 26 #[.agg #[.int .i64 N, T, X, C], .agg #[.int .i64 N, T', X', C']] w fun e w' => e = .returned (.bool true) ∧ Below w.heap.size w w' := by
  have q0 : (N == N) = true := by simp
  have ET := Lib.hid et
  have EX := Lib.hid ex
  have EC := Lib.hid ec
  clear et ex ec
  go_enter Try.func26, Try.ntmps26
  go_upto_region 1 with fail
  have B1 : Below w.heap.size w (w.alloc (.cells #[.int .i64 N, T, X, C] 25)) := (Below.refl _ w).alloc (Nat.le_refl _) _
  have X1 : Box (w.alloc (.cells #[.int .i64 N, T, X, C] 25)) w.heap.size N T X C := heap_alloc_new _ _
  have s1 : (w.alloc (.cells #[.int .i64 N, T, X, C] 25)).heap.size = w.heap.size + 1 := by simp
  generalize (w.alloc (.cells #[.int .i64 N, T, X, C] 25)) = w1 at *
  have b2 : Below w1.heap.size w1 (w1.alloc (.cells #[.int .i64 N, T', X', C'] 25)) := (Below.refl _ w1).alloc (Nat.le_refl _) _
  have Y2 : Box (w1.alloc (.cells #[.int .i64 N, T', X', C'] 25)) w1.heap.size N T' X' C' := heap_alloc_new _ _
  have X2 := X1.below b2 (Nat.le_refl _)
  have B2 := B1.trans (b2.mono B1.size)
  rw [s1] at Y2
  clear b2 B1 X1 s1
  generalize (w1.alloc (.cells #[.int .i64 N, T', X', C'] 25)) = w2 at *
  clear w1
  obtain ⟨p, hp⟩ : ∃ p, p = w.heap.size := ⟨_, rfl⟩
  rw [← hp] at X2 Y2 ⊢
  clear hp
  have a0 : w2.cell? ⟨p, 0, none⟩ = some (.int .i64 N) := blk_cell X2 0
  have a1 : w2.cell? ⟨p, 1, none⟩ = some T := blk_cell X2 1
  have c0 : w2.cell? ⟨p + 1, 0, none⟩ = some (.int .i64 N) := blk_cell Y2 0
  have c1 : w2.cell? ⟨p + 1, 1, none⟩ = some T' := blk_cell Y2 1
  go_wp2_with fail
  refine (ints_same _ T T' m t t' hm (hT.below B2 (Nat.le_refl _)) (hT'.below B2 (Nat.le_refl _)) ET.out).mono ?_
  rintro e w3 ⟨rfl, b3⟩
  have X3 := X2.below b3 (Nat.le_refl _)
  have Y3 := Y2.below b3 (Nat.le_refl _)
  have B3 := B2.trans (b3.mono B2.size)
  clear b3 X2 Y2 B2 a0 a1 c0 c1
  have a1 : w3.cell? ⟨p, 2, none⟩ = some X := blk_cell X3 2
  have c1 : w3.cell? ⟨p + 1, 2, none⟩ = some X' := blk_cell Y3 2
  go_wp2_with fail
  refine (ints_same _ X X' m x x' hm (hX.below B3 (Nat.le_refl _)) (hX'.below B3 (Nat.le_refl _)) EX.out).mono ?_
  rintro e w4 ⟨rfl, b4⟩
  have X4 := X3.below b4 (Nat.le_refl _)
  have Y4 := Y3.below b4 (Nat.le_refl _)
  have B4 := B3.trans (b4.mono B3.size)
  clear b4 X3 Y3 B3 a1 c1
  have a1 : w4.cell? ⟨p, 3, none⟩ = some C := blk_cell X4 3
  have c1 : w4.cell? ⟨p + 1, 3, none⟩ = some C' := blk_cell Y4 3
  go_wp2_with fail
  refine (ints_same _ C C' m c c' hm (hC.below B4 (Nat.le_refl _)) (hC'.below B4 (Nat.le_refl _)) EC.out).mono ?_
  rintro e w5 ⟨rfl, b5⟩
  have B5 := B4.trans (b5.mono B4.size)
  go_wp2_with fail
  go_ret
  exact ⟨rfl, B5⟩
end Go.Proofs.Ytcejjcopchkmeaa.Ro
