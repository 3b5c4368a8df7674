/- Walks: what is about a face, from a dart on. Walks: round, over the step behind. Walks: Face and About. Plain laws: the pieces of a net, numbered by their least vertices. Plain: turns, plane nets. Walks: where a dart ends. -/
import Derived.Test.YtcdlnohnkdalbaaMg1
import Derived.Test.YtcdlnohnkdalbaaMg5
namespace Go.Proofs.Ytcdlnohnkdalbaa.Ro
open Go.RowKit Go.Proofs Go.Maps
set_option linter.unusedVariables false
set_option maxRecDepth 100000
set_option linter.unusedSimpArgs false

/-- a round of k darts from d on -/
structure Rnd (f : Nat → Nat) (d k : Nat) : Prop where
  pos : 0 < k
  back : it f k d = d
  apart : ∀ i j, i < j → j < k → it f i d ≠ it f j d
theorem Rnd.one {f : Nat → Nat} {d k k' : Nat} (h : Rnd f d k) (h' : Rnd f d k') : k = k' := by
  rcases Nat.lt_trichotomy k k' with q | q | q
  · have := h'.apart 0 k h.pos q
    exact absurd h.back.symm this
  · exact q
  · have := h.apart 0 k' h'.pos q
    exact absurd h'.back.symm this

/-- the row of what has been gone along -/
structure Gone (f : Nat → Nat) (m d k a : Nat) (o : Nat → Int) : Prop where
  here : a = it f k d
  row : ∀ j, j < k → o j = (it f j d : Int)
  apart : ∀ i j, i < j → j < k → it f i d ≠ it f j d
  fresh : 0 < k → ∀ j, 0 < j → j < k → it f j d ≠ d
theorem Gone.step {f : Nat → Nat} {m d k a : Nat} {o : Nat → Int} (h : Gone f m d k a o) (p : Perm f m) (hd : d < m) (hn : 0 < k → a ≠ d) : Gone f m d (k + 1) (f a) (upd o k (a : Int)) := by
  refine ⟨by rw [h.here]; rfl, fun j hj => ?_, fun i j hij hj => ?_, fun _ j h0 hj => ?_⟩
  · by_cases e : j = k
    · subst e; rw [upd_same, h.here]
    · rw [upd_ne e]; exact h.row j (by omega)
  · rcases Nat.lt_or_ge j k with q | q
    · exact h.apart i j hij q
    · obtain rfl : j = k := by omega
      intro e
      rcases Nat.eq_zero_or_pos i with rfl | hi
      · exact hn (by omega) (by rw [h.here, ← e]; rfl)
      · obtain ⟨i', rfl⟩ : ∃ i', i = i' + 1 := ⟨i - 1, by omega⟩
        obtain ⟨j', rfl⟩ : ∃ j', j = j' + 1 := ⟨j - 1, by omega⟩
        exact h.apart i' j' (by omega) (by omega) (p.inj _ _ (p.it_lt hd _) (p.it_lt hd _) e)
  · rcases Nat.lt_or_ge j k with q | q
    · exact h.fresh (by omega) j h0 q
    · obtain rfl : j = k := by omega
      rw [← h.here]; exact hn (by omega)
theorem apart_le {m : Nat} : ∀ (k : Nat) (s : Nat → Nat), (∀ j, j < k → s j < m) → (∀ i j, i < j → j < k → s i ≠ s j) → k ≤ m := by
  induction m with
  | zero => intro k s h _; rcases Nat.eq_zero_or_pos k with q | q
            · omega
            · have := h 0 q; omega
  | succ m ih =>
    intro k s h ha
    -- take out the place that holds m
    by_cases hm : ∃ i, i < k ∧ s i = m
    · obtain ⟨i, hi, e⟩ := hm
      have := ih (k - 1) (fun j => if j < i then s j else s (j + 1)) (fun j hj => by
        by_cases q : j < i
        · simp only [if_pos q]
          have h1 := h j (by omega); have h2 := ha j i q hi; omega
        · simp only [if_neg q]
          have h1 := h (j + 1) (by omega); have h2 := ha i (j + 1) (by omega) (by omega); omega) (fun a b hab hb => by
        by_cases q : b < i
        · simp only [if_pos q, if_pos (show a < i by omega)]
          exact ha a b hab (by omega)
        · by_cases q2 : a < i
          · simp only [if_neg q, if_pos q2]
            exact ha a (b + 1) (by omega) (by omega)
          · simp only [if_neg q, if_neg q2]
            exact ha (a + 1) (b + 1) (by omega) (by omega))
      omega
    · have := ih k s (fun j hj => by
        have h1 := h j hj
        have h2 : s j ≠ m := fun e => hm ⟨j, hj, e⟩
        omega) ha
      omega
theorem Gone.le {f : Nat → Nat} {m d k a : Nat} {o : Nat → Int} (h : Gone f m d k a o) (p : Perm f m) (hd : d < m) : k ≤ m := apart_le k (fun j => it f j d) (fun j _ => p.it_lt hd j) h.apart
theorem Gone.full {f : Nat → Nat} {m d k a : Nat} {o : Nat → Int} (h : Gone f m d k a o) (p : Perm f m) (hd : d < m) (hk : k = m) : a = d := by
  -- one more would be too many
  apply Decidable.byContradiction
  intro hn
  have := (h.step p hd (fun _ => hn)).le p hd
  omega
end Go.Proofs.Ytcdlnohnkdalbaa.Ro
namespace Go.Proofs.Ytcdlnohnkdalbaa.Ro
open Go.RowKit Go.Proofs Go.Maps
set_option linter.unusedVariables false
set_option maxRecDepth 100000
set_option linter.unusedSimpArgs false

/-- what round hands back -/
def RoundPost (B : Nat) (w : World) (f : Nat → Nat) (d : Nat) (e : Ending) (w' : World) : Prop :=
  ∃ b k cur, e = .returned (.slice (some ⟨b, 0, none⟩) k k) ∧ B ≤ b ∧ w'.heap[b]? = some (.cells cur 3 (0, 0)) ∧ (∀ j, j < k → cur[j]? = some (.int .i64 (it f j d : Int))) ∧ Rnd f d k ∧ Below B w w'

set_option maxHeartbeats 6400000 in
theorem round_behind (w : World) (p N : Nat) (T X C : Value) (m : Nat) (t x c : Nat → Int) (hb : Box w p N T X C) (hT : Rd w T m t) (hX : Rd w X m x) (hC : Rd w C m c) (g : Good N m t x) (pf : Perm (bh x) m) (d : Nat) (hd : d < m) :
    Calls Try.prog 71 #[.agg #[.int .i64 (N : Int), T, X, C], .int .i64 (d : Int), .func (.func 81) #[] #[.pointer (some ⟨p, 0, none⟩)]] w (RoundPost w.heap.size w (bh x) d) := by
  have hv : ∀ d, d < m → x (oth d) = (bh x d : Int) := fun d hd => by
    have := g.next (oth d) (oth_lt hd g.even)
    unfold bh; omega
  have hT' := hT
  obtain ⟨A1, cap1, rfl, r1⟩ := hT
  clear r1
  have hm2 := g.few
  have q1 : ¬ ((d : Int) < 0) := by omega
  have q2 : ¬ ((d : Int) ≥ (m : Int)) := by omega
  have z1 : decide ((d : Int) < 0) = false := by simp
  have z2 : decide (m ≤ d) = false := by simp; omega
  go_enter Try.func71, Try.ntmps71
  go_wp2_with fail
  have B2 : Below w.heap.size w (w.alloc (.cells #[.int .i64 (N : Int), .slice A1 m cap1, X, C] 25)) := (Below.refl _ w).alloc (Nat.le_refl _) _
  have X2 : Box (w.alloc (.cells #[.int .i64 (N : Int), .slice A1 m cap1, X, C] 25)) w.heap.size N (.slice A1 m cap1) X C := heap_alloc_new _ _
  generalize (w.alloc (.cells #[.int .i64 (N : Int), .slice A1 m cap1, X, C] 25)) = w2 at *
  refine (fine_ok _ N _ X C m t x c (hT'.below B2 (Nat.le_refl _)) (hX.below B2 (Nat.le_refl _)) (hC.below B2 (Nat.le_refl _)) g).mono ?_
  rintro e w3 ⟨rfl, b3⟩
  have B3 := B2.trans (b3.mono B2.size)
  have X3 := X2.below b3 (Nat.le_refl _)
  clear B2 X2 b3
  have pl := blk_lt X3
  have c1 : w3.cell? ⟨w.heap.size, 1, none⟩ = some (.slice A1 m cap1) := blk_cell X3 1
  go_wp2_with fail
  clear c1 pl hT'
  go_loopg [7, 8] (m - 0) (fun n u v wr => ∃ (k a : Nat) (o : Nat → Int), n = m - k ∧ k ≤ m ∧ v = .int .i64 (a : Int) ∧ Gone (bh x) m d k a o ∧ Ow wr u k o ∧ ((k = 0 ∧ u = .slice none 0 0) ∨ (0 < k ∧ ∃ b cap, u = .slice (some ⟨b, 0, none⟩) k cap ∧ w.heap.size + 1 ≤ b)) ∧ Box wr w.heap.size N (.slice A1 m cap1) X C ∧ Below w.heap.size w wr)
  case atStart => exact ⟨0, d, fun _ => 0, rfl, Nat.zero_le _, rfl, ⟨rfl, fun j h => by omega, fun i j _ h => by omega, fun h => by omega⟩, Ow.nil _ _, .inl ⟨rfl, rfl⟩, X3, B3⟩
  case round =>
    clear X3 B3
    obtain ⟨k, a, o, hn, hkm, rfl, G, O, hu, Xb, B⟩ := hrel
    have ha : a < m := by rw [G.here]; exact pf.it_lt hd k
    have c1 : wr.cell? ⟨w.heap.size, 1, none⟩ = some (.slice A1 m cap1) := blk_cell Xb 1
    have xl := blk_lt Xb
    rcases hu with ⟨rfl, rfl⟩ | ⟨hk, b, cap, rfl, hbb⟩
    · have d1 : (0 : Int) < (m : Int) := by omega
      have Gs := Lib.hid (G.step pf hd (fun q => by omega))
      clear G
      go_upto_region 8 with fail
      have n0 : (wr.alloc (.cells #[.int .i64 (a : Int)] 3)).cell? ⟨wr.heap.size, 0, none⟩ = some (.int .i64 (a : Int)) := by rw [blk_cell (heap_alloc_new wr _)]; rfl
      have Ba : Below wr.heap.size wr (wr.alloc (.cells #[.int .i64 (a : Int)] 3)) := (Below.refl _ wr).alloc (Nat.le_refl _) _
      have Oa := O.below Ba (Nat.le_refl _)
      have B4 := B.trans (Ba.mono B.size)
      have X4 := Xb.below Ba (Nat.le_refl _)
      have sz : wr.heap.size ≤ (wr.alloc (.cells #[.int .i64 (a : Int)] 3)).heap.size := Ba.size
      go_upto_region 6 with (at_builtin; go_must (refine wpList_grow rfl _ _ rfl _ 0 o rfl Oa ⟨wr.heap.size, 0, none⟩ 1 (a : Int) rfl n0 (by omega) ?_); intro b' c' w5 O5 g5 l5)
      have hnb : ∀ j, (Value.slice none 0 0).ownBlock = some j → w.heap.size + 1 ≤ j := by
        intro j hj
        exact absurd hj (by simp [Value.ownBlock])
      have hown : ∀ j, (Value.slice none 0 0).ownBlock = some j → w.heap.size ≤ j := fun j hj => by have := hnb j hj; omega
      have B5 := Below.grown B4 g5 B4.size hown
      have X5 : Box w5 w.heap.size N (.slice A1 m cap1) X C := by
        refine (g5.block _ (blk_lt X4) ?_).trans X4
        intro e
        have := hnb _ e.symm
        omega
      have hb5 : w.heap.size + 1 ≤ b' := by
        have h1 := blk_lt Xb
        rcases l5 with e | e
        · have := hnb _ e.symm; omega
        · omega
      have bp : Box w5 p N (.slice A1 m cap1) X C := hb.below B5 (Nat.le_refl _)
      have xp : Rd w5 X m x := hX.below B5 (Nat.le_refl _)
      clear n0 Ba Oa B4 X4 sz O B Xb g5 l5 hown
      go_wp2_with fail
      refine (behind1_any _ p N (.slice A1 m cap1) X C m x bp xp a (by omega) (oth_lt ha g.even)).mono ?_
      rintro e w6 ⟨rfl, b6⟩
      have hfa := hv a ha
      rw [hfa]
      have O6 := O5.below b6 (Nat.le_refl _)
      have B6 := B5.trans (b6.mono B5.size)
      have X6 := X5.below b6 (Nat.le_refl _)
      clear O5 B5 X5 b6 hfa bp xp
      go_wp2_with fail
      go_roundg (m - (0 + 1))
      case measure => omega
      case rel =>
        exact ⟨0 + 1, bh x a, _, rfl, Gs.out.le pf hd, rfl, Gs.out, O6, .inr ⟨by omega, b', c', rfl, hb5⟩, X6, B6⟩
    · by_cases had : a = d
      · have HE := Lib.hid had
        obtain ⟨hkc, cur, hcur, hcj⟩ := O.cur
        have e1 : (k : Int) ≤ (cap : Int) := by omega
        have d3 : ((a : Int) == (d : Int)) = true := by simp [had]
        have d4 : (0 : Int) < (k : Int) := by omega
        clear had
        by_cases hlt : k < m
        · have d1 : (k : Int) < (m : Int) := by omega
          go_wp2_with fail
          go_ret
          exact ⟨b, k, cur, rfl, by omega, hcur, fun j hj => by rw [hcj j hj, G.row j hj], ⟨hk, by rw [← G.here]; exact HE.out, G.apart⟩, B⟩
        · have d1 : ¬ ((k : Int) < (m : Int)) := by omega
          go_wp2_with fail
          go_ret
          exact ⟨b, k, cur, rfl, by omega, hcur, fun j hj => by rw [hcj j hj, G.row j hj], ⟨hk, by rw [← G.here]; exact HE.out, G.apart⟩, B⟩
      · have hlt : k < m := by
          rcases Nat.lt_or_ge k m with q | q
          · exact q
          · exact absurd (G.full pf hd (by omega)) had
        have d1 : (k : Int) < (m : Int) := by omega
        have d3 : ((a : Int) == (d : Int)) = false := by simp; omega
        have d4 : (0 : Int) < (k : Int) := by omega
        have Gs := Lib.hid (G.step pf hd (fun _ => had))
        clear G had
        go_upto_region 8 with fail
        have n0 : (wr.alloc (.cells #[.int .i64 (a : Int)] 3)).cell? ⟨wr.heap.size, 0, none⟩ = some (.int .i64 (a : Int)) := by rw [blk_cell (heap_alloc_new wr _)]; rfl
        have Ba : Below wr.heap.size wr (wr.alloc (.cells #[.int .i64 (a : Int)] 3)) := (Below.refl _ wr).alloc (Nat.le_refl _) _
        have Oa := O.below Ba (Nat.le_refl _)
        have B4 := B.trans (Ba.mono B.size)
        have X4 := Xb.below Ba (Nat.le_refl _)
        have sz : wr.heap.size ≤ (wr.alloc (.cells #[.int .i64 (a : Int)] 3)).heap.size := Ba.size
        go_upto_region 6 with (at_builtin; go_must (refine wpList_grow rfl _ _ rfl _ k o rfl Oa ⟨wr.heap.size, 0, none⟩ 1 (a : Int) rfl n0 (by omega) ?_); intro b' c' w5 O5 g5 l5)
        have hnb : ∀ j, (Value.slice (some ⟨b, 0, none⟩) k cap).ownBlock = some j → w.heap.size + 1 ≤ j := by
          intro j hj
          have e : some b = some j := hj; injection e with e; omega
        have hown : ∀ j, (Value.slice (some ⟨b, 0, none⟩) k cap).ownBlock = some j → w.heap.size ≤ j := fun j hj => by have := hnb j hj; omega
        have B5 := Below.grown B4 g5 B4.size hown
        have X5 : Box w5 w.heap.size N (.slice A1 m cap1) X C := by
          refine (g5.block _ (blk_lt X4) ?_).trans X4
          intro e
          have := hnb _ e.symm
          omega
        have hb5 : w.heap.size + 1 ≤ b' := by
          have h1 := blk_lt Xb
          rcases l5 with e | e
          · have := hnb _ e.symm; omega
          · omega
        have bp : Box w5 p N (.slice A1 m cap1) X C := hb.below B5 (Nat.le_refl _)
        have xp : Rd w5 X m x := hX.below B5 (Nat.le_refl _)
        clear n0 Ba Oa B4 X4 sz O B Xb g5 l5 hown
        go_wp2_with fail
        refine (behind1_any _ p N (.slice A1 m cap1) X C m x bp xp a (by omega) (oth_lt ha g.even)).mono ?_
        rintro e w6 ⟨rfl, b6⟩
        have hfa := hv a ha
        rw [hfa]
        have O6 := O5.below b6 (Nat.le_refl _)
        have B6 := B5.trans (b6.mono B5.size)
        have X6 := X5.below b6 (Nat.le_refl _)
        clear O5 B5 X5 b6 hfa bp xp
        go_wp2_with fail
        go_roundg (m - (k + 1))
        case measure => omega
        case rel => exact ⟨k + 1, bh x a, _, rfl, Gs.out.le pf hd, rfl, Gs.out, O6, .inr ⟨by omega, b', c', rfl, hb5⟩, X6, B6⟩
end Go.Proofs.Ytcdlnohnkdalbaa.Ro
namespace Go.Proofs.Ytcdlnohnkdalbaa.Ro
open Go.RowKit Go.Proofs Go.Maps
set_option linter.unusedVariables false
set_option maxRecDepth 100000
set_option linter.unusedSimpArgs false

theorem RoundPost.of {w W w' : World} {f : Nat → Nat} {d : Nat} {e : Ending} (h : RoundPost W.heap.size W f d e w') (b : Below w.heap.size w W) : RoundPost w.heap.size w f d e w' := by
  obtain ⟨y, k, cur, h1, h2, h3, h4, h5, h6⟩ := h
  exact ⟨y, k, cur, h1, Nat.le_trans b.size h2, h3, h4, h5, b.trans (h6.mono b.size)⟩

set_option maxHeartbeats 3200000 in
theorem face_ok (w : World) (N : Nat) (T X C : Value) (m : Nat) (t x c : Nat → Int) (hT : Rd w T m t) (hX : Rd w X m x) (hC : Rd w C m c) (g : Good N m t x) (pf : Perm (bh x) m) (d : Nat) (hd : d < m) :
    Calls Try.prog 56 #[.agg #[.int .i64 (N : Int), T, X, C], .int .i64 (d : Int)] w (RoundPost w.heap.size w (bh x) d) := by
  go_enter Try.func56, Try.ntmps56
  go_upto_region 1 with fail
  have B2 : Below w.heap.size w (w.alloc (.cells #[.int .i64 (N : Int), T, X, C] 25)) := (Below.refl _ w).alloc (Nat.le_refl _) _
  have X2 : Box (w.alloc (.cells #[.int .i64 (N : Int), T, X, C] 25)) w.heap.size N T X C := heap_alloc_new _ _
  generalize (w.alloc (.cells #[.int .i64 (N : Int), T, X, C] 25)) = w3 at *
  have pl := blk_lt X2
  have c0 : w3.cell? ⟨w.heap.size, 0, none⟩ = some (.int .i64 (N : Int)) := blk_cell X2 0
  have c1 : w3.cell? ⟨w.heap.size, 1, none⟩ = some T := blk_cell X2 1
  have c2 : w3.cell? ⟨w.heap.size, 2, none⟩ = some X := blk_cell X2 2
  have c3 : w3.cell? ⟨w.heap.size, 3, none⟩ = some C := blk_cell X2 3
  have Bx : Box (w3.alloc (.cells #[.int .i64 (N : Int), T, X, C] 25)).drew w3.heap.size N T X C := heap_alloc_new w3 _
  have b5 : Below w3.heap.size w3 (w3.alloc (.cells #[.int .i64 (N : Int), T, X, C] 25)).drew := ((Below.refl _ w3).alloc (Nat.le_refl _) _).drew
  have B5 := B2.trans (b5.mono B2.size)
  have hT5 := hT.below B5 (Nat.le_refl _)
  have hX5 := hX.below B5 (Nat.le_refl _)
  have hC5 := hC.below B5 (Nat.le_refl _)
  go_region_with (first | (refine (behind_any _ _ _ _ _).mono ?_; rintro e w5 ⟨rfl, rfl⟩) | (refine (round_behind _ _ N T X C m t x c Bx hT5 hX5 hC5 g pf d hd).mono ?_; rintro e w6 R6; have R7 := R6.of B5; obtain ⟨y, k, cur, rfl, h2, h3, h4, h5, h6⟩ := R7))
  all_goals
    go_simp
    go_wp2_with fail
    go_ret
    exact ⟨y, k, cur, rfl, h2, h3, h4, h5, h6⟩

end Go.Proofs.Ytcdlnohnkdalbaa.Ro
namespace Go.Proofs.Ytcdlnohnkdalbaa.Ro
set_option linter.unusedVariables false
set_option maxRecDepth 100000
set_option linter.unusedSimpArgs false

/-- darts lead from the one to the other (tl: where a dart begins) -/
inductive Conn (m : Nat) (tl : Nat → Nat) (a : Nat) : Nat → Prop
  | refl : Conn m tl a a
  | step {d : Nat} : d < m → Conn m tl a (tl d) → Conn m tl a (tl (oth d))
theorem Conn.trans {m : Nat} {tl : Nat → Nat} {a b c : Nat} (h : Conn m tl a b) (k : Conn m tl b c) : Conn m tl a c := by
  induction k with
  | refl => exact h
  | step hd _ ih => exact .step hd ih
theorem Conn.one {m : Nat} {tl : Nat → Nat} {d : Nat} (hd : d < m) : Conn m tl (tl d) (tl (oth d)) := .step hd .refl
theorem Conn.symm {m : Nat} {tl : Nat → Nat} {a b : Nat} (he : m % 2 = 0) (h : Conn m tl a b) : Conn m tl b a := by
  induction h with
  | refl => exact .refl
  | @step d hd _ ih =>
    have := Conn.one (m := m) (tl := tl) (oth_lt hd he)
    rw [oth_oth] at this
    exact this.trans ih

/-- the pieces, numbered -/
structure Pcs (N m : Nat) (tl : Nat → Nat) (o : Nat → Int) (k : Nat) : Prop where
  lo : ∀ v, v < N → 0 ≤ o v ∧ o v < k
  edge : ∀ d, d < m → o (tl (oth d)) = o (tl d)
  one : ∀ u v, u < N → v < N → o u = o v → Conn m tl u v
  each : ∀ e : Nat, e < k → ∃ v, v < N ∧ o v = e
  first : ∀ v, v < N → ∀ e : Nat, (e : Int) < o v → ∃ u, u < v ∧ o u = e
theorem Pcs.conn {N m k : Nat} {tl : Nat → Nat} {o : Nat → Int} (h : Pcs N m tl o k) {a b : Nat} (c : Conn m tl a b) : o a = o b := by
  induction c with
  | refl => rfl
  | step hd _ ih => rw [h.edge _ hd]; exact ih
theorem Pcs.same {N m k k' : Nat} {tl : Nat → Nat} {o o' : Nat → Int} (h : Pcs N m tl o k) (h' : Pcs N m tl o' k') : ∀ n x, x < n → x < N → o x = o' x
  | 0, x, hx, _ => by omega
  | n + 1, x, hx, hm => by
    have ih := Pcs.same h h' n
    have ker : ∀ y, y < N → (o x = o y ↔ o' x = o' y) := fun y hy => ⟨fun e => h'.conn (h.one x y hm hy e), fun e => h.conn (h'.one x y hm hy e)⟩
    have l1 := h.lo x hm
    have l2 := h'.lo x hm
    rcases Int.lt_trichotomy (o x) (o' x) with q | q | q
    · obtain ⟨y, h1, h2⟩ := h'.first x hm (o x).toNat (by omega)
      have e1 := ih y (by omega) (by omega)
      have := (ker y (by omega)).1 (by omega)
      omega
    · exact q
    · obtain ⟨y, h1, h2⟩ := h.first x hm (o' x).toNat (by omega)
      have e1 := ih y (by omega) (by omega)
      have := (ker y (by omega)).2 (by omega)
      omega
theorem Pcs.count {N m k k' : Nat} {tl : Nat → Nat} {o o' : Nat → Int} (h : Pcs N m tl o k) (h' : Pcs N m tl o' k') : k = k' := by
  have e := fun x hx => h.same h' N x hx hx
  rcases Nat.lt_trichotomy k k' with q | q | q
  · obtain ⟨y, h1, h2⟩ := h'.each k q
    have := (h.lo y h1).2; have := e y h1; omega
  · exact q
  · obtain ⟨y, h1, h2⟩ := h.each k' q
    have := (h'.lo y h1).2; have := e y h1; omega

/-- what has been numbered so far: all below i -/
structure PPart (N m : Nat) (tl : Nat → Nat) (i : Nat) (o : Nat → Int) (c : Nat) : Prop where
  some : ∀ v, v < N → o v = -1 ∨ (0 ≤ o v ∧ o v < c)
  done : ∀ v, v < i → v < N → 0 ≤ o v
  edge : ∀ d, d < m → 0 ≤ o (tl d) → o (tl (oth d)) = o (tl d)
  one : ∀ u v, u < N → v < N → 0 ≤ o u → o u = o v → Conn m tl u v
  each : ∀ e : Nat, e < c → ∃ v, v < i ∧ v < N ∧ o v = e
  first : ∀ v, v < N → ∀ e : Nat, (e : Int) < o v → ∃ u, u < v ∧ o u = e
theorem PPart.start (N m : Nat) (tl : Nat → Nat) : PPart N m tl 0 (fun _ => -1) 0 :=
  ⟨fun _ _ => .inl rfl, fun v h => by omega, fun d _ h => by simp at h, fun u v _ _ h => by simp at h, fun e h => by omega, fun v _ e h => by omega⟩
theorem PPart.skip {N m i c : Nat} {tl : Nat → Nat} {o : Nat → Int} (h : PPart N m tl i o c) (hi : 0 ≤ o i) : PPart N m tl (i + 1) o c :=
  ⟨h.some, fun v hv hm => by
    rcases Nat.lt_or_ge v i with q | q
    · exact h.done v q hm
    · rw [show v = i by omega]; exact hi, h.edge, h.one, fun e he => by obtain ⟨y, h1, h2⟩ := h.each e he; exact ⟨y, by omega, h2⟩, h.first⟩
theorem PPart.pcs {N m c : Nat} {tl : Nat → Nat} {o : Nat → Int} (h : PPart N m tl N o c) (ht : ∀ d, d < m → tl d < N) : Pcs N m tl o c :=
  ⟨fun v hv => by
    have := h.done v hv hv
    rcases h.some v hv with q | q
    · omega
    · exact q, fun d hd => h.edge d hd (h.done _ (ht d hd) (ht d hd)), fun u v hu hv e => h.one u v hu hv (h.done u hu hu) e, fun e he => by obtain ⟨y, _, h2⟩ := h.each e he; exact ⟨y, h2⟩, h.first⟩

/-- a piece that is being grown from vertex i on -/
structure Grow (N m : Nat) (tl : Nat → Nat) (o : Nat → Int) (i c : Nat) (o' : Nat → Int) : Prop where
  here : o' i = c
  now : ∀ v, v < N → (o' v = c ∧ o v = -1 ∧ Conn m tl i v) ∨ o' v = o v
theorem Grow.start {N m i c : Nat} {tl : Nat → Nat} {o : Nat → Int} (h0 : o i = -1) : Grow N m tl o i c (upd o i (c : Int)) :=
  ⟨upd_same _ _ _, fun v hv => by
    by_cases e : v = i
    · subst e; exact .inl ⟨upd_same _ _ _, h0, .refl⟩
    · exact .inr (upd_ne e)⟩
theorem Grow.step {N m i c d : Nat} {tl : Nat → Nat} {o o' : Nat → Int} (h : Grow N m tl o i c o') (P : PPart N m tl i o c) (hi : i < N) (hd : d < m) (ht : tl d < N) (hh : tl (oth d) < N) (h1 : o' (tl d) = c) (h2 : o' (tl (oth d)) < 0) :
    Grow N m tl o i c (upd o' (tl (oth d)) (c : Int)) := by
  have hc : Conn m tl i (tl d) := by
    rcases h.now _ ht with ⟨_, _, q⟩ | e
    · exact q
    · rcases P.some _ ht with q | q <;> omega
  refine ⟨?_, fun v hv => ?_⟩
  · by_cases e : i = tl (oth d)
    · rw [← e, upd_same]
    · rw [upd_ne e]; exact h.here
  · by_cases e : v = tl (oth d)
    · subst e
      rw [upd_same]
      refine .inl ⟨rfl, ?_, .step hd hc⟩
      rcases h.now _ hh with ⟨q, _⟩ | q
      · omega
      · rcases P.some _ hh with q2 | q2 <;> omega
    · rw [upd_ne e]; exact h.now v hv
theorem Grow.done {N m i c : Nat} {tl : Nat → Nat} {o o' : Nat → Int} (h : Grow N m tl o i c o') (P : PPart N m tl i o c) (hi : i < N) (h0 : o i = -1) (he : m % 2 = 0) (ht : ∀ d, d < m → tl d < N)
    (full : ∀ d, d < m → o' (tl d) = c → 0 ≤ o' (tl (oth d))) : PPart N m tl (i + 1) o' (c + 1) := by
  have old : ∀ v, v < N → 0 ≤ o v → o' v = o v := fun v hv hp => by
    rcases h.now v hv with ⟨_, q, _⟩ | q
    · omega
    · exact q
  have inC : ∀ v, v < N → o' v = c → o v = -1 ∧ Conn m tl i v := fun v hv e => by
    rcases h.now v hv with ⟨_, q⟩ | q
    · exact q
    · rcases P.some v hv with q2 | q2 <;> omega
  have notC : ∀ v, v < N → 0 ≤ o' v → o' v ≠ c → 0 ≤ o v ∧ o' v = o v := fun v hv hp hc => by
    rcases h.now v hv with ⟨e, _⟩ | e
    · exact absurd e hc
    · exact ⟨by omega, e⟩
  refine ⟨fun v hv => ?_, fun v hx hv => ?_, fun d hd hp => ?_, fun u v hu hv hp e => ?_, fun e he => ?_, fun v hv e he => ?_⟩
  · rcases h.now v hv with ⟨e, _⟩ | e
    · right; omega
    · rcases P.some v hv with q | q
      · left; omega
      · right; omega
  · rcases Nat.lt_or_ge v i with q | q
    · have := P.done v q hv; rw [old v hv this]; exact this
    · rw [show v = i by omega, h.here]; omega
  · have hh := ht _ (oth_lt hd he)
    by_cases hc : o' (tl d) = c
    · have h1 := full d hd hc
      have h2 := (inC _ (ht d hd) hc).1
      by_cases hc2 : o' (tl (oth d)) = c
      · rw [hc, hc2]
      · obtain ⟨h3, h4⟩ := notC _ hh h1 hc2
        have := P.edge (oth d) (oth_lt hd he) h3
        rw [oth_oth] at this
        omega
    · obtain ⟨h1, h2⟩ := notC _ (ht d hd) hp hc
      have h3 := P.edge d hd h1
      rw [old _ hh (by omega), h2, h3]
  · by_cases hc : o' u = c
    · have h1 := (inC u hu hc).2
      have h2 := (inC v hv (by omega)).2
      exact (h1.symm he).trans h2
    · obtain ⟨h1, h2⟩ := notC u hu hp hc
      obtain ⟨h3, h4⟩ := notC v hv (by omega) (by omega)
      exact P.one u v hu hv h1 (by omega)
  · rcases Nat.lt_or_ge e c with q | q
    · obtain ⟨y, h1, h2, h3⟩ := P.each e q
      exact ⟨y, by omega, h2, by rw [old y h2 (by omega)]; exact h3⟩
    · exact ⟨i, by omega, hi, by rw [h.here]; omega⟩
  · by_cases hc : o' v = c
    · have h1 := (inC v hv hc).1
      have hxd : i ≤ v := by
        rcases Nat.lt_or_ge v i with q | q
        · have := P.done v q hv; omega
        · exact q
      obtain ⟨y, h2, h3, h4⟩ := P.each e (by omega)
      exact ⟨y, by omega, by rw [old y h3 (by omega)]; exact h4⟩
    · obtain ⟨h1, h2⟩ := notC v hv (by omega) hc
      obtain ⟨y, h3, h4⟩ := P.first v hv e (by omega)
      exact ⟨y, h3, by rw [old y (by omega) (by omega)]; exact h4⟩
end Go.Proofs.Ytcdlnohnkdalbaa.Ro
namespace Go.Proofs.Ytcdlnohnkdalbaa.Ro
open Go.RowKit Go.Proofs Go.Maps
set_option linter.unusedVariables false
set_option maxRecDepth 100000
set_option linter.unusedSimpArgs false

def tlOf (t : Nat → Int) (d : Nat) : Nat := (t d).toNat

/-- each vertex's darts are one round -/
structure Turns (m : Nat) (t x : Nat → Int) : Prop where
  perm : Perm (ab x) m
  keep : ∀ d, d < m → tlOf t (ab x d) = tlOf t d
  one : ∀ d e, d < m → e < m → tlOf t d = tlOf t e → ∃ k, it (ab x) k d = e

theorem Perm.bh {m : Nat} {x : Nat → Int} (h : Perm (ab x) m) (he : m % 2 = 0) : Perm (bh x) m :=
  ⟨fun d hd => h.lt (oth d) (oth_lt hd he), fun d e hd he' q => by
    have := h.inj (oth d) (oth e) (oth_lt hd he) (oth_lt he' he) q
    have h2 : oth (oth d) = oth (oth e) := by rw [this]
    rwa [oth_oth, oth_oth] at h2⟩

/-- a plane net: what Check tells as OK -/
structure Plane (N m : Nat) (t x c : Nat → Int) : Prop where
  good : Good N m t x
  turns : Turns m t x
  caps : ∀ d, d < m → 0 ≤ c d ∧ c d ≤ 2147483648
  whole : ∀ o k, Pcs N m (tlOf t) o k → k = 1
  euler : ∀ o k, Orb (bh x) m o k → N + max k 1 = 2 + m / 2

end Go.Proofs.Ytcdlnohnkdalbaa.Ro
namespace Go.Proofs.Ytcdlnohnkdalbaa.Ro
open Go.RowKit Go.Proofs Go.Maps
set_option linter.unusedVariables false
set_option maxRecDepth 100000
set_option linter.unusedSimpArgs false

theorem head_ok (w : World) (N : Nat) (T X C : Value) (m : Nat) (t : Nat → Int) (hT : Rd w T m t) (d : Nat) (hd : d ≤ 999) (ho : oth d < m) :
    Calls Try.prog 69 #[.agg #[.int .i64 (N : Int), T, X, C], .int .i64 (d : Int)] w fun e w' => e = .returned (.int .i64 (t (oth d))) ∧ Below w.heap.size w w' := by
  obtain ⟨A, cap, rfl, r⟩ := hT
  obtain ⟨y, rfl, hy, hc⟩ := r (by omega)
  have cx := hc (oth d) ho
  have d1 : (oth d : Int) < (m : Int) := by omega
  have d2 : ¬ ((d : Int) < 0) := by omega
  have d3 : decide ((d : Int) < 0) = false := by simp
  have d4 : decide ((m : Int) ≤ (oth d : Int)) = false := by simp; omega
  have d5 : decide ((oth d : Int) ≥ (m : Int)) = false := by simp; omega
  have d6 : decide (m ≤ oth d) = false := by simp; omega
  clear hc r
  go_enter Try.func69, Try.ntmps69
  go_upto_region 1 with fail
  have B2 : Below w.heap.size w (w.alloc (.cells #[.int .i64 (N : Int), .slice (some y) m cap, X, C] 25)) := (Below.refl _ w).alloc (Nat.le_refl _) _
  have X2 : Box (w.alloc (.cells #[.int .i64 (N : Int), .slice (some y) m cap, X, C] 25)) w.heap.size N (.slice (some y) m cap) X C := heap_alloc_new _ _
  have cy := (B2.cell (p := y.add (oth d)) (by rw [block_add]; exact hy)).trans cx
  generalize (w.alloc (.cells #[.int .i64 (N : Int), .slice (some y) m cap, X, C] 25)) = w3 at *
  have c1 : w3.cell? ⟨w.heap.size, 1, none⟩ = some (.slice (some y) m cap) := blk_cell X2 1
  go_big_quiet (exact (other_any _ d (by omega)).mono fun e w' h => ⟨h.1, _, h.2.symm⟩)
  go_wp2_with fail
  go_big_quiet (exact (other_any _ d (by omega)).mono fun e w' h => ⟨h.1, _, h.2.symm⟩)
  go_wp2_with fail
  go_ret
  exact ⟨rfl, B2.os, B2.tape, B2.output, B2.size, B2.block⟩
end Go.Proofs.Ytcdlnohnkdalbaa.Ro
