/- Walks: round, over the step about a vertex. -/
import Derived.Test.YtcejjcopchkmeaaRoG
import Derived.Test.YtcejjcopchkmeaaRoOa
namespace Go.Proofs.Ytcejjcopchkmeaa.Ro
open Go.RowKit Go.Proofs Go.Maps
set_option linter.unusedVariables false
set_option maxRecDepth 100000
set_option linter.unusedSimpArgs false

theorem about1_any (w : World) (p : Nat) (N : Int) (T X C : Value) (m : Nat) (x : Nat → Int) (hb : Box w p N T X C) (hx : Rd w X m x) (d : Nat) (hd : d < m) :
    Calls Try.prog 50 #[.int .i64 (d : Int), .pointer (some ⟨p, 0, none⟩)] w fun e w' => e = .returned (.int .i64 (x d)) ∧ Below w.heap.size w w' := by
  obtain ⟨A, cap, rfl, r⟩ := hx
  obtain ⟨y, rfl, hy, hc⟩ := r (by omega)
  have c2 : w.cell? ⟨p, 2, none⟩ = some (.slice (some y) m cap) := blk_cell hb 2
  have cx := hc d hd
  have d1 : (d : Int) < (m : Int) := by omega
  clear hc r hb
  go_enter Try.func50, Try.ntmps50
  go_wp2_with fail
  go_ret
  exact ⟨rfl, Below.refl _ _⟩
set_option maxHeartbeats 6400000 in
theorem round_about (w : World) (p N : Nat) (T X C : Value) (m : Nat) (t x c : Nat → Int) (hb : Box w p N T X C) (hT : Rd w T m t) (hX : Rd w X m x) (hC : Rd w C m c) (g : Good N m t x) (pf : Perm (ab x) m) (d : Nat) (hd : d < m) :
    Calls Try.prog 49 #[.agg #[.int .i64 (N : Int), T, X, C], .int .i64 (d : Int), .func (.func 50) #[] #[.pointer (some ⟨p, 0, none⟩)]] w (RoundPost w.heap.size w (ab x) d) := by
  have hv : ∀ d, d < m → x d = (ab x d : Int) := fun d hd => by
    have := g.next d hd
    unfold ab; omega
  have hT' := hT
  obtain ⟨A1, cap1, rfl, r1⟩ := hT
  clear r1
  have hm2 := g.few
  have q1 : ¬ ((d : Int) < 0) := by omega
  have q2 : ¬ ((d : Int) ≥ (m : Int)) := by omega
  have z1 : decide ((d : Int) < 0) = false := by simp
  have z2 : decide (m ≤ d) = false := by simp; omega
  go_enter Try.func49, Try.ntmps49
  go_wp2_with fail
  have B2 : Below w.heap.size w (w.alloc (.cells #[.int .i64 (N : Int), .slice A1 m cap1, X, C] 25)) := (Below.refl _ w).alloc (Nat.le_refl _) _
  have X2 : Box (w.alloc (.cells #[.int .i64 (N : Int), .slice A1 m cap1, X, C] 25)) w.heap.size N (.slice A1 m cap1) X C := heap_alloc_new _ _
  generalize (w.alloc (.cells #[.int .i64 (N : Int), .slice A1 m cap1, X, C] 25)) = w2 at *
  refine (fine_ok _ N _ X C m t x c (hT'.below B2 (Nat.le_refl _)) (hX.below B2 (Nat.le_refl _)) (hC.below B2 (Nat.le_refl _)) g).mono ?_
  rintro e w3 ⟨rfl, b3⟩
  have B3 := B2.trans (b3.mono B2.size)
  have X3 := X2.below b3 (Nat.le_refl _)
  clear B2 X2 b3
  have pl := blk_lt X3
  have c1 : w3.cell? ⟨w.heap.size, 1, none⟩ = some (.slice A1 m cap1) := blk_cell X3 1
  go_wp2_with fail
  clear c1 pl hT'
  go_loopg [7, 8] (m - 0) (fun n u v wr => ∃ (k a : Nat) (o : Nat → Int), n = m - k ∧ k ≤ m ∧ v = .int .i64 (a : Int) ∧ Gone (ab x) m d k a o ∧ Ow wr u k o ∧ ((k = 0 ∧ u = .slice none 0 0) ∨ (0 < k ∧ ∃ b cap, u = .slice (some ⟨b, 0, none⟩) k cap ∧ w.heap.size + 1 ≤ b)) ∧ Box wr w.heap.size N (.slice A1 m cap1) X C ∧ Below w.heap.size w wr)
  case atStart => exact ⟨0, d, fun _ => 0, rfl, Nat.zero_le _, rfl, ⟨rfl, fun j h => by omega, fun i j _ h => by omega, fun h => by omega⟩, Ow.nil _ _, .inl ⟨rfl, rfl⟩, X3, B3⟩
  case round =>
    clear X3 B3
    obtain ⟨k, a, o, hn, hkm, rfl, G, O, hu, Xb, B⟩ := hrel
    have ha : a < m := by rw [G.here]; exact pf.it_lt hd k
    have c1 : wr.cell? ⟨w.heap.size, 1, none⟩ = some (.slice A1 m cap1) := blk_cell Xb 1
    have xl := blk_lt Xb
    rcases hu with ⟨rfl, rfl⟩ | ⟨hk, b, cap, rfl, hbb⟩
    · have d1 : (0 : Int) < (m : Int) := by omega
      have Gs := Lib.hid (G.step pf hd (fun q => by omega))
      clear G
      go_upto_region 8 with fail
      have n0 : (wr.alloc (.cells #[.int .i64 (a : Int)] 3)).cell? ⟨wr.heap.size, 0, none⟩ = some (.int .i64 (a : Int)) := by rw [blk_cell (heap_alloc_new wr _)]; rfl
      have Ba : Below wr.heap.size wr (wr.alloc (.cells #[.int .i64 (a : Int)] 3)) := (Below.refl _ wr).alloc (Nat.le_refl _) _
      have Oa := O.below Ba (Nat.le_refl _)
      have B4 := B.trans (Ba.mono B.size)
      have X4 := Xb.below Ba (Nat.le_refl _)
      have sz : wr.heap.size ≤ (wr.alloc (.cells #[.int .i64 (a : Int)] 3)).heap.size := Ba.size
      go_upto_region 6 with (at_builtin; go_must (refine wpList_grow rfl _ _ rfl _ 0 o rfl Oa ⟨wr.heap.size, 0, none⟩ 1 (a : Int) rfl n0 (by omega) ?_); intro b' c' w5 O5 g5 l5)
      have hnb : ∀ j, (Value.slice none 0 0).ownBlock = some j → w.heap.size + 1 ≤ j := by
        intro j hj
        exact absurd hj (by simp [Value.ownBlock])
      have hown : ∀ j, (Value.slice none 0 0).ownBlock = some j → w.heap.size ≤ j := fun j hj => by have := hnb j hj; omega
      have B5 := Below.grown B4 g5 B4.size hown
      have X5 : Box w5 w.heap.size N (.slice A1 m cap1) X C := by
        refine (g5.block _ (blk_lt X4) ?_).trans X4
        intro e
        have := hnb _ e.symm
        omega
      have hb5 : w.heap.size + 1 ≤ b' := by
        have h1 := blk_lt Xb
        rcases l5 with e | e
        · have := hnb _ e.symm; omega
        · omega
      have bp : Box w5 p N (.slice A1 m cap1) X C := hb.below B5 (Nat.le_refl _)
      have xp : Rd w5 X m x := hX.below B5 (Nat.le_refl _)
      clear n0 Ba Oa B4 X4 sz O B Xb g5 l5 hown
      go_wp2_with fail
      refine (about1_any _ p N (.slice A1 m cap1) X C m x bp xp a ha).mono ?_
      rintro e w6 ⟨rfl, b6⟩
      have hfa := hv a ha
      rw [hfa]
      have O6 := O5.below b6 (Nat.le_refl _)
      have B6 := B5.trans (b6.mono B5.size)
      have X6 := X5.below b6 (Nat.le_refl _)
      clear O5 B5 X5 b6 hfa bp xp
      go_wp2_with fail
      go_roundg (m - (0 + 1))
      case measure => omega
      case rel =>
        exact ⟨0 + 1, ab x a, _, rfl, Gs.out.le pf hd, rfl, Gs.out, O6, .inr ⟨by omega, b', c', rfl, hb5⟩, X6, B6⟩
    · by_cases had : a = d
      · have HE := Lib.hid had
        obtain ⟨hkc, cur, hcur, hcj⟩ := O.cur
        have e1 : (k : Int) ≤ (cap : Int) := by omega
        have d3 : ((a : Int) == (d : Int)) = true := by simp [had]
        have d4 : (0 : Int) < (k : Int) := by omega
        clear had
        by_cases hlt : k < m
        · have d1 : (k : Int) < (m : Int) := by omega
          go_wp2_with fail
          go_ret
          exact ⟨b, k, cur, rfl, by omega, hcur, fun j hj => by rw [hcj j hj, G.row j hj], ⟨hk, by rw [← G.here]; exact HE.out, G.apart⟩, B⟩
        · have d1 : ¬ ((k : Int) < (m : Int)) := by omega
          go_wp2_with fail
          go_ret
          exact ⟨b, k, cur, rfl, by omega, hcur, fun j hj => by rw [hcj j hj, G.row j hj], ⟨hk, by rw [← G.here]; exact HE.out, G.apart⟩, B⟩
      · have hlt : k < m := by
          rcases Nat.lt_or_ge k m with q | q
          · exact q
          · exact absurd (G.full pf hd (by omega)) had
        have d1 : (k : Int) < (m : Int) := by omega
        have d3 : ((a : Int) == (d : Int)) = false := by simp; omega
        have d4 : (0 : Int) < (k : Int) := by omega
        have Gs := Lib.hid (G.step pf hd (fun _ => had))
        clear G had
        go_upto_region 8 with fail
        have n0 : (wr.alloc (.cells #[.int .i64 (a : Int)] 3)).cell? ⟨wr.heap.size, 0, none⟩ = some (.int .i64 (a : Int)) := by rw [blk_cell (heap_alloc_new wr _)]; rfl
        have Ba : Below wr.heap.size wr (wr.alloc (.cells #[.int .i64 (a : Int)] 3)) := (Below.refl _ wr).alloc (Nat.le_refl _) _
        have Oa := O.below Ba (Nat.le_refl _)
        have B4 := B.trans (Ba.mono B.size)
        have X4 := Xb.below Ba (Nat.le_refl _)
        have sz : wr.heap.size ≤ (wr.alloc (.cells #[.int .i64 (a : Int)] 3)).heap.size := Ba.size
        go_upto_region 6 with (at_builtin; go_must (refine wpList_grow rfl _ _ rfl _ k o rfl Oa ⟨wr.heap.size, 0, none⟩ 1 (a : Int) rfl n0 (by omega) ?_); intro b' c' w5 O5 g5 l5)
        have hnb : ∀ j, (Value.slice (some ⟨b, 0, none⟩) k cap).ownBlock = some j → w.heap.size + 1 ≤ j := by
          intro j hj
          have e : some b = some j := hj; injection e with e; omega
        have hown : ∀ j, (Value.slice (some ⟨b, 0, none⟩) k cap).ownBlock = some j → w.heap.size ≤ j := fun j hj => by have := hnb j hj; omega
        have B5 := Below.grown B4 g5 B4.size hown
        have X5 : Box w5 w.heap.size N (.slice A1 m cap1) X C := by
          refine (g5.block _ (blk_lt X4) ?_).trans X4
          intro e
          have := hnb _ e.symm
          omega
        have hb5 : w.heap.size + 1 ≤ b' := by
          have h1 := blk_lt Xb
          rcases l5 with e | e
          · have := hnb _ e.symm; omega
          · omega
        have bp : Box w5 p N (.slice A1 m cap1) X C := hb.below B5 (Nat.le_refl _)
        have xp : Rd w5 X m x := hX.below B5 (Nat.le_refl _)
        clear n0 Ba Oa B4 X4 sz O B Xb g5 l5 hown
        go_wp2_with fail
        refine (about1_any _ p N (.slice A1 m cap1) X C m x bp xp a ha).mono ?_
        rintro e w6 ⟨rfl, b6⟩
        have hfa := hv a ha
        rw [hfa]
        have O6 := O5.below b6 (Nat.le_refl _)
        have B6 := B5.trans (b6.mono B5.size)
        have X6 := X5.below b6 (Nat.le_refl _)
        clear O5 B5 X5 b6 hfa bp xp
        go_wp2_with fail
        go_roundg (m - (k + 1))
        case measure => omega
        case rel => exact ⟨k + 1, ab x a, _, rfl, Gs.out.le pf hd, rfl, Gs.out, O6, .inr ⟨by omega, b', c', rfl, hb5⟩, X6, B6⟩
end Go.Proofs.Ytcejjcopchkmeaa.Ro
