/- Walks: the reference's Faces. -/
import Derived.Test.YtcejjcopchkmeaaRoJ
namespace Go.Proofs.Ytcejjcopchkmeaa.Ro
open Go.RowKit Go.Proofs Go.Maps
set_option linter.unusedVariables false
set_option maxRecDepth 100000
set_option linter.unusedSimpArgs false


theorem Part.low {f : Nat → Nat} {m i c : Nat} {o : Nat → Int} (h : Part f m i o c) (p : Perm f m) {d : Nat} (hd : d < m) (h0 : o d = -1) : ∀ k, o (it f k d) = -1
  | 0 => h0
  | k + 1 => by
    have ih := Part.low h p hd h0 k
    have hl := p.it_lt hd k
    rcases h.some _ (p.it_lt hd (k + 1)) with q | ⟨q, _⟩
    · exact q
    · have := h.bwd _ hl q; omega
theorem Chain.open_ {f : Nat → Nat} {m d c i k a : Nat} {o o' : Nat → Int} (h : Chain f m o d c i a o') (R : Rnd f d k) (hi : i < k) (p : Perm f m) (hd : d < m) (P : Part f m d o c) (h0 : o d = -1) : o' a < 0 := by
  have hl := h.lt p hd
  rcases h.now a hl with ⟨_, j, hj, e⟩ | ⟨e, _⟩
  · rw [h.here] at e; exact absurd e.symm (R.apart j i hj hi)
  · rw [e, h.here, P.low p hd h0 i]; omega
theorem Chain.shut {f : Nat → Nat} {m d c k a : Nat} {o o' : Nat → Int} (h : Chain f m o d c k a o') (R : Rnd f d k) (hd : d < m) : 0 ≤ o' a := by
  have e : a = d := by rw [h.here]; exact R.back
  rw [e]
  rcases h.now d hd with ⟨e, _⟩ | ⟨_, q⟩
  · omega
  · exact absurd rfl (q 0 R.pos)

set_option maxHeartbeats 6400000 in
theorem refFaces_ok (w : World) (N : Int) (T X C : Value) (m : Nat) (t x : Nat → Int) (hT : Rd w T m t) (hX : Rd w X m x) (hm : m ≤ 999) (hev : m % 2 = 0) (hn : ∀ d, d < m → 0 ≤ x d) (pf : Perm (bh x) m) :
    Calls Try.prog 22 #[.agg #[.int .i64 N, T, X, C]] w
      fun e w' => ∃ b o k, e = .returned (.tuple #[.slice (some ⟨b, 0, none⟩) m m, .int .i64 ((max k 1 : Nat) : Int)]) ∧ Ow w' (.slice (some ⟨b, 0, none⟩) m m) m o ∧ w.heap.size ≤ b ∧ Orb (bh x) m o k ∧ k ≤ m ∧ Below w.heap.size w w' := by
  have hT' := hT
  obtain ⟨A1, cap1, rfl, r1⟩ := hT
  clear r1
  obtain ⟨ii, hi, hz, hs, hby⟩ := info_parts (P := Try.prog) (e := 3) (z := .int .i64 0) (size := 1) (bytes := 8) (by kernel_rfl)
  go_enter Try.func22, Try.ntmps22
  go_upto_region 1 with fail
  have B2 : Below w.heap.size w (w.alloc (.cells #[.int .i64 N, .slice A1 m cap1, X, C] 25)) := (Below.refl _ w).alloc (Nat.le_refl _) _
  have X2 : Box (w.alloc (.cells #[.int .i64 N, .slice A1 m cap1, X, C] 25)) w.heap.size N (.slice A1 m cap1) X C := heap_alloc_new _ _
  have sz : w.heap.size < (w.alloc (.cells #[.int .i64 N, .slice A1 m cap1, X, C] 25)).heap.size := by simp
  generalize (w.alloc (.cells #[.int .i64 N, .slice A1 m cap1, X, C] 25)) = w2 at *
  obtain ⟨p, hp⟩ : ∃ p, p = w.heap.size := ⟨_, rfl⟩
  rw [← hp] at X2 sz ⊢
  have c1 : w2.cell? ⟨p, 1, none⟩ = some (.slice A1 m cap1) := blk_cell X2 1
  have hpw : w.heap.size ≤ p := by omega
  clear hp
  go_upto_region 2 with (at_make; refine wpList_make_full _ rfl _ _ _ rfl 0 3 ii (.int .i64 0) 1 Try.underlying22 hi hz hs .i64 .i64 (m : Int) (m : Int) m rfl rfl rfl rfl (by rw [hby]; omega) (by unfold maxLen; omega) (Nat.zero_le _) ?_; intro w3 hm3 hg3)
  rw [show (Value.int IntKind.i64 0).cells = #[.int .i64 0] from rfl, Nat.mul_one, toList_madeCells_one] at hm3
  have O3 := Ow.made hm3
  have b3 : Below w2.heap.size w2 w3 := ⟨hg3.os, hg3.tape, hg3.output, hg3.size, fun k hk => hg3.block k hk (by simp)⟩
  have B3 := B2.trans (b3.mono B2.size)
  have X3 := X2.below b3 (Nat.le_refl _)
  have hbp : w2.heap.size ≠ p := by omega
  have hbw : w.heap.size ≤ w2.heap.size := B2.size
  clear hm3 hg3 b3 c1 X2 B2 sz
  generalize w2.heap.size = b at *
  clear w2
  go_wp2_with fail
  go_loopw [5] (fun u wr => ∃ j : Nat, u = .int .i64 (j : Int) ∧ j ≤ m ∧ Ow wr (.slice (some ⟨b, 0, none⟩) m m) m (fun i => if i < j then -1 else 0) ∧ Box wr p N (.slice A1 m cap1) X C ∧ Below w.heap.size w wr) (fun u _ => m - (intOf u).toNat)
  case atStart => exact ⟨0, rfl, Nat.zero_le _, O3.congr fun j _ => by simp, X3, B3⟩
  case round =>
    clear O3 X3 B3 w3
    obtain ⟨j, rfl, hj, O, Xb, B⟩ := hrel
    by_cases hlt : j < m
    · have d1 : (j : Int) < (m : Int) := by omega
      have co := O.cell hlt
      have zf := O.frozen j
      have O5 := (O.set hlt (-1)).congr (x' := fun i => if i < j + 1 then -1 else 0) (fun i hi => by
        by_cases e : i = j
        · subst e; rw [upd_same, if_pos (by omega)]
        · rw [upd_ne e]
          by_cases q : i < j
          · rw [if_pos q, if_pos (by omega)]
          · rw [if_neg q, if_neg (by omega)])
      have B5 := B.setCell (p := ⟨b, j, none⟩) hbw (.int .i64 (-1))
      have X5 : Box (wr.setCell ⟨b, j, none⟩ (.int .i64 (-1))) p N (.slice A1 m cap1) X C := (Below.heap_setCell _ _ _ _ (Ne.symm hbp)).trans Xb
      clear O B Xb
      go_wp2_with fail
      go_roundw
      case rel => exact ⟨j + 1, by simp, by omega, O5, X5, B5⟩
      case measure => simp [intOf]; omega
    · have d1 : ¬ ((j : Int) < (m : Int)) := by omega
      have O5 := O.congr (x' := fun _ => -1) fun i hi => if_pos (by omega)
      clear O
      go_wp2_with fail
      clear d1 hlt hj
      go_loopw [6, 7] (fun u v wr => ∃ (c i : Nat) (o : Nat → Int), u = .int .i64 (c : Int) ∧ v = .int .i64 (i : Int) ∧ i ≤ m ∧ c ≤ i ∧ Part (bh x) m i o c ∧ Ow wr (.slice (some ⟨b, 0, none⟩) m m) m o ∧ Box wr p N (.slice A1 m cap1) X C ∧ Below w.heap.size w wr) (fun _ v _ => m - (intOf v).toNat)
      case atStart => exact ⟨0, 0, _, rfl, rfl, Nat.zero_le _, Nat.le_refl _, Part.start _ m, O5, Xb, B⟩
      case round =>
        clear O5 Xb B
        obtain ⟨c, i, o, rfl, rfl, hi, hci, P, O, Xb, B⟩ := hrel
        by_cases hlt : i < m
        · have d1 : (i : Int) < (m : Int) := by omega
          have co := O.cell hlt
          rcases P.some i hlt with h0 | ⟨h0, h1⟩
          · rw [h0] at co
            have pl := blk_lt Xb
            have c0 : wr.cell? ⟨p, 0, none⟩ = some (.int .i64 N) := blk_cell Xb 0
            have c1 : wr.cell? ⟨p, 1, none⟩ = some (.slice A1 m cap1) := blk_cell Xb 1
            have c2 : wr.cell? ⟨p, 2, none⟩ = some X := blk_cell Xb 2
            have c3 : wr.cell? ⟨p, 3, none⟩ = some C := blk_cell Xb 3
            go_wp2_with fail
            refine (refFace_ok _ N _ X C m x (hX.below B (Nat.le_refl _)) hm hev hn pf i hlt).mono ?_
            rintro e w5 ⟨lb, k, lcap, rfl, hlb, L5, R, b5⟩
            have hkm : k ≤ m := apart_le k (fun j => it (bh x) j i) (fun j _ => pf.it_lt hlt j) R.apart
            have O6 := O.below b5 (Nat.le_refl _)
            have X6 := Xb.below b5 (Nat.le_refl _)
            have B6 := B.trans (b5.mono B.size)
            have hlbb : lb ≠ b := by have := O.lt (k := b) rfl; omega
            clear c0 c1 c2 c3 pl co O Xb B b5
            go_wp2_with fail
            go_loopw [9] (fun u wr => ∃ (j : Nat) (o' : Nat → Int), u = .int .i64 (j : Int) ∧ j ≤ k ∧ Chain (bh x) m o i c j (it (bh x) j i) o' ∧ Ow wr (.slice (some ⟨b, 0, none⟩) m m) m o' ∧ Ow wr (.slice (some ⟨lb, 0, none⟩) k lcap) k (fun j => (it (bh x) j i : Int)) ∧ Box wr p N (.slice A1 m cap1) X C ∧ Below w.heap.size w wr) (fun u _ => k - (intOf u).toNat)
            case atStart => exact ⟨0, o, rfl, Nat.zero_le _, Chain.start _ m o i c, O6, L5, X6, B6⟩
            case round =>
              clear O6 L5 X6 B6
              obtain ⟨j, o', rfl, hj, Ch, O, L, Xb, B⟩ := hrel
              by_cases hjk : j < k
              · have e1 : (j : Int) < (k : Int) := by omega
                have cl := L.cell hjk
                have hl := Ch.lt pf hlt
                have hop := Ch.open_ R hjk pf hlt P h0
                have Ch2 : Hid (∃ o2, Chain (bh x) m o i c (j + 1) (it (bh x) (j + 1) i) o2 ∧ o2 = upd o' (it (bh x) j i) (c : Int)) := Lib.hid ⟨_, Ch.step pf hlt P hop, rfl⟩
                have zf := O.frozen (it (bh x) j i)
                have ca := O.cell hl
                have s1 : ((it (bh x) j i : Nat) : Int) < (m : Int) := by omega
                have O7 := O.set hl (c : Int)
                have L7 : Ow (wr.setCell ⟨b, it (bh x) j i, none⟩ (.int .i64 (c : Int))) (.slice (some ⟨lb, 0, none⟩) k lcap) k (fun j => (it (bh x) j i : Int)) := L.keep fun q hq => Below.heap_setCell _ _ _ _ (by simp [Value.ownBlock] at hq; subst hq; exact hlbb)
                have B7 := B.setCell (p := ⟨b, it (bh x) j i, none⟩) hbw (.int .i64 (c : Int))
                have X7 : Box (wr.setCell ⟨b, it (bh x) j i, none⟩ (.int .i64 (c : Int))) p N (.slice A1 m cap1) X C := (Below.heap_setCell _ _ _ _ (Ne.symm hbp)).trans Xb
                clear O L Xb B Ch h0 hop
                generalize it (bh x) j i = at_ at *
                go_wp2_with fail
                go_roundw
                case rel =>
                  obtain ⟨o2, h1, h2⟩ := Ch2.out
                  exact ⟨j + 1, o2, by simp, by omega, h1, by rw [h2]; exact O7, L7, X7, B7⟩
                case measure => simp [intOf]; omega
              · have e1 : ¬ ((j : Int) < (k : Int)) := by omega
                obtain rfl : j = k := by omega
                have P5 := Lib.hid (Ch.done pf hlt P h0 (Ch.shut R hlt))
                have ln : (c : Int) < 9223372036854775807 := by omega
                clear Ch P h0
                go_wp2_with fail
                go_roundw
                case rel => exact ⟨c + 1, i + 1, o', by simp, by simp, by omega, by omega, P5.out, O, Xb, B⟩
                case measure => simp [intOf]; omega
          · have d2 : decide (o i ≥ 0) = true := by simp [h0]
            have P' := Lib.hid (P.skip h0)
            clear P
            go_wp2_with fail
            go_roundw
            case rel => exact ⟨c, i + 1, o, rfl, by simp, by omega, by omega, P'.out, O, Xb, B⟩
            case measure => simp [intOf]; omega
        · have d1 : ¬ ((i : Int) < (m : Int)) := by omega
          obtain rfl : i = m := by omega
          go_wp2
          all_goals
            go_ret2
            refine ⟨b, o, c, ?_, O, hbw, P.orb, hci, B⟩
            simp
            omega
end Go.Proofs.Ytcejjcopchkmeaa.Ro
