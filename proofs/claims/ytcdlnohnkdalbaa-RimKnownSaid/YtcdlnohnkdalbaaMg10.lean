/- A row appended to a row of the call's own (RoAp), beside the document's rounds and the laws of growing. Walks: the reference's Face and About: the same rounds. Walks: the reference's Faces. Plain laws: the plane net that numbers make, as a function of the numbers. -/
import Derived.Test.YtcdlnohnkdalbaaMg1
import Derived.Test.YtcdlnohnkdalbaaMg7
import Derived.Test.YtcdlnohnkdalbaaMg9

namespace Go.Proofs.Ytcdlnohnkdalbaa.Ro
open Go.RowKit Go.Proofs Go.Maps
set_option linter.unusedVariables false
set_option maxRecDepth 100000
set_option linter.unusedSimpArgs false

/-- what Face and About tell: a round, in a row of the call's own -/
def RowPost (B : Nat) (w : World) (f : Nat → Nat) (d : Nat) (e : Ending) (w' : World) : Prop :=
  ∃ b k cap, e = .returned (.slice (some ⟨b, 0, none⟩) k cap) ∧ B ≤ b ∧ Ow w' (.slice (some ⟨b, 0, none⟩) k cap) k (fun j => (it f j d : Int)) ∧ Rnd f d k ∧ Below B w w'

theorem Gone.start (f : Nat → Nat) (m d : Nat) (o : Nat → Int) : Gone f m d 0 d o := ⟨rfl, fun j h => by omega, fun i j _ h => by omega, fun h => by omega⟩

set_option maxHeartbeats 3200000 in
theorem refFace_ok (w : World) (N : Int) (T X C : Value) (m : Nat) (x : Nat → Int) (hX : Rd w X m x) (hm : m ≤ 999) (hev : m % 2 = 0) (hn : ∀ d, d < m → 0 ≤ x d) (pf : Perm (bh x) m) (d : Nat) (hd : d < m) :
    Calls Try.prog 39 #[.agg #[.int .i64 N, T, X, C], .int .i64 (d : Int)] w (RowPost w.heap.size w (bh x) d) := by
  have hv : ∀ d, d < m → x (oth d) = (bh x d : Int) := fun d hd => by
    have := hn (oth d) (oth_lt hd hev)
    unfold bh; omega
  obtain ⟨A, cap, rfl, r⟩ := hX
  obtain ⟨y, rfl, hy, hc⟩ := r (by omega)
  have cx := hc (oth d) (oth_lt hd hev)
  rw [hv d hd] at cx
  have d1 : (oth d : Int) < (m : Int) := by have := oth_lt hd hev; omega
  have hx := xor_one d (by omega)
  have G1 := (Gone.start (bh x) m d (fun _ => 0)).step pf hd (fun q => by omega)
  clear r
  go_enter Try.func39, Try.ntmps39
  go_upto_region 2 with fail
  have B2 : Below w.heap.size w (w.alloc (.cells #[.int .i64 N, T, .slice (some y) m cap, C] 25)) := (Below.refl _ w).alloc (Nat.le_refl _) _
  have X2 : Box (w.alloc (.cells #[.int .i64 N, T, .slice (some y) m cap, C] 25)) w.heap.size N T (.slice (some y) m cap) C := heap_alloc_new _ _
  have sz : (w.alloc (.cells #[.int .i64 N, T, .slice (some y) m cap, C] 25)).heap.size = w.heap.size + 1 := by simp
  generalize (w.alloc (.cells #[.int .i64 N, T, .slice (some y) m cap, C] 25)) = w2 at *
  have O3 : Ow (w2.alloc (.cells #[.int .i64 (d : Int)] 3)) (.slice (some ⟨w2.heap.size, 0, none⟩) 1 1) 1 (upd (fun _ => 0) 0 (d : Int)) := Ow.lit1 w2 _ _ rfl
  have b3 : Below w2.heap.size w2 (w2.alloc (.cells #[.int .i64 (d : Int)] 3)) := (Below.refl _ w2).alloc (Nat.le_refl _) _
  have B3 := B2.trans (b3.mono B2.size)
  have X3 := X2.below b3 (Nat.le_refl _)
  clear b3 B2 X2
  generalize (w2.alloc (.cells #[.int .i64 (d : Int)] 3)) = w3 at *
  rw [sz] at O3
  clear sz w2
  obtain ⟨p, hp⟩ : ∃ p, p = w.heap.size := ⟨_, rfl⟩
  rw [← hp] at X3 O3 ⊢
  have hpw : w.heap.size ≤ p := by omega
  clear hp
  have cx3 : w3.cell? (y.add (oth d)) = some (.int .i64 (bh x d : Int)) := (B3.cell (by rw [block_add]; exact hy)).trans cx
  have c2 : w3.cell? ⟨p, 2, none⟩ = some (.slice (some y) m cap) := blk_cell X3 2
  go_wp2_with fail
  clear c2 cx3 cx d1
  go_loopg [5, 6] (m - 1) (fun n u v wr => ∃ (k a : Nat) (o : Nat → Int) (b c : Nat), n = m - k ∧ 0 < k ∧ k ≤ m ∧ u = .slice (some ⟨b, 0, none⟩) k c ∧ p < b ∧ v = .int .i64 (a : Int) ∧ Gone (bh x) m d k a o ∧ Ow wr (.slice (some ⟨b, 0, none⟩) k c) k o ∧ Box wr p N T (.slice (some y) m cap) C ∧ Below w.heap.size w wr)
  case atStart => exact ⟨1, bh x d, _, p + 1, 1, rfl, by omega, G1.le pf hd, rfl, by omega, rfl, G1, O3, X3, B3⟩
  case round =>
    clear O3 X3 B3 G1 w3
    obtain ⟨k, a, o, b, c, hn', hk, hkm, rfl, hpb, rfl, G, O, Xb, B⟩ := hrel
    have ha : a < m := by rw [G.here]; exact pf.it_lt hd k
    by_cases had : a = d
    · have HE := Lib.hid had
      have d3 : ((a : Int) != (d : Int)) = false := by simp [had]
      clear had
      go_wp2_with fail
      go_ret
      exact ⟨b, k, c, rfl, by omega, O.congr fun j hj => G.row j hj, ⟨hk, by rw [← G.here]; exact HE.out, G.apart⟩, B⟩
    · have d3 : ((a : Int) != (d : Int)) = true := by simp; omega
      have hlt : k < m := by
        rcases Nat.lt_or_ge k m with q | q
        · exact q
        · exact absurd (G.full pf hd (by omega)) had
      have Gs := Lib.hid (G.step pf hd (fun _ => had))
      clear G had
      go_upto_region 5 with fail
      have n0 : (wr.alloc (.cells #[.int .i64 (a : Int)] 3)).cell? ⟨wr.heap.size, 0, none⟩ = some (.int .i64 (a : Int)) := by rw [blk_cell (heap_alloc_new wr _)]; rfl
      have Ba : Below wr.heap.size wr (wr.alloc (.cells #[.int .i64 (a : Int)] 3)) := (Below.refl _ wr).alloc (Nat.le_refl _) _
      have Oa := O.below Ba (Nat.le_refl _)
      have B4 := B.trans (Ba.mono B.size)
      have X4 := Xb.below Ba (Nat.le_refl _)
      have sz : wr.heap.size ≤ (wr.alloc (.cells #[.int .i64 (a : Int)] 3)).heap.size := Ba.size
      have xl := blk_lt Xb
      go_upto_region 4 with (at_builtin; go_must (refine wpList_grow rfl _ _ rfl _ k o rfl Oa ⟨wr.heap.size, 0, none⟩ 1 (a : Int) rfl n0 (by omega) ?_); intro b' c' w5 O5 g5 l5)
      have hnb : ∀ j, (Value.slice (some ⟨b, 0, none⟩) k c).ownBlock = some j → p < j := by
        intro j hj
        have e : some b = some j := hj; injection e with e; omega
      have hown : ∀ j, (Value.slice (some ⟨b, 0, none⟩) k c).ownBlock = some j → w.heap.size ≤ j := fun j hj => by have := hnb j hj; omega
      have B5 := Below.grown B4 g5 B4.size hown
      have X5 : Box w5 p N T (.slice (some y) m cap) C := by
        refine (g5.block _ (blk_lt X4) ?_).trans X4
        intro e
        have := hnb _ e.symm
        omega
      have hb5 : p < b' := by
        rcases l5 with e | e
        · have := hnb _ e.symm; omega
        · omega
      have oa := oth_lt ha hev
      have cx5 : w5.cell? (y.add (oth a)) = some (.int .i64 (bh x a : Int)) := by rw [← hv a ha]; exact (B5.cell (by rw [block_add]; exact hy)).trans (hc (oth a) oa)
      have c2 : w5.cell? ⟨p, 2, none⟩ = some (.slice (some y) m cap) := blk_cell X5 2
      have e1 : (oth a : Int) < (m : Int) := by omega
      have hxa := xor_one a (by omega)
      clear n0 Ba Oa B4 X4 sz O B Xb g5 l5 hown
      go_wp2_with fail
      clear c2 cx5 e1 hxa
      go_roundg (m - (k + 1))
      case measure => omega
      case rel => exact ⟨k + 1, bh x a, _, b', c', rfl, by omega, Gs.out.le pf hd, rfl, hb5, rfl, Gs.out, O5, X5, B5⟩
end Go.Proofs.Ytcdlnohnkdalbaa.Ro
namespace Go.Proofs.Ytcdlnohnkdalbaa.Ro
open Go.RowKit Go.Proofs Go.Maps
set_option linter.unusedVariables false
set_option maxRecDepth 100000
set_option linter.unusedSimpArgs false


theorem Part.low {f : Nat → Nat} {m i c : Nat} {o : Nat → Int} (h : Part f m i o c) (p : Perm f m) {d : Nat} (hd : d < m) (h0 : o d = -1) : ∀ k, o (it f k d) = -1
  | 0 => h0
  | k + 1 => by
    have ih := Part.low h p hd h0 k
    have hl := p.it_lt hd k
    rcases h.some _ (p.it_lt hd (k + 1)) with q | ⟨q, _⟩
    · exact q
    · have := h.bwd _ hl q; omega
theorem Chain.open_ {f : Nat → Nat} {m d c i k a : Nat} {o o' : Nat → Int} (h : Chain f m o d c i a o') (R : Rnd f d k) (hi : i < k) (p : Perm f m) (hd : d < m) (P : Part f m d o c) (h0 : o d = -1) : o' a < 0 := by
  have hl := h.lt p hd
  rcases h.now a hl with ⟨_, j, hj, e⟩ | ⟨e, _⟩
  · rw [h.here] at e; exact absurd e.symm (R.apart j i hj hi)
  · rw [e, h.here, P.low p hd h0 i]; omega
theorem Chain.shut {f : Nat → Nat} {m d c k a : Nat} {o o' : Nat → Int} (h : Chain f m o d c k a o') (R : Rnd f d k) (hd : d < m) : 0 ≤ o' a := by
  have e : a = d := by rw [h.here]; exact R.back
  rw [e]
  rcases h.now d hd with ⟨e, _⟩ | ⟨_, q⟩
  · omega
  · exact absurd rfl (q 0 R.pos)

set_option maxHeartbeats 6400000 in
theorem refFaces_ok (w : World) (N : Int) (T X C : Value) (m : Nat) (t x : Nat → Int) (hT : Rd w T m t) (hX : Rd w X m x) (hm : m ≤ 999) (hev : m % 2 = 0) (hn : ∀ d, d < m → 0 ≤ x d) (pf : Perm (bh x) m) :
    Calls Try.prog 31 #[.agg #[.int .i64 N, T, X, C]] w
      fun e w' => ∃ b o k, e = .returned (.tuple #[.slice (some ⟨b, 0, none⟩) m m, .int .i64 ((max k 1 : Nat) : Int)]) ∧ Ow w' (.slice (some ⟨b, 0, none⟩) m m) m o ∧ w.heap.size ≤ b ∧ Orb (bh x) m o k ∧ k ≤ m ∧ Below w.heap.size w w' := by
  have hT' := hT
  obtain ⟨A1, cap1, rfl, r1⟩ := hT
  clear r1
  obtain ⟨ii, hi, hz, hs, hby⟩ := info_parts (P := Try.prog) (e := 3) (z := .int .i64 0) (size := 1) (bytes := 8) (by kernel_rfl)
  go_enter Try.func31, Try.ntmps31
  go_upto_region 1 with fail
  have B2 : Below w.heap.size w (w.alloc (.cells #[.int .i64 N, .slice A1 m cap1, X, C] 25)) := (Below.refl _ w).alloc (Nat.le_refl _) _
  have X2 : Box (w.alloc (.cells #[.int .i64 N, .slice A1 m cap1, X, C] 25)) w.heap.size N (.slice A1 m cap1) X C := heap_alloc_new _ _
  have sz : w.heap.size < (w.alloc (.cells #[.int .i64 N, .slice A1 m cap1, X, C] 25)).heap.size := by simp
  generalize (w.alloc (.cells #[.int .i64 N, .slice A1 m cap1, X, C] 25)) = w2 at *
  obtain ⟨p, hp⟩ : ∃ p, p = w.heap.size := ⟨_, rfl⟩
  rw [← hp] at X2 sz ⊢
  have c1 : w2.cell? ⟨p, 1, none⟩ = some (.slice A1 m cap1) := blk_cell X2 1
  have hpw : w.heap.size ≤ p := by omega
  clear hp
  go_upto_region 2 with (at_make; refine wpList_make_full _ rfl _ _ _ rfl 0 3 ii (.int .i64 0) 1 Try.underlying22 hi hz hs .i64 .i64 (m : Int) (m : Int) m rfl rfl rfl rfl (by rw [hby]; omega) (by unfold maxLen; omega) (Nat.zero_le _) ?_; intro w3 hm3 hg3)
  rw [show (Value.int IntKind.i64 0).cells = #[.int .i64 0] from rfl, Nat.mul_one, toList_madeCells_one] at hm3
  have O3 := Ow.made hm3
  have b3 : Below w2.heap.size w2 w3 := ⟨hg3.os, hg3.tape, hg3.output, hg3.size, fun k hk => hg3.block k hk (by simp)⟩
  have B3 := B2.trans (b3.mono B2.size)
  have X3 := X2.below b3 (Nat.le_refl _)
  have hbp : w2.heap.size ≠ p := by omega
  have hbw : w.heap.size ≤ w2.heap.size := B2.size
  clear hm3 hg3 b3 c1 X2 B2 sz
  generalize w2.heap.size = b at *
  clear w2
  go_wp2_with fail
  go_loopw [5] (fun u wr => ∃ j : Nat, u = .int .i64 (j : Int) ∧ j ≤ m ∧ Ow wr (.slice (some ⟨b, 0, none⟩) m m) m (fun i => if i < j then -1 else 0) ∧ Box wr p N (.slice A1 m cap1) X C ∧ Below w.heap.size w wr) (fun u _ => m - (intOf u).toNat)
  case atStart => exact ⟨0, rfl, Nat.zero_le _, O3.congr fun j _ => by simp, X3, B3⟩
  case round =>
    clear O3 X3 B3 w3
    obtain ⟨j, rfl, hj, O, Xb, B⟩ := hrel
    by_cases hlt : j < m
    · have d1 : (j : Int) < (m : Int) := by omega
      have co := O.cell hlt
      have zf := O.frozen j
      have O5 := (O.set hlt (-1)).congr (x' := fun i => if i < j + 1 then -1 else 0) (fun i hi => by
        by_cases e : i = j
        · subst e; rw [upd_same, if_pos (by omega)]
        · rw [upd_ne e]
          by_cases q : i < j
          · rw [if_pos q, if_pos (by omega)]
          · rw [if_neg q, if_neg (by omega)])
      have B5 := B.setCell (p := ⟨b, j, none⟩) hbw (.int .i64 (-1))
      have X5 : Box (wr.setCell ⟨b, j, none⟩ (.int .i64 (-1))) p N (.slice A1 m cap1) X C := (Below.heap_setCell _ _ _ _ (Ne.symm hbp)).trans Xb
      clear O B Xb
      go_wp2_with fail
      go_roundw
      case rel => exact ⟨j + 1, by simp, by omega, O5, X5, B5⟩
      case measure => simp [intOf]; omega
    · have d1 : ¬ ((j : Int) < (m : Int)) := by omega
      have O5 := O.congr (x' := fun _ => -1) fun i hi => if_pos (by omega)
      clear O
      go_wp2_with fail
      clear d1 hlt hj
      go_loopw [6, 7] (fun u v wr => ∃ (c i : Nat) (o : Nat → Int), u = .int .i64 (c : Int) ∧ v = .int .i64 (i : Int) ∧ i ≤ m ∧ c ≤ i ∧ Part (bh x) m i o c ∧ Ow wr (.slice (some ⟨b, 0, none⟩) m m) m o ∧ Box wr p N (.slice A1 m cap1) X C ∧ Below w.heap.size w wr) (fun _ v _ => m - (intOf v).toNat)
      case atStart => exact ⟨0, 0, _, rfl, rfl, Nat.zero_le _, Nat.le_refl _, Part.start _ m, O5, Xb, B⟩
      case round =>
        clear O5 Xb B
        obtain ⟨c, i, o, rfl, rfl, hi, hci, P, O, Xb, B⟩ := hrel
        by_cases hlt : i < m
        · have d1 : (i : Int) < (m : Int) := by omega
          have co := O.cell hlt
          rcases P.some i hlt with h0 | ⟨h0, h1⟩
          · rw [h0] at co
            have pl := blk_lt Xb
            have c0 : wr.cell? ⟨p, 0, none⟩ = some (.int .i64 N) := blk_cell Xb 0
            have c1 : wr.cell? ⟨p, 1, none⟩ = some (.slice A1 m cap1) := blk_cell Xb 1
            have c2 : wr.cell? ⟨p, 2, none⟩ = some X := blk_cell Xb 2
            have c3 : wr.cell? ⟨p, 3, none⟩ = some C := blk_cell Xb 3
            go_wp2_with fail
            refine (refFace_ok _ N _ X C m x (hX.below B (Nat.le_refl _)) hm hev hn pf i hlt).mono ?_
            rintro e w5 ⟨lb, k, lcap, rfl, hlb, L5, R, b5⟩
            have hkm : k ≤ m := apart_le k (fun j => it (bh x) j i) (fun j _ => pf.it_lt hlt j) R.apart
            have O6 := O.below b5 (Nat.le_refl _)
            have X6 := Xb.below b5 (Nat.le_refl _)
            have B6 := B.trans (b5.mono B.size)
            have hlbb : lb ≠ b := by have := O.lt (k := b) rfl; omega
            clear c0 c1 c2 c3 pl co O Xb B b5
            go_wp2_with fail
            go_loopw [9] (fun u wr => ∃ (j : Nat) (o' : Nat → Int), u = .int .i64 (j : Int) ∧ j ≤ k ∧ Chain (bh x) m o i c j (it (bh x) j i) o' ∧ Ow wr (.slice (some ⟨b, 0, none⟩) m m) m o' ∧ Ow wr (.slice (some ⟨lb, 0, none⟩) k lcap) k (fun j => (it (bh x) j i : Int)) ∧ Box wr p N (.slice A1 m cap1) X C ∧ Below w.heap.size w wr) (fun u _ => k - (intOf u).toNat)
            case atStart => exact ⟨0, o, rfl, Nat.zero_le _, Chain.start _ m o i c, O6, L5, X6, B6⟩
            case round =>
              clear O6 L5 X6 B6
              obtain ⟨j, o', rfl, hj, Ch, O, L, Xb, B⟩ := hrel
              by_cases hjk : j < k
              · have e1 : (j : Int) < (k : Int) := by omega
                have cl := L.cell hjk
                have hl := Ch.lt pf hlt
                have hop := Ch.open_ R hjk pf hlt P h0
                have Ch2 : Hid (∃ o2, Chain (bh x) m o i c (j + 1) (it (bh x) (j + 1) i) o2 ∧ o2 = upd o' (it (bh x) j i) (c : Int)) := Lib.hid ⟨_, Ch.step pf hlt P hop, rfl⟩
                have zf := O.frozen (it (bh x) j i)
                have ca := O.cell hl
                have s1 : ((it (bh x) j i : Nat) : Int) < (m : Int) := by omega
                have O7 := O.set hl (c : Int)
                have L7 : Ow (wr.setCell ⟨b, it (bh x) j i, none⟩ (.int .i64 (c : Int))) (.slice (some ⟨lb, 0, none⟩) k lcap) k (fun j => (it (bh x) j i : Int)) := L.keep fun q hq => Below.heap_setCell _ _ _ _ (by simp [Value.ownBlock] at hq; subst hq; exact hlbb)
                have B7 := B.setCell (p := ⟨b, it (bh x) j i, none⟩) hbw (.int .i64 (c : Int))
                have X7 : Box (wr.setCell ⟨b, it (bh x) j i, none⟩ (.int .i64 (c : Int))) p N (.slice A1 m cap1) X C := (Below.heap_setCell _ _ _ _ (Ne.symm hbp)).trans Xb
                clear O L Xb B Ch h0 hop
                generalize it (bh x) j i = at_ at *
                go_wp2_with fail
                go_roundw
                case rel =>
                  obtain ⟨o2, h1, h2⟩ := Ch2.out
                  exact ⟨j + 1, o2, by simp, by omega, h1, by rw [h2]; exact O7, L7, X7, B7⟩
                case measure => simp [intOf]; omega
              · have e1 : ¬ ((j : Int) < (k : Int)) := by omega
                obtain rfl : j = k := by omega
                have P5 := Lib.hid (Ch.done pf hlt P h0 (Ch.shut R hlt))
                have ln : (c : Int) < 9223372036854775807 := by omega
                clear Ch P h0
                go_wp2_with fail
                go_roundw
                case rel => exact ⟨c + 1, i + 1, o', by simp, by simp, by omega, by omega, P5.out, O, Xb, B⟩
                case measure => simp [intOf]; omega
          · have d2 : decide (o i ≥ 0) = true := by simp [h0]
            have P' := Lib.hid (P.skip h0)
            clear P
            go_wp2_with fail
            go_roundw
            case rel => exact ⟨c, i + 1, o, rfl, by simp, by omega, by omega, P'.out, O, Xb, B⟩
            case measure => simp [intOf]; omega
        · have d1 : ¬ ((i : Int) < (m : Int)) := by omega
          obtain rfl : i = m := by omega
          go_wp2
          all_goals
            go_ret2
            refine ⟨b, o, c, ?_, O, hbw, P.orb, hci, B⟩
            simp
            omega
end Go.Proofs.Ytcdlnohnkdalbaa.Ro
namespace Go.Proofs.Ytcdlnohnkdalbaa.Ro
set_option linter.unusedVariables false
set_option maxRecDepth 100000
set_option linter.unusedSimpArgs false

/-- a net -/
structure Net5 where
  N : Nat
  m : Nat
  t : Nat → Int
  x : Nat → Int
  c : Nat → Int

open Classical in
/-- the faces of darts, numbered by their least ones -/
noncomputable def facesOf (m : Nat) (x : Nat → Int) : Nat → Int := if h : ∃ o : Nat → Int, ∃ c, Orb (bh x) m o c then Classical.choose h else fun _ => 0
theorem facesOf_orb {m : Nat} {x : Nat → Int} (p : Perm (bh x) m) : ∃ c, Orb (bh x) m (facesOf m x) c := by
  have h : ∃ o : Nat → Int, ∃ c, Orb (bh x) m o c := p.orb
  unfold facesOf
  rw [dif_pos h]
  exact Classical.choose_spec h
theorem facesOf_eq {m c : Nat} {x o : Nat → Int} (p : Perm (bh x) m) (h : Orb (bh x) m o c) {j : Nat} (hj : j < m) : o j = facesOf m x j := by
  obtain ⟨c', h'⟩ := facesOf_orb p
  exact h.same h' p m j hj hj

/-- the darts whose corner is in one face with e's -/
noncomputable def sameOf (m : Nat) (x : Nat → Int) (e n : Nat) : List Nat := (List.range n).filter fun y => decide (facesOf m x (ab x y) = facesOf m x (ab x e))
theorem sameOf_zero (m : Nat) (x : Nat → Int) (e : Nat) : sameOf m x e 0 = [] := rfl
theorem sameOf_yes {m e n : Nat} {x : Nat → Int} (h : facesOf m x (ab x n) = facesOf m x (ab x e)) : sameOf m x e (n + 1) = sameOf m x e n ++ [n] := by
  unfold sameOf; rw [List.range_succ, List.filter_append]; simp [h]
theorem sameOf_no {m e n : Nat} {x : Nat → Int} (h : ¬ facesOf m x (ab x n) = facesOf m x (ab x e)) : sameOf m x e (n + 1) = sameOf m x e n := by
  unfold sameOf; rw [List.range_succ, List.filter_append]; simp [h]
theorem sameOf_mem {m e n y : Nat} {x : Nat → Int} : y ∈ sameOf m x e n ↔ y < n ∧ facesOf m x (ab x y) = facesOf m x (ab x e) := by
  unfold sameOf; simp
theorem sameOf_len (m : Nat) (x : Nat → Int) (e n : Nat) : (sameOf m x e n).length ≤ n := by
  unfold sameOf; have := List.length_filter_le (fun y => decide (facesOf m x (ab x y) = facesOf m x (ab x e))) (List.range n); simpa using this

def two (a b : Int) : Nat → Int := fun j => if j = 0 then a else b
def onlyEdge (k c d : Int) : Net5 := if k % 5 = 0 then ⟨1, 2, two 0 0, two 1 0, two c d⟩ else ⟨2, 2, two 0 1, two 0 1, two c d⟩
/-- the dart behind which the new one lies -/
def pickE (s : Net5) (k : Int) : Nat := (k / 5 % s.m).toNat
/-- the dart behind which its other one lies -/
noncomputable def pickG (s : Net5) (k : Int) : Nat := (sameOf s.m s.x (pickE s k) s.m).getD (k / 1200 % (sameOf s.m s.x (pickE s k) s.m).length).toNat 0
/-- a dart laid in behind another one -/
def layIn (x : Nat → Int) (e d : Nat) : Nat → Int := upd (upd x d (x e)) e (d : Int)
noncomputable def more1 (s : Net5) (k : Int) : Net5 :=
  ⟨s.N + 1, s.m + 2, cat s.t s.m (two (s.t (pickE s k)) s.N), layIn (cat s.x s.m (two s.m (s.m + 1 : Nat))) (pickE s k) s.m, cat s.c s.m (two (capOf (k / 30)) (capOf (k / 7000)))⟩
noncomputable def more2 (s : Net5) (k : Int) : Net5 :=
  ⟨s.N, s.m + 2, cat s.t s.m (two (s.t (pickE s k)) (s.t (pickG s k))), layIn (layIn (cat s.x s.m (two s.m (s.m + 1 : Nat))) (pickE s k) s.m) (if pickG s k = pickE s k then s.m else pickG s k) (s.m + 1), cat s.c s.m (two (capOf (k / 30)) (capOf (k / 7000)))⟩
/-- what one number does -/
noncomputable def grow1 (s : Net5) (k : Int) : Net5 :=
  if s.m = 0 then onlyEdge k (capOf (k / 30)) (capOf (k / 7000)) else if k % 5 < 2 then more1 s k else more2 s k
/-- the net of the first numbers -/
noncomputable def planeUp (z : Nat → Int) : Nat → Net5
  | 0 => ⟨1, 0, fun _ => 0, fun _ => 0, fun _ => 0⟩
  | i + 1 => grow1 (planeUp z i) (z i % 1125899906842624)
noncomputable def planeOf (z : Nat → Int) (n : Nat) : Net5 := planeUp z (min n 24)

def Net5.Ok (s : Net5) : Prop := Grown s.N s.m s.t s.x s.c
theorem pickE_lt {s : Net5} {k : Int} (hk : 0 ≤ k) (hm : 0 < s.m) : pickE s k < s.m ∧ k / 5 % s.m = (pickE s k : Int) := by
  have h1 := Int.emod_nonneg (k / 5) (b := (s.m : Int)) (by omega)
  have h2 := Int.emod_lt_of_pos (k / 5) (b := (s.m : Int)) (by omega)
  unfold pickE
  omega
theorem pickG_in {s : Net5} {k : Int} (hk : 0 ≤ k) (hm : 0 < s.m) : 0 < (sameOf s.m s.x (pickE s k) s.m).length ∧ (k / 1200 % (sameOf s.m s.x (pickE s k) s.m).length).toNat < (sameOf s.m s.x (pickE s k) s.m).length ∧ 0 ≤ k / 1200 % (sameOf s.m s.x (pickE s k) s.m).length ∧
    pickG s k < s.m ∧ facesOf s.m s.x (ab s.x (pickG s k)) = facesOf s.m s.x (ab s.x (pickE s k)) := by
  have h0 : pickE s k ∈ sameOf s.m s.x (pickE s k) s.m := sameOf_mem.2 ⟨(pickE_lt hk hm).1, rfl⟩
  have h1 := List.length_pos_of_mem h0
  have h2 := Int.emod_nonneg (k / 1200) (b := ((sameOf s.m s.x (pickE s k) s.m).length : Int)) (by omega)
  have h3 := Int.emod_lt_of_pos (k / 1200) (b := ((sameOf s.m s.x (pickE s k) s.m).length : Int)) (by omega)
  have h4 : (k / 1200 % (sameOf s.m s.x (pickE s k) s.m).length).toNat < (sameOf s.m s.x (pickE s k) s.m).length := by omega
  have h5 : pickG s k ∈ sameOf s.m s.x (pickE s k) s.m := by
    unfold pickG
    rw [List.getD_eq_getElem?_getD, List.getElem?_eq_getElem h4]
    exact List.getElem_mem _
  exact ⟨h1, h4, h2, sameOf_mem.1 h5⟩

theorem more1_ok {s : Net5} {k : Int} (h : s.Ok) (hk : 0 ≤ k) (hm : 0 < s.m) (hN : s.N + 1 ≤ 60) (hM : s.m + 2 ≤ 240) : (more1 s k).Ok := by
  have he := (pickE_lt hk hm).1
  show Grown (s.N + 1) (s.m + 2) (cat s.t s.m (two (s.t (pickE s k)) s.N)) (layIn (cat s.x s.m (two s.m (s.m + 1 : Nat))) (pickE s k) s.m) (cat s.c s.m (two (capOf (k / 30)) (capOf (k / 7000))))
  refine Grown.vertex (e := pickE s k) h hN hM he (fun d hd => cat_lo hd) ?_ ?_ ?_ ?_ ?_ ?_ (fun d hd => cat_lo hd) ?_ ?_
  · rw [cat_hi (Nat.le_refl _), Nat.sub_self]; rfl
  · rw [cat_hi (by omega), show s.m + 1 - s.m = 1 by omega]; rfl
  · intro d hd hn; unfold layIn; rw [upd_ne hn, upd_ne (by omega), cat_lo hd]
  · unfold layIn; rw [upd_same]
  · unfold layIn; rw [upd_ne (by omega), upd_same, cat_lo he]
  · unfold layIn; rw [upd_ne (by omega), upd_ne (by omega), cat_hi (by omega), show s.m + 1 - s.m = 1 by omega]; rfl
  · rw [cat_hi (Nat.le_refl _), Nat.sub_self]; exact capOf_in _
  · rw [cat_hi (by omega), show s.m + 1 - s.m = 1 by omega]; exact capOf_in _
theorem more2_ok {s : Net5} {k : Int} (h : s.Ok) (hk : 0 ≤ k) (hm : 0 < s.m) (hM : s.m + 2 ≤ 240) : (more2 s k).Ok := by
  have he := (pickE_lt hk hm).1
  obtain ⟨_, _, _, hg, hf⟩ := pickG_in (s := s) hk hm
  have pb := h.turns.perm.bh h.good.even
  have ev := h.good.even
  have fc : ∃ j, it (bh s.x) j (oth (pickG s k)) = oth (pickE s k) := by
    obtain ⟨c, O⟩ := facesOf_orb pb
    have e1 : ∀ y, ab s.x y = bh s.x (oth y) := fun y => by unfold ab bh; rw [oth_oth]
    rw [e1, e1, O.fwd _ (oth_lt hg ev), O.fwd _ (oth_lt he ev)] at hf
    exact O.one _ _ (oth_lt hg ev) (oth_lt he ev) hf
  have c0 : cat s.x s.m (two s.m (s.m + 1 : Nat)) s.m = s.m := by rw [cat_hi (Nat.le_refl _), Nat.sub_self]; rfl
  have c1 : cat s.x s.m (two s.m (s.m + 1 : Nat)) (s.m + 1) = (s.m + 1 : Nat) := by rw [cat_hi (by omega), show s.m + 1 - s.m = 1 by omega]; rfl
  have c2 : ∀ d, d < s.m → cat s.x s.m (two s.m (s.m + 1 : Nat)) d = s.x d := fun d hd => cat_lo hd
  show Grown s.N (s.m + 2) (cat s.t s.m (two (s.t (pickE s k)) (s.t (pickG s k)))) (layIn (layIn (cat s.x s.m (two s.m (s.m + 1 : Nat))) (pickE s k) s.m) (if pickG s k = pickE s k then s.m else pickG s k) (s.m + 1)) (cat s.c s.m (two (capOf (k / 30)) (capOf (k / 7000))))
  generalize cat s.x s.m (two s.m (s.m + 1 : Nat)) = y at *
  have l1 : ∀ d, d < s.m → d ≠ pickE s k → layIn y (pickE s k) s.m d = s.x d := fun d hd hn => by unfold layIn; rw [upd_ne hn, upd_ne (by omega), c2 d hd]
  have l2 : layIn y (pickE s k) s.m (pickE s k) = s.m := by unfold layIn; rw [upd_same]
  have l3 : layIn y (pickE s k) s.m s.m = s.x (pickE s k) := by unfold layIn; rw [upd_ne (by omega), upd_same, c2 _ he]
  have l4 : layIn y (pickE s k) s.m (s.m + 1) = (s.m + 1 : Nat) := by unfold layIn; rw [upd_ne (by omega), upd_ne (by omega), c1]
  generalize layIn y (pickE s k) s.m = x1 at *
  by_cases ge : pickG s k = pickE s k
  · rw [if_pos ge, ge]
    refine Grown.loop (e := pickE s k) h hM he (fun d hd => cat_lo hd) ?_ ?_ ?_ ?_ ?_ ?_ (fun d hd => cat_lo hd) ?_ ?_
    · rw [cat_hi (Nat.le_refl _), Nat.sub_self]; rfl
    · rw [cat_hi (by omega), show s.m + 1 - s.m = 1 by omega]; rfl
    · intro d hd hn; unfold layIn; rw [upd_ne (by omega), upd_ne (by omega), l1 d hd hn]
    · unfold layIn; rw [upd_ne (by omega), upd_ne (by omega), l2]
    · unfold layIn; rw [upd_same]
    · unfold layIn; rw [upd_ne (by omega), upd_same, l3]
    · rw [cat_hi (Nat.le_refl _), Nat.sub_self]; exact capOf_in _
    · rw [cat_hi (by omega), show s.m + 1 - s.m = 1 by omega]; exact capOf_in _
  · rw [if_neg ge]
    refine Grown.chord (e := pickE s k) (g := pickG s k) h hM he hg ge fc (fun d hd => cat_lo hd) ?_ ?_ ?_ ?_ ?_ ?_ ?_ (fun d hd => cat_lo hd) ?_ ?_
    · rw [cat_hi (Nat.le_refl _), Nat.sub_self]; rfl
    · rw [cat_hi (by omega), show s.m + 1 - s.m = 1 by omega]; rfl
    · intro d hd hn hn2; unfold layIn; rw [upd_ne hn2, upd_ne (by omega), l1 d hd hn]
    · unfold layIn; rw [upd_ne (fun q => ge q.symm), upd_ne (by omega), l2]
    · unfold layIn; rw [upd_same]
    · unfold layIn; rw [upd_ne (by omega), upd_ne (by omega), l3]
    · unfold layIn; rw [upd_ne (by omega), upd_same, l1 _ hg ge]
    · rw [cat_hi (Nat.le_refl _), Nat.sub_self]; exact capOf_in _
    · rw [cat_hi (by omega), show s.m + 1 - s.m = 1 by omega]; exact capOf_in _
theorem onlyEdge_ok (k : Int) {c d : Int} (hc : 0 ≤ c ∧ c ≤ 2147483648) (hd : 0 ≤ d ∧ d ≤ 2147483648) : (onlyEdge k c d).Ok := by
  unfold Net5.Ok onlyEdge
  split
  · exact Grown.loop1 rfl rfl rfl rfl hc hd
  · exact Grown.edge1 rfl rfl rfl rfl hc hd
theorem planeUp_ok (z : Nat → Int) : ∀ i, i ≤ 24 → (planeUp z i).Ok ∧ (planeUp z i).N ≤ i + 1 ∧ (planeUp z i).m ≤ 2 * i ∧ (0 < i → 0 < (planeUp z i).m)
  | 0, _ => ⟨Grown.start _ _ _, Nat.le_refl _, Nat.le_refl _, fun h => by omega⟩
  | i + 1, hi => by
    obtain ⟨h1, h2, h3, h4⟩ := planeUp_ok z i (by omega)
    have hk := Int.emod_nonneg (z i) (b := 1125899906842624) (by omega)
    show (grow1 (planeUp z i) (z i % 1125899906842624)).Ok ∧ (grow1 (planeUp z i) (z i % 1125899906842624)).N ≤ i + 1 + 1 ∧ (grow1 (planeUp z i) (z i % 1125899906842624)).m ≤ 2 * (i + 1) ∧ (0 < i + 1 → 0 < (grow1 (planeUp z i) (z i % 1125899906842624)).m)
    unfold grow1
    split
    · refine ⟨onlyEdge_ok _ (capOf_in _) (capOf_in _), ?_⟩
      unfold onlyEdge
      split <;> simp <;> omega
    · split
      · refine ⟨more1_ok h1 hk (by omega) (by omega) (by omega), ?_⟩
        unfold more1; simp; omega
      · refine ⟨more2_ok h1 hk (by omega) (by omega), ?_⟩
        unfold more2; simp; omega
end Go.Proofs.Ytcdlnohnkdalbaa.Ro
