/- Walks: the reference's About. -/
import Derived.Test.YtcejjcopchkmeaaRoJ
namespace Go.Proofs.Ytcejjcopchkmeaa.Ro
open Go.RowKit Go.Proofs Go.Maps
set_option linter.unusedVariables false
set_option maxRecDepth 100000
set_option linter.unusedSimpArgs false

set_option maxHeartbeats 3200000 in
theorem refAbout_ok (w : World) (N : Int) (T X C : Value) (m : Nat) (x : Nat → Int) (hX : Rd w X m x) (hm : m ≤ 999) (hn : ∀ d, d < m → 0 ≤ x d) (pf : Perm (ab x) m) (d : Nat) (hd : d < m) :
    Calls Try.prog 32 #[.agg #[.int .i64 N, T, X, C], .int .i64 (d : Int)] w (RowPost w.heap.size w (ab x) d) := by
  have hv : ∀ d, d < m → x d = (ab x d : Int) := fun d hd => by
    have := hn d hd
    unfold ab; omega
  obtain ⟨A, cap, rfl, r⟩ := hX
  obtain ⟨y, rfl, hy, hc⟩ := r (by omega)
  have cx := hc d hd
  rw [hv d hd] at cx
  have d1 : (d : Int) < (m : Int) := by omega
  have G1 := (Gone.start (ab x) m d (fun _ => 0)).step pf hd (fun q => by omega)
  clear r
  go_enter Try.func32, Try.ntmps32
  go_upto_region 2 with fail
  have B2 : Below w.heap.size w (w.alloc (.cells #[.int .i64 N, T, .slice (some y) m cap, C] 25)) := (Below.refl _ w).alloc (Nat.le_refl _) _
  have X2 : Box (w.alloc (.cells #[.int .i64 N, T, .slice (some y) m cap, C] 25)) w.heap.size N T (.slice (some y) m cap) C := heap_alloc_new _ _
  have sz : (w.alloc (.cells #[.int .i64 N, T, .slice (some y) m cap, C] 25)).heap.size = w.heap.size + 1 := by simp
  generalize (w.alloc (.cells #[.int .i64 N, T, .slice (some y) m cap, C] 25)) = w2 at *
  have O3 : Ow (w2.alloc (.cells #[.int .i64 (d : Int)] 3)) (.slice (some ⟨w2.heap.size, 0, none⟩) 1 1) 1 (upd (fun _ => 0) 0 (d : Int)) := Ow.lit1 w2 _ _ rfl
  have b3 : Below w2.heap.size w2 (w2.alloc (.cells #[.int .i64 (d : Int)] 3)) := (Below.refl _ w2).alloc (Nat.le_refl _) _
  have B3 := B2.trans (b3.mono B2.size)
  have X3 := X2.below b3 (Nat.le_refl _)
  clear b3 B2 X2
  generalize (w2.alloc (.cells #[.int .i64 (d : Int)] 3)) = w3 at *
  rw [sz] at O3
  clear sz w2
  obtain ⟨p, hp⟩ : ∃ p, p = w.heap.size := ⟨_, rfl⟩
  rw [← hp] at X3 O3 ⊢
  have hpw : w.heap.size ≤ p := by omega
  clear hp
  have cx3 : w3.cell? (y.add d) = some (.int .i64 (ab x d : Int)) := (B3.cell (by rw [block_add]; exact hy)).trans cx
  have c2 : w3.cell? ⟨p, 2, none⟩ = some (.slice (some y) m cap) := blk_cell X3 2
  go_wp2_with fail
  clear c2 cx3 cx d1
  go_loopg [5, 6] (m - 1) (fun n u v wr => ∃ (k a : Nat) (o : Nat → Int) (b c : Nat), n = m - k ∧ 0 < k ∧ k ≤ m ∧ u = .slice (some ⟨b, 0, none⟩) k c ∧ p < b ∧ v = .int .i64 (a : Int) ∧ Gone (ab x) m d k a o ∧ Ow wr (.slice (some ⟨b, 0, none⟩) k c) k o ∧ Box wr p N T (.slice (some y) m cap) C ∧ Below w.heap.size w wr)
  case atStart => exact ⟨1, ab x d, _, p + 1, 1, rfl, by omega, G1.le pf hd, rfl, by omega, rfl, G1, O3, X3, B3⟩
  case round =>
    clear O3 X3 B3 G1 w3
    obtain ⟨k, a, o, b, c, hn', hk, hkm, rfl, hpb, rfl, G, O, Xb, B⟩ := hrel
    have ha : a < m := by rw [G.here]; exact pf.it_lt hd k
    by_cases had : a = d
    · have HE := Lib.hid had
      have d3 : ((a : Int) != (d : Int)) = false := by simp [had]
      clear had
      go_wp2_with fail
      go_ret
      exact ⟨b, k, c, rfl, by omega, O.congr fun j hj => G.row j hj, ⟨hk, by rw [← G.here]; exact HE.out, G.apart⟩, B⟩
    · have d3 : ((a : Int) != (d : Int)) = true := by simp; omega
      have hlt : k < m := by
        rcases Nat.lt_or_ge k m with q | q
        · exact q
        · exact absurd (G.full pf hd (by omega)) had
      have Gs := Lib.hid (G.step pf hd (fun _ => had))
      clear G had
      go_upto_region 5 with fail
      have n0 : (wr.alloc (.cells #[.int .i64 (a : Int)] 3)).cell? ⟨wr.heap.size, 0, none⟩ = some (.int .i64 (a : Int)) := by rw [blk_cell (heap_alloc_new wr _)]; rfl
      have Ba : Below wr.heap.size wr (wr.alloc (.cells #[.int .i64 (a : Int)] 3)) := (Below.refl _ wr).alloc (Nat.le_refl _) _
      have Oa := O.below Ba (Nat.le_refl _)
      have B4 := B.trans (Ba.mono B.size)
      have X4 := Xb.below Ba (Nat.le_refl _)
      have sz : wr.heap.size ≤ (wr.alloc (.cells #[.int .i64 (a : Int)] 3)).heap.size := Ba.size
      have xl := blk_lt Xb
      go_upto_region 4 with (at_builtin; go_must (refine wpList_grow rfl _ _ rfl _ k o rfl Oa ⟨wr.heap.size, 0, none⟩ 1 (a : Int) rfl n0 (by omega) ?_); intro b' c' w5 O5 g5 l5)
      have hnb : ∀ j, (Value.slice (some ⟨b, 0, none⟩) k c).ownBlock = some j → p < j := by
        intro j hj
        have e : some b = some j := hj; injection e with e; omega
      have hown : ∀ j, (Value.slice (some ⟨b, 0, none⟩) k c).ownBlock = some j → w.heap.size ≤ j := fun j hj => by have := hnb j hj; omega
      have B5 := Below.grown B4 g5 B4.size hown
      have X5 : Box w5 p N T (.slice (some y) m cap) C := by
        refine (g5.block _ (blk_lt X4) ?_).trans X4
        intro e
        have := hnb _ e.symm
        omega
      have hb5 : p < b' := by
        rcases l5 with e | e
        · have := hnb _ e.symm; omega
        · omega
      have cx5 : w5.cell? (y.add a) = some (.int .i64 (ab x a : Int)) := by rw [← hv a ha]; exact (B5.cell (by rw [block_add]; exact hy)).trans (hc a ha)
      have c2 : w5.cell? ⟨p, 2, none⟩ = some (.slice (some y) m cap) := blk_cell X5 2
      have e1 : (a : Int) < (m : Int) := by omega
      clear n0 Ba Oa B4 X4 sz O B Xb g5 l5 hown
      go_wp2_with fail
      clear c2 cx5 e1
      go_roundg (m - (k + 1))
      case measure => omega
      case rel => exact ⟨k + 1, ab x a, _, b', c', rfl, by omega, Gs.out.le pf hd, rfl, hb5, rfl, Gs.out, O5, X5, B5⟩
end Go.Proofs.Ytcejjcopchkmeaa.Ro
