/- Walks: the law RotRounds. -/
import Derived.Test.YtcejjcopchkmeaaRoLc
namespace Go.Proofs.Ytcejjcopchkmeaa.Ro
open Go.RowKit Go.Proofs Go.Maps
set_option linter.unusedVariables false
set_option linter.unusedSimpArgs false

theorem cnt_none {P : Nat → Bool} : ∀ m, (∀ j, j < m → P j = false) → cnt P m = 0
  | 0, _ => rfl
  | m + 1, h => by rw [cnt_no (h m (by omega)), cnt_none m (fun j hj => h j (by omega))]
theorem cnt_sum (o : Nat → Int) (c : Nat) : ∀ m, cnt (fun j => decide (o j < (c + 1 : Nat))) m = cnt (fun j => decide (o j < (c : Nat))) m + cnt (fun j => decide (o j = (c : Nat))) m
  | 0 => rfl
  | m + 1 => by
    have ih := cnt_sum o c m
    by_cases h1 : o m < (c : Nat)
    · rw [cnt_yes (P := fun j => decide (o j < (c + 1 : Nat))) (by simp; omega), cnt_yes (P := fun j => decide (o j < (c : Nat))) (by simpa using h1), cnt_no (P := fun j => decide (o j = (c : Nat))) (by simp; omega), ih]; omega
    · by_cases h2 : o m = (c : Nat)
      · rw [cnt_yes (P := fun j => decide (o j < (c + 1 : Nat))) (by simp; omega), cnt_no (P := fun j => decide (o j < (c : Nat))) (by simp; omega), cnt_yes (P := fun j => decide (o j = (c : Nat))) (by simpa using h2), ih]; omega
      · rw [cnt_no (P := fun j => decide (o j < (c + 1 : Nat))) (by simp; omega), cnt_no (P := fun j => decide (o j < (c : Nat))) (by simp; omega), cnt_no (P := fun j => decide (o j = (c : Nat))) (by simpa using h2), ih]

set_option maxRecDepth 100000 in
set_option maxHeartbeats 12800000 in
theorem rounds_walk (A : Option Addr) (len cap : Nat) (zs : List Int) (w : World) (hV : Rd w (.slice A len cap) len (fun i => zs.getD i 0)) (hz : ∀ i, i < len → Small (zs.getD i 0)) (hl : len ≤ 9223372036854775807) :
    Calls Try.prog 7 #[.slice A len cap] w fun e w' => e = .returned (.bool true) ∧ Below w.heap.size w w' := by
  have hok := plane_ok (fun i => zs.getD i 0) len
  go_enter Try.func7, Try.ntmps7
  go_wp2_with fail
  refine (known_ok _).mono ?_
  rintro e w1 ⟨rfl, B1⟩
  go_wp2_with fail
  refine (plane_any _ _ len _ (hV.below B1 (Nat.le_refl _)) hz hl).mono ?_
  rintro e w2 ⟨T, X, C, rfl, R2, b2⟩
  have B2 := B1.trans (b2.mono B1.size)
  clear b2 B1 hz
  generalize planeOf (fun i => zs.getD i 0) len = s at *
  obtain ⟨N, m, t, x, c⟩ := s
  dsimp only at *
  obtain ⟨gr, hN, hM⟩ := hok
  have gr : Grown N m t x c := gr
  have GR := Lib.hid gr
  have gd := gr.good
  have pa := gr.turns.perm
  have pb := pa.bh gd.even
  have xv : ∀ d, d < m → x (oth d) = (bh x d : Int) := fun d hd => by
    have := gd.next (oth d) (oth_lt hd gd.even)
    unfold bh; omega
  have XV := Lib.hid xv
  clear xv
  obtain ⟨TA, tp, rfl, -⟩ := id R2.ot.rd
  obtain ⟨XA, xp, rfl, -⟩ := id R2.ox.rd
  obtain ⟨CA, cp, rfl, -⟩ := id R2.oc.rd
  go_upto_region 4 with fail
  have X3 : Box (w2.alloc (.cells #[.int .i64 (N : Int), .slice TA m tp, .slice XA m xp, .slice CA m cp] 25)) w2.heap.size N (.slice TA m tp) (.slice XA m xp) (.slice CA m cp) := heap_alloc_new _ _
  have b3 : Below w2.heap.size w2 (w2.alloc (.cells #[.int .i64 (N : Int), .slice TA m tp, .slice XA m xp, .slice CA m cp] 25)) := (Below.refl _ _).alloc (Nat.le_refl _) _
  have R3 := R2.below b3 (Nat.le_refl _)
  have B3 := B2.trans (b3.mono B2.size)
  clear b3 R2 B2
  generalize w2.alloc (.cells #[.int .i64 (N : Int), .slice TA m tp, .slice XA m xp, .slice CA m cp] 25) = w3 at *
  generalize w2.heap.size = p at *
  have pl := blk_lt X3
  have c0 : w3.cell? ⟨p, 0, none⟩ = some (.int .i64 (N : Int)) := blk_cell X3 0
  have c1 : w3.cell? ⟨p, 1, none⟩ = some (.slice TA m tp) := blk_cell X3 1
  have c2 : w3.cell? ⟨p, 2, none⟩ = some (.slice XA m xp) := blk_cell X3 2
  have c3 : w3.cell? ⟨p, 3, none⟩ = some (.slice CA m cp) := blk_cell X3 3
  go_wp2_with fail
  refine (faces_ok _ N _ _ _ m t x c R3.ot.rd R3.ox.rd R3.oc.rd gd pb).mono ?_
  rintro e w4 ⟨fv, o, k, rfl, F4, -, O, b4⟩
  obtain ⟨FA, fc, rfl, -⟩ := id F4.rd
  have eu := gr.plane.euler _ _ O
  have R4 := R3.below b4 (Nat.le_refl _)
  have X4 := X3.below b4 (Nat.le_refl _)
  have B4 := B3.trans (b4.mono B3.size)
  clear b4 R3 X3 B3 pl c0 c1 c2 c3 gr
  have c0 : w4.cell? ⟨p, 0, none⟩ = some (.int .i64 (N : Int)) := blk_cell X4 0
  have c1 : w4.cell? ⟨p, 1, none⟩ = some (.slice TA m tp) := blk_cell X4 1
  have n1 : ((m : Int) != (m : Int)) = false := by simp
  go_wp2_with fail
  clear c0 c1 n1
  obtain ⟨F, hF⟩ : ∃ F : Nat, F = max k 1 := ⟨_, rfl⟩
  rw [← hF] at eu ⊢
  have hFk : 0 < m → F = k := fun h => by have := O.lo 0 h; omega
  have HF := Lib.hid hFk
  clear hF hFk
  go_loopw [6, 7] (fun u v wr => ∃ a : Nat, v = .int .i64 (a : Int) ∧ (a = 0 ∨ 0 < m ∧ a ≤ F) ∧ u = .int .i64 (cnt (fun j => decide (o j < (a : Nat))) m : Int) ∧ Below w4.heap.size w4 wr) (fun _ v _ => F - (intOf v).toNat)
  case atStart => exact ⟨0, rfl, .inl rfl, by rw [cnt_none m (fun j hj => by have := (O.lo j hj).1; simp; omega)]; rfl, Below.refl _ _⟩
  case round =>
    obtain ⟨a, rfl, ha, rfl, E⟩ := hrel
    have cl := cnt_le (fun j => decide (o j < (a : Nat))) m
    by_cases haF : a < F ∧ 0 < m
    · obtain ⟨haF, hm⟩ := haF
      have hFk := HF.out hm
      have i1 : (a : Int) < (F : Int) := by omega
      have i2 : (0 : Int) < (m : Int) := by omega
      have hak : a < k := by omega
      clear hFk ha
      obtain ⟨y, hy1, hy2⟩ := O.each a hak
      obtain ⟨fb, fc2, fe, hfb⟩ := F4.form hm
      injection fe with fe1 fe2 fe3
      subst fe1 fe3
      have HY := Lib.hid hy2
      clear hy2
      go_wp2_with fail
      go_loopw [8] (fun u wr => ∃ f : Nat, u = .int .i64 (f : Int) ∧ f ≤ y ∧ (∀ z, z < f → o z ≠ a) ∧ Below w4.heap.size w4 wr) (fun u _ => m - (intOf u).toNat)
      case atStart => exact ⟨0, rfl, Nat.zero_le _, fun z h => by omega, E⟩
      case round =>
        clear E
        obtain ⟨f, rfl, hfy, hno, E⟩ := hrel
        have hfm : f < m := by omega
        have i3 : (f : Int) < (m : Int) := by omega
        have cf := (F4.below E (Nat.le_refl _)).cell hfm
        have HN := Lib.hid hno
        clear hno
        by_cases hq : o f = a
        · have q1 : (o f != (a : Int)) = false := by simp [hq]
          have HQ := Lib.hid hq
          clear hq
          have n2 : ((f : Int) == (m : Int)) = false := by simp; omega
          have R5 := R4.below E (Nat.le_refl _)
          have X5 := X4.below E (Nat.le_refl _)
          have F5 := F4.below E (Nat.le_refl _)
          have pl := blk_lt X5
          have c0 : wr.cell? ⟨p, 0, none⟩ = some (.int .i64 (N : Int)) := blk_cell X5 0
          have c1 : wr.cell? ⟨p, 1, none⟩ = some (.slice TA m tp) := blk_cell X5 1
          have c2 : wr.cell? ⟨p, 2, none⟩ = some (.slice XA m xp) := blk_cell X5 2
          have c3 : wr.cell? ⟨p, 3, none⟩ = some (.slice CA m cp) := blk_cell X5 3
          go_wp2_with fail
          refine (face_ok _ N _ _ _ m t x c R5.ot.rd R5.ox.rd R5.oc.rd gd pb f hfm).mono ?_
          rintro e w6 r6
          obtain ⟨lb, kl, rfl, -, ll, hA, Ra, b6⟩ := r6.row
          have hkl := Ra.count pb hfm O.fwd O.one
          rw [HQ.out] at hkl
          have hcs := cnt_sum o a m
          rw [hkl] at hcs
          have HCS := Lib.hid hcs
          have hkm : kl ≤ m := by rw [← hkl]; exact cnt_le _ m
          have HL := Lib.hid hA
          have R6 := R5.below b6 (Nat.le_refl _)
          have X6 := X5.below b6 (Nat.le_refl _)
          have F6 := F5.below b6 (Nat.le_refl _)
          have E6 := E.trans (b6.mono E.size)
          clear hkl hcs hA r6 b6 R5 X5 F5 E c0 c1 c2 c3 pl cf q1 n2
          go_wp2_with fail
          go_loopw [10] (fun u wr => ∃ i : Nat, u = .int .i64 (i : Int) ∧ i ≤ kl ∧ Below w6.heap.size w6 wr) (fun u _ => kl - (intOf u).toNat)
          case atStart => exact ⟨0, rfl, Nat.zero_le _, Below.refl _ _⟩
          case round =>
            obtain ⟨i, rfl, hi, G⟩ := hrel
            by_cases hik : i < kl
            · have j1 : (i : Int) < (kl : Int) := by omega
              have al := pb.it_lt hfm i
              have vo : o (it (bh x) i f) = a := by rw [O.it pb hfm i]; exact HQ.out
              have vge : f ≤ it (bh x) i f := by
                rcases Nat.lt_or_ge (it (bh x) i f) f with q | q
                · exact absurd vo (HN.out _ q)
                · exact q
              have nx := Ra.next hik
              have a1 := (G.cell (p := ⟨lb, i, none⟩) ll).trans (HL.out i hik)
              have hr : (i + 1) % kl < kl := Nat.mod_lt _ Ra.pos
              have a2 := (G.cell (p := ⟨lb, (i + 1) % kl, none⟩) ll).trans (HL.out _ hr)
              rw [← nx] at a2
              have xb := XV.out _ al
              have ol := oth_lt al gd.even
              obtain ⟨xbk, xcp, xe, -⟩ := R6.ox.form hm
              injection xe with xe1 xe2 xe3
              subst xe1 xe3
              have a3 := (R6.ox.below G (Nat.le_refl _)).cell ol
              rw [xb] at a3
              have a4 := (F6.below G (Nat.le_refl _)).cell al
              rw [vo] at a4
              have c2 : wr.cell? ⟨p, 2, none⟩ = some (.slice (some ⟨xbk, 0, none⟩) m xp) := blk_cell (X6.below G (Nat.le_refl _)) 2
              have rm : ((i : Int) + 1) % (kl : Int) = (((i + 1) % kl : Nat) : Int) := by
                rw [show (i : Int) + 1 = ((i + 1 : Nat) : Int) by omega]
                exact (Int.natCast_emod _ _).symm
              have hxo := xor_one (it (bh x) i f) (by omega)
              clear nx vo xb
              generalize it (bh x) i f = v at *
              generalize (i + 1) % kl = r at *
              generalize bh x v = u at *
              have z1 : decide ((v : Int) < (f : Int)) = false := by simp; omega
              have z1' : decide (v < f) = false := by simp; omega
              have z2 : decide ((v : Int) ≥ (m : Int)) = false := by simp; omega
              have z5 : decide (m ≤ v) = false := by simp; omega
              have z6 : decide ((m : Int) ≤ (v : Int)) = false := by simp; omega
              have z3 : ((a : Int) != (a : Int)) = false := by simp
              have z4 : ((u : Int) != (u : Int)) = false := by simp
              have l1 : (v : Int) < (m : Int) := by omega
              have l2 : (oth v : Int) < (m : Int) := by omega
              have l3 : (r : Int) < (kl : Int) := by omega
              have l4 : (0 : Int) < (kl : Int) := by omega
              have s1 : IntKind.i64.wrap ((i : Int) + 1) = (i : Int) + 1 := by rw [IntKind.wrap_i64]; omega
              have l5 : (0 : Int) ≤ (i : Int) + 1 := by omega
              go_upto_region 21 with fail
              go_big_quiet (fail)
              have G2 := G.trans ((below_draws wr nq).mono G.size)
              clear a1 a2 a3 a4 c2 rm hxo z1 z1' z2 z3 z4 z5 z6 l1 l2 l3 l4 l5 s1 G
              generalize wr.drewN nq = w9 at *
              go_wp2_with fail
              go_roundw
              case rel => exact ⟨i + 1, by simp, by omega, G2⟩
              case measure => simp [intOf]; omega
            · have j1 : ¬ ((i : Int) < (kl : Int)) := by omega
              go_wp2_with fail
              go_roundw
              case rel => exact ⟨a + 1, by simp, .inr ⟨hm, by omega⟩, by rw [HCS.out]; simp, E6.trans (G.mono E6.size)⟩
              case measure => simp [intOf]; omega
        · have q1 : (o f != (a : Int)) = true := by simp [hq]
          have hlt : f < y := by
            rcases Nat.lt_or_ge f y with q | q
            · exact q
            · have : f = y := by omega
              exact absurd (this ▸ HY.out) hq
          have H2 : Hid (∀ z, z < f + 1 → o z ≠ a) := Lib.hid fun z hz => by
            rcases Nat.lt_or_ge z f with q | q
            · exact HN.out z q
            · rw [show z = f by omega]; exact hq
          clear hq
          go_wp2_with fail
          go_roundw
          case rel => exact ⟨f + 1, by simp, by omega, H2.out, E⟩
          case measure => simp [intOf]; omega
    · have hall : cnt (fun j => decide (o j < (a : Nat))) m = m := by
        refine cnt_all m fun j hj => ?_
        have := (O.lo j hj).2
        have := HF.out (by omega)
        simp; omega
      rw [hall]
      have e0 : ((m : Int) == (m : Int)) = true := by simp
      have e1 : (N : Int) - (m : Int) / 2 + (F : Int) = 2 := by omega
      have c0 : wr.cell? ⟨p, 0, none⟩ = some (.int .i64 (N : Int)) := blk_cell (X4.below E (Nat.le_refl _)) 0
      have fl : F ≤ 50 := by omega
      clear hall cl ha eu
      by_cases haF2 : a < F
      · have i1 : (a : Int) < (F : Int) := by omega
        have hm0 : m = 0 := by omega
        have e3 : (N : Int) + (F : Int) = 2 := by omega
        subst hm0
        go_wp2_with fail
        go_ret
        exact ⟨rfl, B4.trans (E.mono B4.size)⟩
      · have i1 : ¬ ((a : Int) < (F : Int)) := by omega
        clear haF haF2
        go_wp2_with fail
        go_ret
        exact ⟨rfl, B4.trans (E.mono B4.size)⟩
end Go.Proofs.Ytcejjcopchkmeaa.Ro
