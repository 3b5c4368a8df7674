/- Walks: Round, of the document's chapter 6: what is a round is told to be one. -/
import Derived.Test.YtchlccendggfpaaPaP
import Derived.Test.YtchlccendggfpaaPaT
import Derived.Test.YtchlccendggfpaaPaX
namespace Go.Proofs.Ytchlccendggfpaa.Ro
open Go.RowKit Go.Proofs
set_option linter.unusedVariables false
set_option linter.unusedSimpArgs false

theorem RoundF.next {S : ArcsF} {k s n m : Nat} {r : Nat → Nat} (h : RoundF S k s n m r) {i : Nat} (hi : i < m) : ∃ x, x < m ∧ ((i : Int) + 1) % (m : Int) = (x : Int) ∧ S.th (r i) = S.fr (r x) := by
  by_cases e : i + 1 = m
  · exact ⟨0, h.pos, by rw [show ((i : Int) + 1) = (m : Int) by omega, Int.emod_self]; rfl, by rw [← h.last, show m - 1 = i by omega]⟩
  · exact ⟨i + 1, by omega, by rw [Int.emod_eq_of_lt (by omega) (by omega)]; simp, h.link i (by omega)⟩
theorem RoundF.size {S : ArcsF} {k s n m : Nat} {r : Nat → Nat} (h : RoundF S k s n m r) (A : ArcsIn S k n 4294967296) : ∀ i, i ≤ m → -(i * 4294967296 : Int) ≤ sumN (fun j => S.ln (r j)) i ∧ sumN (fun j => S.ln (r j)) i ≤ (i * 4294967296 : Int)
  | 0, _ => by simp [sumN]
  | i + 1, hi => by
    have h1 := h.size A i (by omega)
    have h2 := A.lo _ (h.lt i (by omega))
    have h3 := A.hi _ (h.lt i (by omega))
    show _ ≤ sumN _ i + S.ln (r i) ∧ sumN _ i + S.ln (r i) ≤ _
    omega

theorem two_alloc (w : World) (A X : Array Value) (t : TypeId) : ((w.alloc (.cells A t)).alloc (.cells X t)).drew.heap[w.heap.size]? = some (.cells A t (0, 0)) ∧ ((w.alloc (.cells A t)).alloc (.cells X t)).drew.heap[w.heap.size + 1]? = some (.cells X t (0, 0)) ∧ Below w.heap.size w ((w.alloc (.cells A t)).alloc (.cells X t)).drew := by
  have h1 := heap_alloc_new w (.cells A t)
  have h2 := heap_alloc_new (w.alloc (.cells A t)) (.cells X t)
  have e : (w.alloc (.cells A t)).heap.size = w.heap.size + 1 := by simp
  refine ⟨(Below.heap_alloc _ _ _ (by rw [e]; omega)).trans h1, by rw [e] at h2; exact h2, (((Below.refl _ w).alloc (Nat.le_refl _) _).alloc (by rw [e]; omega) _).drew⟩

set_option maxRecDepth 100000 in
set_option maxHeartbeats 6400000 in
theorem refRound_yes (w : World) (n k s b m c : Nat) (V : Value) (S : ArcsF) (r : Nat → Nat) (hV : RdA w V k S) (OR : OwS w b m (fun j => (r j : Int))) (RF : RoundF S k s n m r) (A : ArcsIn S k n 4294967296) (hs : s < n) (hn : n ≤ 100) (hk : k ≤ 200) :
    Calls Try.prog 22 #[.int .i64 (n : Int), V, .int .i64 (s : Int), .slice (some ⟨b, 0, none⟩) m c] w fun e w' => e = .returned (.bool true) ∧ Below w.heap.size w w' := by
  obtain ⟨VA, vc, rfl, rv⟩ := id hV
  have HV := Lib.hid rv
  clear rv
  have hm0 := RF.pos
  have hmn := RF.le
  have lb := OR.lt
  have q1 : ((m : Int) == 0) = false := by simp; omega
  have q2 : decide (n < m) = false := by simp; omega
  have HR := Lib.hid RF
  clear RF
  obtain ⟨ii, hi, hz, hsz, hby⟩ := info_parts (P := Try.prog) (e := 4) (z := .bool false) (size := 1) (bytes := 1) (by kernel_rfl)
  go_enter Try.func22, Try.ntmps22
  go_upto_region 5 with (at_make; refine wpList_make_full _ rfl _ _ _ rfl 0 4 ii (.bool false) 1 Try.underlying47 hi hz hsz .i64 .i64 (n : Int) (n : Int) n rfl rfl rfl rfl (by rw [hby]; omega) (by unfold maxLen; omega) (Nat.zero_le _) ?_; intro w3 hm3 hg3)
  rw [show (Value.bool false).cells = #[.bool false] from rfl, Nat.mul_one, toList_madeCells_one] at hm3
  have E3 := OwB.made hm3
  have B3 : Below w.heap.size w w3 := ⟨hg3.os, hg3.tape, hg3.output, hg3.size, fun k hk => hg3.block k hk (by simp)⟩
  clear hm3 hg3
  generalize hb : w.heap.size = M at *
  have hbw : w.heap.size ≤ M := by omega
  have hwb : M ≤ w.heap.size := by omega
  clear hb
  have OR3 := OR.below B3 hbw
  clear q1 q2 ii hi hz hsz hby
  go_wp2_with fail
  go_loop [11] (fun u => ∃ j : Nat, u = .int .i64 (j : Int) ∧ j ≤ m) (fun u => m - (intOf u).toNat)
  case atStart => exact ⟨0, rfl, Nat.zero_le _⟩
  case round =>
    obtain ⟨j, rfl, hj⟩ := hrel
    by_cases hlt : j < m
    · have d1 : (j : Int) < (m : Int) := by omega
      have hr := HR.out.lt j hlt
      have cj := OR3.cell hlt
      have q2 : decide (k ≤ r j) = false := by simp; omega
      have q3 : ¬ (((r j : Nat) : Int) ≥ (k : Int)) := by omega
      go_wp2_with fail
      go_round
      case rel => exact ⟨j + 1, by simp, by omega⟩
      case measure => simp [intOf]; omega
    · have d1 : ¬ ((j : Int) < (m : Int)) := by omega
      obtain rfl : m = j := by omega
      go_wp2_with fail
      go_loopw [9, 12] (fun u9 u12 wr => ∃ (i : Nat) (o : Nat → Bool), u9 = .int .i64 (sumN (fun j => S.ln (r j)) i) ∧ u12 = .int .i64 (i : Int) ∧ i ≤ m ∧ Hid (∀ v, v < n → o v = true → ∃ c, c < i ∧ S.fr (r c) = v) ∧ OwB wr (.slice (some ⟨M, 0, none⟩) n n) n o ∧ Below M w wr) (fun _ u12 _ => m - (intOf u12).toNat)
      case atStart => exact ⟨0, _, rfl, rfl, Nat.zero_le _, Lib.hid (fun v _ h => by cases h), E3, B3⟩
      case round =>
        clear E3 B3 OR3
        obtain ⟨i, o, rfl, rfl, hi, HO, E, B⟩ := hrel
        have sb := HR.out.size A i hi
        have OR4 := OR.below B hbw
        by_cases hlt : i < m
        · have d1 : (i : Int) < (m : Int) := by omega
          obtain ⟨x, hx, ex, lk⟩ := HR.out.next hlt
          have ra := HR.out.lt i hlt
          have rx := HR.out.lt x hx
          obtain ⟨vb, cap, ev, hvb, a1, a2, a3⟩ := hV.arc ra
          injection ev with e1 e2 e3
          subst e1 e3
          obtain ⟨vb2, cap2, ev, hvb2, b1, b2, b3⟩ := hV.arc rx
          injection ev with e1 e2 e3
          injection e1 with e1
          injection e1 with e1
          subst e1 e3
          have y1 := (B.cell (p := ⟨vb, r i * 3, none⟩) (by show vb < M; omega)).trans a1
          have y2 := (B.cell (p := ⟨vb, r i * 3 + 1, none⟩) (by show vb < M; omega)).trans a2
          have y3 := (B.cell (p := ⟨vb, r i * 3 + 2, none⟩) (by show vb < M; omega)).trans a3
          have z1 := (B.cell (p := ⟨vb, r x * 3, none⟩) (by show vb < M; omega)).trans b1
          have z2 := (B.cell (p := ⟨vb, r x * 3 + 1, none⟩) (by show vb < M; omega)).trans b2
          have z3 := (B.cell (p := ⟨vb, r x * 3 + 2, none⟩) (by show vb < M; omega)).trans b3
          clear a1 a2 a3 b1 b2 b3
          have c1 := OR4.cell hlt
          have c2 := OR4.cell hx
          have ha := A.fr _ ra
          go_upto_region 13 with fail
          have f1 : (((S.th (r i) : Nat) : Int) != ((S.fr (r x) : Nat) : Int)) = false := by rw [lk]; simp
          have hof : o (S.fr (r i)) = false := by
            cases e : o (S.fr (r i)) with
            | false => rfl
            | true =>
              obtain ⟨c, hc, ec⟩ := HO.out _ ha e
              exact absurd ec (HR.out.apart c i hc hlt)
          have HO2 : Hid (∀ v, v < n → upd o (S.fr (r i)) true v = true → ∃ c, c < i + 1 ∧ S.fr (r c) = v) := Lib.hid fun v hv h => by
            by_cases e : v = S.fr (r i)
            · exact ⟨i, by omega, e.symm⟩
            · rw [upd_ne e] at h
              obtain ⟨c, hc, ec⟩ := HO.out v hv h
              exact ⟨c, by omega, ec⟩
          have SM : Hid (sumN (fun j => S.ln (r j)) (i + 1) = sumN (fun j => S.ln (r j)) i + S.ln (r i)) := Lib.hid rfl
          have l1 := A.lo _ ra
          have l2 := A.hi _ ra
          have hia : ((S.fr (r i) : Nat) : Int) < (n : Int) := by omega
          clear lk HO
          generalize sumN (fun j => S.ln (r j)) i = sm at *
          generalize S.th (r i) = ath at *
          generalize S.fr (r i) = afr at *
          generalize S.ln (r i) = aln at *
          generalize S.fr (r x) = xfr at *
          generalize S.th (r x) = xth at *
          generalize S.ln (r x) = xln at *
          have hm5 : ¬ (m = 0) := by omega
          have hm2 : (0 : Int) < (m : Int) := by omega
          have hm3 : ((m : Int) == 0) = false := by simp; omega
          have hx2 : (x : Int) < (m : Int) := by omega
          have ix : (0 : Int) ≤ (x : Int) := by omega
          have ra2 : ((r i : Nat) : Int) < (k : Int) := by omega
          have rx2 : ((r x : Nat) : Int) < (k : Int) := by omega
          have wi : IntKind.i64.wrap ((i : Int) + 1) = (i : Int) + 1 := by rw [IntKind.wrap_i64]; omega
          have tm : ((i : Int) + 1).tmod (m : Int) = (x : Int) := by rw [Int.tmod_eq_emod_of_nonneg (by omega)]; exact ex
          have Y1 := World.new_ne wr _ y1
          have Y2 := World.new_ne wr _ y2
          have Y3 := World.new_ne wr _ y3
          have Z1 := World.new_ne wr _ z1
          have Z2 := World.new_ne wr _ z2
          have Z3 := World.new_ne wr _ z3
          have C1 := World.new_ne wr _ c1
          have C2 := World.new_ne wr _ c2
          go_region_held3 (fun w' => w'.cell? ⟨b, i, none⟩ = some (.int .i64 (r i : Int)) ∧ w'.cell? ⟨b, x, none⟩ = some (.int .i64 (r x : Int)) ∧ w'.cell? ⟨vb, r i * 3, none⟩ = some (.int .i64 (afr : Int)) ∧ w'.cell? ⟨vb, r i * 3 + 1, none⟩ = some (.int .i64 (ath : Int)) ∧ w'.cell? ⟨vb, r i * 3 + 2, none⟩ = some (.int .i64 aln) ∧ w'.cell? ⟨vb, r x * 3, none⟩ = some (.int .i64 (xfr : Int)) ∧ w'.cell? ⟨vb, r x * 3 + 1, none⟩ = some (.int .i64 (xth : Int)) ∧ w'.cell? ⟨vb, r x * 3 + 2, none⟩ = some (.int .i64 xln)) (go_keep) (fail)
          · obtain ⟨h1, h2, h3⟩ := two_alloc wr #[.int .i64 (afr : Int), .int .i64 (ath : Int), .int .i64 aln] #[.int .i64 (xfr : Int), .int .i64 (xth : Int), .int .i64 xln] 30
            generalize ((wr.alloc (.cells #[.int .i64 (afr : Int), .int .i64 (ath : Int), .int .i64 aln] 30)).alloc (.cells #[.int .i64 (xfr : Int), .int .i64 (xth : Int), .int .i64 xln] 30)).drew = W at *
            have lM := E.lt (k := M) rfl
            have a0 : W.cell? ⟨wr.heap.size, 0, none⟩ = some (.int .i64 (afr : Int)) := blk_cell h1 0
            have a1 : W.cell? ⟨wr.heap.size, 1, none⟩ = some (.int .i64 (ath : Int)) := blk_cell h1 1
            have a2 : W.cell? ⟨wr.heap.size, 2, none⟩ = some (.int .i64 aln) := blk_cell h1 2
            have x0 : W.cell? ⟨wr.heap.size + 1, 0, none⟩ = some (.int .i64 (xfr : Int)) := blk_cell h2 0
            have E4 := E.below h3 (Nat.le_refl _)
            have B4 := B.trans (h3.mono (Nat.le_trans hwb B.size))
            have co := E4.cell ha
            rw [hof] at co
            have zf := E4.frozen afr
            have n1 : ¬ (M = wr.heap.size) := by omega
            have n2 : ¬ (wr.heap.size = M) := by omega
            have n3 : ¬ (M = wr.heap.size + 1) := by omega
            have n4 : ¬ (wr.heap.size + 1 = M) := by omega
            have HEB := Lib.hid (And.intro (E4.set ha true) (B4.setCell (p := ⟨M, afr, none⟩) (Nat.le_refl _) (.bool true)))
            clear h1 h2 h3 E4 B4 E B y1 y2 y3 z1 z2 z3 c1 c2 Y1 Y2 Y3 Z1 Z2 Z3 C1 C2 OR4 hof
            generalize wr.heap.size = q at *
            go_wp2_with fail
            go_roundw
            case rel => exact ⟨i + 1, _, by rw [SM.out], by simp, by omega, HO2, HEB.out.1, HEB.out.2⟩
            case measure => simp [intOf]; omega
          · obtain ⟨h2, h1, h3⟩ := two_alloc wr #[.int .i64 (xfr : Int), .int .i64 (xth : Int), .int .i64 xln] #[.int .i64 (afr : Int), .int .i64 (ath : Int), .int .i64 aln] 30
            generalize ((wr.alloc (.cells #[.int .i64 (xfr : Int), .int .i64 (xth : Int), .int .i64 xln] 30)).alloc (.cells #[.int .i64 (afr : Int), .int .i64 (ath : Int), .int .i64 aln] 30)).drew = W at *
            have lM := E.lt (k := M) rfl
            have a0 : W.cell? ⟨wr.heap.size + 1, 0, none⟩ = some (.int .i64 (afr : Int)) := blk_cell h1 0
            have a1 : W.cell? ⟨wr.heap.size + 1, 1, none⟩ = some (.int .i64 (ath : Int)) := blk_cell h1 1
            have a2 : W.cell? ⟨wr.heap.size + 1, 2, none⟩ = some (.int .i64 aln) := blk_cell h1 2
            have x0 : W.cell? ⟨wr.heap.size, 0, none⟩ = some (.int .i64 (xfr : Int)) := blk_cell h2 0
            have E4 := E.below h3 (Nat.le_refl _)
            have B4 := B.trans (h3.mono (Nat.le_trans hwb B.size))
            have co := E4.cell ha
            rw [hof] at co
            have zf := E4.frozen afr
            have n1 : ¬ (M = wr.heap.size) := by omega
            have n2 : ¬ (wr.heap.size = M) := by omega
            have n3 : ¬ (M = wr.heap.size + 1) := by omega
            have n4 : ¬ (wr.heap.size + 1 = M) := by omega
            have HEB := Lib.hid (And.intro (E4.set ha true) (B4.setCell (p := ⟨M, afr, none⟩) (Nat.le_refl _) (.bool true)))
            clear h1 h2 h3 E4 B4 E B y1 y2 y3 z1 z2 z3 c1 c2 Y1 Y2 Y3 Z1 Z2 Z3 C1 C2 OR4 hof
            generalize wr.heap.size = q at *
            go_wp2_with fail
            go_roundw
            case rel => exact ⟨i + 1, _, by rw [SM.out], by simp, by omega, HO2, HEB.out.1, HEB.out.2⟩
            case measure => simp [intOf]; omega
        · have d1 : ¬ ((i : Int) < (m : Int)) := by omega
          obtain rfl : m = i := by omega
          have ng := HR.out.neg
          have q4 : decide (sumN (fun j => S.ln (r j)) m < 0) = true := by simpa using ng
          have rc := HR.out.reach
          have RC := Lib.hid rc
          clear rc ng
          have r0 := HR.out.lt 0 hm0
          obtain ⟨vb, cap, ev, hvb, a1, a2, a3⟩ := hV.arc r0
          injection ev with e1 e2 e3
          subst e1 e3
          have y1 := (B.cell (p := ⟨vb, r 0 * 3, none⟩) (by show vb < M; omega)).trans a1
          have c1 := OR4.cell hm0
          have ha := A.fr _ r0
          have VV := hV.below B hbw
          have ia : ((S.fr (r 0) : Nat) : Int) < (n : Int) := by omega
          have ir : ((r 0 : Nat) : Int) < (k : Int) := by omega
          have im : (0 : Int) < (m : Int) := by omega
          have lvb : vb < wr.heap.size := by have := B.size; omega
          have lbb : b < wr.heap.size := by have := B.size; omega
          clear a1 a2 a3 E OR4 sb
          generalize hsm : sumN (fun j => S.ln (r j)) m = sm at *
          clear hsm
          go_upto_region 18 with fail
          refine Code.wp_mono NoPanic.imp (regRound18 wr n k s b m c vb vc (r 0) (S.fr (r 0)) sm S _ _ _ _ _ _ _ _ _ _ _ _ _ _ _ _ _ _ _ _ _ _ _ _ _ _ _ _ _ _ _ _ _ _ _ _ _ _ _ _ _ _ _ _ _ _ _ _ _ _ _ _ _ _ _ _ _ _ _ _ _ _ _ _ _ _ _ _ _ _ _ _ _ _ _ _ _ _ _ _ _ _ _ _ _ _ _ _ _ _ _ _ _ _ _ _ _ _ _ _ _ _ _ _ VV A hs hn hk q4 c1 lbb y1 lvb ia ir hm0 RC ?_)
          intro u90 u91 u92 u93 u94 u95 u96 u97 u98 u99 u100 u101 u102 u103 u104 u105 u106 w6 B6
          go_wp2_with fail
          go_ret
          exact ⟨rfl, (B.trans (B6.mono (Nat.le_trans hwb B.size))).mono hbw⟩
end Go.Proofs.Ytchlccendggfpaa.Ro
