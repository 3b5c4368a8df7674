/- Walks: Check, of the reference's chapter 2: of a net of good shape whose darts hold what may be. -/
import Derived.Test.YtcejjcopchkmeaaRoTr
import Derived.Test.YtcejjcopchkmeaaRoRp
namespace Go.Proofs.Ytcejjcopchkmeaa.Ro
open Go.RowKit Go.Proofs Go.Maps
set_option linter.unusedVariables false
set_option maxRecDepth 100000
set_option linter.unusedSimpArgs false

/-- what Check tells of such a net -/
def Tells (N m : Nat) (t x : Nat → Int) (r : Int) : Prop :=
  (r = 6 ∧ ¬ Turns m t x) ∨ (Turns m t x ∧ ∃ o k, Pcs N m (tlOf t) o k ∧ ((k ≠ 1 ∧ r = 7) ∨ (k = 1 ∧ ∃ o' k', Orb (bh x) m o' k' ∧ ((N + max k' 1 ≠ 2 + m / 2 ∧ r = 8) ∨ (N + max k' 1 = 2 + m / 2 ∧ r = 0)))))
theorem Tells.one {N m : Nat} {t x : Nat → Int} {r r' : Int} (he : m % 2 = 0) (h : Tells N m t x r) (h' : Tells N m t x r') : r = r' := by
  rcases h with ⟨h1, h2⟩ | ⟨T, o, k, P, h⟩ <;> rcases h' with ⟨k1, k2⟩ | ⟨T', o', k', P', h'⟩
  · rw [h1, k1]
  · exact absurd T' h2
  · exact absurd T k2
  · have := P.count P'
    rcases h with ⟨a1, a2⟩ | ⟨a1, q, j, O, h⟩ <;> rcases h' with ⟨b1, b2⟩ | ⟨b1, q', j', O', h'⟩
    · rw [a2, b2]
    · omega
    · omega
    · have := O.count O' (T.perm.bh he)
      rcases h with ⟨c1, c2⟩ | ⟨c1, c2⟩ <;> rcases h' with ⟨e1, e2⟩ | ⟨e1, e2⟩
      · rw [c2, e2]
      · subst this; omega
      · subst this; omega
      · rw [c2, e2]
theorem Plane.tells {N m : Nat} {t x c : Nat → Int} {r : Int} (h : Plane N m t x c) (k : Tells N m t x r) : r = 0 := by
  rcases k with ⟨_, q⟩ | ⟨T, o, k, P, q⟩
  · exact absurd h.turns q
  · have := h.whole _ _ P
    rcases q with ⟨a1, _⟩ | ⟨_, o', k', O, q⟩
    · omega
    · have := h.euler _ _ O
      rcases q with ⟨b1, _⟩ | ⟨_, b2⟩
      · omega
      · exact b2

set_option maxRecDepth 100000 in
set_option maxHeartbeats 6400000 in
theorem refCheck_any (w : World) (N : Nat) (T X C : Value) (m : Nat) (t x c : Nat → Int) (hT : Rd w T m t) (hX : Rd w X m x) (hC : Rd w C m c) (g : Good N m t x) (hcap : ∀ d, d < m → 0 ≤ c d ∧ c d ≤ 2147483648) :
    Calls Try.prog 19 #[.agg #[.int .i64 (N : Int), T, X, C]] w fun e w' => ∃ r, e = .returned (.int .i64 r) ∧ Tells N m t x r ∧ Below w.heap.size w w' := by
  have hm := g.few
  have hN := g.most
  have hN1 := g.one
  have hev := g.even
  obtain ⟨TA, tp, rfl, rt⟩ := id hT
  obtain ⟨XA, xp, rfl, rx⟩ := id hX
  obtain ⟨CA, cp, rfl, rc⟩ := id hC
  have HT := Lib.hid rt
  have HX := Lib.hid rx
  have HC := Lib.hid rc
  have GN := Lib.hid g.next
  have GT := Lib.hid g.tail
  have GC := Lib.hid hcap
  have q1 : decide ((N : Int) > 60) = false := by simp; omega
  have q2 : decide ((m : Int) > 240) = false := by simp; omega
  have q3 : ((m : Int) != (m : Int)) = false := by simp
  have q4 : ((m : Int) % 2 == 1) = false := by simp; omega
  have q5 : decide ((N : Int) < 1) = false := by simp; omega
  clear rt rx rc hcap
  go_enter Try.func19, Try.ntmps19
  go_wp2_with fail
  obtain ⟨w1, hw1, N1, B1⟩ := net_enter (N : Int) hT hX hC
  rw [hw1]
  clear hw1
  go_loopw [4] (fun u wr => ∃ i : Nat, u = .int .i64 (i : Int) ∧ i ≤ m ∧ NetAt wr w.heap.size (N : Int) (.slice TA m tp) (.slice XA m xp) (.slice CA m cp) m t x c ∧ Below w.heap.size w wr) (fun u _ => m - (intOf u).toNat)
  case atStart => exact ⟨0, rfl, Nat.zero_le _, N1, B1⟩
  case round =>
    clear N1 B1
    obtain ⟨i, rfl, hi, N1, B1⟩ := hrel
    have c0 := N1.c0
    have c1 := N1.c1
    have c2 := N1.c2
    have c3 := N1.c3
    by_cases hlt : i < m
    · have d1 : (i : Int) < (m : Int) := by omega
      obtain ⟨y, rfl, hy, hc⟩ := HX.out (by omega)
      have cr := rd_cell B1 hy (Nat.le_refl _) (hc _ hlt)
      have hb := GN.out i hlt
      have d2 : decide (x i < 0) = false := by simp; omega
      have d3 : decide (x i ≥ (m : Int)) = false := by simp; omega
      clear hc hb
      go_wp2_with fail
      go_roundw
      case rel => exact ⟨i + 1, by simp, by omega, N1, B1⟩
      case measure => simp [intOf]; omega
    · have d1 : ¬ ((i : Int) < (m : Int)) := by omega
      obtain rfl : m = i := by omega
      clear hi hlt
      go_wp2_with fail
      go_loopw [5] (fun u wr => ∃ i : Nat, u = .int .i64 (i : Int) ∧ i ≤ m ∧ NetAt wr w.heap.size (N : Int) (.slice TA m tp) (.slice XA m xp) (.slice CA m cp) m t x c ∧ Below w.heap.size w wr) (fun u _ => m - (intOf u).toNat)
      case atStart => exact ⟨0, rfl, Nat.zero_le _, N1, B1⟩
      case round =>
        clear N1 B1
        obtain ⟨i, rfl, hi, N1, B1⟩ := hrel
        have c0 := N1.c0
        have c1 := N1.c1
        have c2 := N1.c2
        have c3 := N1.c3
        by_cases hlt : i < m
        · have d1 : (i : Int) < (m : Int) := by omega
          obtain ⟨y, rfl, hy, hc⟩ := HT.out (by omega)
          have cr := rd_cell B1 hy (Nat.le_refl _) (hc _ hlt)
          have hb := GT.out i hlt
          have d2 : decide (t i < 0) = false := by simp; omega
          have d3 : decide (t i ≥ (N : Int)) = false := by simp; omega
          clear hc hb
          go_upto_region 16 with fail
          go_big_quiet (fail)
          go_wp2_with fail
          go_roundw
          case rel => exact ⟨i + 1, by simp, by omega, ⟨N1.box, N1.rt, N1.rx, N1.rc⟩, ⟨B1.os, B1.tape, B1.output, B1.size, B1.block⟩⟩
          case measure => simp [intOf]; omega
        · have d1 : ¬ ((i : Int) < (m : Int)) := by omega
          obtain rfl : m = i := by omega
          clear hi hlt
          go_wp2_with fail
          refine (refTurns_any _ N _ _ _ m t x c N1.rt N1.rx N1.rc g).mono ?_
          rintro e w2 ⟨b, rfl, hb, b2⟩
          replace N1 := N1.below b2 (Nat.le_refl _)
          replace B1 := B1.trans (b2.mono B1.size)
          have HB := Lib.hid hb
          clear b2 hb c0 c1 c2 c3
          cases b with
          | false =>
            go_wp2_with fail
            go_ret
            exact ⟨6, rfl, .inl ⟨rfl, fun h => by have := HB.out.2 h; simp at this⟩, B1⟩
          | true =>
            have TT := HB.out.1 rfl
            have bp := TT.perm.bh hev
            go_wp2_with fail
            go_loopw [6] (fun u wr => ∃ i : Nat, u = .int .i64 (i : Int) ∧ i ≤ m ∧ NetAt wr w.heap.size (N : Int) (.slice TA m tp) (.slice XA m xp) (.slice CA m cp) m t x c ∧ Below w.heap.size w wr) (fun u _ => m - (intOf u).toNat)
            case atStart => exact ⟨0, rfl, Nat.zero_le _, N1, B1⟩
            case round =>
              clear N1 B1
              obtain ⟨i, rfl, hi, N1, B1⟩ := hrel
              have c0 := N1.c0
              have c1 := N1.c1
              have c2 := N1.c2
              have c3 := N1.c3
              by_cases hlt : i < m
              · have d1 : (i : Int) < (m : Int) := by omega
                obtain ⟨y, rfl, hy, hc⟩ := HC.out (by omega)
                have cr := rd_cell B1 hy (Nat.le_refl _) (hc _ hlt)
                have hb := GC.out i hlt
                have d2 : decide (c i < 0) = false := by simp; omega
                have d3 : decide (c i > 2147483648) = false := by simp; omega
                clear hc hb
                go_wp2_with fail
                go_roundw
                case rel => exact ⟨i + 1, by simp, by omega, N1, B1⟩
                case measure => simp [intOf]; omega
              · have d1 : ¬ ((i : Int) < (m : Int)) := by omega
                obtain rfl : m = i := by omega
                clear hi hlt
                go_wp2_with fail
                refine (refParts_ok _ N _ _ _ m t x c N1.rt N1.rx N1.rc g).mono ?_
                rintro e w2 ⟨v2, o2, k2, rfl, O2, -, P2, b2⟩
                obtain ⟨PA, pc, rfl, -⟩ := id O2.rd
                replace N1 := N1.below b2 (Nat.le_refl _)
                replace B1 := B1.trans (b2.mono B1.size)
                clear b2 c0 c1 c2 c3 O2
                have c0 := N1.c0
                have c1 := N1.c1
                have c2 := N1.c2
                have c3 := N1.c3
                by_cases hk : k2 = 1
                · have e1 : ((k2 : Int) != 1) = false := by simp; omega
                  have HP := Lib.hid P2
                  have HK := Lib.hid hk
                  clear P2 hk
                  go_wp2_with fail
                  refine (refFaces_ok _ N _ _ _ m t x N1.rt N1.rx (by omega) hev (fun d hd => (GN.out d hd).1) bp).mono ?_
                  rintro e w3 ⟨fb, o3, k3, rfl, -, -, O3, km3, b3⟩
                  replace N1 := N1.below b3 (Nat.le_refl _)
                  replace B1 := B1.trans (b3.mono B1.size)
                  clear b3 c0 c1 c2 c3
                  have c0 := N1.c0
                  obtain ⟨F, hF⟩ : ∃ F, F = max k3 1 := ⟨_, rfl⟩
                  rw [← hF]
                  have HO := Lib.hid (And.intro hF O3)
                  have hF2 : F ≤ 241 := by omega
                  clear hF O3
                  by_cases hE : N + F = 2 + m / 2
                  · have e2 : ((N : Int) - (m : Int) / 2 + (F : Int) != 2) = false := by simp; omega
                    have HE := Lib.hid hE
                    clear hE
                    go_wp2_with fail
                    go_ret
                    exact ⟨0, rfl, .inr ⟨TT, o2, k2, HP.out, .inr ⟨HK.out, o3, k3, HO.out.2, .inr ⟨by rw [← HO.out.1]; exact HE.out, rfl⟩⟩⟩, B1⟩
                  · have e2 : ((N : Int) - (m : Int) / 2 + (F : Int) != 2) = true := by simp; omega
                    have HE := Lib.hid hE
                    clear hE
                    go_wp2_with fail
                    go_ret
                    exact ⟨8, rfl, .inr ⟨TT, o2, k2, HP.out, .inr ⟨HK.out, o3, k3, HO.out.2, .inl ⟨by rw [← HO.out.1]; exact HE.out, rfl⟩⟩⟩, B1⟩
                · have e1 : ((k2 : Int) != 1) = true := by simp; omega
                  have HP := Lib.hid P2
                  have HK := Lib.hid hk
                  clear P2 hk
                  go_wp2_with fail
                  go_ret
                  exact ⟨7, rfl, .inr ⟨TT, o2, k2, HP.out, .inl ⟨HK.out, rfl⟩⟩, B1⟩
end Go.Proofs.Ytcejjcopchkmeaa.Ro
