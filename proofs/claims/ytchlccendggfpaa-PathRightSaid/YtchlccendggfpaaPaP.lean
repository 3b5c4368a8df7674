/- Walks: reached, of the document's chapter 6. -/
import Derived.Test.YtchlccendggfpaaPaS
import Derived.Outline
import Derived.WalkMore
namespace Go.Proofs.Ytchlccendggfpaa.Ro
open Go.RowKit Go.Proofs
set_option linter.unusedVariables false
set_option linter.unusedSimpArgs false

/-- what reached tells: the places that some row of arcs leads to -/
def ReachedPost (B : Nat) (w : World) (S : ArcsF) (k s n : Nat) (e : Ending) (w' : World) : Prop :=
  ∃ (b : Nat) (o : Nat → Bool), e = .returned (.slice (some ⟨b, 0, none⟩) n n) ∧ OwB w' (.slice (some ⟨b, 0, none⟩) n n) n o ∧ B ≤ b ∧ o s = true ∧ (∀ v, v < n → o v = true → ∃ m c, Way S k s v c m) ∧ (∀ i, i < k → o (S.fr i) = true → o (S.th i) = true) ∧ Below B w w'

theorem closed_way {S : ArcsF} {k s : Nat} {o : Nat → Bool} (h0 : o s = true) (h : ∀ i, i < k → o (S.fr i) = true → o (S.th i) = true) {v m : Nat} {c : Int} (hw : Way S k s v c m) : o v = true := by
  induction hw with
  | nil => exact h0
  | snoc _ hi ih => exact h _ hi ih

set_option maxRecDepth 100000 in
set_option maxHeartbeats 6400000 in
theorem reached_any (w : World) (n k s : Nat) (V : Value) (S : ArcsF) (hV : RdA w V k S) (A : ArcsIn S k n 4294967296) (hs : s < n) (hn : n ≤ 100) (hk : k ≤ 200) :
    Calls Try.prog 37 #[.int .i64 (n : Int), V, .int .i64 (s : Int)] w (ReachedPost w.heap.size w S k s n) := by
  obtain ⟨VA, vc, rfl, rv⟩ := id hV
  have HV := Lib.hid rv
  clear rv
  obtain ⟨ii, hi, hz, hsz, hby⟩ := info_parts (P := Try.prog) (e := 4) (z := .bool false) (size := 1) (bytes := 1) (by kernel_rfl)
  go_enter Try.func37, Try.ntmps37
  go_upto_region 2 with (at_make; refine wpList_make_full _ rfl _ _ _ rfl 0 4 ii (.bool false) 1 Try.underlying47 hi hz hsz .i64 .i64 (n : Int) (n : Int) n rfl rfl rfl rfl (by rw [hby]; omega) (by unfold maxLen; omega) (Nat.zero_le _) ?_; intro w3 hm3 hg3)
  rw [show (Value.bool false).cells = #[.bool false] from rfl, Nat.mul_one, toList_madeCells_one] at hm3
  have E3 := OwB.made hm3
  have b3 : Below w.heap.size w w3 := ⟨hg3.os, hg3.tape, hg3.output, hg3.size, fun k hk => hg3.block k hk (by simp)⟩
  clear hm3 hg3
  generalize hb : w.heap.size = b at *
  have hbw : w.heap.size ≤ b := by omega
  have hwb : b ≤ w.heap.size := by omega
  clear hb
  have co := E3.cell hs
  have zf := E3.frozen s
  have s1 : (s : Int) < (n : Int) := by omega
  have E5 := E3.set hs true
  have B5 := b3.setCell (p := ⟨b, s, none⟩) (Nat.le_refl _) (.bool true)
  clear E3 b3
  go_wp2_with fail
  clear co zf s1
  generalize w3.setCell ⟨b, s, none⟩ (.bool true) = w5 at *
  clear w3
  have HW : Hid (∀ v, v < n → upd (fun _ => false) s true v = true → ∃ m c, Way S k s v c m) := Lib.hid fun v hv h => by
    by_cases e : v = s
    · subst e; exact ⟨0, 0, .nil⟩
    · rw [upd_ne e] at h; cases h
  have HS : Hid (upd (fun _ => false) s true s = true) := Lib.hid (upd_same _ _ _)
  go_loopg [8] (opn (upd (fun _ => false) s true) n + 1) (fun q u wr => ∃ (g : Bool) (o : Nat → Bool), u = .bool g ∧ opn o n + cond g 1 0 ≤ q ∧ Hid (∀ v, v < n → o v = true → ∃ m c, Way S k s v c m) ∧ Hid (o s = true) ∧ Hid (g = false → ∀ i, i < k → o (S.fr i) = true → o (S.th i) = true) ∧ OwB wr (.slice (some ⟨b, 0, none⟩) n n) n o ∧ Below b w wr)
  case atStart => exact ⟨true, _, rfl, Nat.le_refl _, HW, HS, Lib.hid (fun h => by cases h), E5, B5⟩
  case round =>
    clear HW HS E5 B5 w5
    obtain ⟨g, o, rfl, hq, HW, HS, HC, E, B⟩ := hrel
    cases g with
    | false =>
      have HC2 := Lib.hid (HC.out rfl)
      clear HC
      go_wp2
      go_ret
      exact ⟨b, o, rfl, E, Nat.le_refl _, HS.out, HW.out, HC2.out, B⟩
    | true =>
      have hq : opn o n + 1 ≤ gk := hq
      clear HC
      obtain ⟨wo, rfl⟩ : ∃ wo, wo = wr := ⟨_, rfl⟩
      go_wp2_with fail
      go_loopw [8, 9] (fun u8 u9 wr => ∃ (g : Bool) (j : Nat) (o2 : Nat → Bool), u8 = .bool g ∧ u9 = .int .i64 (j : Int) ∧ j ≤ k ∧ Hid (opn o2 n + cond g 1 0 ≤ opn o n) ∧ Hid (∀ v, v < n → o2 v = true → ∃ m c, Way S k s v c m) ∧ Hid (o2 s = true) ∧ Hid (g = false → ∀ i, i < j → o2 (S.fr i) = true → o2 (S.th i) = true) ∧ OwB wr (.slice (some ⟨b, 0, none⟩) n n) n o2 ∧ Below b w wr) (fun _ u9 _ => k - (intOf u9).toNat)
      case atStart => exact ⟨false, 0, o, rfl, rfl, Nat.zero_le _, Lib.hid (by simp), HW, HS, Lib.hid (fun _ i hi => absurd hi (Nat.not_lt_zero i)), E, B⟩
      case round =>
        clear HW HS E B wo
        obtain ⟨g, j, o2, rfl, rfl, hj, HO, HW, HS, HC, E, B⟩ := hrel
        by_cases hlt : j < k
        · have d1 : (j : Int) < (k : Int) := by omega
          obtain ⟨vb, cap, ev, hvb, y1, y2, y3⟩ := hV.arc hlt
          injection ev with e1 e2 e3
          subst e1 e3
          have z1 := (B.cell (p := ⟨vb, j * 3, none⟩) (show vb < b by omega)).trans y1
          have z2 := (B.cell (p := ⟨vb, j * 3 + 1, none⟩) (show vb < b by omega)).trans y2
          have ha := A.fr j hlt
          have hc := A.th j hlt
          have i1 : ((S.fr j : Nat) : Int) < (n : Int) := by omega
          have i2 : ((S.th j : Nat) : Int) < (n : Int) := by omega
          have za := E.cell ha
          have zc := E.cell hc
          have f9 := E.frozen (S.th j)
          clear y1 y2 y3
          cases hfa : o2 (S.fr j) with
          | false =>
            rw [hfa] at za
            have HC2 : Hid (g = false → ∀ i, i < j + 1 → o2 (S.fr i) = true → o2 (S.th i) = true) := Lib.hid fun hg i hi h => by
              rcases Nat.lt_or_ge i j with q | q
              · exact HC.out hg i q h
              · rw [show i = j by omega, hfa] at h; cases h
            clear hfa HC zc f9
            generalize S.fr j = ja at *
            generalize S.th j = jc at *
            go_wp2_with fail
            go_roundw
            case rel => exact ⟨g, j + 1, o2, rfl, by simp, by omega, HO, HW, HS, HC2, E.keep fun _ _ => rfl, ⟨B.os, B.tape, B.output, B.size, B.block⟩⟩
            case measure => simp [intOf]; omega
          | true =>
            rw [hfa] at za
            cases hfc : o2 (S.th j) with
            | true =>
              rw [hfc] at zc
              have HC2 : Hid (g = false → ∀ i, i < j + 1 → o2 (S.fr i) = true → o2 (S.th i) = true) := Lib.hid fun hg i hi h => by
                rcases Nat.lt_or_ge i j with q | q
                · exact HC.out hg i q h
                · rw [show i = j by omega]; exact hfc
              clear hfa hfc HC f9
              generalize S.fr j = ja at *
              generalize S.th j = jc at *
              go_wp2_with fail
              go_roundw
              case rel => exact ⟨g, j + 1, o2, rfl, by simp, by omega, HO, HW, HS, HC2, E.keep fun _ _ => rfl, ⟨B.os, B.tape, B.output, B.size, B.block⟩⟩
              case measure => simp [intOf]; omega
            | false =>
              rw [hfc] at zc
              have HO2 : Hid (opn (upd o2 (S.th j) true) n + cond true 1 0 ≤ opn o n) := Lib.hid (by
                have := opn_upd (o := o2) hfc hc
                have h2 := HO.out
                cases g <;> simp at h2 ⊢ <;> omega)
              have HW2 : Hid (∀ v, v < n → upd o2 (S.th j) true v = true → ∃ m c, Way S k s v c m) := Lib.hid fun v hv h => by
                by_cases e : v = S.th j
                · obtain ⟨m, c, hw⟩ := HW.out _ ha hfa
                  rw [e]; exact ⟨m + 1, _, .snoc hw hlt⟩
                · rw [upd_ne e] at h; exact HW.out v hv h
              have HS2 : Hid (upd o2 (S.th j) true s = true) := Lib.hid (by
                by_cases e : s = S.th j
                · rw [e, upd_same]
                · rw [upd_ne e]; exact HS.out)
              have E2 := E.set hc true
              have B2 := B.setCell (p := ⟨b, S.th j, none⟩) (Nat.le_refl _) (.bool true)
              have HEB := Lib.hid (And.intro E2 B2)
              clear hfa hfc HC HO HW HS E2 B2 E B
              generalize S.fr j = ja at *
              generalize S.th j = jc at *
              go_wp2_with fail
              go_roundw
              case rel => exact ⟨true, j + 1, _, rfl, by simp, by omega, HO2, HW2, HS2, Lib.hid (fun h => by cases h), HEB.out.1.keep fun _ _ => rfl, ⟨HEB.out.2.os, HEB.out.2.tape, HEB.out.2.output, HEB.out.2.size, HEB.out.2.block⟩⟩
              case measure => simp [intOf]; omega
        · have d1 : ¬ ((j : Int) < (k : Int)) := by omega
          obtain rfl : j = k := by omega
          have h2 := HO.out
          have HQ := Lib.hid h2
          go_wp2_with fail
          go_roundg (opn o2 n + cond g 1 0)
          case measure => have h3 : opn o2 n + cond g 1 0 ≤ opn o n := HQ.out; omega
          case rel => exact ⟨g, o2, rfl, Nat.le_refl _, HW, HS, HC, E, B⟩
end Go.Proofs.Ytchlccendggfpaa.Ro
