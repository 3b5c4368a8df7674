/- Walks: turns, of the reference's chapter 2: of any net of good shape. -/
import Derived.Test.YtcejjcopchkmeaaRoNt
import Derived.Test.YtcejjcopchkmeaaRoCt
import Derived.Test.YtcejjcopchkmeaaRoOr
namespace Go.Proofs.Ytcejjcopchkmeaa.Ro
open Go.RowKit Go.Proofs Go.Maps
set_option linter.unusedVariables false
set_option maxRecDepth 100000
set_option linter.unusedSimpArgs false

theorem Rnd.first {f : Nat → Nat} {d k : Nat} (h0 : 0 < k) (hb : it f k d = d) (hn : ∀ j, 0 < j → j < k → it f j d ≠ d) : Rnd f d k :=
  ⟨h0, hb, fun i j hij hj e => by
    have h1 : it f (k - j + i) d = d := by
      rw [it_add, e, ← it_add, show k - j + j = k by omega]; exact hb
    exact hn (k - j + i) (by omega) (by omega) h1⟩
theorem it_round {f : Nat → Nat} {k c : Nat} (h : it f k c = c) : ∀ n, it f (k * n) c = c
  | 0 => rfl
  | n + 1 => by rw [Nat.mul_succ, it_add, h]; exact it_round h n
theorem Perm.of_rnds {f : Nat → Nat} {m : Nat} (lt : ∀ x, x < m → f x < m) (h : ∀ d, d < m → ∃ k, Rnd f d k) : Perm f m :=
  ⟨lt, fun a b ha hb e => by
    obtain ⟨k, Ra⟩ := h a ha
    obtain ⟨l, Rb⟩ := h b hb
    have pa := Ra.pos
    have pb := Rb.pos
    have a1 : it f (k - 1) (f a) = a := by rw [← it_in, show k - 1 + 1 = k by omega]; exact Ra.back
    have b1 : it f (l - 1) (f b) = b := by rw [← it_in, show l - 1 + 1 = l by omega]; exact Rb.back
    have ck : it f k (f a) = f a := by rw [← it_in]; show f (it f k a) = f a; rw [Ra.back]
    have cl : it f l (f a) = f a := by rw [e, ← it_in]; show f (it f l b) = f b; rw [Rb.back]
    have h1 : it f (k - 1 + k * (l - 1)) (f a) = a := by rw [it_add, it_round ck, a1]
    have h2 : it f (l - 1 + l * (k - 1)) (f a) = b := by rw [it_add, it_round cl, e, b1]
    have h3 : k - 1 + k * (l - 1) = l - 1 + l * (k - 1) := by
      obtain ⟨k', rfl⟩ : ∃ k', k = k' + 1 := ⟨k - 1, by omega⟩
      obtain ⟨l', rfl⟩ : ∃ l', l = l' + 1 := ⟨l - 1, by omega⟩
      simp only [Nat.add_sub_cancel]
      rw [Nat.succ_mul, Nat.succ_mul, Nat.mul_comm l' k']
      omega
    rw [← h1, h3, h2]⟩
theorem cnt_ge {P : Nat → Bool} : ∀ (m k : Nat) (s : Nat → Nat), (∀ j, j < k → s j < m ∧ P (s j) = true) → (∀ i j, i < j → j < k → s i ≠ s j) → k ≤ cnt P m
  | 0, k, s, h, _ => by
    rcases Nat.eq_zero_or_pos k with q | q
    · omega
    · have := (h 0 q).1; omega
  | m + 1, k, s, h, ha => by
    by_cases hm : ∃ i, i < k ∧ s i = m
    · obtain ⟨i, hi, e⟩ := hm
      have hP : P m = true := by rw [← e]; exact (h i hi).2
      have := cnt_ge (P := P) m (k - 1) (fun j => if j < i then s j else s (j + 1)) (fun j hj => by
        by_cases q : j < i
        · simp only [if_pos q]
          have h1 := h j (by omega); have h2 := ha j i q hi; exact ⟨by omega, h1.2⟩
        · simp only [if_neg q]
          have h1 := h (j + 1) (by omega); have h2 := ha i (j + 1) (by omega) (by omega); exact ⟨by omega, h1.2⟩) (fun a b hab hb => by
        by_cases q : b < i
        · simp only [if_pos q, if_pos (show a < i by omega)]
          exact ha a b hab (by omega)
        · by_cases q2 : a < i
          · simp only [if_neg q, if_pos q2]
            exact ha a (b + 1) (by omega) (by omega)
          · simp only [if_neg q, if_neg q2]
            exact ha (a + 1) (b + 1) (by omega) (by omega))
      rw [cnt_yes hP]; omega
    · have := cnt_ge (P := P) m k s (fun j hj => by
        have h1 := h j hj
        exact ⟨by rcases Nat.lt_or_ge (s j) m with q | q
                  · exact q
                  · exact absurd ⟨j, hj, by omega⟩ hm, h1.2⟩) ha
      unfold cnt
      omega
/-- how many darts begin where one does -/
def mates (t : Nat → Int) (d m : Nat) : Nat := cnt (fun i => decide (t i = t d)) m
section
variable {N m : Nat} {t x : Nat → Int}
theorem Good.tails (g : Good N m t x) {d e : Nat} (hd : d < m) (he : e < m) : tlOf t d = tlOf t e ↔ t d = t e := by
  have := g.tail d hd
  have := g.tail e he
  unfold tlOf; omega
theorem Turns.mates (h : Turns m t x) (g : Good N m t x) {d k : Nat} (hd : d < m) (R : Rnd (ab x) d k) : mates t d m = k :=
  R.count h.perm hd (fun y hy => (g.tails (h.perm.lt y hy) hy).1 (h.keep y hy)) fun a b ha hb e => h.one a b ha hb ((g.tails ha hb).2 e)
theorem Turns.round (h : Turns m t x) {d : Nat} (hd : d < m) : ∃ k, k ≤ m ∧ Rnd (ab x) d k := by
  obtain ⟨j, hj⟩ := h.one (ab x d) d (h.perm.lt _ hd) hd (h.keep d hd)
  have h1 : it (ab x) (j + 1) d = d := by rw [it_in]; exact hj
  obtain ⟨k, ⟨h2, h3⟩, h4⟩ := least_of (P := fun l => 0 < l ∧ it (ab x) l d = d) (j + 1) ⟨by omega, h1⟩
  have R := Rnd.first h2 h3 fun i hi hik e => h4 i hik ⟨hi, e⟩
  exact ⟨k, apart_le k (fun j => it (ab x) j d) (fun j _ => h.perm.it_lt hd j) R.apart, R⟩
theorem Turns.of_mates (g : Good N m t x) (keep : ∀ d, d < m → t (ab x d) = t d) (h : ∀ d, d < m → Rnd (ab x) d (Ro.mates t d m)) : Turns m t x := by
  have lt : ∀ y, y < m → ab x y < m := fun y hy => by have := g.next y hy; unfold ab; omega
  have p := Perm.of_rnds lt fun d hd => ⟨_, h d hd⟩
  refine ⟨p, fun d hd => (g.tails (lt d hd) hd).2 (keep d hd), fun d e hd he q => ?_⟩
  have q := (g.tails hd he).1 q
  have same : ∀ j, t (it (ab x) j d) = t d := fun j => by
    induction j with
    | zero => rfl
    | succ j ih => exact (keep _ (p.it_lt hd j)).trans ih
  rcases Classical.em (∃ k, it (ab x) k d = e) with y | y
  · exact y
  · exfalso
    have R := h d hd
    have := cnt_ge (P := fun i => decide (t i = t d)) m (Ro.mates t d m + 1) (fun j => if j < Ro.mates t d m then it (ab x) j d else e) (fun j hj => by
      by_cases z : j < Ro.mates t d m
      · simp only [if_pos z]; exact ⟨p.it_lt hd j, by simp [same j]⟩
      · simp only [if_neg z]; exact ⟨he, by simp [q]⟩) (fun i j hij hj => by
      have z : i < Ro.mates t d m := by omega
      simp only [if_pos z]
      by_cases z2 : j < Ro.mates t d m
      · simp only [if_pos z2]; exact R.apart i j hij z2
      · simp only [if_neg z2]; exact fun u => y ⟨i, u⟩)
    have e2 : cnt (fun i => decide (t i = t d)) m = Ro.mates t d m := rfl
    omega
end

/-- what turns tells -/
def TurnsPost (B : Nat) (w : World) (m : Nat) (t x : Nat → Int) (e : Ending) (w' : World) : Prop :=
  ∃ b : Bool, e = .returned (.bool b) ∧ (b = true ↔ Turns m t x) ∧ Below B w w'

set_option maxHeartbeats 6400000 in
theorem refTurns_any (w : World) (N : Nat) (T X C : Value) (m : Nat) (t x c : Nat → Int) (hT : Rd w T m t) (hX : Rd w X m x) (hC : Rd w C m c) (g : Good N m t x) :
    Calls Try.prog 42 #[.agg #[.int .i64 (N : Int), T, X, C]] w (TurnsPost w.heap.size w m t x) := by
  have hm := g.few
  have hxv : ∀ d, d < m → x d = (ab x d : Int) ∧ ab x d < m := fun d hd => by
    have := g.next d hd
    unfold ab; omega
  obtain ⟨TA, tp, rfl, rt⟩ := id hT
  obtain ⟨XA, xp, rfl, rx⟩ := id hX
  have HT := Lib.hid rt
  have HX := Lib.hid rx
  have HV := Lib.hid hxv
  clear rt rx hxv
  go_enter Try.func42, Try.ntmps42
  go_wp2_with fail
  obtain ⟨w1, hw1, N1, B1⟩ := net_enter (N : Int) hT hX hC
  rw [hw1]
  clear hw1
  go_loopw [3] (fun u wr => ∃ i : Nat, u = .int .i64 (i : Int) ∧ i ≤ m ∧ Hid (∀ j, j < i → t (ab x j) = t j) ∧ NetAt wr w.heap.size (N : Int) (.slice TA m tp) (.slice XA m xp) C m t x c ∧ Below w.heap.size w wr) (fun u _ => m - (intOf u).toNat)
  case atStart => exact ⟨0, rfl, Nat.zero_le _, Lib.hid fun j h => by omega, N1, B1⟩
  case round =>
    clear N1 B1 w1
    obtain ⟨i, rfl, hi, hk, N1, B1⟩ := hrel
    have c1 := N1.c1
    have c2 := N1.c2
    by_cases hlt : i < m
    · have d1 : (i : Int) < (m : Int) := by omega
      obtain ⟨y, rfl, hy, hc⟩ := HT.out (by omega)
      obtain ⟨z, rfl, hz, hd⟩ := HX.out (by omega)
      obtain ⟨a, ha⟩ : ∃ a, a = ab x i := ⟨_, rfl⟩
      have hv := HV.out i hlt
      rw [← ha] at hv
      have hal := hv.2
      have ct := rd_cell B1 hy (Nat.le_refl _) (hc _ hlt)
      have ca := rd_cell B1 hy (Nat.le_refl _) (hc a hal)
      have cx := rd_cell B1 hz (Nat.le_refl _) (hd _ hlt)
      rw [hv.1] at cx
      have HA := Lib.hid ha
      clear hc hd hv ha
      have d2 : (a : Int) < (m : Int) := by omega
      by_cases hq : t a = t i
      · have q0 : (t a != t i) = false := by simpa using hq
        have HK : Hid (∀ j, j < i + 1 → t (ab x j) = t j) := Lib.hid fun j hj => by
          rcases Nat.lt_or_ge j i with q | q
          · exact hk.out j q
          · rw [show j = i by omega, ← HA.out]; exact hq
        clear hq
        go_upto_region 4 with fail
        go_big_quiet (fail)
        go_wp2_with fail
        go_roundw
        case rel => exact ⟨i + 1, by simp, by omega, HK, ⟨N1.box, N1.rt, N1.rx, N1.rc⟩, ⟨B1.os, B1.tape, B1.output, B1.size, B1.block⟩⟩
        case measure => simp [intOf]; omega
      · have q0 : (t a != t i) = true := by simpa using hq
        have HN : Hid (¬ Turns m t x) := Lib.hid fun h => hq (by have := (g.tails (h.perm.lt i hlt) hlt).1 (h.keep i hlt); rw [HA.out]; exact this)
        clear hq
        go_upto_region 4 with fail
        go_big_quiet (fail)
        go_wp2_with fail
        go_ret
        exact ⟨false, rfl, ⟨fun h => by simp at h, fun h => absurd h HN.out⟩, ⟨B1.os, B1.tape, B1.output, B1.size, B1.block⟩⟩
    · have d1 : ¬ ((i : Int) < (m : Int)) := by omega
      obtain rfl : m = i := by omega
      go_wp2_with fail
      clear c1 c2
      go_loopw [4] (fun u wr => ∃ i : Nat, u = .int .i64 (i : Int) ∧ i ≤ m ∧ Hid (∀ j, j < i → Rnd (ab x) j (mates t j m)) ∧ NetAt wr w.heap.size (N : Int) (.slice TA m tp) (.slice XA m xp) C m t x c ∧ Below w.heap.size w wr) (fun u _ => m - (intOf u).toNat)
      case atStart => exact ⟨0, rfl, Nat.zero_le _, Lib.hid fun j h => by omega, N1, B1⟩
      case round =>
        clear N1 B1 d1 hi hlt
        obtain ⟨i, rfl, hi, hr, N1, B1⟩ := hrel
        have c1 := N1.c1
        have c2 := N1.c2
        by_cases hlt : i < m
        · have d1 : (i : Int) < (m : Int) := by omega
          obtain ⟨y, rfl, hy, hc⟩ := HT.out (by omega)
          obtain ⟨z, rfl, hz, hd⟩ := HX.out (by omega)
          have HC := Lib.hid hc
          have HD := Lib.hid hd
          clear hc hd
          go_wp2_with fail
          obtain ⟨wo, rfl⟩ : ∃ wo : World, wo = wr := ⟨_, rfl⟩
          go_loopg [5, 6] (m + 2) (fun n u v wr => ∃ k e : Nat, u = .int .i64 (e : Int) ∧ v = .int .i64 (k : Int) ∧ n = m + 2 - k ∧ k ≤ m + 1 ∧ Hid (e = it (ab x) k i ∧ ∀ j, 0 < j → j < k → it (ab x) j i ≠ i) ∧ e < m ∧ wr = wo)
          case atStart => exact ⟨0, i, rfl, rfl, rfl, by omega, Lib.hid ⟨rfl, fun j h h' => by omega⟩, hlt, rfl⟩
          case round =>
            obtain ⟨k, e, rfl, rfl, hn', hk1, hs, he, rfl⟩ := hrel
            have cx := rd_cell B1 hz (Nat.le_refl _) (HD.out e he)
            obtain ⟨a, ha⟩ : ∃ a, a = ab x e := ⟨_, rfl⟩
            have hv := HV.out e he
            rw [← ha] at hv
            have hal := hv.2
            rw [hv.1] at cx
            have HA := Lib.hid ha
            clear ha hv
            have d2 : (e : Int) < (m : Int) := by omega
            by_cases hk0 : k = 0
            · subst hk0
              have q0 : (((0 : Nat) : Int) == 0) = true := by simp
              go_wp2_with fail
              go_roundg (m + 2 - (0 + 1))
              case measure => omega
              case rel => exact ⟨0 + 1, a, rfl, by simp, rfl, by omega, Lib.hid ⟨by rw [HA.out, hs.out.1]; rfl, fun j h0 hj => by omega⟩, hal, rfl⟩
            · have q0 : ((k : Int) == 0) = false := by simp; omega
              by_cases hei : e = i
              · have q1 : ((e : Int) != (i : Int)) = false := by simp; omega
                have R : Hid (Rnd (ab x) i k) := Lib.hid (Rnd.first (by omega) (by rw [← hs.out.1]; exact hei) hs.out.2)
                have END : Hid ((mates t i m = k → Rnd (ab x) i (mates t i m)) ∧ (mates t i m ≠ k → ¬ Turns m t x)) := Lib.hid ⟨fun h => by rw [h]; exact R.out, fun h T => h (T.mates g hlt R.out)⟩
                clear R hei hs cx
                go_wp2_with fail
                go_loopw [7, 8] (fun u v wr => ∃ n j : Nat, u = .int .i64 (n : Int) ∧ v = .int .i64 (j : Int) ∧ j ≤ m ∧ n ≤ j ∧ Hid (n = cnt (fun b => decide (t b = t i)) j) ∧ NetAt wr w.heap.size (N : Int) (.slice (some y) m tp) (.slice (some z) m xp) C m t x c ∧ Below w.heap.size w wr) (fun _ v _ => m - (intOf v).toNat)
                case atStart => exact ⟨0, 0, rfl, rfl, Nat.zero_le _, Nat.le_refl _, Lib.hid rfl, N1, B1⟩
                case round =>
                  clear N1 B1 c1 c2
                  obtain ⟨n, j, rfl, rfl, hj, hnj, hn2, N1, B1⟩ := hrel
                  have c1 := N1.c1
                  by_cases hjm : j < m
                  · have d3 : (j : Int) < (m : Int) := by omega
                    have ct := rd_cell B1 hy (Nat.le_refl _) (HC.out j hjm)
                    have ci := rd_cell B1 hy (Nat.le_refl _) (HC.out i hlt)
                    by_cases hq : t j = t i
                    · have q3 : (t j == t i) = true := by simpa using hq
                      have H4 : Hid (n + 1 = cnt (fun b => decide (t b = t i)) (j + 1)) := Lib.hid (by rw [cnt_yes (by simpa using hq), ← hn2.out])
                      clear hq
                      go_upto_region 16 with fail
                      go_big_quiet (fail)
                      go_wp2_with fail
                      go_roundw
                      case rel => exact ⟨n + 1, j + 1, by simp, by simp, by omega, by omega, H4, ⟨N1.box, N1.rt, N1.rx, N1.rc⟩, ⟨B1.os, B1.tape, B1.output, B1.size, B1.block⟩⟩
                      case measure => simp [intOf]; omega
                    · have q3 : (t j == t i) = false := by simpa using hq
                      have H4 : Hid (n = cnt (fun b => decide (t b = t i)) (j + 1)) := Lib.hid (by rw [cnt_no (by simpa using hq), ← hn2.out])
                      clear hq
                      go_upto_region 16 with fail
                      go_big_quiet (fail)
                      go_wp2_with fail
                      go_roundw
                      case rel => exact ⟨n, j + 1, rfl, by simp, by omega, by omega, H4, ⟨N1.box, N1.rt, N1.rx, N1.rc⟩, ⟨B1.os, B1.tape, B1.output, B1.size, B1.block⟩⟩
                      case measure => simp [intOf]; omega
                  · have d3 : ¬ ((j : Int) < (m : Int)) := by omega
                    obtain rfl : j = m := by omega
                    have hmt : mates t i j = n := hn2.out.symm
                    rw [hmt] at END
                    by_cases hkn : k = n
                    · have q4 : ((k : Int) != (n : Int)) = false := by simp; omega
                      have HR : Hid (∀ b, b < i + 1 → Rnd (ab x) b (mates t b j)) := Lib.hid fun b hb => by
                        rcases Nat.lt_or_ge b i with q | q
                        · exact hr.out b q
                        · rw [show b = i by omega, hmt]; exact END.out.1 hkn.symm
                      clear hmt hkn
                      go_wp2_with fail
                      go_roundw
                      case rel => exact ⟨i + 1, by simp, by omega, HR, N1, B1⟩
                      case measure => simp [intOf]; omega
                    · have q4 : ((k : Int) != (n : Int)) = true := by simp; omega
                      have HN := Lib.hid (END.out.2 (fun h => hkn h.symm))
                      clear hmt hkn
                      go_wp2_with fail
                      go_ret
                      exact ⟨false, rfl, ⟨fun h => by simp at h, fun h => absurd h HN.out⟩, B1⟩
              · have q1 : ((e : Int) != (i : Int)) = true := by simp; omega
                by_cases hkm : k ≤ m
                · have q2 : (k : Int) ≤ (m : Int) := by omega
                  go_wp2_with fail
                  go_roundg (m + 2 - (k + 1))
                  case measure => omega
                  case rel => exact ⟨k + 1, a, rfl, by simp, rfl, by omega, Lib.hid ⟨by rw [HA.out, hs.out.1]; rfl, fun j h0 hj => by
                    rcases Nat.lt_or_ge j k with q | q
                    · exact hs.out.2 j h0 q
                    · rw [show j = k by omega, ← hs.out.1]; exact hei⟩, hal, rfl⟩
                · have q2 : ¬ ((k : Int) ≤ (m : Int)) := by omega
                  have END : Hid ((mates t i m = k → Rnd (ab x) i (mates t i m)) ∧ (mates t i m ≠ k → ¬ Turns m t x)) := Lib.hid ⟨fun h => by have := cnt_le (fun u => decide (t u = t i)) m; unfold mates at h; omega, fun _ T => by
                    obtain ⟨l, h1, R⟩ := T.round hlt
                    exact hs.out.2 l R.pos (by omega) R.back⟩
                  clear hei hs cx
                  go_wp2_with fail
                  go_loopw [7, 8] (fun u v wr => ∃ n j : Nat, u = .int .i64 (n : Int) ∧ v = .int .i64 (j : Int) ∧ j ≤ m ∧ n ≤ j ∧ Hid (n = cnt (fun b => decide (t b = t i)) j) ∧ NetAt wr w.heap.size (N : Int) (.slice (some y) m tp) (.slice (some z) m xp) C m t x c ∧ Below w.heap.size w wr) (fun _ v _ => m - (intOf v).toNat)
                  case atStart => exact ⟨0, 0, rfl, rfl, Nat.zero_le _, Nat.le_refl _, Lib.hid rfl, N1, B1⟩
                  case round =>
                    clear N1 B1 c1 c2
                    obtain ⟨n, j, rfl, rfl, hj, hnj, hn2, N1, B1⟩ := hrel
                    have c1 := N1.c1
                    by_cases hjm : j < m
                    · have d3 : (j : Int) < (m : Int) := by omega
                      have ct := rd_cell B1 hy (Nat.le_refl _) (HC.out j hjm)
                      have ci := rd_cell B1 hy (Nat.le_refl _) (HC.out i hlt)
                      by_cases hq : t j = t i
                      · have q3 : (t j == t i) = true := by simpa using hq
                        have H4 : Hid (n + 1 = cnt (fun b => decide (t b = t i)) (j + 1)) := Lib.hid (by rw [cnt_yes (by simpa using hq), ← hn2.out])
                        clear hq
                        go_upto_region 16 with fail
                        go_big_quiet (fail)
                        go_wp2_with fail
                        go_roundw
                        case rel => exact ⟨n + 1, j + 1, by simp, by simp, by omega, by omega, H4, ⟨N1.box, N1.rt, N1.rx, N1.rc⟩, ⟨B1.os, B1.tape, B1.output, B1.size, B1.block⟩⟩
                        case measure => simp [intOf]; omega
                      · have q3 : (t j == t i) = false := by simpa using hq
                        have H4 : Hid (n = cnt (fun b => decide (t b = t i)) (j + 1)) := Lib.hid (by rw [cnt_no (by simpa using hq), ← hn2.out])
                        clear hq
                        go_upto_region 16 with fail
                        go_big_quiet (fail)
                        go_wp2_with fail
                        go_roundw
                        case rel => exact ⟨n, j + 1, rfl, by simp, by omega, by omega, H4, ⟨N1.box, N1.rt, N1.rx, N1.rc⟩, ⟨B1.os, B1.tape, B1.output, B1.size, B1.block⟩⟩
                        case measure => simp [intOf]; omega
                    · have d3 : ¬ ((j : Int) < (m : Int)) := by omega
                      obtain rfl : j = m := by omega
                      have hmt : mates t i j = n := hn2.out.symm
                      rw [hmt] at END
                      by_cases hkn : k = n
                      · have q4 : ((k : Int) != (n : Int)) = false := by simp; omega
                        have HR : Hid (∀ b, b < i + 1 → Rnd (ab x) b (mates t b j)) := Lib.hid fun b hb => by
                          rcases Nat.lt_or_ge b i with q | q
                          · exact hr.out b q
                          · rw [show b = i by omega, hmt]; exact END.out.1 hkn.symm
                        clear hmt hkn
                        go_wp2_with fail
                        go_roundw
                        case rel => exact ⟨i + 1, by simp, by omega, HR, N1, B1⟩
                        case measure => simp [intOf]; omega
                      · have q4 : ((k : Int) != (n : Int)) = true := by simp; omega
                        have HN := Lib.hid (END.out.2 (fun h => hkn h.symm))
                        clear hmt hkn
                        go_wp2_with fail
                        go_ret
                        exact ⟨false, rfl, ⟨fun h => by simp at h, fun h => absurd h HN.out⟩, B1⟩
        · have d1 : ¬ ((i : Int) < (m : Int)) := by omega
          obtain rfl : m = i := by omega
          have FIN := Lib.hid (Turns.of_mates g hk.out hr.out)
          go_wp2_with fail
          go_ret
          exact ⟨true, rfl, ⟨fun _ => FIN.out, fun _ => rfl⟩, B1⟩
end Go.Proofs.Ytcejjcopchkmeaa.Ro
