/- Plain: what is known of rounds. Walks: turns, of the reference's chapter 2: of any net of good shape. Walks: the reference's Parts. Walks: Check, of the reference's chapter 2: of a net of good shape whose darts hold what may be. Plain laws: the rounds of any step, numbered as far as it comes round. Walks: orbits, over any step about a vertex. Walks: the shape of any net is told. Walks: turns of any net of good shape. Walks: Check of any net. Walks: Check, of the reference's chapter 2: of any net. -/
import Derived.Test.YtcejjcopchkmeaaRoR
import Derived.Test.YtcejjcopchkmeaaRoNt
import Derived.Test.YtcejjcopchkmeaaRoCt
import Derived.Test.YtcejjcopchkmeaaRoZ
import Derived.Test.YtcejjcopchkmeaaRoJ2
import Derived.Deep.RegionHeld3
import Derived.Outline
import Derived.Test.YtcejjcopchkmeaaRoOa
import Derived.Test.YtcejjcopchkmeaaRoU
import Derived.Test.YtcejjcopchkmeaaRoF
namespace Go.Proofs.Ytcejjcopchkmeaa.Ro
open Go.RowKit Go.Proofs Go.Maps
set_option linter.unusedVariables false
set_option maxRecDepth 100000
set_option linter.unusedSimpArgs false

theorem Orb.le {f : Nat → Nat} {m c : Nat} {o : Nat → Int} (h : Orb f m o c) : c ≤ m := by
  apply apart_le c (fun j => if hj : j < c then (h.each j hj).choose else 0)
  · intro j hj
    simp only [hj, dif_pos]
    exact (h.each j hj).choose_spec.1
  · intro i j hij hj e
    have hi : i < c := by omega
    simp only [hj, hi, dif_pos] at e
    have a := (h.each i hi).choose_spec.2
    have b := (h.each j hj).choose_spec.2
    rw [e, b] at a
    omega
theorem Rnd.mod {f : Nat → Nat} {d k : Nat} (h : Rnd f d k) (j : Nat) : it f (j % k) d = it f j d := by
  have hk := h.pos
  have : ∀ q i, it f (i + q * k) d = it f i d := by
    intro q
    induction q with
    | zero => intro i; rw [Nat.zero_mul, Nat.add_zero]
    | succ q ih => intro i; rw [Nat.add_mul, Nat.one_mul, ← Nat.add_assoc, it_add, h.back, ih]
  have e := this (j / k) (j % k)
  rw [Nat.mul_comm, Nat.mod_add_div] at e
  exact e.symm
theorem Rnd.inj {f : Nat → Nat} {d k i j : Nat} (h : Rnd f d k) (hi : i < k) (hj : j < k) (e : it f i d = it f j d) : i = j := by
  rcases Nat.lt_trichotomy i j with q | q | q
  · exact absurd e (h.apart i j q hj)
  · exact q
  · exact absurd e.symm (h.apart j i q hi)
theorem Rnd.shift {f : Nat → Nat} {d k a : Nat} (h : Rnd f d k) {i j : Nat} (hi : i < k) (hj : j < k) (e : it f (a + i) d = it f (a + j) d) : i = j := by
  have hk := h.pos
  rw [← h.mod, ← h.mod (a + j)] at e
  have e2 := h.inj (Nat.mod_lt _ hk) (Nat.mod_lt _ hk) e
  have e3 : (a % k + i) % k = (a % k + j) % k := by rw [Nat.mod_add_mod, Nat.mod_add_mod]; exact e2
  have ha := Nat.mod_lt a hk
  generalize a % k = b at *
  have low : ∀ u, u < k → (b + u) % k = if b + u < k then b + u else b + u - k := fun u hu => by
    split
    · exact Nat.mod_eq_of_lt ‹_›
    · rw [Nat.mod_eq_sub_mod (by omega), Nat.mod_eq_of_lt (by omega)]
  rw [low i hi, low j hj] at e3
  split at e3 <;> split at e3 <;> omega
/-- what is about one is a round's -/
theorem Orb.on {f : Nat → Nat} {m c d k y : Nat} {o : Nat → Int} (h : Orb f m o c) (R : Rnd f d k) (hd : d < m) (hy : y < m) (e : o d = o y) : ∃ j, j < k ∧ Ro.it f j d = y := by
  obtain ⟨j, hj⟩ := h.one d y hd hy e
  exact ⟨j % k, Nat.mod_lt _ R.pos, by rw [R.mod]; exact hj⟩

end Go.Proofs.Ytcejjcopchkmeaa.Ro
namespace Go.Proofs.Ytcejjcopchkmeaa.Ro
open Go.RowKit Go.Proofs Go.Maps
set_option linter.unusedVariables false
set_option maxRecDepth 100000
set_option linter.unusedSimpArgs false

theorem Rnd.first {f : Nat → Nat} {d k : Nat} (h0 : 0 < k) (hb : it f k d = d) (hn : ∀ j, 0 < j → j < k → it f j d ≠ d) : Rnd f d k :=
  ⟨h0, hb, fun i j hij hj e => by
    have h1 : it f (k - j + i) d = d := by
      rw [it_add, e, ← it_add, show k - j + j = k by omega]; exact hb
    exact hn (k - j + i) (by omega) (by omega) h1⟩
theorem it_round {f : Nat → Nat} {k c : Nat} (h : it f k c = c) : ∀ n, it f (k * n) c = c
  | 0 => rfl
  | n + 1 => by rw [Nat.mul_succ, it_add, h]; exact it_round h n
theorem Perm.of_rnds {f : Nat → Nat} {m : Nat} (lt : ∀ x, x < m → f x < m) (h : ∀ d, d < m → ∃ k, Rnd f d k) : Perm f m :=
  ⟨lt, fun a b ha hb e => by
    obtain ⟨k, Ra⟩ := h a ha
    obtain ⟨l, Rb⟩ := h b hb
    have pa := Ra.pos
    have pb := Rb.pos
    have a1 : it f (k - 1) (f a) = a := by rw [← it_in, show k - 1 + 1 = k by omega]; exact Ra.back
    have b1 : it f (l - 1) (f b) = b := by rw [← it_in, show l - 1 + 1 = l by omega]; exact Rb.back
    have ck : it f k (f a) = f a := by rw [← it_in]; show f (it f k a) = f a; rw [Ra.back]
    have cl : it f l (f a) = f a := by rw [e, ← it_in]; show f (it f l b) = f b; rw [Rb.back]
    have h1 : it f (k - 1 + k * (l - 1)) (f a) = a := by rw [it_add, it_round ck, a1]
    have h2 : it f (l - 1 + l * (k - 1)) (f a) = b := by rw [it_add, it_round cl, e, b1]
    have h3 : k - 1 + k * (l - 1) = l - 1 + l * (k - 1) := by
      obtain ⟨k', rfl⟩ : ∃ k', k = k' + 1 := ⟨k - 1, by omega⟩
      obtain ⟨l', rfl⟩ : ∃ l', l = l' + 1 := ⟨l - 1, by omega⟩
      simp only [Nat.add_sub_cancel]
      rw [Nat.succ_mul, Nat.succ_mul, Nat.mul_comm l' k']
      omega
    rw [← h1, h3, h2]⟩
theorem cnt_ge {P : Nat → Bool} : ∀ (m k : Nat) (s : Nat → Nat), (∀ j, j < k → s j < m ∧ P (s j) = true) → (∀ i j, i < j → j < k → s i ≠ s j) → k ≤ cnt P m
  | 0, k, s, h, _ => by
    rcases Nat.eq_zero_or_pos k with q | q
    · omega
    · have := (h 0 q).1; omega
  | m + 1, k, s, h, ha => by
    by_cases hm : ∃ i, i < k ∧ s i = m
    · obtain ⟨i, hi, e⟩ := hm
      have hP : P m = true := by rw [← e]; exact (h i hi).2
      have := cnt_ge (P := P) m (k - 1) (fun j => if j < i then s j else s (j + 1)) (fun j hj => by
        by_cases q : j < i
        · simp only [if_pos q]
          have h1 := h j (by omega); have h2 := ha j i q hi; exact ⟨by omega, h1.2⟩
        · simp only [if_neg q]
          have h1 := h (j + 1) (by omega); have h2 := ha i (j + 1) (by omega) (by omega); exact ⟨by omega, h1.2⟩) (fun a b hab hb => by
        by_cases q : b < i
        · simp only [if_pos q, if_pos (show a < i by omega)]
          exact ha a b hab (by omega)
        · by_cases q2 : a < i
          · simp only [if_neg q, if_pos q2]
            exact ha a (b + 1) (by omega) (by omega)
          · simp only [if_neg q, if_neg q2]
            exact ha (a + 1) (b + 1) (by omega) (by omega))
      rw [cnt_yes hP]; omega
    · have := cnt_ge (P := P) m k s (fun j hj => by
        have h1 := h j hj
        exact ⟨by rcases Nat.lt_or_ge (s j) m with q | q
                  · exact q
                  · exact absurd ⟨j, hj, by omega⟩ hm, h1.2⟩) ha
      unfold cnt
      omega
/-- how many darts begin where one does -/
def mates (t : Nat → Int) (d m : Nat) : Nat := cnt (fun i => decide (t i = t d)) m
section
variable {N m : Nat} {t x : Nat → Int}
theorem Good.tails (g : Good N m t x) {d e : Nat} (hd : d < m) (he : e < m) : tlOf t d = tlOf t e ↔ t d = t e := by
  have := g.tail d hd
  have := g.tail e he
  unfold tlOf; omega
theorem Turns.mates (h : Turns m t x) (g : Good N m t x) {d k : Nat} (hd : d < m) (R : Rnd (ab x) d k) : mates t d m = k :=
  R.count h.perm hd (fun y hy => (g.tails (h.perm.lt y hy) hy).1 (h.keep y hy)) fun a b ha hb e => h.one a b ha hb ((g.tails ha hb).2 e)
theorem Turns.round (h : Turns m t x) {d : Nat} (hd : d < m) : ∃ k, k ≤ m ∧ Rnd (ab x) d k := by
  obtain ⟨j, hj⟩ := h.one (ab x d) d (h.perm.lt _ hd) hd (h.keep d hd)
  have h1 : it (ab x) (j + 1) d = d := by rw [it_in]; exact hj
  obtain ⟨k, ⟨h2, h3⟩, h4⟩ := least_of (P := fun l => 0 < l ∧ it (ab x) l d = d) (j + 1) ⟨by omega, h1⟩
  have R := Rnd.first h2 h3 fun i hi hik e => h4 i hik ⟨hi, e⟩
  exact ⟨k, apart_le k (fun j => it (ab x) j d) (fun j _ => h.perm.it_lt hd j) R.apart, R⟩
theorem Turns.of_mates (g : Good N m t x) (keep : ∀ d, d < m → t (ab x d) = t d) (h : ∀ d, d < m → Rnd (ab x) d (Ro.mates t d m)) : Turns m t x := by
  have lt : ∀ y, y < m → ab x y < m := fun y hy => by have := g.next y hy; unfold ab; omega
  have p := Perm.of_rnds lt fun d hd => ⟨_, h d hd⟩
  refine ⟨p, fun d hd => (g.tails (lt d hd) hd).2 (keep d hd), fun d e hd he q => ?_⟩
  have q := (g.tails hd he).1 q
  have same : ∀ j, t (it (ab x) j d) = t d := fun j => by
    induction j with
    | zero => rfl
    | succ j ih => exact (keep _ (p.it_lt hd j)).trans ih
  rcases Classical.em (∃ k, it (ab x) k d = e) with y | y
  · exact y
  · exfalso
    have R := h d hd
    have := cnt_ge (P := fun i => decide (t i = t d)) m (Ro.mates t d m + 1) (fun j => if j < Ro.mates t d m then it (ab x) j d else e) (fun j hj => by
      by_cases z : j < Ro.mates t d m
      · simp only [if_pos z]; exact ⟨p.it_lt hd j, by simp [same j]⟩
      · simp only [if_neg z]; exact ⟨he, by simp [q]⟩) (fun i j hij hj => by
      have z : i < Ro.mates t d m := by omega
      simp only [if_pos z]
      by_cases z2 : j < Ro.mates t d m
      · simp only [if_pos z2]; exact R.apart i j hij z2
      · simp only [if_neg z2]; exact fun u => y ⟨i, u⟩)
    have e2 : cnt (fun i => decide (t i = t d)) m = Ro.mates t d m := rfl
    omega
end

/-- what turns tells -/
def TurnsPost (B : Nat) (w : World) (m : Nat) (t x : Nat → Int) (e : Ending) (w' : World) : Prop :=
  ∃ b : Bool, e = .returned (.bool b) ∧ (b = true ↔ Turns m t x) ∧ Below B w w'

set_option maxHeartbeats 6400000 in
theorem refTurns_any (w : World) (N : Nat) (T X C : Value) (m : Nat) (t x c : Nat → Int) (hT : Rd w T m t) (hX : Rd w X m x) (hC : Rd w C m c) (g : Good N m t x) :
    Calls Try.prog 42 #[.agg #[.int .i64 (N : Int), T, X, C]] w (TurnsPost w.heap.size w m t x) := by
  have hm := g.few
  have hxv : ∀ d, d < m → x d = (ab x d : Int) ∧ ab x d < m := fun d hd => by
    have := g.next d hd
    unfold ab; omega
  obtain ⟨TA, tp, rfl, rt⟩ := id hT
  obtain ⟨XA, xp, rfl, rx⟩ := id hX
  have HT := Lib.hid rt
  have HX := Lib.hid rx
  have HV := Lib.hid hxv
  clear rt rx hxv
  go_enter Try.func42, Try.ntmps42
  go_wp2_with fail
  obtain ⟨w1, hw1, N1, B1⟩ := net_enter (N : Int) hT hX hC
  rw [hw1]
  clear hw1
  go_loopw [3] (fun u wr => ∃ i : Nat, u = .int .i64 (i : Int) ∧ i ≤ m ∧ Hid (∀ j, j < i → t (ab x j) = t j) ∧ NetAt wr w.heap.size (N : Int) (.slice TA m tp) (.slice XA m xp) C m t x c ∧ Below w.heap.size w wr) (fun u _ => m - (intOf u).toNat)
  case atStart => exact ⟨0, rfl, Nat.zero_le _, Lib.hid fun j h => by omega, N1, B1⟩
  case round =>
    clear N1 B1 w1
    obtain ⟨i, rfl, hi, hk, N1, B1⟩ := hrel
    have c1 := N1.c1
    have c2 := N1.c2
    by_cases hlt : i < m
    · have d1 : (i : Int) < (m : Int) := by omega
      obtain ⟨y, rfl, hy, hc⟩ := HT.out (by omega)
      obtain ⟨z, rfl, hz, hd⟩ := HX.out (by omega)
      obtain ⟨a, ha⟩ : ∃ a, a = ab x i := ⟨_, rfl⟩
      have hv := HV.out i hlt
      rw [← ha] at hv
      have hal := hv.2
      have ct := rd_cell B1 hy (Nat.le_refl _) (hc _ hlt)
      have ca := rd_cell B1 hy (Nat.le_refl _) (hc a hal)
      have cx := rd_cell B1 hz (Nat.le_refl _) (hd _ hlt)
      rw [hv.1] at cx
      have HA := Lib.hid ha
      clear hc hd hv ha
      have d2 : (a : Int) < (m : Int) := by omega
      by_cases hq : t a = t i
      · have q0 : (t a != t i) = false := by simpa using hq
        have HK : Hid (∀ j, j < i + 1 → t (ab x j) = t j) := Lib.hid fun j hj => by
          rcases Nat.lt_or_ge j i with q | q
          · exact hk.out j q
          · rw [show j = i by omega, ← HA.out]; exact hq
        clear hq
        go_upto_region 4 with fail
        go_big_quiet (fail)
        go_wp2_with fail
        go_roundw
        case rel => exact ⟨i + 1, by simp, by omega, HK, ⟨N1.box, N1.rt, N1.rx, N1.rc⟩, ⟨B1.os, B1.tape, B1.output, B1.size, B1.block⟩⟩
        case measure => simp [intOf]; omega
      · have q0 : (t a != t i) = true := by simpa using hq
        have HN : Hid (¬ Turns m t x) := Lib.hid fun h => hq (by have := (g.tails (h.perm.lt i hlt) hlt).1 (h.keep i hlt); rw [HA.out]; exact this)
        clear hq
        go_upto_region 4 with fail
        go_big_quiet (fail)
        go_wp2_with fail
        go_ret
        exact ⟨false, rfl, ⟨fun h => by simp at h, fun h => absurd h HN.out⟩, ⟨B1.os, B1.tape, B1.output, B1.size, B1.block⟩⟩
    · have d1 : ¬ ((i : Int) < (m : Int)) := by omega
      obtain rfl : m = i := by omega
      go_wp2_with fail
      clear c1 c2
      go_loopw [4] (fun u wr => ∃ i : Nat, u = .int .i64 (i : Int) ∧ i ≤ m ∧ Hid (∀ j, j < i → Rnd (ab x) j (mates t j m)) ∧ NetAt wr w.heap.size (N : Int) (.slice TA m tp) (.slice XA m xp) C m t x c ∧ Below w.heap.size w wr) (fun u _ => m - (intOf u).toNat)
      case atStart => exact ⟨0, rfl, Nat.zero_le _, Lib.hid fun j h => by omega, N1, B1⟩
      case round =>
        clear N1 B1 d1 hi hlt
        obtain ⟨i, rfl, hi, hr, N1, B1⟩ := hrel
        have c1 := N1.c1
        have c2 := N1.c2
        by_cases hlt : i < m
        · have d1 : (i : Int) < (m : Int) := by omega
          obtain ⟨y, rfl, hy, hc⟩ := HT.out (by omega)
          obtain ⟨z, rfl, hz, hd⟩ := HX.out (by omega)
          have HC := Lib.hid hc
          have HD := Lib.hid hd
          clear hc hd
          go_wp2_with fail
          obtain ⟨wo, rfl⟩ : ∃ wo : World, wo = wr := ⟨_, rfl⟩
          go_loopg [5, 6] (m + 2) (fun n u v wr => ∃ k e : Nat, u = .int .i64 (e : Int) ∧ v = .int .i64 (k : Int) ∧ n = m + 2 - k ∧ k ≤ m + 1 ∧ Hid (e = it (ab x) k i ∧ ∀ j, 0 < j → j < k → it (ab x) j i ≠ i) ∧ e < m ∧ wr = wo)
          case atStart => exact ⟨0, i, rfl, rfl, rfl, by omega, Lib.hid ⟨rfl, fun j h h' => by omega⟩, hlt, rfl⟩
          case round =>
            obtain ⟨k, e, rfl, rfl, hn', hk1, hs, he, rfl⟩ := hrel
            have cx := rd_cell B1 hz (Nat.le_refl _) (HD.out e he)
            obtain ⟨a, ha⟩ : ∃ a, a = ab x e := ⟨_, rfl⟩
            have hv := HV.out e he
            rw [← ha] at hv
            have hal := hv.2
            rw [hv.1] at cx
            have HA := Lib.hid ha
            clear ha hv
            have d2 : (e : Int) < (m : Int) := by omega
            by_cases hk0 : k = 0
            · subst hk0
              have q0 : (((0 : Nat) : Int) == 0) = true := by simp
              go_wp2_with fail
              go_roundg (m + 2 - (0 + 1))
              case measure => omega
              case rel => exact ⟨0 + 1, a, rfl, by simp, rfl, by omega, Lib.hid ⟨by rw [HA.out, hs.out.1]; rfl, fun j h0 hj => by omega⟩, hal, rfl⟩
            · have q0 : ((k : Int) == 0) = false := by simp; omega
              by_cases hei : e = i
              · have q1 : ((e : Int) != (i : Int)) = false := by simp; omega
                have R : Hid (Rnd (ab x) i k) := Lib.hid (Rnd.first (by omega) (by rw [← hs.out.1]; exact hei) hs.out.2)
                have END : Hid ((mates t i m = k → Rnd (ab x) i (mates t i m)) ∧ (mates t i m ≠ k → ¬ Turns m t x)) := Lib.hid ⟨fun h => by rw [h]; exact R.out, fun h T => h (T.mates g hlt R.out)⟩
                clear R hei hs cx
                go_wp2_with fail
                go_loopw [7, 8] (fun u v wr => ∃ n j : Nat, u = .int .i64 (n : Int) ∧ v = .int .i64 (j : Int) ∧ j ≤ m ∧ n ≤ j ∧ Hid (n = cnt (fun b => decide (t b = t i)) j) ∧ NetAt wr w.heap.size (N : Int) (.slice (some y) m tp) (.slice (some z) m xp) C m t x c ∧ Below w.heap.size w wr) (fun _ v _ => m - (intOf v).toNat)
                case atStart => exact ⟨0, 0, rfl, rfl, Nat.zero_le _, Nat.le_refl _, Lib.hid rfl, N1, B1⟩
                case round =>
                  clear N1 B1 c1 c2
                  obtain ⟨n, j, rfl, rfl, hj, hnj, hn2, N1, B1⟩ := hrel
                  have c1 := N1.c1
                  by_cases hjm : j < m
                  · have d3 : (j : Int) < (m : Int) := by omega
                    have ct := rd_cell B1 hy (Nat.le_refl _) (HC.out j hjm)
                    have ci := rd_cell B1 hy (Nat.le_refl _) (HC.out i hlt)
                    by_cases hq : t j = t i
                    · have q3 : (t j == t i) = true := by simpa using hq
                      have H4 : Hid (n + 1 = cnt (fun b => decide (t b = t i)) (j + 1)) := Lib.hid (by rw [cnt_yes (by simpa using hq), ← hn2.out])
                      clear hq
                      go_upto_region 16 with fail
                      go_big_quiet (fail)
                      go_wp2_with fail
                      go_roundw
                      case rel => exact ⟨n + 1, j + 1, by simp, by simp, by omega, by omega, H4, ⟨N1.box, N1.rt, N1.rx, N1.rc⟩, ⟨B1.os, B1.tape, B1.output, B1.size, B1.block⟩⟩
                      case measure => simp [intOf]; omega
                    · have q3 : (t j == t i) = false := by simpa using hq
                      have H4 : Hid (n = cnt (fun b => decide (t b = t i)) (j + 1)) := Lib.hid (by rw [cnt_no (by simpa using hq), ← hn2.out])
                      clear hq
                      go_upto_region 16 with fail
                      go_big_quiet (fail)
                      go_wp2_with fail
                      go_roundw
                      case rel => exact ⟨n, j + 1, rfl, by simp, by omega, by omega, H4, ⟨N1.box, N1.rt, N1.rx, N1.rc⟩, ⟨B1.os, B1.tape, B1.output, B1.size, B1.block⟩⟩
                      case measure => simp [intOf]; omega
                  · have d3 : ¬ ((j : Int) < (m : Int)) := by omega
                    obtain rfl : j = m := by omega
                    have hmt : mates t i j = n := hn2.out.symm
                    rw [hmt] at END
                    by_cases hkn : k = n
                    · have q4 : ((k : Int) != (n : Int)) = false := by simp; omega
                      have HR : Hid (∀ b, b < i + 1 → Rnd (ab x) b (mates t b j)) := Lib.hid fun b hb => by
                        rcases Nat.lt_or_ge b i with q | q
                        · exact hr.out b q
                        · rw [show b = i by omega, hmt]; exact END.out.1 hkn.symm
                      clear hmt hkn
                      go_wp2_with fail
                      go_roundw
                      case rel => exact ⟨i + 1, by simp, by omega, HR, N1, B1⟩
                      case measure => simp [intOf]; omega
                    · have q4 : ((k : Int) != (n : Int)) = true := by simp; omega
                      have HN := Lib.hid (END.out.2 (fun h => hkn h.symm))
                      clear hmt hkn
                      go_wp2_with fail
                      go_ret
                      exact ⟨false, rfl, ⟨fun h => by simp at h, fun h => absurd h HN.out⟩, B1⟩
              · have q1 : ((e : Int) != (i : Int)) = true := by simp; omega
                by_cases hkm : k ≤ m
                · have q2 : (k : Int) ≤ (m : Int) := by omega
                  go_wp2_with fail
                  go_roundg (m + 2 - (k + 1))
                  case measure => omega
                  case rel => exact ⟨k + 1, a, rfl, by simp, rfl, by omega, Lib.hid ⟨by rw [HA.out, hs.out.1]; rfl, fun j h0 hj => by
                    rcases Nat.lt_or_ge j k with q | q
                    · exact hs.out.2 j h0 q
                    · rw [show j = k by omega, ← hs.out.1]; exact hei⟩, hal, rfl⟩
                · have q2 : ¬ ((k : Int) ≤ (m : Int)) := by omega
                  have END : Hid ((mates t i m = k → Rnd (ab x) i (mates t i m)) ∧ (mates t i m ≠ k → ¬ Turns m t x)) := Lib.hid ⟨fun h => by have := cnt_le (fun u => decide (t u = t i)) m; unfold mates at h; omega, fun _ T => by
                    obtain ⟨l, h1, R⟩ := T.round hlt
                    exact hs.out.2 l R.pos (by omega) R.back⟩
                  clear hei hs cx
                  go_wp2_with fail
                  go_loopw [7, 8] (fun u v wr => ∃ n j : Nat, u = .int .i64 (n : Int) ∧ v = .int .i64 (j : Int) ∧ j ≤ m ∧ n ≤ j ∧ Hid (n = cnt (fun b => decide (t b = t i)) j) ∧ NetAt wr w.heap.size (N : Int) (.slice (some y) m tp) (.slice (some z) m xp) C m t x c ∧ Below w.heap.size w wr) (fun _ v _ => m - (intOf v).toNat)
                  case atStart => exact ⟨0, 0, rfl, rfl, Nat.zero_le _, Nat.le_refl _, Lib.hid rfl, N1, B1⟩
                  case round =>
                    clear N1 B1 c1 c2
                    obtain ⟨n, j, rfl, rfl, hj, hnj, hn2, N1, B1⟩ := hrel
                    have c1 := N1.c1
                    by_cases hjm : j < m
                    · have d3 : (j : Int) < (m : Int) := by omega
                      have ct := rd_cell B1 hy (Nat.le_refl _) (HC.out j hjm)
                      have ci := rd_cell B1 hy (Nat.le_refl _) (HC.out i hlt)
                      by_cases hq : t j = t i
                      · have q3 : (t j == t i) = true := by simpa using hq
                        have H4 : Hid (n + 1 = cnt (fun b => decide (t b = t i)) (j + 1)) := Lib.hid (by rw [cnt_yes (by simpa using hq), ← hn2.out])
                        clear hq
                        go_upto_region 16 with fail
                        go_big_quiet (fail)
                        go_wp2_with fail
                        go_roundw
                        case rel => exact ⟨n + 1, j + 1, by simp, by simp, by omega, by omega, H4, ⟨N1.box, N1.rt, N1.rx, N1.rc⟩, ⟨B1.os, B1.tape, B1.output, B1.size, B1.block⟩⟩
                        case measure => simp [intOf]; omega
                      · have q3 : (t j == t i) = false := by simpa using hq
                        have H4 : Hid (n = cnt (fun b => decide (t b = t i)) (j + 1)) := Lib.hid (by rw [cnt_no (by simpa using hq), ← hn2.out])
                        clear hq
                        go_upto_region 16 with fail
                        go_big_quiet (fail)
                        go_wp2_with fail
                        go_roundw
                        case rel => exact ⟨n, j + 1, rfl, by simp, by omega, by omega, H4, ⟨N1.box, N1.rt, N1.rx, N1.rc⟩, ⟨B1.os, B1.tape, B1.output, B1.size, B1.block⟩⟩
                        case measure => simp [intOf]; omega
                    · have d3 : ¬ ((j : Int) < (m : Int)) := by omega
                      obtain rfl : j = m := by omega
                      have hmt : mates t i j = n := hn2.out.symm
                      rw [hmt] at END
                      by_cases hkn : k = n
                      · have q4 : ((k : Int) != (n : Int)) = false := by simp; omega
                        have HR : Hid (∀ b, b < i + 1 → Rnd (ab x) b (mates t b j)) := Lib.hid fun b hb => by
                          rcases Nat.lt_or_ge b i with q | q
                          · exact hr.out b q
                          · rw [show b = i by omega, hmt]; exact END.out.1 hkn.symm
                        clear hmt hkn
                        go_wp2_with fail
                        go_roundw
                        case rel => exact ⟨i + 1, by simp, by omega, HR, N1, B1⟩
                        case measure => simp [intOf]; omega
                      · have q4 : ((k : Int) != (n : Int)) = true := by simp; omega
                        have HN := Lib.hid (END.out.2 (fun h => hkn h.symm))
                        clear hmt hkn
                        go_wp2_with fail
                        go_ret
                        exact ⟨false, rfl, ⟨fun h => by simp at h, fun h => absurd h HN.out⟩, B1⟩
        · have d1 : ¬ ((i : Int) < (m : Int)) := by omega
          obtain rfl : m = i := by omega
          have FIN := Lib.hid (Turns.of_mates g hk.out hr.out)
          go_wp2_with fail
          go_ret
          exact ⟨true, rfl, ⟨fun _ => FIN.out, fun _ => rfl⟩, B1⟩
end Go.Proofs.Ytcejjcopchkmeaa.Ro
namespace Go.Proofs.Ytcejjcopchkmeaa.Ro
open Go.RowKit Go.Proofs Go.Maps
set_option linter.unusedVariables false
set_option maxRecDepth 100000
set_option linter.unusedSimpArgs false

/-- each vertex is told one of its piece that is no greater -/
structure Low (N m : Nat) (tl : Nat → Nat) (o : Nat → Int) : Prop where
  lo : ∀ v, v < N → 0 ≤ o v ∧ o v ≤ v
  conn : ∀ v, v < N → Conn m tl (o v).toNat v
theorem Low.start (N m : Nat) (tl : Nat → Nat) : Low N m tl (fun v => (v : Int)) :=
  ⟨fun v _ => ⟨by omega, Int.le_refl _⟩, fun v _ => by show Conn m tl ((v : Int).toNat) v; rw [Int.toNat_natCast]; exact .refl⟩
theorem Low.step {N m d : Nat} {tl : Nat → Nat} {o : Nat → Int} (h : Low N m tl o) (hd : d < m) (ht : tl d < N) (hh : tl (oth d) < N) (hg : o (tl (oth d)) > o (tl d)) : Low N m tl (upd o (tl (oth d)) (o (tl d))) :=
  ⟨fun v hv => by
    by_cases e : v = tl (oth d)
    · subst e; rw [upd_same]; have := h.lo _ ht; have := h.lo _ hh; omega
    · rw [upd_ne e]; exact h.lo v hv, fun v hv => by
    by_cases e : v = tl (oth d)
    · subst e; rw [upd_same]; exact .step hd (h.conn _ ht)
    · rw [upd_ne e]; exact h.conn v hv⟩
/-- the sum of a row's numbers -/
def tot (o : Nat → Int) : Nat → Nat
  | 0 => 0
  | n + 1 => tot o n + (o n).toNat
theorem tot_far {o : Nat → Int} {a : Nat} {u : Int} : ∀ {n}, n ≤ a → tot (upd o a u) n = tot o n
  | 0, _ => rfl
  | n + 1, h => by unfold tot; rw [tot_far (by omega), upd_ne (by omega)]
theorem tot_less {o : Nat → Int} {a : Nat} {u : Int} (h0 : 0 ≤ u) (h1 : u < o a) : ∀ {n}, a < n → tot (upd o a u) n < tot o n
  | 0, h => by omega
  | n + 1, h => by
    unfold tot
    by_cases e : a = n
    · subst e
      rw [tot_far (Nat.le_refl _), upd_same]
      omega
    · have := tot_less (n := n) h0 h1 (by omega)
      rw [upd_ne (by omega)]
      omega
/-- nothing is left to be made less: each vertex is told its piece's least -/
structure Least (N m : Nat) (tl : Nat → Nat) (o : Nat → Int) : Prop extends Low N m tl o where
  edge : ∀ d, d < m → o (tl (oth d)) = o (tl d)
theorem Least.of {N m : Nat} {tl : Nat → Nat} {o : Nat → Int} (h : Low N m tl o) (he : m % 2 = 0) (full : ∀ d, d < m → o (tl (oth d)) ≤ o (tl d)) : Least N m tl o :=
  ⟨h, fun d hd => by
    have h1 := full d hd
    have h2 := full (oth d) (oth_lt hd he)
    rw [oth_oth] at h2
    omega⟩
theorem Least.same {N m : Nat} {tl : Nat → Nat} {o : Nat → Int} (h : Least N m tl o) {u v : Nat} (c : Conn m tl u v) : o u = o v := by
  induction c with
  | refl => rfl
  | step hd _ ih => rw [h.edge _ hd]; exact ih
theorem Least.root {N m : Nat} {tl : Nat → Nat} {o : Nat → Int} (h : Least N m tl o) {v : Nat} (hv : v < N) : o (o v).toNat = o v := h.same (h.conn v hv)
/-- the pieces' numbers, of the first i vertices -/
structure NumUp (N m : Nat) (tl : Nat → Nat) (o : Nat → Int) (i k : Nat) (num : Nat → Int) : Prop where
  lo : ∀ v, v < i → 0 ≤ num v ∧ num v < k
  root : ∀ v, v < i → num v = num (o v).toNat
  one : ∀ u v, u < i → v < i → num u = num v → o u = o v
  each : ∀ e : Nat, e < k → ∃ v, v < i ∧ num v = e
  first : ∀ v, v < i → ∀ e : Nat, (e : Int) < num v → ∃ u, u < v ∧ num u = e
  le : k ≤ i
section
variable {N m i k : Nat} {tl : Nat → Nat} {o num : Nat → Int}
theorem NumUp.start (N m : Nat) (tl : Nat → Nat) (o num : Nat → Int) : NumUp N m tl o 0 0 num :=
  ⟨fun v h => by omega, fun v h => by omega, fun u v h => by omega, fun e h => by omega, fun v h => by omega, Nat.le_refl _⟩
theorem upd_low {num : Nat → Int} {i v : Nat} {u : Int} (h : v < i) : upd num i u v = num v := upd_ne (by omega)
theorem NumUp.new (h : NumUp N m tl o i k num) (L : Least N m tl o) (hi : i < N) (e : o i = i) : NumUp N m tl o (i + 1) (k + 1) (upd num i (k : Int)) := by
  have lt : ∀ v, v < i + 1 → v ≠ i → v < i := fun v h1 h2 => by omega
  refine ⟨fun v hv => ?_, fun v hv => ?_, fun u v hu hv q => ?_, fun e' he => ?_, fun v hv e' he => ?_, by have := h.le; omega⟩
  · by_cases q : v = i
    · subst q; rw [upd_same]; omega
    · rw [upd_low (lt v hv q)]; have := h.lo v (lt v hv q); omega
  · by_cases q : v = i
    · subst q; rw [e, Int.toNat_natCast]
    · have h1 := L.lo v (by omega)
      have h2 := lt v hv q
      rw [upd_low h2, upd_low (by omega)]; exact h.root v h2
  · by_cases q1 : u = i <;> by_cases q2 : v = i
    · rw [q1, q2]
    · rw [q1, upd_same, upd_low (lt v hv q2)] at q; have := h.lo v (lt v hv q2); omega
    · rw [q2, upd_same, upd_low (lt u hu q1)] at q; have := h.lo u (lt u hu q1); omega
    · rw [upd_low (lt u hu q1), upd_low (lt v hv q2)] at q; exact h.one u v (lt u hu q1) (lt v hv q2) q
  · rcases Nat.lt_or_ge e' k with q | q
    · obtain ⟨v, h1, h2⟩ := h.each e' q
      exact ⟨v, by omega, by rw [upd_low h1]; exact h2⟩
    · exact ⟨i, by omega, by rw [upd_same]; omega⟩
  · by_cases q : v = i
    · subst q; rw [upd_same] at he
      obtain ⟨u, h1, h2⟩ := h.each e' (by omega)
      exact ⟨u, h1, by rw [upd_low h1]; exact h2⟩
    · rw [upd_low (lt v hv q)] at he
      obtain ⟨u, h1, h2⟩ := h.first v (lt v hv q) e' he
      exact ⟨u, h1, by rw [upd_low (by omega)]; exact h2⟩
theorem NumUp.old (h : NumUp N m tl o i k num) (L : Least N m tl o) (hi : i < N) (e : o i ≠ i) : (o i).toNat < i ∧ NumUp N m tl o (i + 1) k (upd num i (num (o i).toNat)) := by
  have lt : ∀ v, v < i + 1 → v ≠ i → v < i := fun v h1 h2 => by omega
  have l0 := L.lo i hi
  have l1 : (o i).toNat < i := by omega
  have r := L.root hi
  refine ⟨l1, fun v hv => ?_, fun v hv => ?_, fun u v hu hv q => ?_, fun e' he => ?_, fun v hv e' he => ?_, by have := h.le; omega⟩
  · by_cases q : v = i
    · subst q; rw [upd_same]; exact h.lo _ l1
    · rw [upd_low (lt v hv q)]; exact h.lo v (lt v hv q)
  · by_cases q : v = i
    · subst q; rw [upd_same, upd_low l1]
    · have h1 := L.lo v (by omega)
      have h2 := lt v hv q
      rw [upd_low h2, upd_low (by omega)]; exact h.root v h2
  · by_cases q1 : u = i <;> by_cases q2 : v = i
    · rw [q1, q2]
    · rw [q1, upd_same, upd_low (lt v hv q2)] at q
      rw [q1]; exact r.symm.trans (h.one _ v l1 (lt v hv q2) q)
    · rw [q2, upd_same, upd_low (lt u hu q1)] at q
      rw [q2]; exact (h.one u _ (lt u hu q1) l1 q).trans r
    · rw [upd_low (lt u hu q1), upd_low (lt v hv q2)] at q; exact h.one u v (lt u hu q1) (lt v hv q2) q
  · obtain ⟨v, h1, h2⟩ := h.each e' he
    exact ⟨v, by omega, by rw [upd_low h1]; exact h2⟩
  · by_cases q : v = i
    · subst q; rw [upd_same] at he
      obtain ⟨u, h1, h2⟩ := h.first _ l1 e' he
      exact ⟨u, by omega, by rw [upd_low (by omega)]; exact h2⟩
    · rw [upd_low (lt v hv q)] at he
      obtain ⟨u, h1, h2⟩ := h.first v (lt v hv q) e' he
      exact ⟨u, h1, by rw [upd_low (by omega)]; exact h2⟩
theorem NumUp.pcs (h : NumUp N m tl o N k num) (L : Least N m tl o) (he : m % 2 = 0) (ht : ∀ d, d < m → tl d < N) : Pcs N m tl num k := by
  refine ⟨h.lo, fun d hd => ?_, fun u v hu hv q => ?_, h.each, h.first⟩
  · have e := L.edge d hd
    rw [h.root _ (ht _ (oth_lt hd he)), e, ← h.root _ (ht d hd)]
  · have e := h.one u v hu hv q
    have c1 := L.conn u hu
    rw [e] at c1
    exact (c1.symm he).trans (L.conn v hv)
end

set_option maxHeartbeats 6400000 in
theorem refParts_ok (w : World) (N : Nat) (T X C : Value) (m : Nat) (t x c : Nat → Int) (hT : Rd w T m t) (hX : Rd w X m x) (hC : Rd w C m c) (g : Good N m t x) :
    Calls Try.prog 24 #[.agg #[.int .i64 (N : Int), T, X, C]] w
      fun e w' => ∃ v o k, e = .returned (.tuple #[v, .int .i64 ((k : Nat) : Int)]) ∧ Ow w' v N o ∧ (∀ j, v.ownBlock = some j → w.heap.size ≤ j) ∧ Pcs N m (tlOf t) o k ∧ Below w.heap.size w w' := by
  have hN := g.most
  have hm := g.few
  have hv : ∀ d, d < m → t d = (tlOf t d : Int) ∧ tlOf t d < N := fun d hd => by
    have := g.tail d hd
    unfold tlOf; omega
  obtain ⟨TA, tp, rfl, rt⟩ := id hT
  obtain ⟨ii, hi, hz, hs, hby⟩ := info_parts (P := Try.prog) (e := 3) (z := .int .i64 0) (size := 1) (bytes := 8) (by kernel_rfl)
  go_enter Try.func24, Try.ntmps24
  go_upto_region 1 with fail
  obtain ⟨w1, hw1, N1, B1⟩ := net_enter (N : Int) hT hX hC
  rw [hw1]
  clear hw1
  have c0 := N1.c0
  go_upto_region 2 with (at_make; refine wpList_make_full _ rfl _ _ _ rfl 0 3 ii (.int .i64 0) 1 Try.underlying22 hi hz hs .i64 .i64 (N : Int) (N : Int) N rfl rfl rfl rfl (by rw [hby]; omega) (by unfold maxLen; omega) (Nat.zero_le _) ?_; intro w3 hm3 hg3)
  rw [show (Value.int IntKind.i64 0).cells = #[.int .i64 0] from rfl, Nat.mul_one, toList_madeCells_one] at hm3
  have O3 := Ow.made hm3
  have b3 : Below w1.heap.size w1 w3 := ⟨hg3.os, hg3.tape, hg3.output, hg3.size, fun k hk => hg3.block k hk (by simp)⟩
  have N3 := N1.below b3 (Nat.le_refl _)
  have B3 := B1.trans (b3.mono B1.size)
  have lp := N1.lt
  have hbw : w.heap.size ≤ w1.heap.size := B1.size
  obtain ⟨p, hp⟩ : ∃ p, p = w.heap.size := ⟨_, rfl⟩
  rw [← hp] at N3 lp ⊢
  clear hp
  clear hm3 hg3 b3 c0 B1 N1
  generalize w1.heap.size = b at *
  clear w1
  have hbp : b ≠ p := by omega
  go_wp2_with fail
  go_loopw [5] (fun u wr => ∃ j : Nat, u = .int .i64 (j : Int) ∧ j ≤ N ∧ Ow wr (.slice (some ⟨b, 0, none⟩) N N) N (fun i => if i < j then (i : Int) else 0) ∧ NetAt wr p N (.slice TA m tp) X C m t x c ∧ Below w.heap.size w wr) (fun u _ => N - (intOf u).toNat)
  case atStart => exact ⟨0, rfl, Nat.zero_le _, O3.congr fun j _ => by simp, N3, B3⟩
  case round =>
    clear O3 N3 B3 w3
    obtain ⟨j, rfl, hj, O, Nr, B⟩ := hrel
    have c0 := Nr.c0
    by_cases hlt : j < N
    · have d1 : (j : Int) < (N : Int) := by omega
      have co := O.cell hlt
      have zf := O.frozen j
      have O5 := (O.set hlt (j : Int)).congr (x' := fun i => if i < j + 1 then (i : Int) else 0) (fun i hi => by
        by_cases e : i = j
        · subst e; rw [upd_same, if_pos (by omega)]
        · rw [upd_ne e]
          by_cases q : i < j
          · rw [if_pos q, if_pos (by omega)]
          · rw [if_neg q, if_neg (by omega)])
      have B5 := B.setCell (p := ⟨b, j, none⟩) hbw (.int .i64 (j : Int))
      have N5 : NetAt (wr.setCell ⟨b, j, none⟩ (.int .i64 (j : Int))) p N (.slice TA m tp) X C m t x c := ⟨(Below.heap_setCell _ _ _ _ (Ne.symm hbp)).trans Nr.box, hT.below B5 (Nat.le_refl _), hX.below B5 (Nat.le_refl _), hC.below B5 (Nat.le_refl _)⟩
      clear O B Nr
      go_wp2_with fail
      go_roundw
      case rel => exact ⟨j + 1, by simp, by omega, O5, N5, B5⟩
      case measure => simp [intOf]; omega
    · have d1 : ¬ ((j : Int) < (N : Int)) := by omega
      have O5 := O.congr (x' := fun i => (i : Int)) fun i hi => if_pos (by omega)
      clear O
      go_wp2_with fail
      clear d1 hlt hj c0
      go_loopg [6] (tot (fun i => (i : Int)) N + 1) (fun n u wr => ∃ (gr : Bool) (o : Nat → Int), u = .bool gr ∧ (if gr then tot o N + 1 else 0) = n ∧ Low N m (tlOf t) o ∧ (gr = false → ∀ d, d < m → o (tlOf t (oth d)) ≤ o (tlOf t d)) ∧ Ow wr (.slice (some ⟨b, 0, none⟩) N N) N o ∧ NetAt wr p N (.slice TA m tp) X C m t x c ∧ Below w.heap.size w wr)
      case atStart => exact ⟨true, _, rfl, rfl, Low.start N m _, fun h => (by cases h), O5, Nr, B⟩
      case round =>
        clear O5 Nr B
        obtain ⟨gr, o, rfl, hn, L, full, O, Nr, B⟩ := hrel
        cases gr
        · have LL := Lib.hid (Least.of L g.even (full rfl))
          have c0 := Nr.c0
          clear full L
          go_upto_region 18 with (at_make; refine wpList_make_full _ rfl _ _ _ rfl 0 3 ii (.int .i64 0) 1 Try.underlying22 hi hz hs .i64 .i64 (N : Int) (N : Int) N rfl rfl rfl rfl (by rw [hby]; omega) (by unfold maxLen; omega) (Nat.zero_le _) ?_; intro w5 hm5 hg5)
          rw [show (Value.int IntKind.i64 0).cells = #[.int .i64 0] from rfl, Nat.mul_one, toList_madeCells_one] at hm5
          have M5 := Ow.made hm5
          have b5 : Below wr.heap.size wr w5 := ⟨hg5.os, hg5.tape, hg5.output, hg5.size, fun k hk => hg5.block k hk (by simp)⟩
          have N5 := Nr.below b5 (Nat.le_refl _)
          have O5 := O.below b5 (Nat.le_refl _)
          have B5 := B.trans (b5.mono B.size)
          have lp := Nr.lt
          have hqw : w.heap.size ≤ wr.heap.size := B.size
          have hqb : 0 < N → wr.heap.size ≠ b := fun _ => by have := O.lt (k := b) rfl; omega
          clear hm5 hg5 b5 c0 B Nr O
          generalize wr.heap.size = q at *
          clear wr
          have hqp : q ≠ p := by omega
          go_wp2_with fail
          go_loopw [10, 12] (fun u v wr => ∃ (k i : Nat) (num : Nat → Int), u = .int .i64 (k : Int) ∧ v = .int .i64 (i : Int) ∧ i ≤ N ∧ NumUp N m (tlOf t) o i k num ∧ Ow wr (.slice (some ⟨q, 0, none⟩) N N) N num ∧ Ow wr (.slice (some ⟨b, 0, none⟩) N N) N o ∧ NetAt wr p N (.slice TA m tp) X C m t x c ∧ Below w.heap.size w wr) (fun _ v _ => N - (intOf v).toNat)
          case atStart => exact ⟨0, 0, _, rfl, rfl, Nat.zero_le _, NumUp.start _ _ _ _ _, M5, O5, N5, B5⟩
          case round =>
            clear M5 O5 N5 B5 w5
            obtain ⟨k, i, num, rfl, rfl, hi', U, M, O, Nr, B⟩ := hrel
            have c0 := Nr.c0
            by_cases hlt : i < N
            · have d1 : (i : Int) < (N : Int) := by omega
              have co := O.cell hlt
              have cm := M.cell hlt
              have zf := M.frozen i
              have hne := hqb (by omega)
              by_cases he : o i = (i : Int)
              · have U2 := Lib.hid (U.new LL.out hlt he)
                have M2 := M.set hlt (k : Int)
                have B2 := B.setCell (p := ⟨q, i, none⟩) hqw (.int .i64 (k : Int))
                have O2 : Ow (wr.setCell ⟨q, i, none⟩ (.int .i64 (k : Int))) (.slice (some ⟨b, 0, none⟩) N N) N o := O.apart (Ne.symm hne) _
                have N2 : NetAt (wr.setCell ⟨q, i, none⟩ (.int .i64 (k : Int))) p N (.slice TA m tp) X C m t x c := ⟨(Below.heap_setCell _ _ _ _ (Ne.symm hqp)).trans Nr.box, hT.below B2 (Nat.le_refl _), hX.below B2 (Nat.le_refl _), hC.below B2 (Nat.le_refl _)⟩
                have hk : (k : Int) < 9223372036854775807 := by have := U.le; omega
                rw [he] at co
                have q1 : ((i : Int) == (i : Int)) = true := by simp
                clear he U M B O Nr
                go_wp2_with fail
                go_roundw
                case rel => exact ⟨k + 1, i + 1, _, by simp, by simp, by omega, U2.out, M2, O2, N2, B2⟩
                case measure => simp [intOf]; omega
              · obtain ⟨l1, U2⟩ := U.old LL.out hlt he
                have l0 := LL.out.lo i hlt
                obtain ⟨a, ha⟩ : ∃ a : Nat, o i = (a : Int) := ⟨(o i).toNat, by omega⟩
                rw [ha, Int.toNat_natCast] at U2 l1
                have U2 := Lib.hid U2
                have q1 : ((a : Int) == (i : Int)) = false := by simp; omega
                rw [ha] at co
                have ca := M.cell (j := a) (by omega)
                have la : (a : Int) < (N : Int) := by omega
                have M2 := M.set hlt (num a)
                have B2 := B.setCell (p := ⟨q, i, none⟩) hqw (.int .i64 (num a))
                have O2 : Ow (wr.setCell ⟨q, i, none⟩ (.int .i64 (num a))) (.slice (some ⟨b, 0, none⟩) N N) N o := O.apart (Ne.symm hne) _
                have N2 : NetAt (wr.setCell ⟨q, i, none⟩ (.int .i64 (num a))) p N (.slice TA m tp) X C m t x c := ⟨(Below.heap_setCell _ _ _ _ (Ne.symm hqp)).trans Nr.box, hT.below B2 (Nat.le_refl _), hX.below B2 (Nat.le_refl _), hC.below B2 (Nat.le_refl _)⟩
                clear he U M B O Nr l0 ha
                go_wp2_with fail
                go_roundw
                case rel => exact ⟨k, i + 1, _, rfl, by simp, by omega, U2.out, M2, O2, N2, B2⟩
                case measure => simp [intOf]; omega
            · have d1 : ¬ ((i : Int) < (N : Int)) := by omega
              obtain rfl : i = N := by omega
              have PP := Lib.hid (U.pcs LL.out g.even fun d hd => (hv d hd).2)
              clear U
              go_wp2_with fail
              go_ret2
              exact ⟨_, num, k, rfl, M, fun z hz => by simp [Value.ownBlock] at hz; omega, PP.out, B⟩
        · clear full
          go_wp2_with fail
          go_loopw [6, 7] (fun u v wr => ∃ (gr : Bool) (j : Nat) (o2 : Nat → Int), u = .bool gr ∧ v = .int .i64 (j : Int) ∧ j ≤ m ∧ (if gr then tot o2 N < tot o N else tot o2 N ≤ tot o N) ∧ Low N m (tlOf t) o2 ∧ (gr = false → ∀ d, d < j → o2 (tlOf t (oth d)) ≤ o2 (tlOf t d)) ∧ Ow wr (.slice (some ⟨b, 0, none⟩) N N) N o2 ∧ NetAt wr p N (.slice TA m tp) X C m t x c ∧ Below w.heap.size w wr) (fun _ v _ => m - (intOf v).toNat)
          case atStart => exact ⟨false, 0, o, rfl, rfl, Nat.zero_le _, by simp, L, fun _ d hd => by omega, O, Nr, B⟩
          case round =>
            clear L O Nr B
            obtain ⟨gr, j, o2, rfl, rfl, hj, hng, L, full, O, Nr, B⟩ := hrel
            have c0 := Nr.c0
            have c1 := Nr.c1
            have c2 := Nr.c2
            have c3 := Nr.c3
            by_cases hjm : j < m
            · have e1 : (j : Int) < (m : Int) := by omega
              obtain ⟨y, rfl, hy, hc⟩ := rt (by omega)
              have cr : wr.cell? (y.add j) = some (.int .i64 (tlOf t j : Int)) := by rw [← (hv j hjm).1]; exact rd_cell B hy (Nat.le_refl _) (hc j hjm)
              have ho := oth_lt hjm g.even
              have t1 := (hv j hjm).2
              have t2 := (hv (oth j) ho).2
              have t3 := (hv (oth j) ho).1
              have D : Below wr.heap.size wr wr.drew := (Below.refl _ wr).drew
              have lp := Nr.lt
              have ly : y.block < wr.heap.size := by have := B.size; omega
              have KK : Hid (∀ W, Below wr.heap.size wr W → W.cell? ⟨p, 0, none⟩ = some (.int .i64 (N : Int)) ∧ W.cell? ⟨p, 1, none⟩ = some (.slice (some y) m tp) ∧ W.cell? ⟨p, 2, none⟩ = some X ∧ W.cell? ⟨p, 3, none⟩ = some C ∧ W.cell? (y.add j) = some (.int .i64 (tlOf t j : Int))) :=
                Lib.hid fun W b => ⟨(b.cell (p := ⟨p, 0, none⟩) lp).trans c0, (b.cell (p := ⟨p, 1, none⟩) lp).trans c1, (b.cell (p := ⟨p, 2, none⟩) lp).trans c2, (b.cell (p := ⟨p, 3, none⟩) lp).trans c3, rd_cell b ly (Nat.le_refl _) cr⟩
              have hj9 : j ≤ 999 := by omega
              clear hc
              go_upto_region 12 with fail
              go_region_held3 (fun w' => w'.cell? ⟨p, 0, none⟩ = some (.int .i64 (N : Int)) ∧ w'.cell? ⟨p, 1, none⟩ = some (.slice (some y) m tp) ∧ w'.cell? ⟨p, 2, none⟩ = some X ∧ w'.cell? ⟨p, 3, none⟩ = some C ∧ w'.cell? (y.add j) = some (.int .i64 (tlOf t j : Int)))
                (first | with_reducible exact k1 | go_keep)
                ((go_at_call 30; refine (refHead_ok wr.drew N _ X C m t (Nr.rt.below D (Nat.le_refl _)) j hj9 ho).mono ?_; rintro e w6 ⟨he, b6⟩; rw [t3] at he; subst he; have E6 : Below wr.heap.size wr w6 := D.trans (b6.mono (Nat.le_refl _)); have k1 := KK.out w6 E6; clear b6))
              have B6 := B.trans (E6.mono B.size)
              have O6 := O.below E6 (Nat.le_refl _)
              have N6 := Nr.below E6 (Nat.le_refl _)
              clear O B Nr E6 KK k1 c0 c1 c2 c3 cr t3 D
              have q1 := O6.cell t1
              have q2 := O6.cell t2
              have q3 := O6.frozen (tlOf t (oth j))
              have s1 : (tlOf t j : Int) < (N : Int) := by omega
              have s2 : (tlOf t (oth j) : Int) < (N : Int) := by omega
              have l1 := (L.lo _ t1).1
              by_cases k2 : o2 (tlOf t (oth j)) > o2 (tlOf t j)
              · have f2 : decide (o2 (tlOf t (oth j)) > o2 (tlOf t j)) = true := by simpa using k2
                have L7 := Lib.hid (L.step hjm t1 t2 k2)
                have n7 := tot_less (o := o2) (a := tlOf t (oth j)) (u := o2 (tlOf t j)) l1 (by omega) t2
                have O7 := O6.set t2 (o2 (tlOf t j))
                have B7 := B6.setCell (p := ⟨b, tlOf t (oth j), none⟩) hbw (.int .i64 (o2 (tlOf t j)))
                have N7 := N6.store (a := ⟨b, tlOf t (oth j), none⟩) hT hX hC B7 (Ne.symm hbp)
                have hn7 : tot (upd o2 (tlOf t (oth j)) (o2 (tlOf t j))) N < tot o N := by cases gr <;> simp at hng <;> omega
                clear k2 L full
                go_upto_region 13 with fail
                go_big_quiet (fail)
                go_wp2_with fail
                go_roundw
                case rel => exact ⟨true, j + 1, _, rfl, by simp, by omega, by simpa using hn7, L7.out, fun h => (by cases h), O7, ⟨N7.box, N7.rt, N7.rx, N7.rc⟩, ⟨B7.os, B7.tape, B7.output, B7.size, B7.block⟩⟩
                case measure => simp [intOf]; omega
              · have f2 : decide (o2 (tlOf t (oth j)) > o2 (tlOf t j)) = false := by simpa using k2
                have FU : Hid (gr = false → ∀ d, d < j + 1 → o2 (tlOf t (oth d)) ≤ o2 (tlOf t d)) := Lib.hid fun h d hd => by
                  rcases Nat.lt_or_ge d j with q | q
                  · exact full h d q
                  · rw [show d = j by omega]; omega
                clear k2 full
                go_upto_region 13 with fail
                go_big_quiet (fail)
                go_wp2_with fail
                go_roundw
                case rel => exact ⟨gr, j + 1, o2, rfl, by simp, by omega, hng, L, FU.out, O6, ⟨N6.box, N6.rt, N6.rx, N6.rc⟩, ⟨B6.os, B6.tape, B6.output, B6.size, B6.block⟩⟩
                case measure => simp [intOf]; omega
            · have e1 : ¬ ((j : Int) < (m : Int)) := by omega
              obtain rfl : j = m := by omega
              have HM : Hid ((if gr then tot o2 N + 1 else 0) < gk) := Lib.hid (by
                simp at hn
                cases gr <;> simp at hng ⊢ <;> omega)
              clear hng
              go_wp2_with fail
              go_roundg (if gr then tot o2 N + 1 else 0)
              case measure => exact HM.out
              case rel => exact ⟨gr, o2, rfl, rfl, L, full, O, Nr, B⟩
end Go.Proofs.Ytcejjcopchkmeaa.Ro
namespace Go.Proofs.Ytcejjcopchkmeaa.Ro
open Go.RowKit Go.Proofs Go.Maps
set_option linter.unusedVariables false
set_option maxRecDepth 100000
set_option linter.unusedSimpArgs false

/-- what Check tells of such a net -/
def Tells (N m : Nat) (t x : Nat → Int) (r : Int) : Prop :=
  (r = 6 ∧ ¬ Turns m t x) ∨ (Turns m t x ∧ ∃ o k, Pcs N m (tlOf t) o k ∧ ((k ≠ 1 ∧ r = 7) ∨ (k = 1 ∧ ∃ o' k', Orb (bh x) m o' k' ∧ ((N + max k' 1 ≠ 2 + m / 2 ∧ r = 8) ∨ (N + max k' 1 = 2 + m / 2 ∧ r = 0)))))
theorem Tells.one {N m : Nat} {t x : Nat → Int} {r r' : Int} (he : m % 2 = 0) (h : Tells N m t x r) (h' : Tells N m t x r') : r = r' := by
  rcases h with ⟨h1, h2⟩ | ⟨T, o, k, P, h⟩ <;> rcases h' with ⟨k1, k2⟩ | ⟨T', o', k', P', h'⟩
  · rw [h1, k1]
  · exact absurd T' h2
  · exact absurd T k2
  · have := P.count P'
    rcases h with ⟨a1, a2⟩ | ⟨a1, q, j, O, h⟩ <;> rcases h' with ⟨b1, b2⟩ | ⟨b1, q', j', O', h'⟩
    · rw [a2, b2]
    · omega
    · omega
    · have := O.count O' (T.perm.bh he)
      rcases h with ⟨c1, c2⟩ | ⟨c1, c2⟩ <;> rcases h' with ⟨e1, e2⟩ | ⟨e1, e2⟩
      · rw [c2, e2]
      · subst this; omega
      · subst this; omega
      · rw [c2, e2]
theorem Plane.tells {N m : Nat} {t x c : Nat → Int} {r : Int} (h : Plane N m t x c) (k : Tells N m t x r) : r = 0 := by
  rcases k with ⟨_, q⟩ | ⟨T, o, k, P, q⟩
  · exact absurd h.turns q
  · have := h.whole _ _ P
    rcases q with ⟨a1, _⟩ | ⟨_, o', k', O, q⟩
    · omega
    · have := h.euler _ _ O
      rcases q with ⟨b1, _⟩ | ⟨_, b2⟩
      · omega
      · exact b2

set_option maxRecDepth 100000 in
set_option maxHeartbeats 6400000 in
theorem refCheck_any (w : World) (N : Nat) (T X C : Value) (m : Nat) (t x c : Nat → Int) (hT : Rd w T m t) (hX : Rd w X m x) (hC : Rd w C m c) (g : Good N m t x) (hcap : ∀ d, d < m → 0 ≤ c d ∧ c d ≤ 2147483648) :
    Calls Try.prog 19 #[.agg #[.int .i64 (N : Int), T, X, C]] w fun e w' => ∃ r, e = .returned (.int .i64 r) ∧ Tells N m t x r ∧ Below w.heap.size w w' := by
  have hm := g.few
  have hN := g.most
  have hN1 := g.one
  have hev := g.even
  obtain ⟨TA, tp, rfl, rt⟩ := id hT
  obtain ⟨XA, xp, rfl, rx⟩ := id hX
  obtain ⟨CA, cp, rfl, rc⟩ := id hC
  have HT := Lib.hid rt
  have HX := Lib.hid rx
  have HC := Lib.hid rc
  have GN := Lib.hid g.next
  have GT := Lib.hid g.tail
  have GC := Lib.hid hcap
  have q1 : decide ((N : Int) > 60) = false := by simp; omega
  have q2 : decide ((m : Int) > 240) = false := by simp; omega
  have q3 : ((m : Int) != (m : Int)) = false := by simp
  have q4 : ((m : Int) % 2 == 1) = false := by simp; omega
  have q5 : decide ((N : Int) < 1) = false := by simp; omega
  clear rt rx rc hcap
  go_enter Try.func19, Try.ntmps19
  go_wp2_with fail
  obtain ⟨w1, hw1, N1, B1⟩ := net_enter (N : Int) hT hX hC
  rw [hw1]
  clear hw1
  go_loopw [4] (fun u wr => ∃ i : Nat, u = .int .i64 (i : Int) ∧ i ≤ m ∧ NetAt wr w.heap.size (N : Int) (.slice TA m tp) (.slice XA m xp) (.slice CA m cp) m t x c ∧ Below w.heap.size w wr) (fun u _ => m - (intOf u).toNat)
  case atStart => exact ⟨0, rfl, Nat.zero_le _, N1, B1⟩
  case round =>
    clear N1 B1
    obtain ⟨i, rfl, hi, N1, B1⟩ := hrel
    have c0 := N1.c0
    have c1 := N1.c1
    have c2 := N1.c2
    have c3 := N1.c3
    by_cases hlt : i < m
    · have d1 : (i : Int) < (m : Int) := by omega
      obtain ⟨y, rfl, hy, hc⟩ := HX.out (by omega)
      have cr := rd_cell B1 hy (Nat.le_refl _) (hc _ hlt)
      have hb := GN.out i hlt
      have d2 : decide (x i < 0) = false := by simp; omega
      have d3 : decide (x i ≥ (m : Int)) = false := by simp; omega
      clear hc hb
      go_wp2_with fail
      go_roundw
      case rel => exact ⟨i + 1, by simp, by omega, N1, B1⟩
      case measure => simp [intOf]; omega
    · have d1 : ¬ ((i : Int) < (m : Int)) := by omega
      obtain rfl : m = i := by omega
      clear hi hlt
      go_wp2_with fail
      go_loopw [5] (fun u wr => ∃ i : Nat, u = .int .i64 (i : Int) ∧ i ≤ m ∧ NetAt wr w.heap.size (N : Int) (.slice TA m tp) (.slice XA m xp) (.slice CA m cp) m t x c ∧ Below w.heap.size w wr) (fun u _ => m - (intOf u).toNat)
      case atStart => exact ⟨0, rfl, Nat.zero_le _, N1, B1⟩
      case round =>
        clear N1 B1
        obtain ⟨i, rfl, hi, N1, B1⟩ := hrel
        have c0 := N1.c0
        have c1 := N1.c1
        have c2 := N1.c2
        have c3 := N1.c3
        by_cases hlt : i < m
        · have d1 : (i : Int) < (m : Int) := by omega
          obtain ⟨y, rfl, hy, hc⟩ := HT.out (by omega)
          have cr := rd_cell B1 hy (Nat.le_refl _) (hc _ hlt)
          have hb := GT.out i hlt
          have d2 : decide (t i < 0) = false := by simp; omega
          have d3 : decide (t i ≥ (N : Int)) = false := by simp; omega
          clear hc hb
          go_upto_region 16 with fail
          go_big_quiet (fail)
          go_wp2_with fail
          go_roundw
          case rel => exact ⟨i + 1, by simp, by omega, ⟨N1.box, N1.rt, N1.rx, N1.rc⟩, ⟨B1.os, B1.tape, B1.output, B1.size, B1.block⟩⟩
          case measure => simp [intOf]; omega
        · have d1 : ¬ ((i : Int) < (m : Int)) := by omega
          obtain rfl : m = i := by omega
          clear hi hlt
          go_wp2_with fail
          refine (refTurns_any _ N _ _ _ m t x c N1.rt N1.rx N1.rc g).mono ?_
          rintro e w2 ⟨b, rfl, hb, b2⟩
          replace N1 := N1.below b2 (Nat.le_refl _)
          replace B1 := B1.trans (b2.mono B1.size)
          have HB := Lib.hid hb
          clear b2 hb c0 c1 c2 c3
          cases b with
          | false =>
            go_wp2_with fail
            go_ret
            exact ⟨6, rfl, .inl ⟨rfl, fun h => by have := HB.out.2 h; simp at this⟩, B1⟩
          | true =>
            have TT := HB.out.1 rfl
            have bp := TT.perm.bh hev
            go_wp2_with fail
            go_loopw [6] (fun u wr => ∃ i : Nat, u = .int .i64 (i : Int) ∧ i ≤ m ∧ NetAt wr w.heap.size (N : Int) (.slice TA m tp) (.slice XA m xp) (.slice CA m cp) m t x c ∧ Below w.heap.size w wr) (fun u _ => m - (intOf u).toNat)
            case atStart => exact ⟨0, rfl, Nat.zero_le _, N1, B1⟩
            case round =>
              clear N1 B1
              obtain ⟨i, rfl, hi, N1, B1⟩ := hrel
              have c0 := N1.c0
              have c1 := N1.c1
              have c2 := N1.c2
              have c3 := N1.c3
              by_cases hlt : i < m
              · have d1 : (i : Int) < (m : Int) := by omega
                obtain ⟨y, rfl, hy, hc⟩ := HC.out (by omega)
                have cr := rd_cell B1 hy (Nat.le_refl _) (hc _ hlt)
                have hb := GC.out i hlt
                have d2 : decide (c i < 0) = false := by simp; omega
                have d3 : decide (c i > 2147483648) = false := by simp; omega
                clear hc hb
                go_wp2_with fail
                go_roundw
                case rel => exact ⟨i + 1, by simp, by omega, N1, B1⟩
                case measure => simp [intOf]; omega
              · have d1 : ¬ ((i : Int) < (m : Int)) := by omega
                obtain rfl : m = i := by omega
                clear hi hlt
                go_wp2_with fail
                refine (refParts_ok _ N _ _ _ m t x c N1.rt N1.rx N1.rc g).mono ?_
                rintro e w2 ⟨v2, o2, k2, rfl, O2, -, P2, b2⟩
                obtain ⟨PA, pc, rfl, -⟩ := id O2.rd
                replace N1 := N1.below b2 (Nat.le_refl _)
                replace B1 := B1.trans (b2.mono B1.size)
                clear b2 c0 c1 c2 c3 O2
                have c0 := N1.c0
                have c1 := N1.c1
                have c2 := N1.c2
                have c3 := N1.c3
                by_cases hk : k2 = 1
                · have e1 : ((k2 : Int) != 1) = false := by simp; omega
                  have HP := Lib.hid P2
                  have HK := Lib.hid hk
                  clear P2 hk
                  go_wp2_with fail
                  refine (refFaces_ok _ N _ _ _ m t x N1.rt N1.rx (by omega) hev (fun d hd => (GN.out d hd).1) bp).mono ?_
                  rintro e w3 ⟨fb, o3, k3, rfl, -, -, O3, km3, b3⟩
                  replace N1 := N1.below b3 (Nat.le_refl _)
                  replace B1 := B1.trans (b3.mono B1.size)
                  clear b3 c0 c1 c2 c3
                  have c0 := N1.c0
                  obtain ⟨F, hF⟩ : ∃ F, F = max k3 1 := ⟨_, rfl⟩
                  rw [← hF]
                  have HO := Lib.hid (And.intro hF O3)
                  have hF2 : F ≤ 241 := by omega
                  clear hF O3
                  by_cases hE : N + F = 2 + m / 2
                  · have e2 : ((N : Int) - (m : Int) / 2 + (F : Int) != 2) = false := by simp; omega
                    have HE := Lib.hid hE
                    clear hE
                    go_wp2_with fail
                    go_ret
                    exact ⟨0, rfl, .inr ⟨TT, o2, k2, HP.out, .inr ⟨HK.out, o3, k3, HO.out.2, .inr ⟨by rw [← HO.out.1]; exact HE.out, rfl⟩⟩⟩, B1⟩
                  · have e2 : ((N : Int) - (m : Int) / 2 + (F : Int) != 2) = true := by simp; omega
                    have HE := Lib.hid hE
                    clear hE
                    go_wp2_with fail
                    go_ret
                    exact ⟨8, rfl, .inr ⟨TT, o2, k2, HP.out, .inr ⟨HK.out, o3, k3, HO.out.2, .inl ⟨by rw [← HO.out.1]; exact HE.out, rfl⟩⟩⟩, B1⟩
                · have e1 : ((k2 : Int) != 1) = true := by simp; omega
                  have HP := Lib.hid P2
                  have HK := Lib.hid hk
                  clear P2 hk
                  go_wp2_with fail
                  go_ret
                  exact ⟨7, rfl, .inr ⟨TT, o2, k2, HP.out, .inl ⟨HK.out, rfl⟩⟩, B1⟩
end Go.Proofs.Ytcejjcopchkmeaa.Ro
namespace Go.Proofs.Ytcejjcopchkmeaa.Ro
open Go.RowKit Go.Proofs Go.Maps
set_option linter.unusedVariables false
set_option maxRecDepth 100000
set_option linter.unusedSimpArgs false

/-- what has been numbered so far (all below i), of any step -/
structure PartA (f : Nat → Nat) (m i : Nat) (o : Nat → Int) (c : Nat) : Prop where
  some : ∀ x, x < m → o x = -1 ∨ (0 ≤ o x ∧ o x < c)
  done : ∀ x, x < i → x < m → 0 ≤ o x
  fwd : ∀ x, x < m → 0 ≤ o x → o (f x) = o x
  one : ∀ x y, x < m → y < m → 0 ≤ o x → o x = o y → ∃ k, it f k x = y
  each : ∀ e : Nat, e < c → ∃ y, y < i ∧ y < m ∧ o y = e
  first : ∀ x, x < m → ∀ e : Nat, (e : Int) < o x → ∃ y, y < x ∧ o y = e
  ring : ∀ x, x < m → 0 ≤ o x → ∃ k, 0 < k ∧ it f k x = x

theorem PartA.start (f : Nat → Nat) (m : Nat) : PartA f m 0 (fun _ => -1) 0 :=
  ⟨fun _ _ => .inl rfl, fun x h => by omega, fun x _ h => by simp at h, fun x y _ _ h => by simp at h, fun e h => by omega, fun x _ e h => by omega, fun x _ h => by simp at h⟩
theorem PartA.skip {f : Nat → Nat} {m i c : Nat} {o : Nat → Int} (h : PartA f m i o c) (hi : 0 ≤ o i) : PartA f m (i + 1) o c :=
  ⟨h.some, fun x hx hm => by
    rcases Nat.lt_or_ge x i with q | q
    · exact h.done x q hm
    · rw [show x = i by omega]; exact hi, h.fwd, h.one, fun e he => by obtain ⟨y, h1, h2⟩ := h.each e he; exact ⟨y, by omega, h2⟩, h.first, h.ring⟩
theorem it_ltA {f : Nat → Nat} {m : Nat} (lt : ∀ x, x < m → f x < m) {d : Nat} (hd : d < m) : ∀ k, it f k d < m
  | 0 => hd
  | k + 1 => lt _ (it_ltA lt hd k)
theorem PartA.part {f : Nat → Nat} {m i c : Nat} {o : Nat → Int} (h : PartA f m i o c) (p : Perm f m) : Part f m i o c :=
  ⟨h.some, h.done, h.fwd, fun x hx hp => by
    obtain ⟨k, hk, e⟩ := h.ring (f x) (p.lt x hx) hp
    obtain ⟨k, rfl⟩ : ∃ j, k = j + 1 := ⟨k - 1, by omega⟩
    have e1 : it f k (f x) = x := p.inj _ _ (p.it_lt (p.lt x hx) k) hx e
    have e2 : ∀ j, o (it f j (f x)) = o (f x) := fun j => by
      induction j with
      | zero => rfl
      | succ j ih => exact (h.fwd _ (p.it_lt (p.lt x hx) j) (by omega)).trans ih
    have := e2 k
    rw [e1] at this
    omega, h.one, h.each, h.first⟩
theorem PartA.perm {f : Nat → Nat} {m c : Nat} {o : Nat → Int} (h : PartA f m m o c) (lt : ∀ x, x < m → f x < m) : Perm f m :=
  Perm.of_rnds lt fun d hd => by
    obtain ⟨k, h0, hk⟩ := h.ring d hd (h.done d hd hd)
    obtain ⟨j, ⟨h2, h3⟩, h4⟩ := least_of (P := fun l => 0 < l ∧ it f l d = d) k ⟨h0, hk⟩
    exact ⟨j, Rnd.first h2 h3 fun i hi hij e => h4 i hij ⟨hi, e⟩⟩

section
variable {f : Nat → Nat} {m d c k at_ : Nat} {o o' : Nat → Int}
theorem Chain.ltA (h : Chain f m o d c k at_ o') (lt : ∀ x, x < m → f x < m) (hd : d < m) : at_ < m := by rw [h.here]; exact it_ltA lt hd k
theorem Chain.stepA (h : Chain f m o d c k at_ o') (lt : ∀ x, x < m → f x < m) (hd : d < m) (P : PartA f m d o c) (hn : o' at_ < 0) : Chain f m o d c (k + 1) (f at_) (upd o' at_ (c : Int)) := by
  have hlt := h.ltA lt hd
  have hk : o at_ = -1 ∧ ∀ j, j < k → at_ ≠ it f j d := by
    rcases h.now at_ hlt with ⟨e, _⟩ | ⟨e, q⟩
    · omega
    · refine ⟨?_, q⟩
      rcases P.some at_ hlt with e2 | e2
      · exact e2
      · omega
  refine ⟨by rw [h.here]; rfl, fun j hj => ?_, fun x hx => ?_, fun i j hij hj => ?_⟩
  · rcases Nat.lt_or_ge j k with q | q
    · exact h.was j q
    · rw [show j = k by omega, ← h.here]; exact hk.1
  · by_cases e : x = at_
    · subst e; rw [upd_same]; exact .inl ⟨rfl, k, by omega, h.here⟩
    · rw [upd_ne e]
      rcases h.now x hx with ⟨e2, j, hj, ej⟩ | ⟨e2, q⟩
      · exact .inl ⟨e2, j, by omega, ej⟩
      · refine .inr ⟨e2, fun j hj => ?_⟩
        rcases Nat.lt_or_ge j k with q2 | q2
        · exact q j q2
        · rw [show j = k by omega, ← h.here]; exact e
  · rcases Nat.lt_or_ge j k with q | q
    · exact h.apart i j hij q
    · rw [show j = k by omega, ← h.here]; exact (hk.2 i (by omega)).symm
theorem Chain.off (h : Chain f m o d c k at_ o') (hd : d < m) (P : PartA f m d o c) (h0 : o d = -1) (hn : 0 ≤ o' at_) (hne : at_ ≠ d) : ¬ Perm f m := fun p =>
  hne (h.back p hd (P.part p) h0 hn).1
theorem Chain.doneA (h : Chain f m o d c k at_ o') (lt : ∀ x, x < m → f x < m) (hd : d < m) (P : PartA f m d o c) (h0 : o d = -1) (hn : 0 ≤ o' at_) (hat : at_ = d) : PartA f m (d + 1) o' (c + 1) := by
  have hk : 0 < k := by
    rcases Nat.eq_zero_or_pos k with rfl | q
    · exfalso
      rw [hat] at hn
      rcases h.now d hd with ⟨_, j, hj, _⟩ | ⟨e, _⟩ <;> omega
    · exact q
  have il := fun j => it_ltA lt hd (d := d) j
  have hk0 : it f k d = d := by rw [← h.here]; exact hat
  have inC : ∀ j, j < k → o' (it f j d) = c := fun j hj => by
    rcases h.now _ (il j) with ⟨e, _⟩ | ⟨_, q⟩
    · exact e
    · exact absurd rfl (q j hj)
  have old : ∀ x, x < m → 0 ≤ o x → o' x = o x := fun x hx hp => by
    rcases h.now x hx with ⟨_, j, hj, ej⟩ | ⟨e, _⟩
    · have := h.was j hj; rw [← ej] at this; omega
    · exact e
  have nxt : ∀ j, j < k → ∃ i, i < k ∧ f (it f j d) = it f i d := fun j hj => by
    rcases Nat.lt_or_ge (j + 1) k with q | q
    · exact ⟨j + 1, q, rfl⟩
    · refine ⟨0, hk, ?_⟩
      show it f (j + 1) d = d
      rw [show j + 1 = k by omega]; exact hk0
  have inCh : ∀ x, x < m → o' x = c → ∃ j, j < k ∧ x = it f j d := fun x hx e => by
    rcases h.now x hx with ⟨_, q⟩ | ⟨e2, _⟩
    · exact q
    · rcases P.some x hx with q | q <;> omega
  have notC : ∀ x, x < m → 0 ≤ o' x → o' x ≠ c → 0 ≤ o x ∧ o' x = o x := fun x hx hp hc => by
    rcases h.now x hx with ⟨e, _⟩ | ⟨e, _⟩
    · exact absurd e hc
    · exact ⟨by omega, e⟩
  refine ⟨fun x hx => ?_, fun x hx hm => ?_, fun x hx hp => ?_, fun x y hx hy hp e => ?_, fun e he => ?_, fun x hx e he => ?_, fun x hx hp => ?_⟩
  · rcases h.now x hx with ⟨e, _⟩ | ⟨e, _⟩
    · right; omega
    · rcases P.some x hx with q | q
      · left; omega
      · right; omega
  · rcases Nat.lt_or_ge x d with q | q
    · have := P.done x q hm; rw [old x hm this]; exact this
    · rw [show x = d by omega]; have := inC 0 hk; rw [show it f 0 d = d from rfl] at this; omega
  · by_cases hc : o' x = c
    · obtain ⟨j, hj, rfl⟩ := inCh x hx hc
      obtain ⟨i, hi, e⟩ := nxt j hj
      rw [e, inC i hi, hc]
    · obtain ⟨h1, h2⟩ := notC x hx hp hc
      have h3 := P.fwd x hx h1
      rw [old (f x) (lt x hx) (by omega), h2, h3]
  · by_cases hc : o' x = c
    · obtain ⟨i, hi, rfl⟩ := inCh x hx hc
      obtain ⟨j, hj, rfl⟩ := inCh y hy (by omega)
      refine ⟨j + (k - i), ?_⟩
      rw [it_add, ← it_add f d (k - i) i, show k - i + i = k by omega, hk0]
    · obtain ⟨h1, h2⟩ := notC x hx hp hc
      obtain ⟨h3, h4⟩ := notC y hy (by omega) (by omega)
      exact P.one x y hx hy h1 (by omega)
  · rcases Nat.lt_or_ge e c with q | q
    · obtain ⟨y, h1, h2, h3⟩ := P.each e q
      exact ⟨y, by omega, h2, by rw [old y h2 (by omega)]; exact h3⟩
    · refine ⟨d, by omega, hd, ?_⟩
      have := inC 0 hk; rw [show it f 0 d = d from rfl] at this; omega
  · by_cases hc : o' x = c
    · obtain ⟨j, hj, ej⟩ := inCh x hx hc
      have hxd : d ≤ x := by
        rcases Nat.lt_or_ge x d with q | q
        · have := P.done x q hx
          have := h.was j hj
          rw [← ej] at this; omega
        · exact q
      obtain ⟨y, h1, h2, h3⟩ := P.each e (by omega)
      exact ⟨y, by omega, by rw [old y h2 (by omega)]; exact h3⟩
    · obtain ⟨h1, h2⟩ := notC x hx (by omega) hc
      obtain ⟨y, h3, h4⟩ := P.first x hx e (by omega)
      exact ⟨y, h3, by rw [old y (by omega) (by omega)]; exact h4⟩
  · by_cases hc : o' x = c
    · obtain ⟨j, hj, rfl⟩ := inCh x hx hc
      exact ⟨k, hk, by rw [← it_add, Nat.add_comm, it_add, hk0]⟩
    · exact P.ring x hx (notC x hx hp hc).1
end

/-- what orbits tells of a step -/
def OrbPost (B : Nat) (w : World) (f : Nat → Nat) (m : Nat) (e : Ending) (w' : World) : Prop :=
  ((∃ v o c, e = .returned (.tuple #[v, .int .i64 ((c : Nat) : Int), .bool true]) ∧ Ow w' v m o ∧ (∀ k, v.ownBlock = some k → B ≤ k) ∧ Perm f m ∧ Orb f m o c) ∨ (e = .returned (.tuple #[.slice none 0 0, .int .i64 0, .bool false]) ∧ ¬ Perm f m)) ∧ Below B w w'

/-- the error of a net's rows -/
def shapeF (N : Int) (m mx mc : Nat) (t x : Nat → Int) : Int :=
  if N > 60 ∨ 240 < m then 2 else if mx ≠ m ∨ mc ≠ m ∨ m % 2 ≠ 0 then 5 else if ¬ ∀ d, d < m → 0 ≤ x d ∧ x d < m then 5 else if N < 1 then 3 else if ¬ ∀ d, d < m → 0 ≤ t d ∧ t d < N then 3 else 0
section
variable {N : Int} {m mx mc : Nat} {t x : Nat → Int}
theorem shapeF_many (h : N > 60 ∨ 240 < m) : shapeF N m mx mc t x = 2 := by unfold shapeF; rw [if_pos h]
theorem shapeF_len (h : ¬ (N > 60 ∨ 240 < m)) (h1 : mx ≠ m ∨ mc ≠ m ∨ m % 2 ≠ 0) : shapeF N m mx mc t x = 5 := by unfold shapeF; rw [if_neg h, if_pos h1]
theorem shapeF_next (h : ¬ (N > 60 ∨ 240 < m)) (h1 : ¬ (mx ≠ m ∨ mc ≠ m ∨ m % 2 ≠ 0)) {d : Nat} (hd : d < m) (h2 : ¬ (0 ≤ x d ∧ x d < m)) : shapeF N m mx mc t x = 5 := by
  unfold shapeF; rw [if_neg h, if_neg h1, if_pos (fun q => h2 (q d hd))]
theorem shapeF_none (h : ¬ (N > 60 ∨ 240 < m)) (h1 : ¬ (mx ≠ m ∨ mc ≠ m ∨ m % 2 ≠ 0)) (h2 : ∀ d, d < m → 0 ≤ x d ∧ x d < m) (h3 : N < 1) : shapeF N m mx mc t x = 3 := by
  unfold shapeF; rw [if_neg h, if_neg h1, if_neg (fun q => q h2), if_pos h3]
theorem shapeF_tail (h : ¬ (N > 60 ∨ 240 < m)) (h1 : ¬ (mx ≠ m ∨ mc ≠ m ∨ m % 2 ≠ 0)) (h2 : ∀ d, d < m → 0 ≤ x d ∧ x d < m) (h3 : ¬ N < 1) {d : Nat} (hd : d < m) (h4 : ¬ (0 ≤ t d ∧ t d < N)) : shapeF N m mx mc t x = 3 := by
  unfold shapeF; rw [if_neg h, if_neg h1, if_neg (fun q => q h2), if_neg h3, if_pos (fun q => h4 (q d hd))]
theorem shapeF_ok (h : ¬ (N > 60 ∨ 240 < m)) (h1 : ¬ (mx ≠ m ∨ mc ≠ m ∨ m % 2 ≠ 0)) (h2 : ∀ d, d < m → 0 ≤ x d ∧ x d < m) (h3 : ¬ N < 1) (h4 : ∀ d, d < m → 0 ≤ t d ∧ t d < N) : shapeF N m mx mc t x = 0 := by
  unfold shapeF; rw [if_neg h, if_neg h1, if_neg (fun q => q h2), if_neg h3, if_neg (fun q => q h4)]
theorem shapeF_good (h : shapeF N m mx mc t x = 0) : ∃ n : Nat, N = n ∧ mx = m ∧ mc = m ∧ Good n m t x := by
  unfold shapeF at h
  split at h
  · omega
  · split at h
    · omega
    · split at h
      · omega
      · split at h
        · omega
        · split at h
          · omega
          · rename_i h1 h2 h3 h4 h5
            have h3 := Classical.not_not.1 h3
            have h5 := Classical.not_not.1 h5
            exact ⟨N.toNat, by omega, by omega, by omega, by omega, by omega, by omega, by omega, h3, fun d hd => by have := h5 d hd; omega⟩
theorem Good.shapeF {n : Nat} (g : Good n m t x) : shapeF n m m m t x = 0 := by
  have h1 := g.one
  have h2 := g.most
  have h3 := g.few
  have h4 := g.even
  exact shapeF_ok (by omega) (by omega) g.next (by omega) g.tail
/-- what Check tells of any net -/
def TellsAny (N : Int) (m mx mc : Nat) (t x c : Nat → Int) (r : Int) : Prop :=
  (shapeF N m mx mc t x ≠ 0 ∧ r = shapeF N m mx mc t x) ∨ (shapeF N m mx mc t x = 0 ∧ ((¬ Turns m t x ∧ r = 6) ∨ (Turns m t x ∧ ¬ (∀ d, d < m → 0 ≤ c d ∧ c d ≤ 2147483648) ∧ r = 4) ∨ (Turns m t x ∧ (∀ d, d < m → 0 ≤ c d ∧ c d ≤ 2147483648) ∧ Tells N.toNat m t x r)))
theorem TellsAny.one {c : Nat → Int} {r r' : Int} (h : TellsAny N m mx mc t x c r) (h' : TellsAny N m mx mc t x c r') : r = r' := by
  rcases h with ⟨a1, a2⟩ | ⟨a1, h⟩ <;> rcases h' with ⟨b1, b2⟩ | ⟨b1, h'⟩
  · rw [a2, b2]
  · exact absurd b1 a1
  · exact absurd a1 b1
  · obtain ⟨_, _, _, _, g⟩ := shapeF_good a1
    rcases h with ⟨h1, h2⟩ | ⟨h1, h2, h3⟩ | ⟨h1, h2, h3⟩ <;> rcases h' with ⟨k1, k2⟩ | ⟨k1, k2, k3⟩ | ⟨k1, k2, k3⟩
    · rw [h2, k2]
    · exact absurd k1 h1
    · exact absurd k1 h1
    · exact absurd h1 k1
    · rw [h3, k3]
    · exact absurd k2 h2
    · exact absurd h1 k1
    · exact absurd h2 k2
    · exact h3.one g.even k3
end
end Go.Proofs.Ytcejjcopchkmeaa.Ro
namespace Go.Proofs.Ytcejjcopchkmeaa.Ro
open Go.RowKit Go.Proofs
set_option linter.unusedVariables false
set_option maxRecDepth 100000
set_option linter.unusedSimpArgs false

set_option maxHeartbeats 3200000 in
theorem orbits_turnsA (w : World) (p : Nat) (N : Int) (T X C : Value) (m : Nat) (x : Nat → Int) (hb : Box w p N T X C) (hx : Rd w X m x) (hm : m ≤ 999) (f : Nat → Nat) (hf : ∀ d, d < m → x d = (f d : Int)) (pf : ∀ d, d < m → f d < m) :
    Calls Try.prog 44 #[.int .i64 (m : Int), .func (.func 52) #[] #[.pointer (some ⟨p, 0, none⟩)]] w
      (OrbPost w.heap.size w f m) := by
  go_enter Try.func44, Try.ntmps44
  go_wp2_with fail
  go_step3
  go_wp2_with fail
  have c0 : (w.alloc (.cells #[.int .i64 (-1)] 3)).cell? ⟨w.heap.size, 0, none⟩ = some (.int .i64 (-1)) := by rw [blk_cell (heap_alloc_new w _)]; rfl
  refine (repeat_any _ w.heap.size m (by omega) c0 (by simp)).mono ?_
  rintro e w2 ⟨cap, rfl, O2, b2⟩
  have B2 : Below w.heap.size w w2 := ((Below.refl _ w).alloc (Nat.le_refl _) _).trans (b2.mono (by simp))
  clear b2 c0
  go_wp2_with fail
  have hsz : (w.alloc (.cells #[.int .i64 (-1)] 3)).heap.size = w.heap.size + 1 := by simp
  rw [hsz] at O2
  clear hsz
  have hbB : w.heap.size ≤ w.heap.size + 1 := by omega
  generalize w.heap.size + 1 = b at *
  go_step3
  go_wp2_with fail
  go_loopw [8, 15] (fun u v wr => ∃ (i c : Nat) (o : Nat → Int), u = .int .i64 (c : Int) ∧ v = .int .i64 (i : Int) ∧ i ≤ m ∧ c ≤ i ∧ PartA f m i o c ∧ Ow wr (.slice (some ⟨b, 0, none⟩) m cap) m o ∧ Below w.heap.size w wr) (fun _ v _ => m - (intOf v).toNat)
  case atStart => exact ⟨0, 0, _, rfl, rfl, Nat.zero_le _, Nat.le_refl _, PartA.start f m, O2, B2⟩
  case round =>
    clear O2 B2
    obtain ⟨i, c, o, rfl, rfl, hi, hci, P, O, B⟩ := hrel
    by_cases hlt : i < m
    · have d1 : (i : Int) < (m : Int) := by omega
      have co := O.cell hlt
      rcases P.some i hlt with h0 | ⟨h0, h1⟩
      · rw [h0] at co
        go_wp2_with fail
        clear co
        go_loopg [10] (neg o m) (fun n u wr => ∃ (k a : Nat) (o' : Nat → Int), u = .int .i64 (a : Int) ∧ neg o' m = n ∧ Chain f m o i c k a o' ∧ Ow wr (.slice (some ⟨b, 0, none⟩) m cap) m o' ∧ Below w.heap.size w wr)
        case atStart => exact ⟨0, i, o, rfl, rfl, Chain.start f m o i c, O, B⟩
        case round =>
          clear O B
          obtain ⟨k, a, o', rfl, hn, Ch, O, B⟩ := hrel
          have hl := Ch.ltA pf hlt
          have d2 : (a : Int) < (m : Int) := by omega
          have co := O.cell hl
          have zf := O.frozen a
          by_cases hneg : o' a < 0
          · have d3 : decide (o' a < 0) = true := by simp [hneg]
            have O3 := O.set hl (c : Int)
            have B3 := B.setCell (p := ⟨b, a, none⟩) hbB (.int .i64 (c : Int))
            have Ch3 := Lib.hid (Ch.stepA pf hlt P hneg)
            have hm3 := neg_upd (o := o') (a := a) (u := (c : Int)) (by omega) hneg hl
            have HN := Lib.hid hneg
            clear O B Ch hneg
            go_wp2_with fail
            generalize wr.setCell ⟨b, a, none⟩ (.int .i64 (c : Int)) = w4 at *
            refine (turns1_any _ p N T X C m x (hb.below B3 (Nat.le_refl _)) (hx.below B3 (Nat.le_refl _)) a hl).mono ?_
            rintro e w5 ⟨rfl, b5⟩
            have hfa := hf a hl
            rw [hfa]
            have O5 := O3.below b5 (Nat.le_refl _)
            have B5 := B3.trans (b5.mono B3.size)
            clear O3 B3 b5 co zf hfa
            go_wp2_with fail
            go_roundg (neg (upd o' a (c : Int)) m)
            case measure => omega
            case rel => exact ⟨k + 1, f a, _, rfl, rfl, Ch3.out, O5, B5⟩
          · have d3 : decide (o' a < 0) = false := by simp [hneg]
            have d4 : ¬ (o' a < 0) := hneg
            have ln : (c : Int) < 9223372036854775807 := by omega
            by_cases e1 : a = i
            · have P5 := Lib.hid (Ch.doneA pf hlt P h0 (by omega) e1)
              subst e1
              clear Ch P hneg
              go_wp2_with fail
              go_roundw
              case rel => exact ⟨a + 1, c + 1, o', by simp, by simp, by omega, by omega, P5.out, O, B⟩
              case measure => simp [intOf]; omega
            · have NP := Lib.hid (Ch.off hlt P h0 (by omega) e1)
              have d5 : ((a : Int) != (i : Int)) = true := by simp; omega
              clear Ch P hneg e1
              go_wp2_with fail
              go_ret3
              exact ⟨.inr ⟨rfl, NP.out⟩, B⟩
      · have d2 : decide (o i ≥ 0) = true := by simp [h0]
        have P' := Lib.hid (P.skip h0)
        clear P
        go_wp2_with fail
        go_roundw
        case rel => exact ⟨i + 1, c, o, rfl, by simp, by omega, by omega, P'.out, O, B⟩
        case measure => simp [intOf]; omega
    · have d1 : ¬ ((i : Int) < (m : Int)) := by omega
      obtain rfl : i = m := by omega
      go_wp2
      go_ret3
      exact ⟨.inl ⟨_, o, c, rfl, O, fun k hk => by simp [Value.ownBlock] at hk; omega, P.perm pf, (P.part (P.perm pf)).orb⟩, B⟩
end Go.Proofs.Ytcejjcopchkmeaa.Ro
namespace Go.Proofs.Ytcejjcopchkmeaa.Ro
open Go.RowKit Go.Proofs
set_option linter.unusedVariables false
set_option maxRecDepth 100000
set_option linter.unusedSimpArgs false

set_option maxHeartbeats 3200000 in
theorem shape_any (w : World) (N : Int) (T X C : Value) (m mx mc : Nat) (t x c : Nat → Int) (hT : Rd w T m t) (hX : Rd w X mx x) (hC : Rd w C mc c) (hm : m ≤ 999) :
    Calls Try.prog 40 #[.agg #[.int .i64 N, T, X, C]] w fun e w' => e = .returned (.int .i64 (shapeF N m mx mc t x)) ∧ Below w.heap.size w w' := by
  obtain ⟨A1, cap1, rfl, r1⟩ := hT
  obtain ⟨A2, cap2, rfl, r2⟩ := hX
  obtain ⟨A3, cap3, rfl, r3⟩ := hC
  go_enter Try.func40, Try.ntmps40
  go_upto_region 2 with fail
  have B2 : Below w.heap.size w (w.alloc (.cells #[.int .i64 N, .slice A1 m cap1, .slice A2 mx cap2, .slice A3 mc cap3] 25)) := (Below.refl _ w).alloc (Nat.le_refl _) _
  have X2 : Box (w.alloc (.cells #[.int .i64 N, .slice A1 m cap1, .slice A2 mx cap2, .slice A3 mc cap3] 25)) w.heap.size N (.slice A1 m cap1) (.slice A2 mx cap2) (.slice A3 mc cap3) := heap_alloc_new _ _
  by_cases h1 : N > 60
  · have hF := Lib.hid (shapeF_many (mx := mx) (mc := mc) (t := t) (x := x) (.inl h1 : N > 60 ∨ 240 < m))
    have q1 : decide (N > 60) = true := by simp; omega
    clear h1
    go_wp2_with fail
    go_ret
    exact ⟨by rw [hF.out]; rfl, B2⟩
  have q1 : decide (N > 60) = false := by simp; omega
  by_cases h2 : 240 < m
  · have hF := Lib.hid (shapeF_many (mx := mx) (mc := mc) (t := t) (x := x) (.inr h2 : N > 60 ∨ 240 < m))
    have q2 : decide ((m : Int) > 240) = true := by simp; omega
    clear h1 h2
    go_wp2_with fail
    go_ret
    exact ⟨by rw [hF.out]; rfl, B2⟩
  have q2 : decide ((m : Int) > 240) = false := by simp; omega
  have n1 := Lib.hid (show ¬ (N > 60 ∨ 240 < m) by omega)
  clear h1 h2
  by_cases h3 : mx = m
  rotate_left
  · have hF := Lib.hid (shapeF_len (mc := mc) (t := t) (x := x) n1.out (.inl h3))
    have q3 : ((mx : Int) != (m : Int)) = true := by simp; omega
    clear h3
    go_wp2_with fail
    go_ret
    exact ⟨by rw [hF.out]; rfl, B2⟩
  subst h3
  by_cases h3 : mc = mx
  rotate_left
  · have hF := Lib.hid (shapeF_len (mx := mx) (t := t) (x := x) n1.out (.inr (.inl h3)))
    have q3 : ((mx : Int) != (mx : Int)) = false := by simp
    have q4 : ((mc : Int) != (mx : Int)) = true := by simp; omega
    clear h3
    go_wp2_with fail
    go_ret
    exact ⟨by rw [hF.out]; rfl, B2⟩
  subst h3
  by_cases h3 : mc % 2 = 0
  rotate_left
  · have hF := Lib.hid (shapeF_len (mx := mc) (mc := mc) (t := t) (x := x) n1.out (.inr (.inr h3)))
    have q3 : ((mc : Int) != (mc : Int)) = false := by simp
    have q4 : ((mc : Int) % 2 != 0) = true := by simp; omega
    clear h3
    go_wp2_with fail
    go_ret
    exact ⟨by rw [hF.out]; rfl, B2⟩
  have n2 := Lib.hid (show ¬ (mc ≠ mc ∨ mc ≠ mc ∨ mc % 2 ≠ 0) by omega)
  have q3 : ((mc : Int) != (mc : Int)) = false := by simp
  have q4 : ((mc : Int) % 2 != 0) = false := by simp; omega
  clear h3
  go_wp2_with fail
  generalize (w.alloc (.cells #[.int .i64 N, .slice A1 mc cap1, .slice A2 mc cap2, .slice A3 mc cap3] 25)) = w2 at *
  obtain ⟨p, hp⟩ : ∃ p, p = w.heap.size := ⟨_, rfl⟩
  rw [← hp] at X2 ⊢
  clear hp
  go_loopw [40] (fun u wr => ∃ i : Nat, u = .int .i64 (i : Int) ∧ i ≤ mc ∧ Hid (∀ d, d < i → 0 ≤ x d ∧ x d < mc) ∧ Box wr p N (.slice A1 mc cap1) (.slice A2 mc cap2) (.slice A3 mc cap3) ∧ Below w.heap.size w wr) (fun u _ => mc - (intOf u).toNat)
  case atStart => exact ⟨0, rfl, Nat.zero_le _, Lib.hid fun d h => by omega, X2, B2⟩
  case round =>
    clear X2 B2
    obtain ⟨i, rfl, hi, hx, X, B⟩ := hrel
    by_cases hlt : i < mc
    · obtain ⟨y, rfl, hy, hc⟩ := r2 (by omega)
      have cr : wr.cell? (y.add i) = some (.int .i64 (x i)) := (B.cell (by rw [block_add]; exact hy)).trans (hc i hlt)
      have d1 : (i : Int) < (mc : Int) := by omega
      clear hc r1 r2 r3
      by_cases hb : x i < 0
      · have hF := Lib.hid (shapeF_next (t := t) n1.out n2.out hlt (fun q => by omega : ¬ (0 ≤ x i ∧ x i < mc)))
        have d2 : decide (x i < 0) = true := by simp; omega
        clear hb
        go_wp2_with fail
        go_ret
        exact ⟨by rw [hF.out]; rfl, B⟩
      by_cases hb2 : x i ≥ (mc : Int)
      · have hF := Lib.hid (shapeF_next (t := t) n1.out n2.out hlt (fun q => by omega : ¬ (0 ≤ x i ∧ x i < mc)))
        have d2 : decide (x i < 0) = false := by simp; omega
        have d3 : decide (x i ≥ (mc : Int)) = true := by simp; omega
        clear hb hb2
        go_wp2_with fail
        go_ret
        exact ⟨by rw [hF.out]; rfl, B⟩
      have d2 : decide (x i < 0) = false := by simp; omega
      have d3 : decide (x i ≥ (mc : Int)) = false := by simp; omega
      have HX : Hid (∀ d, d < i + 1 → 0 ≤ x d ∧ x d < mc) := Lib.hid fun d hd => by
        rcases Nat.lt_or_ge d i with q | q
        · exact hx.out d q
        · rw [show d = i by omega]; omega
      clear hb hb2
      go_wp2_with fail
      go_roundw
      case rel => exact ⟨i + 1, by simp, by omega, HX, X, B⟩
      case measure => simp [intOf]; omega
    · have d1 : ¬ ((i : Int) < (mc : Int)) := by omega
      obtain rfl : i = mc := by omega
      have c0 : wr.cell? ⟨p, 0, none⟩ = some (.int .i64 N) := blk_cell X 0
      have c1 : wr.cell? ⟨p, 1, none⟩ = some (.slice A1 i cap1) := blk_cell X 1
      by_cases h5 : N < 1
      · have hF := Lib.hid (shapeF_none (t := t) n1.out n2.out hx.out h5)
        have q5 : decide (N < 1) = true := by simp; omega
        clear h5
        go_wp2_with fail
        go_ret
        exact ⟨by rw [hF.out]; rfl, B⟩
      have q5 : decide (N < 1) = false := by simp; omega
      have n3 := Lib.hid h5
      clear h5
      go_wp2_with fail
      clear c0 c1 d1 hlt hi r2 r3
      go_loopw [58] (fun u wr => ∃ j : Nat, u = .int .i64 (j : Int) ∧ j ≤ i ∧ Hid (∀ d, d < j → 0 ≤ t d ∧ t d < N) ∧ Box wr p N (.slice A1 i cap1) (.slice A2 i cap2) (.slice A3 i cap3) ∧ Below w.heap.size w wr) (fun u _ => i - (intOf u).toNat)
      case atStart => exact ⟨0, rfl, Nat.zero_le _, Lib.hid fun d h => by omega, X, B⟩
      case round =>
        clear X B
        obtain ⟨j, rfl, hj, ht, X, B⟩ := hrel
        by_cases hlt : j < i
        · obtain ⟨y, rfl, hy, hc⟩ := r1 (by omega)
          have cr : wr.cell? (y.add j) = some (.int .i64 (t j)) := (B.cell (by rw [block_add]; exact hy)).trans (hc j hlt)
          have c0 : wr.cell? ⟨p, 0, none⟩ = some (.int .i64 N) := blk_cell X 0
          have d1 : (j : Int) < (i : Int) := by omega
          clear hc r1
          by_cases hb : t j < 0
          · have hF := Lib.hid (shapeF_tail n1.out n2.out hx.out (by have := n3.out; omega) hlt (fun q => by omega : ¬ (0 ≤ t j ∧ t j < N)))
            have d2 : decide (t j < 0) = true := by simp; omega
            clear hb
            go_wp2_with fail
            go_ret
            exact ⟨by rw [hF.out]; rfl, B⟩
          by_cases hb2 : t j ≥ N
          · have hF := Lib.hid (shapeF_tail n1.out n2.out hx.out (by have := n3.out; omega) hlt (fun q => by omega : ¬ (0 ≤ t j ∧ t j < N)))
            have d2 : decide (t j < 0) = false := by simp; omega
            have d3 : decide (t j ≥ N) = true := by simp; omega
            clear hb hb2
            go_wp2_with fail
            go_ret
            exact ⟨by rw [hF.out]; rfl, B⟩
          have d2 : decide (t j < 0) = false := by simp; omega
          have d3 : decide (t j ≥ N) = false := by simp; omega
          have HX : Hid (∀ d, d < j + 1 → 0 ≤ t d ∧ t d < N) := Lib.hid fun d hd => by
            rcases Nat.lt_or_ge d j with q | q
            · exact ht.out d q
            · rw [show d = j by omega]; omega
          clear hb hb2
          go_wp2_with fail
          go_roundw
          case rel => exact ⟨j + 1, by simp, by omega, HX, X, B⟩
          case measure => simp [intOf]; omega
        · have d1 : ¬ ((j : Int) < (i : Int)) := by omega
          obtain rfl : j = i := by omega
          have hF := Lib.hid (shapeF_ok n1.out n2.out hx.out (by have := n3.out; omega) ht.out)
          clear r1
          go_wp2
          go_ret
          exact ⟨by rw [hF.out]; rfl, B⟩
end Go.Proofs.Ytcejjcopchkmeaa.Ro
namespace Go.Proofs.Ytcejjcopchkmeaa.Ro
open Go.RowKit Go.Proofs Go.Maps
set_option linter.unusedVariables false
set_option maxRecDepth 100000
set_option linter.unusedSimpArgs false

set_option maxHeartbeats 6400000 in
theorem turns_any (w : World) (N : Nat) (T X C : Value) (m : Nat) (t x c : Nat → Int) (hT : Rd w T m t) (hX : Rd w X m x) (hC : Rd w C m c) (g : Good N m t x) :
    Calls Try.prog 41 #[.agg #[.int .i64 (N : Int), T, X, C]] w (TurnsPost w.heap.size w m t x) := by
  have hmf : ∀ (fn : Fn) (first cap : Array Value) (w : World), (Instr.makeFunc fn first cap).run Try.prog w = .ok (.func fn first cap) w := fun _ _ _ _ => rfl
  have hv : ∀ d, d < m → t d = (tlOf t d : Int) ∧ tlOf t d < N := fun d hd => by
    have := g.tail d hd
    unfold tlOf; omega
  have hxv : ∀ d, d < m → x d = (ab x d : Int) := fun d hd => by
    have := g.next d hd
    unfold ab; omega
  have lt : ∀ d, d < m → ab x d < m := fun d hd => by
    have := g.next d hd
    unfold ab; omega
  have tls := fun d e hd he => g.tails (d := d) (e := e) hd he
  have hN := g.most
  have hm := g.few
  have hT' := hT
  obtain ⟨A1, cap1, rfl, r1⟩ := hT
  obtain ⟨A2, cap2, rfl, r2⟩ := id hX
  go_enter Try.func41, Try.ntmps41
  go_wp2_with fail
  have B2 : Below w.heap.size w (w.alloc (.cells #[.int .i64 (N : Int), .slice A1 m cap1, .slice A2 m cap2, C] 25)) := (Below.refl _ w).alloc (Nat.le_refl _) _
  have X2 : Box (w.alloc (.cells #[.int .i64 (N : Int), .slice A1 m cap1, .slice A2 m cap2, C] 25)) w.heap.size N (.slice A1 m cap1) (.slice A2 m cap2) C := heap_alloc_new _ _
  generalize (w.alloc (.cells #[.int .i64 (N : Int), .slice A1 m cap1, .slice A2 m cap2, C] 25)) = w2 at *
  refine (orbits_turnsA _ _ N _ _ C m x X2 (hX.below B2 (Nat.le_refl _)) (by omega) (ab x) hxv lt).mono ?_
  rintro e w3 ⟨⟨ov, o, k, rfl, O3, n3, pf, R3⟩ | ⟨rfl, np⟩, b3⟩
  rotate_left
  · have B3 := B2.trans (b3.mono B2.size)
    have NP := Lib.hid np
    clear np b3 B2 X2
    go_wp2_with fail
    go_ret
    exact ⟨false, rfl, ⟨fun h => (by cases h), fun h => absurd h.perm NP.out⟩, B3⟩
  have B3 := B2.trans (b3.mono B2.size)
  have X3 := X2.below b3 (Nat.le_refl _)
  have n3' : ∀ j, ov.ownBlock = some j → w.heap.size ≤ j := fun j hj => Nat.le_trans B2.size (n3 j hj)
  clear B2 X2 b3 n3
  have pl := blk_lt X3
  have c0 : w3.cell? ⟨w.heap.size, 0, none⟩ = some (.int .i64 (N : Int)) := blk_cell X3 0
  go_wp2_with fail
  have cn : (w3.alloc (.cells #[.int .i64 (-1)] 3)).cell? ⟨w3.heap.size, 0, none⟩ = some (.int .i64 (-1)) := by rw [blk_cell (heap_alloc_new w3 _)]; rfl
  refine (repeat_any _ w3.heap.size N (by omega) cn (by simp)).mono ?_
  rintro e w4 ⟨cap, rfl, M4, b4⟩
  have bb : Below w3.heap.size w3 w4 := ((Below.refl _ w3).alloc (Nat.le_refl _) _).trans (b4.mono (by simp))
  have B4 := B3.trans (bb.mono B3.size)
  have X4 := X3.below bb (Nat.le_refl _)
  have O4 := O3.below bb (Nat.le_refl _)
  have hob : ∀ j, ov.ownBlock = some j → j < w3.heap.size + 1 := fun j hj => by have := O3.lt hj; omega
  have hsz : (w3.alloc (.cells #[.int .i64 (-1)] 3)).heap.size = w3.heap.size + 1 := by simp
  rw [hsz] at M4
  have hbB : w.heap.size < w3.heap.size + 1 := by omega
  have c1 : w4.cell? ⟨w.heap.size, 1, none⟩ = some (.slice A1 m cap1) := blk_cell X4 1
  clear b4 cn bb B3 X3 c0 pl hsz O3
  go_wp2_with fail
  clear c1
  generalize w3.heap.size + 1 = b at *
  obtain ⟨p, hp⟩ : ∃ p, p = w.heap.size := ⟨_, rfl⟩
  rw [← hp] at X4 hbB ⊢
  have hbw : w.heap.size ≤ b := by omega
  have hbp : b ≠ p := by omega
  have HPP := Lib.hid hp
  clear hp
  go_loopw [27] (fun u wr => ∃ (j : Nat) (mi : Nat → Int), u = .int .i64 (j : Int) ∧ j ≤ m ∧ Hid ((∀ v, v < N → 0 ≤ mi v → ∃ d, d < j ∧ tlOf t d = v ∧ mi v = o d) ∧ (∀ d, d < j → mi (tlOf t d) = o d) ∧ ∀ d, d < j → tlOf t (ab x d) = tlOf t d) ∧ Ow wr (.slice (some ⟨b, 0, none⟩) N cap) N mi ∧ Ow wr ov m o ∧ Box wr p N (.slice A1 m cap1) (.slice A2 m cap2) C ∧ Below w.heap.size w wr) (fun u _ => m - (intOf u).toNat)
  case atStart => exact ⟨0, _, rfl, Nat.zero_le _, Lib.hid ⟨fun v _ h => by simp at h, fun d hd => by omega, fun d hd => by omega⟩, M4, O4, X4, B4⟩
  case round =>
    clear M4 O4 X4 B4
    obtain ⟨j, mi, rfl, hj, hmi, M, O, Xb, B⟩ := hrel
    by_cases hlt : j < m
    · have d1 : (j : Int) < (m : Int) := by omega
      obtain ⟨y1, rfl, hy1, hc1⟩ := r1 (by omega)
      obtain ⟨y2, rfl, hy2, hc2⟩ := r2 (by omega)
      obtain ⟨b2, cap3, rfl, hb2⟩ := O.form (by omega)
      have hne : b2 ≠ b := by have := hob b2 rfl; omega
      have ha := lt j hlt
      have t1 := (hv j hlt).2
      have cr : wr.cell? (y1.add j) = some (.int .i64 (tlOf t j : Int)) := by rw [← (hv j hlt).1]; exact (B.cell (by rw [block_add]; exact hy1)).trans (hc1 j hlt)
      have cr2 : wr.cell? (y1.add (ab x j)) = some (.int .i64 (tlOf t (ab x j) : Int)) := by rw [← (hv _ ha).1]; exact (B.cell (by rw [block_add]; exact hy1)).trans (hc1 _ ha)
      have cr3 : wr.cell? (y2.add j) = some (.int .i64 (ab x j : Int)) := by rw [← hxv j hlt]; exact (B.cell (by rw [block_add]; exact hy2)).trans (hc2 j hlt)
      have p1 : wr.cell? ⟨p, 1, none⟩ = some (.slice (some y1) m cap1) := blk_cell Xb 1
      have p2 : wr.cell? ⟨p, 2, none⟩ = some (.slice (some y2) m cap2) := blk_cell Xb 2
      have q1 := M.cell t1
      have q2 := O.cell hlt
      have q3 := M.frozen (tlOf t j)
      have s1 : (tlOf t j : Int) < (N : Int) := by omega
      have s2 : (ab x j : Int) < (m : Int) := by omega
      have M7 : Ow (wr.setCell ⟨b, tlOf t j, none⟩ (.int .i64 (o j))) (.slice (some ⟨b, 0, none⟩) N cap) N (upd mi (tlOf t j) (o j)) := M.set t1 (o j)
      have O7 : Ow (wr.setCell ⟨b, tlOf t j, none⟩ (.int .i64 (o j))) (.slice (some ⟨b2, 0, none⟩) m cap3) m o := O.keep fun k hk => Below.heap_setCell _ _ _ _ (by simp [Value.ownBlock] at hk; subst hk; exact hne)
      have B7 := B.setCell (p := ⟨b, tlOf t j, none⟩) hbw (.int .i64 (o j))
      have X7 : Box (wr.setCell ⟨b, tlOf t j, none⟩ (.int .i64 (o j))) p N (.slice (some y1) m cap1) (.slice (some y2) m cap2) C := (Below.heap_setCell _ _ _ _ (Ne.symm hbp)).trans Xb
      by_cases hk : tlOf t (ab x j) = tlOf t j
      · have f1 : ((tlOf t (ab x j) : Int) != (tlOf t j : Int)) = false := by simp [hk]
        by_cases hb : 0 ≤ mi (tlOf t j) ∧ mi (tlOf t j) ≠ o j
        · have e1 : decide (mi (tlOf t j) ≥ 0) = true := by simp; omega
          have e2 : (mi (tlOf t j) != o j) = true := by simp; exact hb.2
          have NT : Hid (¬ Turns m t x) := Lib.hid fun tn => by
            obtain ⟨d, h1, h2, h3⟩ := hmi.out.1 _ t1 hb.1
            obtain ⟨k, hk⟩ := tn.one d j (by omega) hlt h2
            have := R3.it pf (x := d) (by omega) k
            rw [hk] at this
            exact hb.2 (h3.trans this.symm)
          clear hc1 hc2 M O hk hb hy1 hy2 hb2 r1 r2
          go_upto_region 8 with fail
          go_big_quiet (fail)
          go_wp2_with fail
          go_ret
          exact ⟨false, rfl, ⟨fun h => (by cases h), fun h => absurd h NT.out⟩, by rw [HPP.out]; exact ⟨B.os, B.tape, B.output, B.size, B.block⟩⟩
        · have mi7 : Hid ((∀ v, v < N → 0 ≤ upd mi (tlOf t j) (o j) v → ∃ d, d < j + 1 ∧ tlOf t d = v ∧ upd mi (tlOf t j) (o j) v = o d) ∧ (∀ d, d < j + 1 → upd mi (tlOf t j) (o j) (tlOf t d) = o d) ∧ ∀ d, d < j + 1 → tlOf t (ab x d) = tlOf t d) := Lib.hid ⟨fun v hv hp => by
            by_cases e : v = tlOf t j
            · subst e; exact ⟨j, by omega, rfl, upd_same _ _ _⟩
            · rw [upd_ne e] at hp ⊢
              obtain ⟨d, h1, h2, h3⟩ := hmi.out.1 v hv hp
              exact ⟨d, by omega, h2, h3⟩, fun d hd => by
            by_cases e : tlOf t d = tlOf t j
            · rw [e, upd_same]
              rcases Nat.lt_or_ge d j with q | q
              · have h1 := hmi.out.2.1 d q
                have h2 := (R3.lo d (by omega)).1
                rw [e] at h1
                omega
              · rw [show d = j by omega]
            · rw [upd_ne e]
              rcases Nat.lt_or_ge d j with q | q
              · exact hmi.out.2.1 d q
              · exact absurd (by rw [show d = j by omega]) e, fun d hd => by
            rcases Nat.lt_or_ge d j with q | q
            · exact hmi.out.2.2 d q
            · rw [show d = j by omega]; exact hk⟩
          have hcase : (decide (mi (tlOf t j) ≥ 0) = true ∧ (mi (tlOf t j) != o j) = false) ∨ decide (mi (tlOf t j) ≥ 0) = false := by
            by_cases h : 0 ≤ mi (tlOf t j)
            · left
              exact ⟨by simp [h], by simp; omega⟩
            · right; simp; omega
          clear hc1 hc2 M O hmi hk hb hy1 hy2 hb2 r1 r2
          go_upto_region 8 with fail
          rcases hcase with ⟨e1, e2⟩ | e1
          all_goals
            go_big_quiet (fail)
            go_wp2_with fail
            go_roundw
            case rel => exact ⟨j + 1, _, by simp, by omega, mi7, M7, O7, X7, ⟨B7.os, B7.tape, B7.output, B7.size, B7.block⟩⟩
            case measure => simp [intOf]; omega
      · have f1 : ((tlOf t (ab x j) : Int) != (tlOf t j : Int)) = true := by simp; omega
        have NT : Hid (¬ Turns m t x) := Lib.hid fun tn => hk (tn.keep j hlt)
        clear hc1 hc2 M O hmi hk hy1 hy2 hb2 r1 r2
        go_upto_region 8 with fail
        go_big_quiet (fail)
        go_wp2_with fail
        go_ret
        exact ⟨false, rfl, ⟨fun h => (by cases h), fun h => absurd h NT.out⟩, by rw [HPP.out]; exact ⟨B.os, B.tape, B.output, B.size, B.block⟩⟩
    · have d1 : ¬ ((j : Int) < (m : Int)) := by omega
      obtain rfl : j = m := by omega
      have TT : Hid (Turns j t x) := Lib.hid ⟨pf, hmi.out.2.2, fun d e hd he q => R3.one d e hd he (by rw [← hmi.out.2.1 d hd, ← hmi.out.2.1 e he, q])⟩
      clear hmi
      go_wp2
      go_ret
      exact ⟨true, rfl, ⟨fun _ => TT.out, fun _ => rfl⟩, by first | exact B | (rw [HPP.out]; exact B)⟩
end Go.Proofs.Ytcejjcopchkmeaa.Ro
namespace Go.Proofs.Ytcejjcopchkmeaa.Ro
open Go.RowKit Go.Proofs Go.Maps
set_option linter.unusedVariables false
set_option maxRecDepth 100000
set_option linter.unusedSimpArgs false

set_option maxHeartbeats 6400000 in
theorem check_any (w : World) (N : Int) (T X C : Value) (m mx mc : Nat) (t x c : Nat → Int) (hT : Rd w T m t) (hX : Rd w X mx x) (hC : Rd w C mc c) (hm : m ≤ 999) :
    Calls Try.prog 18 #[.agg #[.int .i64 N, T, X, C]] w fun e w' => ∃ r, e = .returned (.int .i64 r) ∧ TellsAny N m mx mc t x c r ∧ Below w.heap.size w w' := by
  obtain ⟨A1, cap1, rfl, _⟩ := id hT
  obtain ⟨A3, cap3, rfl, r3⟩ := id hC
  go_enter Try.func18, Try.ntmps18
  go_wp2_with fail
  have B2 : Below w.heap.size w (w.alloc (.cells #[.int .i64 N, .slice A1 m cap1, X, .slice A3 mc cap3] 25)) := (Below.refl _ w).alloc (Nat.le_refl _) _
  have X2 : Box (w.alloc (.cells #[.int .i64 N, .slice A1 m cap1, X, .slice A3 mc cap3] 25)) w.heap.size N (.slice A1 m cap1) X (.slice A3 mc cap3) := heap_alloc_new _ _
  generalize (w.alloc (.cells #[.int .i64 N, .slice A1 m cap1, X, .slice A3 mc cap3] 25)) = w2 at *
  obtain ⟨p, hp⟩ : ∃ p, p = w.heap.size := ⟨_, rfl⟩
  rw [← hp] at X2 ⊢
  clear hp
  refine (shape_any _ N _ X _ m mx mc t x c (hT.below B2 (Nat.le_refl _)) (hX.below B2 (Nat.le_refl _)) (hC.below B2 (Nat.le_refl _)) hm).mono ?_
  rintro e w3 ⟨rfl, b3⟩
  have B3 := B2.trans (b3.mono B2.size)
  have X3 := X2.below b3 (Nat.le_refl _)
  clear B2 X2 b3
  have pl := blk_lt X3
  have c0 : w3.cell? ⟨p, 0, none⟩ = some (.int .i64 N) := blk_cell X3 0
  have c1 : w3.cell? ⟨p, 1, none⟩ = some (.slice A1 m cap1) := blk_cell X3 1
  have c2 : w3.cell? ⟨p, 2, none⟩ = some X := blk_cell X3 2
  have c3 : w3.cell? ⟨p, 3, none⟩ = some (.slice A3 mc cap3) := blk_cell X3 3
  by_cases hs : shapeF N m mx mc t x = 0
  rotate_left
  · have q1 : (shapeF N m mx mc t x != 0) = true := by simpa using hs
    have HS := Lib.hid hs
    clear hs
    go_wp2_with fail
    go_ret
    exact ⟨_, rfl, .inl ⟨HS.out, rfl⟩, B3⟩
  have HS := Lib.hid hs
  rw [hs]
  obtain ⟨n, rfl, rfl, rfl, g⟩ := shapeF_good hs
  clear hs
  have hm2 := g.few
  have hN := g.most
  go_wp2_with fail
  refine (turns_any _ n _ X _ mc t x c (hT.below B3 (Nat.le_refl _)) (hX.below B3 (Nat.le_refl _)) (hC.below B3 (Nat.le_refl _)) g).mono ?_
  rintro e w4 ⟨b, rfl, hb, b4⟩
  have B4 := B3.trans (b4.mono B3.size)
  have X4 := X3.below b4 (Nat.le_refl _)
  have HB := Lib.hid hb
  clear B3 X3 b4 c0 c1 c2 c3 pl hb
  have c3 : w4.cell? ⟨p, 3, none⟩ = some (.slice A3 mc cap3) := blk_cell X4 3
  cases b with
  | false =>
    go_wp2_with fail
    go_ret
    exact ⟨_, rfl, .inr ⟨HS.out, .inl ⟨fun h => (by have := HB.out.2 h; cases this), rfl⟩⟩, B4⟩
  | true =>
    have TT := HB.out.1 rfl
    have bp := TT.perm.bh g.even
    have HT := Lib.hid TT
    clear TT
    go_wp2_with fail
    clear c3
    go_loopw [21] (fun u wr => ∃ j : Nat, u = .int .i64 (j : Int) ∧ j ≤ mc ∧ Hid (∀ d, d < j → 0 ≤ c d ∧ c d ≤ 2147483648) ∧ Box wr p n (.slice A1 mc cap1) X (.slice A3 mc cap3) ∧ Below w.heap.size w wr) (fun u _ => mc - (intOf u).toNat)
    case atStart => exact ⟨0, rfl, Nat.zero_le _, Lib.hid fun d h => by omega, X4, B4⟩
    case round =>
      clear X4 B4
      obtain ⟨j, rfl, hj, hcap, Xb, B⟩ := hrel
      by_cases hlt : j < mc
      · have d1 : (j : Int) < (mc : Int) := by omega
        obtain ⟨y, rfl, hy, hc⟩ := r3 (by omega)
        have cr : wr.cell? (y.add j) = some (.int .i64 (c j)) := (B.cell (by rw [block_add]; exact hy)).trans (hc j hlt)
        clear hc r3
        by_cases hb : 0 ≤ c j ∧ c j ≤ 2147483648
        · have d2 : decide (c j < 0) = false := by simp; omega
          have d3 : decide (c j > 2147483648) = false := by simp; omega
          have HC2 : Hid (∀ d, d < j + 1 → 0 ≤ c d ∧ c d ≤ 2147483648) := Lib.hid fun d hd => by
            rcases Nat.lt_or_ge d j with q | q
            · exact hcap.out d q
            · rw [show d = j by omega]; exact hb
          clear hb
          go_wp2_with fail
          go_roundw
          case rel => exact ⟨j + 1, by simp, by omega, HC2, Xb, B⟩
          case measure => simp [intOf]; omega
        · have HN := Lib.hid (fun q => hb (q j hlt) : ¬ ∀ d, d < mc → 0 ≤ c d ∧ c d ≤ 2147483648)
          by_cases h0 : c j < 0
          · have d2 : decide (c j < 0) = true := by simp; omega
            clear hb h0
            go_wp2_with fail
            go_ret
            exact ⟨4, rfl, .inr ⟨HS.out, .inr (.inl ⟨HT.out, HN.out, rfl⟩)⟩, B⟩
          · have d2 : decide (c j < 0) = false := by simp; omega
            have d3 : decide (c j > 2147483648) = true := by simp; omega
            clear hb h0
            go_wp2_with fail
            go_ret
            exact ⟨4, rfl, .inr ⟨HS.out, .inr (.inl ⟨HT.out, HN.out, rfl⟩)⟩, B⟩
      · have d1 : ¬ ((j : Int) < (mc : Int)) := by omega
        obtain rfl : j = mc := by omega
        have pl := blk_lt Xb
        have c0 : wr.cell? ⟨p, 0, none⟩ = some (.int .i64 (n : Int)) := blk_cell Xb 0
        have c1 : wr.cell? ⟨p, 1, none⟩ = some (.slice A1 j cap1) := blk_cell Xb 1
        have c2 : wr.cell? ⟨p, 2, none⟩ = some X := blk_cell Xb 2
        have c3 : wr.cell? ⟨p, 3, none⟩ = some (.slice A3 j cap3) := blk_cell Xb 3
        clear r3
        go_wp2_with fail
        refine (parts_ok _ n _ X _ j t x c (hT.below B (Nat.le_refl _)) (hX.below B (Nat.le_refl _)) (hC.below B (Nat.le_refl _)) g).mono ?_
        rintro e w5 ⟨v5, o5, k5, rfl, _, _, P5, b5⟩
        have B5 := B.trans (b5.mono B.size)
        have X5 := Xb.below b5 (Nat.le_refl _)
        have HP := Lib.hid P5
        clear B Xb b5 c0 c1 c2 c3 pl P5
        have pl := blk_lt X5
        have c0 : w5.cell? ⟨p, 0, none⟩ = some (.int .i64 (n : Int)) := blk_cell X5 0
        have c1 : w5.cell? ⟨p, 1, none⟩ = some (.slice A1 j cap1) := blk_cell X5 1
        have c2 : w5.cell? ⟨p, 2, none⟩ = some X := blk_cell X5 2
        have c3 : w5.cell? ⟨p, 3, none⟩ = some (.slice A3 j cap3) := blk_cell X5 3
        by_cases hk : k5 = 1
        rotate_left
        · have e1 : ((k5 : Int) != 1) = true := by simp; omega
          have HK := Lib.hid hk
          clear hk
          go_wp2_with fail
          go_ret
          exact ⟨7, rfl, .inr ⟨HS.out, .inr (.inr ⟨HT.out, hcap.out, .inr ⟨HT.out, o5, k5, HP.out, .inl ⟨HK.out, rfl⟩⟩⟩)⟩, B5⟩
        subst hk
        go_wp2_with fail
        refine (faces_ok _ n _ X _ j t x c (hT.below B5 (Nat.le_refl _)) (hX.below B5 (Nat.le_refl _)) (hC.below B5 (Nat.le_refl _)) g bp).mono ?_
        rintro e w6 ⟨v6, o6, k6, rfl, _, _, O6, b6⟩
        have km := O6.le
        obtain ⟨F, hF⟩ : ∃ F, F = max k6 1 := ⟨_, rfl⟩
        rw [← hF]
        have HO := Lib.hid (And.intro hF O6)
        have hF2 : F ≤ 241 := by omega
        have B6 := B5.trans (b6.mono B5.size)
        have X6 := X5.below b6 (Nat.le_refl _)
        clear B5 X5 b6 c0 c1 c2 c3 pl O6 hF
        have c0 : w6.cell? ⟨p, 0, none⟩ = some (.int .i64 (n : Int)) := blk_cell X6 0
        have c1 : w6.cell? ⟨p, 1, none⟩ = some (.slice A1 j cap1) := blk_cell X6 1
        by_cases hE : n + F = 2 + j / 2
        · have e2 : ((n : Int) - (j : Int) / 2 + (F : Int) != 2) = false := by simp; omega
          have HE := Lib.hid hE
          clear hE
          go_wp2_with fail
          go_ret
          exact ⟨0, rfl, .inr ⟨HS.out, .inr (.inr ⟨HT.out, hcap.out, .inr ⟨HT.out, o5, 1, HP.out, .inr ⟨rfl, o6, k6, HO.out.2, .inr ⟨by rw [← HO.out.1]; exact HE.out, rfl⟩⟩⟩⟩)⟩, B6⟩
        · have e2 : ((n : Int) - (j : Int) / 2 + (F : Int) != 2) = true := by simp; omega
          have HE := Lib.hid hE
          clear hE
          go_wp2_with fail
          go_ret
          exact ⟨8, rfl, .inr ⟨HS.out, .inr (.inr ⟨HT.out, hcap.out, .inr ⟨HT.out, o5, 1, HP.out, .inr ⟨rfl, o6, k6, HO.out.2, .inl ⟨by rw [← HO.out.1]; exact HE.out, rfl⟩⟩⟩⟩)⟩, B6⟩
end Go.Proofs.Ytcejjcopchkmeaa.Ro
namespace Go.Proofs.Ytcejjcopchkmeaa.Ro
open Go.RowKit Go.Proofs Go.Maps
set_option linter.unusedVariables false
set_option maxRecDepth 100000
set_option linter.unusedSimpArgs false

set_option maxRecDepth 100000 in
set_option maxHeartbeats 6400000 in
theorem refCheck_all (w : World) (N : Int) (T X C : Value) (m mx mc : Nat) (t x c : Nat → Int) (hT : Rd w T m t) (hX : Rd w X mx x) (hC : Rd w C mc c) (hm : m ≤ 999) :
    Calls Try.prog 19 #[.agg #[.int .i64 N, T, X, C]] w fun e w' => ∃ r, e = .returned (.int .i64 r) ∧ TellsAny N m mx mc t x c r ∧ Below w.heap.size w w' := by
  obtain ⟨TA, tp, rfl, rt⟩ := id hT
  obtain ⟨XA, xp, rfl, rx⟩ := id hX
  obtain ⟨CA, cp, rfl, rc⟩ := id hC
  have HT := Lib.hid rt
  have HX := Lib.hid rx
  have HC := Lib.hid rc
  clear rt rx rc
  go_enter Try.func19, Try.ntmps19
  go_upto_region 2 with fail
  by_cases h1 : N > 60
  · have hF := Lib.hid (shapeF_many (mx := mx) (mc := mc) (t := t) (x := x) (.inl h1 : N > 60 ∨ 240 < m))
    have q1 : decide (N > 60) = true := by simp; omega
    clear h1
    go_wp2_with fail
    go_ret
    exact ⟨2, rfl, .inl ⟨by rw [hF.out]; omega, hF.out.symm⟩, below_new _ _⟩
  have q1 : decide (N > 60) = false := by simp; omega
  by_cases h2 : 240 < m
  · have hF := Lib.hid (shapeF_many (mx := mx) (mc := mc) (t := t) (x := x) (.inr h2 : N > 60 ∨ 240 < m))
    have q2 : decide ((m : Int) > 240) = true := by simp; omega
    clear h1 h2
    go_wp2_with fail
    go_ret
    exact ⟨2, rfl, .inl ⟨by rw [hF.out]; omega, hF.out.symm⟩, below_new _ _⟩
  have q2 : decide ((m : Int) > 240) = false := by simp; omega
  have n1 := Lib.hid (show ¬ (N > 60 ∨ 240 < m) by omega)
  clear h1 h2
  by_cases h3 : mx = m
  rotate_left
  · have hF := Lib.hid (shapeF_len (mc := mc) (t := t) (x := x) n1.out (.inl h3))
    have q3 : ((mx : Int) != (m : Int)) = true := by simp; omega
    clear h3
    go_wp2_with fail
    go_ret
    exact ⟨5, rfl, .inl ⟨by rw [hF.out]; omega, hF.out.symm⟩, below_new _ _⟩
  subst h3
  have q3 : ((mx : Int) != (mx : Int)) = false := by simp
  by_cases h3 : mc = mx
  rotate_left
  · have hF := Lib.hid (shapeF_len (mx := mx) (t := t) (x := x) n1.out (.inr (.inl h3)))
    have q4 : ((mc : Int) != (mx : Int)) = true := by simp; omega
    clear h3
    go_wp2_with fail
    go_ret
    exact ⟨5, rfl, .inl ⟨by rw [hF.out]; omega, hF.out.symm⟩, below_new _ _⟩
  subst h3
  by_cases h3 : mc % 2 = 0
  rotate_left
  · have hF := Lib.hid (shapeF_len (mx := mc) (mc := mc) (t := t) (x := x) n1.out (.inr (.inr h3)))
    have q4 : ((mc : Int) % 2 == 1) = true := by simp; omega
    clear h3
    go_wp2_with fail
    go_ret
    exact ⟨5, rfl, .inl ⟨by rw [hF.out]; omega, hF.out.symm⟩, below_new _ _⟩
  have n2 := Lib.hid (show ¬ (mc ≠ mc ∨ mc ≠ mc ∨ mc % 2 ≠ 0) by omega)
  have q4 : ((mc : Int) % 2 == 1) = false := by simp; omega
  clear h3
  go_wp2_with fail
  obtain ⟨w1, hw1, N1, B1⟩ := net_enter N hT hX hC
  rw [hw1]
  clear hw1
  go_loopw [4] (fun u wr => ∃ i : Nat, u = .int .i64 (i : Int) ∧ i ≤ mc ∧ Hid (∀ d, d < i → 0 ≤ x d ∧ x d < mc) ∧ NetAt wr w.heap.size N (.slice TA mc tp) (.slice XA mc xp) (.slice CA mc cp) mc t x c ∧ Below w.heap.size w wr) (fun u _ => mc - (intOf u).toNat)
  case atStart => exact ⟨0, rfl, Nat.zero_le _, Lib.hid fun d h => by omega, N1, B1⟩
  case round =>
    clear N1 B1
    obtain ⟨i, rfl, hi, hx, N1, B1⟩ := hrel
    have c0 := N1.c0
    have c1 := N1.c1
    have c2 := N1.c2
    have c3 := N1.c3
    by_cases hlt : i < mc
    · have d1 : (i : Int) < (mc : Int) := by omega
      obtain ⟨y, rfl, hy, hc⟩ := HX.out (by omega)
      have cr := rd_cell B1 hy (Nat.le_refl _) (hc _ hlt)
      clear hc
      by_cases hb : x i < 0
      · have hF := Lib.hid (shapeF_next (t := t) n1.out n2.out hlt (fun q => by omega : ¬ (0 ≤ x i ∧ x i < mc)))
        have d2 : decide (x i < 0) = true := by simp; omega
        clear hb
        go_wp2_with fail
        go_ret
        exact ⟨5, rfl, .inl ⟨by rw [hF.out]; omega, hF.out.symm⟩, B1⟩
      have d2 : decide (x i < 0) = false := by simp; omega
      by_cases hb2 : x i ≥ (mc : Int)
      · have hF := Lib.hid (shapeF_next (t := t) n1.out n2.out hlt (fun q => by omega : ¬ (0 ≤ x i ∧ x i < mc)))
        have d3 : decide (x i ≥ (mc : Int)) = true := by simp; omega
        clear hb hb2
        go_wp2_with fail
        go_ret
        exact ⟨5, rfl, .inl ⟨by rw [hF.out]; omega, hF.out.symm⟩, B1⟩
      have d3 : decide (x i ≥ (mc : Int)) = false := by simp; omega
      have HX2 : Hid (∀ d, d < i + 1 → 0 ≤ x d ∧ x d < mc) := Lib.hid fun d hd => by
        rcases Nat.lt_or_ge d i with q | q
        · exact hx.out d q
        · rw [show d = i by omega]; omega
      clear hb hb2
      go_wp2_with fail
      go_roundw
      case rel => exact ⟨i + 1, by simp, by omega, HX2, N1, B1⟩
      case measure => simp [intOf]; omega
    · have d1 : ¬ ((i : Int) < (mc : Int)) := by omega
      obtain rfl : mc = i := by omega
      clear hi hlt
      by_cases h5 : N < 1
      · have hF := Lib.hid (shapeF_none (t := t) n1.out n2.out hx.out h5)
        have q5 : decide (N < 1) = true := by simp; omega
        clear h5
        go_wp2_with fail
        go_ret
        exact ⟨3, rfl, .inl ⟨by rw [hF.out]; omega, hF.out.symm⟩, B1⟩
      have q5 : decide (N < 1) = false := by simp; omega
      have n3 := Lib.hid h5
      clear h5
      go_wp2_with fail
      go_loopw [5] (fun u wr => ∃ i : Nat, u = .int .i64 (i : Int) ∧ i ≤ mc ∧ Hid (∀ d, d < i → 0 ≤ t d ∧ t d < N) ∧ NetAt wr w.heap.size N (.slice TA mc tp) (.slice XA mc xp) (.slice CA mc cp) mc t x c ∧ Below w.heap.size w wr) (fun u _ => mc - (intOf u).toNat)
      case atStart => exact ⟨0, rfl, Nat.zero_le _, Lib.hid fun d h => by omega, N1, B1⟩
      case round =>
        clear N1 B1
        obtain ⟨i, rfl, hi, ht, N1, B1⟩ := hrel
        have c0 := N1.c0
        have c1 := N1.c1
        have c2 := N1.c2
        have c3 := N1.c3
        by_cases hlt : i < mc
        · have d1 : (i : Int) < (mc : Int) := by omega
          obtain ⟨y, rfl, hy, hc⟩ := HT.out (by omega)
          have cr := rd_cell B1 hy (Nat.le_refl _) (hc _ hlt)
          clear hc
          by_cases hb : t i < 0
          · have hF := Lib.hid (shapeF_tail n1.out n2.out hx.out (by have := n3.out; omega) hlt (fun q => by omega : ¬ (0 ≤ t i ∧ t i < N)))
            have d2 : decide (t i < 0) = true := by simp; omega
            clear hb
            go_upto_region 16 with fail
            go_big_quiet (fail)
            go_wp2_with fail
            go_ret
            exact ⟨3, rfl, .inl ⟨by rw [hF.out]; omega, hF.out.symm⟩, ⟨B1.os, B1.tape, B1.output, B1.size, B1.block⟩⟩
          have d2 : decide (t i < 0) = false := by simp; omega
          by_cases hb2 : t i ≥ N
          · have hF := Lib.hid (shapeF_tail n1.out n2.out hx.out (by have := n3.out; omega) hlt (fun q => by omega : ¬ (0 ≤ t i ∧ t i < N)))
            have d3 : decide (t i ≥ N) = true := by simp; omega
            clear hb hb2
            go_upto_region 16 with fail
            go_big_quiet (fail)
            go_wp2_with fail
            go_ret
            exact ⟨3, rfl, .inl ⟨by rw [hF.out]; omega, hF.out.symm⟩, ⟨B1.os, B1.tape, B1.output, B1.size, B1.block⟩⟩
          have d3 : decide (t i ≥ N) = false := by simp; omega
          have HX2 : Hid (∀ d, d < i + 1 → 0 ≤ t d ∧ t d < N) := Lib.hid fun d hd => by
            rcases Nat.lt_or_ge d i with q | q
            · exact ht.out d q
            · rw [show d = i by omega]; omega
          clear hb hb2
          go_upto_region 16 with fail
          go_big_quiet (fail)
          go_wp2_with fail
          go_roundw
          case rel => exact ⟨i + 1, by simp, by omega, HX2, ⟨N1.box, N1.rt, N1.rx, N1.rc⟩, ⟨B1.os, B1.tape, B1.output, B1.size, B1.block⟩⟩
          case measure => simp [intOf]; omega
        · have d1 : ¬ ((i : Int) < (mc : Int)) := by omega
          obtain rfl : mc = i := by omega
          have HS := Lib.hid (shapeF_ok n1.out n2.out hx.out (by have := n3.out; omega) ht.out)
          obtain ⟨n, rfl, -, -, g⟩ := shapeF_good HS.out
          have hm2 := g.few
          have hN := g.most
          have hev := g.even
          have GN := Lib.hid g.next
          clear hi hlt n1 n2 hx n3 ht
          go_wp2_with fail
          refine (refTurns_any _ n _ _ _ mc t x c N1.rt N1.rx N1.rc g).mono ?_
          rintro e w2 ⟨b, rfl, hb, b2⟩
          replace N1 := N1.below b2 (Nat.le_refl _)
          replace B1 := B1.trans (b2.mono B1.size)
          have HB := Lib.hid hb
          clear b2 hb c0 c1 c2 c3
          cases b with
          | false =>
            go_wp2_with fail
            go_ret
            exact ⟨6, rfl, .inr ⟨HS.out, .inl ⟨fun h => by have := HB.out.2 h; simp at this, rfl⟩⟩, B1⟩
          | true =>
            have TT := HB.out.1 rfl
            have bp := TT.perm.bh hev
            go_wp2_with fail
            go_loopw [6] (fun u wr => ∃ i : Nat, u = .int .i64 (i : Int) ∧ i ≤ mc ∧ Hid (∀ d, d < i → 0 ≤ c d ∧ c d ≤ 2147483648) ∧ NetAt wr w.heap.size (n : Int) (.slice TA mc tp) (.slice XA mc xp) (.slice CA mc cp) mc t x c ∧ Below w.heap.size w wr) (fun u _ => mc - (intOf u).toNat)
            case atStart => exact ⟨0, rfl, Nat.zero_le _, Lib.hid fun d h => by omega, N1, B1⟩
            case round =>
              clear N1 B1
              obtain ⟨i, rfl, hi, hcap, N1, B1⟩ := hrel
              have c0 := N1.c0
              have c1 := N1.c1
              have c2 := N1.c2
              have c3 := N1.c3
              by_cases hlt : i < mc
              · have d1 : (i : Int) < (mc : Int) := by omega
                obtain ⟨y, rfl, hy, hc⟩ := HC.out (by omega)
                have cr := rd_cell B1 hy (Nat.le_refl _) (hc _ hlt)
                clear hc
                by_cases hb : 0 ≤ c i ∧ c i ≤ 2147483648
                · have d2 : decide (c i < 0) = false := by simp; omega
                  have d3 : decide (c i > 2147483648) = false := by simp; omega
                  have HC2 : Hid (∀ d, d < i + 1 → 0 ≤ c d ∧ c d ≤ 2147483648) := Lib.hid fun d hd => by
                    rcases Nat.lt_or_ge d i with q | q
                    · exact hcap.out d q
                    · rw [show d = i by omega]; exact hb
                  clear hb
                  go_wp2_with fail
                  go_roundw
                  case rel => exact ⟨i + 1, by simp, by omega, HC2, N1, B1⟩
                  case measure => simp [intOf]; omega
                · have HN := Lib.hid (fun q => hb (q i hlt) : ¬ ∀ d, d < mc → 0 ≤ c d ∧ c d ≤ 2147483648)
                  by_cases h0 : c i < 0
                  · have d2 : decide (c i < 0) = true := by simp; omega
                    clear hb h0
                    go_wp2_with fail
                    go_ret
                    exact ⟨4, rfl, .inr ⟨HS.out, .inr (.inl ⟨TT, HN.out, rfl⟩)⟩, B1⟩
                  · have d2 : decide (c i < 0) = false := by simp; omega
                    have d3 : decide (c i > 2147483648) = true := by simp; omega
                    clear hb h0
                    go_wp2_with fail
                    go_ret
                    exact ⟨4, rfl, .inr ⟨HS.out, .inr (.inl ⟨TT, HN.out, rfl⟩)⟩, B1⟩
              · have d1 : ¬ ((i : Int) < (mc : Int)) := by omega
                obtain rfl : mc = i := by omega
                clear hi hlt
                go_wp2_with fail
                refine (refParts_ok _ n _ _ _ mc t x c N1.rt N1.rx N1.rc g).mono ?_
                rintro e w2 ⟨v2, o2, k2, rfl, O2, -, P2, b2⟩
                obtain ⟨PA, pc, rfl, -⟩ := id O2.rd
                replace N1 := N1.below b2 (Nat.le_refl _)
                replace B1 := B1.trans (b2.mono B1.size)
                clear b2 c0 c1 c2 c3 O2
                have c0 := N1.c0
                have c1 := N1.c1
                have c2 := N1.c2
                have c3 := N1.c3
                by_cases hk : k2 = 1
                · have e1 : ((k2 : Int) != 1) = false := by simp; omega
                  have HP := Lib.hid P2
                  have HK := Lib.hid hk
                  clear P2 hk
                  go_wp2_with fail
                  refine (refFaces_ok _ n _ _ _ mc t x N1.rt N1.rx (by omega) hev (fun d hd => (GN.out d hd).1) bp).mono ?_
                  rintro e w3 ⟨fb, o3, k3, rfl, -, -, O3, km3, b3⟩
                  replace N1 := N1.below b3 (Nat.le_refl _)
                  replace B1 := B1.trans (b3.mono B1.size)
                  clear b3 c0 c1 c2 c3
                  have c0 := N1.c0
                  obtain ⟨F, hF⟩ : ∃ F, F = max k3 1 := ⟨_, rfl⟩
                  rw [← hF]
                  have HO := Lib.hid (And.intro hF O3)
                  have hF2 : F ≤ 241 := by omega
                  clear hF O3
                  by_cases hE : n + F = 2 + mc / 2
                  · have e2 : ((n : Int) - (mc : Int) / 2 + (F : Int) != 2) = false := by simp; omega
                    have HE := Lib.hid hE
                    clear hE
                    go_wp2_with fail
                    go_ret
                    exact ⟨0, rfl, .inr ⟨HS.out, .inr (.inr ⟨TT, hcap.out, .inr ⟨TT, o2, k2, HP.out, .inr ⟨HK.out, o3, k3, HO.out.2, .inr ⟨by rw [← HO.out.1]; exact HE.out, rfl⟩⟩⟩⟩)⟩, B1⟩
                  · have e2 : ((n : Int) - (mc : Int) / 2 + (F : Int) != 2) = true := by simp; omega
                    have HE := Lib.hid hE
                    clear hE
                    go_wp2_with fail
                    go_ret
                    exact ⟨8, rfl, .inr ⟨HS.out, .inr (.inr ⟨TT, hcap.out, .inr ⟨TT, o2, k2, HP.out, .inr ⟨HK.out, o3, k3, HO.out.2, .inl ⟨by rw [← HO.out.1]; exact HE.out, rfl⟩⟩⟩⟩)⟩, B1⟩
                · have e1 : ((k2 : Int) != 1) = true := by simp; omega
                  have HP := Lib.hid P2
                  have HK := Lib.hid hk
                  clear P2 hk
                  go_wp2_with fail
                  go_ret
                  exact ⟨7, rfl, .inr ⟨HS.out, .inr (.inr ⟨TT, hcap.out, .inr ⟨TT, o2, k2, HP.out, .inl ⟨HK.out, rfl⟩⟩⟩)⟩, B1⟩
end Go.Proofs.Ytcejjcopchkmeaa.Ro
