/- Walks: Shared, of the program's chapter 3. -/
import Derived.StillTailTactics
import Derived.Deep.DeepFit
import Derived.Outline
import Derived.WalkMore
import Derived.Test.YtcdlnohnkdalbaaMg11
import Derived.Test.YtcdlnohnkdalbaaMg12
namespace Go.Proofs.Ytcdlnohnkdalbaa.Ro
open Go.RowKit Go.Proofs Go.Maps
set_option linter.unusedVariables false
set_option maxRecDepth 100000
set_option linter.unusedSimpArgs false

theorem still_off {P : Program} {ops : Array Oper} {w : World} {Q : Act → Prop} {a a' : Act} {o : Oper} {rest : List Oper} (hw : Region.wanted o (yielded ops a.tmps) = false) (ha : a.put o.dst undef = a')
    (h : wpStill P ops w Q rest a') : wpStill P ops w Q (o :: rest) a := by
  unfold wpStill
  rw [if_neg (by rw [hw]; exact Bool.false_ne_true), ha]
  exact h

/-- has a round a dart, of the first i, that begins at a vertex -/
def hasUp (o t : Nat → Int) (s : Int) : Nat → Nat → Bool
  | 0, _ => false
  | i + 1, f => if o i = f then hasUp o t s i f || t i == s else hasUp o t s i f
theorem hasUp_iff (o t : Nat → Int) (s : Int) (f : Nat) : ∀ i, hasUp o t s i f = true ↔ ∃ d, d < i ∧ o d = f ∧ t d = s
  | 0 => by simp [hasUp]
  | i + 1 => by
    have ih := hasUp_iff o t s f i
    unfold hasUp
    by_cases e : o i = f
    · rw [if_pos e]
      constructor
      · intro h
        rcases Bool.or_eq_true _ _ ▸ h with q | q
        · obtain ⟨d, h1, h2⟩ := ih.1 q; exact ⟨d, by omega, h2⟩
        · exact ⟨i, by omega, e, by simpa using q⟩
      · rintro ⟨d, h1, h2, h3⟩
        rcases Nat.lt_or_ge d i with q | q
        · rw [ih.2 ⟨d, q, h2, h3⟩]; rfl
        · obtain rfl : d = i := by omega
          simp [h3]
    · rw [if_neg e]
      constructor
      · intro h
        obtain ⟨d, h1, h2⟩ := ih.1 h; exact ⟨d, by omega, h2⟩
      · rintro ⟨d, h1, h2, h3⟩
        rcases Nat.lt_or_ge d i with q | q
        · exact ih.2 ⟨d, q, h2, h3⟩
        · obtain rfl : d = i := by omega
          exact absurd h2 e

/-- row b holds F pairs of truths -/
def Prs (w : World) (b F : Nat) (p q : Nat → Bool) : Prop := ∃ cur, w.heap[b]? = some (.cells cur 97 (0, 0)) ∧ cur.size = F * 2 ∧ ∀ i, i < F → cur[i * 2]? = some (.bool (p i)) ∧ cur[i * 2 + 1]? = some (.bool (q i))
theorem Prs.below {w w' : World} {b F B : Nat} {p q : Nat → Bool} (h : Prs w b F p q) (hb : Below B w w') (hB : b < B) : Prs w' b F p q := by
  obtain ⟨cur, h1, h2⟩ := h
  exact ⟨cur, (hb.block b hB).trans h1, h2⟩
theorem Prs.lt {w : World} {b F : Nat} {p q : Nat → Bool} (h : Prs w b F p q) : b < w.heap.size := by
  obtain ⟨cur, h1, h2⟩ := h
  exact blk_lt h1
theorem Prs.cells {w : World} {b F i : Nat} {p q : Nat → Bool} (h : Prs w b F p q) (hi : i < F) : w.cell? ⟨b, i * 2, none⟩ = some (.bool (p i)) ∧ w.cell? ⟨b, i * 2 + 1, none⟩ = some (.bool (q i)) ∧ w.frozen? ⟨b, i * 2, none⟩ = false ∧ w.frozen? ⟨b, i * 2 + 1, none⟩ = false := by
  obtain ⟨cur, h1, h2, h3⟩ := h
  exact ⟨by rw [blk_cell h1]; exact (h3 i hi).1, by rw [blk_cell h1]; exact (h3 i hi).2, blk_frozen h1 _, blk_frozen h1 _⟩
theorem Prs.set {w : World} {b F i : Nat} {p q : Nat → Bool} (h : Prs w b F p q) (hi : i < F) (u v : Bool) : Prs ((w.setCell ⟨b, i * 2, none⟩ (.bool u)).setCell ⟨b, i * 2 + 1, none⟩ (.bool v)) b F (upd p i u) (upd q i v) := by
  obtain ⟨cur, h1, h2, h3⟩ := h
  refine ⟨_, blk_set (i := i * 2 + 1) (blk_set (i := i * 2) h1 (.bool u)) (.bool v), by simpa using h2, fun j hj => ?_⟩
  by_cases e : j = i
  · subst e
    rw [upd_same, upd_same]
    constructor
    · rw [Array.getElem?_setIfInBounds_ne (by omega), Array.getElem?_setIfInBounds_self]; simp; omega
    · rw [Array.getElem?_setIfInBounds_self]; simp; omega
  · rw [upd_ne e, upd_ne e]
    obtain ⟨k1, k2⟩ := h3 j hj
    constructor
    · rw [Array.getElem?_setIfInBounds_ne (by omega), Array.getElem?_setIfInBounds_ne (by omega)]; exact k1
    · rw [Array.getElem?_setIfInBounds_ne (by omega), Array.getElem?_setIfInBounds_ne (by omega)]; exact k2
theorem hasUp_upd {o t : Nat → Int} {s : Int} {i f : Nat} (h : o i = f) : upd (hasUp o t s i) f (hasUp o t s i f || t i == s) = hasUp o t s (i + 1) := by
  funext g
  rw [show hasUp o t s (i + 1) g = if o i = g then hasUp o t s i g || t i == s else hasUp o t s i g from rfl]
  by_cases e : g = f
  · subst e; rw [upd_same, if_pos h]
  · rw [upd_ne e, if_neg]
    intro q; apply e; omega
theorem Prs.made {w : World} {b F : Nat} {o t : Nat → Int} {s v : Int} (h : w.ownsRow 0 97 2 (.slice (some ⟨b, 0, none⟩) F F) F (madeCells (Value.agg #[Value.bool false, Value.bool false]).cells (F * 2)).toList) : Prs w b F (hasUp o t s 0) (hasUp o t v 0) := by
  obtain ⟨_, h1⟩ := h
  rcases h1 with ⟨e, _⟩ | ⟨g, cap, cur, e, _, hg, _, _, hs, ht⟩
  · simp at e
  · simp only [Value.slice.injEq, Option.some.injEq, Addr.mk.injEq, and_true, true_and] at e
    obtain ⟨rfl, rfl⟩ := e
    rw [List.take_of_length_le (by simp; omega)] at ht
    have hc : cur = madeCells (Value.agg #[Value.bool false, Value.bool false]).cells (F * 2) := by
      apply Array.ext'
      exact ht
    have all : ∀ j, j < F * 2 → cur[j]? = some (.bool false) := fun j hj => by
      rw [hc, madeCells, Array.getElem?_map, Array.getElem?_range, if_pos hj]
      show some _ = some _
      congr 1
      have : j % 2 = 0 ∨ j % 2 = 1 := by omega
      rcases this with q | q
      · show #[Value.bool false, Value.bool false][j % 2]! = _; rw [q]; rfl
      · show #[Value.bool false, Value.bool false][j % 2]! = _; rw [q]; rfl
    exact ⟨cur, hg, hs, fun i hi => ⟨all _ (by omega), all _ (by omega)⟩⟩

set_option maxHeartbeats 12800000 in
theorem shared_ok (w : World) (N : Nat) (T X C : Value) (m : Nat) (t x c : Nat → Int) (hT : Rd w T m t) (hX : Rd w X m x) (hC : Rd w C m c) (g : Good N m t x) (pf : Perm (bh x) m) (s v : Int) :
    Calls Try.prog 55 #[.agg #[.int .i64 (N : Int), T, X, C], .int .i64 s, .int .i64 v] w (SharedPost w.heap.size w m x t s v) := by
  have hm2 := g.few
  obtain ⟨TA, tp, rfl, rt⟩ := id hT
  obtain ⟨XA, xp, rfl, -⟩ := id hX
  go_enter Try.func55, Try.ntmps55
  go_wp2_with fail
  obtain ⟨w1, hw1, N1, B1⟩ := net_enter (N : Int) hT hX hC
  rw [hw1]
  clear hw1
  have c0 := N1.c0
  have c1 := N1.c1
  have c2 := N1.c2
  have c3 := N1.c3
  refine wp_scope_straight ?_
  go_wp2_with fail
  refine (faces_ok _ N _ _ _ m t x c N1.rt N1.rx N1.rc g pf).mono ?_
  rintro e w2 ⟨fv, o, k, rfl, F2, nF, O, b2⟩
  have B2 := B1.trans (b2.mono B1.size)
  have N2 := N1.below b2 (Nat.le_refl _)
  obtain ⟨F, hF⟩ : ∃ F : Nat, F = max k 1 := ⟨_, rfl⟩
  rw [← hF]
  have HF := Lib.hid hF
  have hkm := O.le
  have hFm : F ≤ 240 := by omega
  have HO := Lib.hid O
  have hoF : Hid (∀ d, d < m → ∃ f : Nat, o d = (f : Int) ∧ f < F) := Lib.hid fun d hd => ⟨(o d).toNat, by have := O.lo d hd; omega, by have := O.lo d hd; omega⟩
  clear hF c0 c1 c2 c3 N1 b2 B1 O hkm
  by_cases hsv : s = v
  · have q0 : (s == v) = true := by simpa using hsv
    have HS := Lib.hid hsv
    clear hsv
    go_wp2_with fail
    go_ret2
    exact ⟨o, k, 0, false, HO.out, rfl, ⟨rfl, .inl HS.out⟩, B2⟩
  · have q0 : (s == v) = false := by simpa using hsv
    have HS := Lib.hid hsv
    clear hsv
    obtain ⟨FA, fc, rfl, rf⟩ := id F2.rd
    obtain ⟨ii, hi, hz, hs, hby⟩ := info_parts (P := Try.prog) (e := 97) (z := .agg #[.bool false, .bool false]) (size := 2) (bytes := 2) (by kernel_rfl)
    go_upto_region 5 with (at_make; refine wpList_make_full _ rfl _ _ _ rfl 0 97 ii (.agg #[.bool false, .bool false]) 2 Try.underlying96 hi hz hs .i64 .i64 (F : Int) (F : Int) F rfl rfl rfl rfl (by rw [hby]; omega) (by unfold maxLen; omega) (Nat.zero_le _) ?_; intro w3 hm3 hg3)
    have B3 : Below w2.heap.size w2 w3 := ⟨hg3.os, hg3.tape, hg3.output, hg3.size, fun k hk => hg3.block k hk (by simp)⟩
    have P3 : Prs w3 w2.heap.size F (hasUp o t s 0) (hasUp o t v 0) := Prs.made hm3
    go_wp2_with fail
    go_loopw [27] (fun u wr => ∃ i : Nat, u = .int .i64 (i : Int) ∧ i ≤ m ∧ Prs wr w2.heap.size F (hasUp o t s i) (hasUp o t v i) ∧ Below w2.heap.size w2 wr) (fun u _ => m - (intOf u).toNat)
    case atStart => exact ⟨0, rfl, Nat.zero_le _, P3, B3⟩
    case round =>
      clear P3 hm3 hg3 B3
      obtain ⟨i, rfl, hi, P, E⟩ := hrel
      by_cases hlt : i < m
      · have d1 : (i : Int) < (m : Int) := by omega
        obtain ⟨ya, rfl, hya, hca⟩ := rf (by omega)
        obtain ⟨yt, rfl, hyt, hct⟩ := rt (by omega)
        obtain ⟨f, hf, hfF⟩ := hoF.out i hlt
        have co := rd_cell E hya (Nat.le_refl _) (hca i hlt)
        have NR := N2.below E (Nat.le_refl _)
        have ct : wr.cell? (yt.add i) = some (.int .i64 (t i)) := rd_cell (B2.trans (E.mono B2.size)) hyt (Nat.le_refl _) (hct i hlt)
        rw [hf] at co
        have c1 := NR.c1
        obtain ⟨k0, k1, f0, f1⟩ := P.cells hfF
        have Q := P.set hfF (hasUp o t s i f || t i == s) (hasUp o t v i f || t i == v)
        rw [hasUp_upd hf, hasUp_upd hf] at Q
        have hfi : (f : Int) < (F : Int) := by omega
        have E2 := (E.setCell (p := ⟨w2.heap.size, f * 2, none⟩) (Nat.le_refl _) (.bool (hasUp o t s i f || t i == s))).setCell (p := ⟨w2.heap.size, f * 2 + 1, none⟩) (Nat.le_refl _) (.bool (hasUp o t v i f || t i == v))
        have HQ := Lib.hid (And.intro Q E2)
        clear Q E2 P rf rt hca hct hf N2 NR hya hyt
        generalize hasUp o t s i f = pf at *
        generalize hasUp o t v i f = qf at *
        generalize w2.heap.size = z at *
        go_wp2_with fail
        cases pf <;> cases qf
        · refine still_tail 32 (by kernel_rfl) (by kernel_rfl) ?_
          simp only [List.take_succ_cons, List.take_zero, List.drop_succ_cons, List.drop_zero]
          iterate 32 ((with_reducible refine still_on ?_ (fun K hK => ?_)); (next => rfl); go_simp; (with_reducible refine hK _ ?_); clear hK K)
          with_reducible refine wpStill_nil ?_
          go_wp2_with fail
          go_roundw
          case rel => exact ⟨i + 1, by simp, by omega, HQ.out.1, HQ.out.2.drew⟩
          case measure => simp [intOf]; omega
        · refine still_tail 32 (by kernel_rfl) (by kernel_rfl) ?_
          simp only [List.take_succ_cons, List.take_zero, List.drop_succ_cons, List.drop_zero]
          iterate 22 ((with_reducible refine still_on ?_ (fun K hK => ?_)); (next => rfl); go_simp; (with_reducible refine hK _ ?_); clear hK K)
          iterate 7 ((with_reducible refine still_off ?_ rfl ?_); (next => rfl))
          iterate 3 ((with_reducible refine still_on ?_ (fun K hK => ?_)); (next => rfl); go_simp; (with_reducible refine hK _ ?_); clear hK K)
          with_reducible refine wpStill_nil ?_
          go_wp2_with fail
          go_roundw
          case rel => exact ⟨i + 1, by simp, by omega, HQ.out.1, HQ.out.2.drew⟩
          case measure => simp [intOf]; omega
        · refine still_tail 32 (by kernel_rfl) (by kernel_rfl) ?_
          simp only [List.take_succ_cons, List.take_zero, List.drop_succ_cons, List.drop_zero]
          iterate 8 ((with_reducible refine still_on ?_ (fun K hK => ?_)); (next => rfl); go_simp; (with_reducible refine hK _ ?_); clear hK K)
          iterate 7 ((with_reducible refine still_off ?_ rfl ?_); (next => rfl))
          iterate 17 ((with_reducible refine still_on ?_ (fun K hK => ?_)); (next => rfl); go_simp; (with_reducible refine hK _ ?_); clear hK K)
          with_reducible refine wpStill_nil ?_
          go_wp2_with fail
          go_roundw
          case rel => exact ⟨i + 1, by simp, by omega, HQ.out.1, HQ.out.2.drew⟩
          case measure => simp [intOf]; omega
        · refine still_tail 32 (by kernel_rfl) (by kernel_rfl) ?_
          simp only [List.take_succ_cons, List.take_zero, List.drop_succ_cons, List.drop_zero]
          iterate 8 ((with_reducible refine still_on ?_ (fun K hK => ?_)); (next => rfl); go_simp; (with_reducible refine hK _ ?_); clear hK K)
          iterate 7 ((with_reducible refine still_off ?_ rfl ?_); (next => rfl))
          iterate 7 ((with_reducible refine still_on ?_ (fun K hK => ?_)); (next => rfl); go_simp; (with_reducible refine hK _ ?_); clear hK K)
          iterate 7 ((with_reducible refine still_off ?_ rfl ?_); (next => rfl))
          iterate 3 ((with_reducible refine still_on ?_ (fun K hK => ?_)); (next => rfl); go_simp; (with_reducible refine hK _ ?_); clear hK K)
          with_reducible refine wpStill_nil ?_
          go_wp2_with fail
          go_roundw
          case rel => exact ⟨i + 1, by simp, by omega, HQ.out.1, HQ.out.2.drew⟩
          case measure => simp [intOf]; omega
      · have d1 : ¬ ((i : Int) < (m : Int)) := by omega
        obtain rfl : m = i := by omega
        have hzv : ∀ w : World, (zeroValue 97).run Try.prog w = .ok (.agg #[.bool false, .bool false]) w := fun w => by kernel_rfl
        have HZ := Lib.hid hzv
        clear rf rt hi hzv
        go_wp2_with fail
        go_step3
        go_wp2_with fail
        go_loopw [67] (fun u wr => ∃ i : Nat, u = .int .i64 (i : Int) ∧ i ≤ F ∧ (∀ g : Nat, g < i → ¬ (Meets m o t g s ∧ Meets m o t g v)) ∧ Prs wr w2.heap.size F (hasUp o t s m) (hasUp o t v m) ∧ Below w2.heap.size w2 wr) (fun u _ => F - (intOf u).toNat)
        case atStart => exact ⟨0, rfl, Nat.zero_le _, fun g h => by omega, P, E⟩
        case round =>
          clear P E
          obtain ⟨i, rfl, hi, hno, P, E⟩ := hrel
          have HN := Lib.hid hno
          clear hno
          by_cases hlt : i < F
          · have d1 : (i : Int) < (F : Int) := by omega
            have h1 := hasUp_iff o t s i m
            have h2 := hasUp_iff o t v i m
            have H12 := Lib.hid (And.intro h1 h2)
            obtain ⟨k0, k1, f0, f1⟩ := P.cells hlt
            have lz := P.lt
            clear h1 h2
            generalize hasUp o t s m i = pf at *
            generalize hasUp o t v m i = qf at *
            have hzv := HZ.out
            have BE := E.alloc E.size (.cells #[.bool pf, .bool qf] 97)
            have PE := P.below (B := wr.heap.size) (below_new wr (.cells #[.bool pf, .bool qf] 97)) lz
            have FIN := Lib.hid (And.intro BE PE)
            clear BE PE
            have nope : ¬ (pf = true ∧ qf = true) → Hid (∀ g : Nat, g < i + 1 → ¬ (Meets m o t g s ∧ Meets m o t g v)) := fun hn => Lib.hid fun g hg => by
              rcases Nat.lt_or_ge g i with q | q
              · exact HN.out g q
              · rw [show g = i by omega]; exact fun h => hn ⟨H12.out.1.2 h.1, H12.out.2.2 h.2⟩
            cases pf <;> cases qf
            · have H2 := nope (by simp)
              clear nope
              go_wp2_with fail
              go_roundw
              case rel => exact ⟨i + 1, by simp, by omega, H2.out, FIN.out.2, FIN.out.1⟩
              case measure => simp [intOf]; omega
            · have H2 := nope (by simp)
              clear nope
              go_wp2_with fail
              go_roundw
              case rel => exact ⟨i + 1, by simp, by omega, H2.out, FIN.out.2, FIN.out.1⟩
              case measure => simp [intOf]; omega
            · have H2 := nope (by simp)
              clear nope
              go_wp2_with fail
              go_roundw
              case rel => exact ⟨i + 1, by simp, by omega, H2.out, FIN.out.2, FIN.out.1⟩
              case measure => simp [intOf]; omega
            · clear nope
              go_wp2_with fail
              go_ret2
              exact ⟨o, k, (i : Int), true, HO.out, rfl, ⟨HS.out, i, rfl, by rw [← HF.out]; exact hlt, H12.out.1.1 trivial, H12.out.2.1 trivial, HN.out⟩, B2.trans (FIN.out.1.mono B2.size)⟩
          · have d1 : ¬ ((i : Int) < (F : Int)) := by omega
            obtain rfl : F = i := by omega
            go_wp2_with fail
            go_ret2
            exact ⟨o, k, 0, false, HO.out, rfl, ⟨rfl, .inr (by rw [← HF.out]; exact HN.out)⟩, B2.trans (E.mono B2.size)⟩
end Go.Proofs.Ytcdlnohnkdalbaa.Ro
