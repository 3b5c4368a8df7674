/- Walks: Arcs, of the laws of chapter 6. -/
import Derived.Test.YtchlccendggfpaaPaY
namespace Go.Proofs.Ytchlccendggfpaa.Ro
open Go.RowKit Go.Proofs Go.Maps
set_option linter.unusedVariables false
set_option linter.unusedSimpArgs false

/-- how long an arc is, by its number -/
def lenOf (k : Int) : Int := if k / 9000 % 13 = 0 then k / 117000 % 1048576 else k / 1000 % 9
theorem lenOf_bounds (k : Int) : 0 ≤ lenOf k ∧ lenOf k ≤ 1048575 := by unfold lenOf; split <;> omega
/-- the arcs that numbers make -/
def arcsOf (n : Nat) (x : Nat → Int) (low : Int) : ArcsF := ⟨fun j => (x j % 1125899906842624 % n).toNat, fun j => (x j % 1125899906842624 / 31 % n).toNat, fun j => lenOf (x j % 1125899906842624) - low⟩
theorem arcsOf_in {n k : Nat} {x : Nat → Int} {low : Int} (hn : 0 < n) (h0 : 0 ≤ low) (h1 : low ≤ 1000) : ArcsIn (arcsOf n x low) k n 4294967296 := by
  refine ⟨fun i _ => ?_, fun i _ => ?_, fun i _ => ?_, fun i _ => ?_⟩
  · have h1 := Int.emod_nonneg (x i % 1125899906842624) (show (n : Int) ≠ 0 by omega)
    have h2 := Int.emod_lt_of_pos (x i % 1125899906842624) (show (0 : Int) < n by omega)
    show (x i % 1125899906842624 % n).toNat < n
    omega
  · have h1 := Int.emod_nonneg (x i % 1125899906842624 / 31) (show (n : Int) ≠ 0 by omega)
    have h2 := Int.emod_lt_of_pos (x i % 1125899906842624 / 31) (show (0 : Int) < n by omega)
    show (x i % 1125899906842624 / 31 % n).toNat < n
    omega
  · have := lenOf_bounds (x i % 1125899906842624)
    show -4294967296 ≤ lenOf (x i % 1125899906842624) - low
    omega
  · have := lenOf_bounds (x i % 1125899906842624)
    show lenOf (x i % 1125899906842624) - low ≤ 4294967296
    omega
theorem arcsOf_low {n k : Nat} {x : Nat → Int} : ∀ i, i < k → 0 ≤ (arcsOf n x 0).ln i := fun i _ => by
  have := lenOf_bounds (x i % 1125899906842624)
  show 0 ≤ lenOf (x i % 1125899906842624) - 0
  omega

/-- what Arcs tells -/
def ArcsPost (w : World) (n m : Nat) (x : Nat → Int) (low : Int) (e : Ending) (w' : World) : Prop :=
  ∃ V, e = .returned V ∧ OwA w' V (min m 50) (arcsOf n x low) ∧ (∀ c, V.ownBlock = some c → w.heap.size ≤ c) ∧ Below w.heap.size w w'

set_option maxRecDepth 100000 in
set_option maxHeartbeats 6400000 in
theorem arcs_any (w : World) (n m : Nat) (low : Int) (NS : Value) (x : Nat → Int) (hNS : Rd w NS m x) (hx : ∀ j, j < m → Small (x j)) (hm : m ≤ 9223372036854775807) (hn : 0 < n) (hn2 : n ≤ 100) (h0 : 0 ≤ low) (h1 : low ≤ 1000) :
    Calls Try.prog 15 #[.int .i64 (n : Int), NS, .int .i64 low] w (ArcsPost w n m x low) := by
  obtain ⟨NA, nc, rfl, rn⟩ := id hNS
  have HN := Lib.hid rn
  have HX := Lib.hid hx
  clear rn hx
  go_enter Try.func15, Try.ntmps15
  go_wp2_with fail
  go_loopw [7, 8] (fun u7 u8 wr => ∃ j : Nat, u8 = .int .i64 (j : Int) ∧ j ≤ m ∧ j ≤ 50 ∧ OwA wr u7 j (arcsOf n x low) ∧ Hid (∀ c, u7.ownBlock = some c → w.heap.size ≤ c) ∧ Below w.heap.size w wr) (fun _ u8 _ => 50 - (intOf u8).toNat)
  case atStart => exact ⟨0, rfl, Nat.zero_le _, by omega, OwA.nil _ _, Lib.hid (fun c hc => by cases hc), Below.refl _ _⟩
  case round =>
    obtain ⟨j, rfl, hj, hj50, O, HU, B⟩ := hrel
    by_cases hlt : j < m
    · have d1 : (j : Int) < (m : Int) := by omega
      have d1' : decide ((j : Int) < (m : Int)) = true := by simp; omega
      by_cases hlt2 : j < 50
      · have d2 : (j : Int) < 50 := by omega
        have d2' : decide ((j : Int) < 50) = true := by simp; omega
        obtain ⟨y, rfl, hy, hc⟩ := HN.out (by omega)
        have cj := (B.cell (by rw [block_add]; exact hy)).trans (hc j hlt)
        clear hc
        go_wp2_with fail
        refine (within6_any wr (x j) 1125899906842624 (HX.out j hlt) (by omega) (by omega)).mono ?_
        rintro e w1 ⟨rfl, rfl⟩
        obtain ⟨kk, hkk⟩ : ∃ kk, kk = x j % 1125899906842624 := ⟨_, rfl⟩
        rw [← hkk]
        have k0 : 0 ≤ kk := by omega
        have k1 : kk ≤ 1125899906842623 := by omega
        have HK := Lib.hid hkk
        clear hkk cj
        have nn : (n : Int) ≠ 0 := by omega
        have e1 := Int.emod_nonneg kk nn
        have e2 := Int.emod_lt_of_pos kk (show (0 : Int) < n by omega)
        have e3 := Int.emod_nonneg (kk / 31) nn
        have e4 := Int.emod_lt_of_pos (kk / 31) (show (0 : Int) < n by omega)
        obtain ⟨a, ha⟩ : ∃ a : Nat, (a : Int) = kk % n := ⟨(kk % n).toNat, by omega⟩
        obtain ⟨c, hc⟩ : ∃ c : Nat, (c : Int) = kk / 31 % n := ⟨(kk / 31 % n).toNat, by omega⟩
        obtain ⟨l0, hl0⟩ : ∃ l0 : Int, l0 = kk / 1000 % 9 := ⟨_, rfl⟩
        have b0 : 0 ≤ l0 := by omega
        have b1 : l0 ≤ 8 := by omega
        have tm1 : kk.tmod (n : Int) = (a : Int) := by rw [ha, Int.tmod_eq_emod_of_nonneg k0]
        have tm2 : kk.tdiv 31 = kk / 31 := Int.tdiv_eq_ediv_of_nonneg k0
        have tm3 : (kk / 31).tmod (n : Int) = (c : Int) := by rw [hc, Int.tmod_eq_emod_of_nonneg (by omega)]
        have tm4 : kk.tdiv 1000 = kk / 1000 := Int.tdiv_eq_ediv_of_nonneg k0
        have tm5 : (kk / 1000).tmod 9 = l0 := by rw [hl0, Int.tmod_eq_emod_of_nonneg (by omega)]
        have wl : IntKind.i64.wrap (l0 - low) = l0 - low := by rw [IntKind.wrap_i64]; omega
        have w31 : IntKind.i64.wrap (kk / 31) = kk / 31 := by rw [IntKind.wrap_i64]; omega
        have w1000 : IntKind.i64.wrap (kk / 1000) = kk / 1000 := by rw [IntKind.wrap_i64]; omega
        have HA := Lib.hid ha
        have HC := Lib.hid hc
        have HL := Lib.hid hl0
        have nz : ¬ (n = 0) := by omega
        clear ha hc hl0 e1 e2 e3 e4 nn
        have g1 : -1000 ≤ l0 - low := by omega
        have g2 : l0 - low ≤ 1000 := by omega
        go_wp2_with fail
        go_region_held3 (fun w' => True) (trivial) (fail)
        clear tm1 tm2 tm3 tm4 tm5 wl w31 w1000
        have bW : Below wr.heap.size wr (wr.alloc (.cells #[.int .i64 (a : Int), .int .i64 (c : Int), .int .i64 (l0 - low)] 30)).drew := (below_new wr _).drew
        have hA : (wr.alloc (.cells #[.int .i64 (a : Int), .int .i64 (c : Int), .int .i64 (l0 - low)] 30)).drew.heap[wr.heap.size]? = some (.cells #[.int .i64 (a : Int), .int .i64 (c : Int), .int .i64 (l0 - low)] 30 (0, 0)) := heap_alloc_new wr _
        have OW := O.below bW (Nat.le_refl _)
        have BW := B.trans (bW.mono B.size)
        have bwr := B.size
        have LU : Hid (∀ k, u7.ownBlock = some k → k ≠ wr.heap.size) := Lib.hid fun k hk => by have := O.lt hk; omega
        clear bW O B
        generalize (wr.alloc (.cells #[.int .i64 (a : Int), .int .i64 (c : Int), .int .i64 (l0 - low)] 30)).drew = W at *
        generalize wr.heap.size = q at *
        by_cases hz : kk / 9000 % 13 = 0
        · have qz : (kk / 9000 % 13 == 0) = true := by simp; exact hz
          obtain ⟨l1, hl1⟩ : ∃ l1 : Int, l1 = kk / 117000 % 1048576 := ⟨_, rfl⟩
          have m1 : 0 ≤ l1 := by omega
          have m2 : l1 ≤ 1048575 := by omega
          have m3 : kk / 117000 % 1048576 = l1 := hl1.symm
          have HLL : Hid (l1 - low = lenOf kk - low) := Lib.hid (by unfold lenOf; rw [if_pos hz, hl1])
          have a2 : W.cell? ⟨q, 2, none⟩ = some (.int .i64 (l0 - low)) := blk_cell hA 2
          have fz := blk_free hA 2
          have hA2 : (W.setCell ⟨q, 2, none⟩ (.int .i64 (l1 - low))).heap[q]? = some (.cells #[.int .i64 (a : Int), .int .i64 (c : Int), .int .i64 (l1 - low)] 30 (0, 0)) := blk_set2 hA _
          have OW2 : OwA (W.setCell ⟨q, 2, none⟩ (.int .i64 (l1 - low))) u7 j (arcsOf n x low) := OW.keep fun k hk => Below.heap_setCell _ _ _ _ (LU.out k hk)
          have BW2 := BW.setCell (p := ⟨q, 2, none⟩) bwr (.int .i64 (l1 - low))
          have HS := Lib.hid (And.intro hA2 (And.intro OW2 BW2))
          have g3 : -1000 ≤ l1 - low := by omega
          have g4 : l1 - low ≤ 1048576 := by omega
          clear hz hl1 hA OW BW hA2 OW2 BW2
          go_upto_region 9 with fail
          obtain ⟨hA, OW, BW⟩ := HS.out
          clear HS a2 fz qz m3
          generalize W.setCell ⟨q, 2, none⟩ (.int .i64 (l1 - low)) = W at *
          generalize l1 - low = l at *
          have a0 : W.cell? ⟨q, 0, none⟩ = some (.int .i64 (a : Int)) := blk_cell hA 0
          have a1 : W.cell? ⟨q, 1, none⟩ = some (.int .i64 (c : Int)) := blk_cell hA 1
          have a2 : W.cell? ⟨q, 2, none⟩ = some (.int .i64 l) := blk_cell hA 2
          have n0 := OwA.one W a c l ⟨fun _ => a, fun _ => c, fun _ => l⟩ rfl rfl rfl
          have bA := below_new W (.cells #[.int .i64 (a : Int), .int .i64 (c : Int), .int .i64 l] 30)
          have Oa := OW.below bA (Nat.le_refl _)
          have Ba := BW.trans (bA.mono BW.size)
          have bws := BW.size
          go_upto_region 4 with (at_builtin; go_must (refine wpList_appA rfl _ _ rfl _ j (arcsOf n x low) rfl Oa ⟨W.heap.size, 0, none⟩ 1 1 ⟨fun _ => a, fun _ => c, fun _ => l⟩ rfl n0 (by omega) (by omega) ?_); intro b' c' w5 O5 g5 l5)
          have sz : (W.alloc (.cells #[.int .i64 (a : Int), .int .i64 (c : Int), .int .i64 l] 30)).heap.size = W.heap.size + 1 := by simp
          have hnb : w.heap.size ≤ b' := by
            rcases l5 with e | e
            · exact HU.out b' e.symm
            · omega
          have B5 := Below.grown Ba g5 Ba.size (fun c hc => HU.out c hc)
          have O6 : OwA w5 (.slice (some ⟨b', 0, none⟩) (j + 1) c') (j + 1) (arcsOf n x low) := O5.congr fun i hi => by
            by_cases e : i < j
            · show (if i < j then _ else _) = _ ∧ (if i < j then _ else _) = _ ∧ (if i < j then _ else _) = _
              rw [if_pos e, if_pos e, if_pos e]; exact ⟨rfl, rfl, rfl⟩
            · obtain rfl : i = j := by omega
              show (if i < i then _ else _) = _ ∧ (if i < i then _ else _) = _ ∧ (if i < i then _ else _) = _
              rw [if_neg e, if_neg e, if_neg e]
              have h1 := HA.out
              have h2 := HC.out
              have h3 := HLL.out
              have hk := HK.out
              rw [hk] at h1 h2 h3
              refine ⟨?_, ?_, h3⟩
              · show a = (x i % 1125899906842624 % n).toNat
                omega
              · show c = (x i % 1125899906842624 / 31 % n).toNat
                omega
          have HU5 : Hid (∀ k, (Value.slice (some ⟨b', 0, none⟩) (j + 1) c').ownBlock = some k → w.heap.size ≤ k) := Lib.hid fun k hk => by
            have e : some b' = some k := hk
            injection e with e
            rw [← e]; exact hnb
          clear n0 bA Oa Ba sz g5 l5 O5 a0 a1 a2 hnb
          go_wp2_with fail
          go_roundw
          case rel => exact ⟨j + 1, by simp, by omega, by omega, O6, HU5, B5⟩
          case measure => simp [intOf]; omega
        · have qz : (kk / 9000 % 13 == 0) = false := by simp; exact hz
          have HLL : Hid (l0 - low = lenOf kk - low) := Lib.hid (by unfold lenOf; rw [if_neg hz, ← HL.out])
          clear hz
          go_upto_region 9 with fail
          clear qz
          generalize l0 - low = l at *
          have a0 : W.cell? ⟨q, 0, none⟩ = some (.int .i64 (a : Int)) := blk_cell hA 0
          have a1 : W.cell? ⟨q, 1, none⟩ = some (.int .i64 (c : Int)) := blk_cell hA 1
          have a2 : W.cell? ⟨q, 2, none⟩ = some (.int .i64 l) := blk_cell hA 2
          have n0 := OwA.one W a c l ⟨fun _ => a, fun _ => c, fun _ => l⟩ rfl rfl rfl
          have bA := below_new W (.cells #[.int .i64 (a : Int), .int .i64 (c : Int), .int .i64 l] 30)
          have Oa := OW.below bA (Nat.le_refl _)
          have Ba := BW.trans (bA.mono BW.size)
          have bws := BW.size
          go_upto_region 4 with (at_builtin; go_must (refine wpList_appA rfl _ _ rfl _ j (arcsOf n x low) rfl Oa ⟨W.heap.size, 0, none⟩ 1 1 ⟨fun _ => a, fun _ => c, fun _ => l⟩ rfl n0 (by omega) (by omega) ?_); intro b' c' w5 O5 g5 l5)
          have sz : (W.alloc (.cells #[.int .i64 (a : Int), .int .i64 (c : Int), .int .i64 l] 30)).heap.size = W.heap.size + 1 := by simp
          have hnb : w.heap.size ≤ b' := by
            rcases l5 with e | e
            · exact HU.out b' e.symm
            · omega
          have B5 := Below.grown Ba g5 Ba.size (fun c hc => HU.out c hc)
          have O6 : OwA w5 (.slice (some ⟨b', 0, none⟩) (j + 1) c') (j + 1) (arcsOf n x low) := O5.congr fun i hi => by
            by_cases e : i < j
            · show (if i < j then _ else _) = _ ∧ (if i < j then _ else _) = _ ∧ (if i < j then _ else _) = _
              rw [if_pos e, if_pos e, if_pos e]; exact ⟨rfl, rfl, rfl⟩
            · obtain rfl : i = j := by omega
              show (if i < i then _ else _) = _ ∧ (if i < i then _ else _) = _ ∧ (if i < i then _ else _) = _
              rw [if_neg e, if_neg e, if_neg e]
              have h1 := HA.out
              have h2 := HC.out
              have h3 := HLL.out
              have hk := HK.out
              rw [hk] at h1 h2 h3
              refine ⟨?_, ?_, h3⟩
              · show a = (x i % 1125899906842624 % n).toNat
                omega
              · show c = (x i % 1125899906842624 / 31 % n).toNat
                omega
          have HU5 : Hid (∀ k, (Value.slice (some ⟨b', 0, none⟩) (j + 1) c').ownBlock = some k → w.heap.size ≤ k) := Lib.hid fun k hk => by
            have e : some b' = some k := hk
            injection e with e
            rw [← e]; exact hnb
          clear n0 bA Oa Ba sz g5 l5 O5 a0 a1 a2 hnb
          go_wp2_with fail
          go_roundw
          case rel => exact ⟨j + 1, by simp, by omega, by omega, O6, HU5, B5⟩
          case measure => simp [intOf]; omega
      · have d2 : ¬ ((j : Int) < 50) := by omega
        have d2' : decide ((j : Int) < 50) = false := by simp; omega
        have e50 : Hid (j = min m 50) := Lib.hid (by omega)
        go_wp2_with fail
        go_ret
        exact ⟨_, rfl, by rw [← e50.out]; exact O, HU.out, B⟩
    · have d1 : ¬ ((j : Int) < (m : Int)) := by omega
      have d1' : decide (j < m) = false := by simp; omega
      have e50 : Hid (j = min m 50) := Lib.hid (by omega)
      go_wp2_with fail
      go_ret
      exact ⟨_, rfl, by rw [← e50.out]; exact O, HU.out, B⟩
end Go.Proofs.Ytchlccendggfpaa.Ro
