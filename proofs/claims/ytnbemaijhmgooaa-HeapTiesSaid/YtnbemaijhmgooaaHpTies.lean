/- The walk of HeapTies: of one rank the least key comes first. -/
import Derived.Test.YtnbemaijhmgooaaHpC
namespace Go.Proofs.Ytnbemaijhmgooaa.Hp
open Go.RowKit Go.Maps Go.Proofs
set_option linter.unusedVariables false
set_option linter.unusedSimpArgs false

/-- the heap g, of the call's own, and what is told of its keys -/
structure Own (w : World) (g : Nat) (Q : (Int → Option Int) → Prop) (wr : World) (F : Nat → Prop) (f : Int → Option Int) (n : Nat) : Prop where
  heap : HeapIs wr g F f n
  told : Q f
  new : ∀ k, F k → w.heap.size ≤ k
  below : Below w.heap.size w wr
theorem Own.start {w w1 wr : World} {g : Nat} {F : Nat → Prop} {Q : (Int → Option Int) → Prop} (h : HeapIs wr g F (fun _ => none) 0) (b : Below w.heap.size w w1) (hF : ∀ k, F k → w1.heap.size ≤ k) (hb : Below w1.heap.size w1 wr) (hQ : Q fun _ => none) : Own w g Q wr F (fun _ => none) 0 :=
  ⟨h, hQ, fun k q => Nat.le_trans b.size (hF k q), b.trans (hb.mono b.size)⟩
theorem Own.turned {w wr w' : World} {g n n' : Nat} {F F' : Nat → Prop} {f f' : Int → Option Int} {Q Q' : (Int → Option Int) → Prop} (h : Own w g Q wr F f n) (h' : HeapIs w' g F' f' n') (hF : ∀ k, F' k → F k ∨ wr.heap.size ≤ k) (ht : Turn F wr w') (hQ : Q' f') : Own w g Q' w' F' f' n' :=
  ⟨h', hQ, fun k q => (hF k q).elim (h.new k) (fun q => Nat.le_trans h.below.size q), h.below.trans (ht.below h.new h.below.size)⟩
theorem Own.later {w wr w' : World} {g n : Nat} {F : Nat → Prop} {f : Int → Option Int} {Q : (Int → Option Int) → Prop} (h : Own w g Q wr F f n) (hb : Below wr.heap.size wr w') : Own w g Q w' F f n :=
  ⟨h.heap.below hb, h.told, h.new, h.below.trans (hb.mono h.below.size)⟩

def AllRank (rank : Int) (f : Int → Option Int) : Prop := ∀ k r, f k = some r → r = rank
theorem mod_key (a : Int) : Key (a % 300) := ⟨Int.emod_nonneg _ (by omega), Int.emod_lt_of_pos _ (by omega)⟩

set_option maxHeartbeats 1600000 in
theorem ties_walk (A : Option Addr) (len cap : Nat) (zs : List Int) (rank : Int) (w : World) (ha : ArgIs w A len zs) (hl : len ≤ 9223372036854775807) (wr : Small rank) :
    Calls Try.prog 4 #[.slice A len cap, .int .i64 rank] w fun e w' => e = .returned (.bool true) ∧ Below w.heap.size w w' := by
  go_enter Try.func4, Try.ntmps4
  go_wp2_with fail
  refine (known_any _).mono ?_
  rintro e w1 ⟨rfl, b1⟩
  go_wp2_with fail
  refine (new_any _).mono ?_
  rintro e w2 ⟨g, F, rfl, h2, hF, b2⟩
  have O2 : Own w g (AllRank rank) w2 F (fun _ => none) 0 := Own.start h2 b1 hF b2 (fun k r h => by simp at h)
  clear h2 hF b1 b2
  go_wp2_with fail
  go_loopw [6] (fun u wr => ∃ (i : Nat) (F : Nat → Prop) (f : Int → Option Int) (n : Nat), u = .int .i64 (i : Int) ∧ i ≤ len ∧ Own w g (AllRank rank) wr F f n) (fun u _ => len - (intOf u).toNat)
  case atStart => exact ⟨0, F, _, 0, rfl, Nat.zero_le _, O2⟩
  case round =>
    obtain ⟨i, F, f, n, rfl, hi, O⟩ := hrel
    clear O2
    by_cases hlt : i < len ∧ i < 100
    · obtain ⟨h1, h3⟩ := hlt
      obtain ⟨x, rfl, hx, hzl, hc⟩ := ha (by omega)
      have c0 := (hc i h1).1
      have sm := (hc i h1).2
      have cr : wr.cell? (x.add i) = some (.int .i64 (zs.getD i 0)) := (O.below.cell (by rw [block_add]; exact hx)).trans c0
      clear c0 hc
      have d1 : (i : Int) < (len : Int) := by omega
      have d2 : (i : Int) < 100 := by omega
      go_wp2_with fail
      refine (within_any _ (zs.getD i 0) 300 sm (by omega) (by omega)).mono ?_
      rintro e w3 ⟨rfl, rfl⟩
      go_wp2_with fail
      refine (put_any _ g F f n _ rank O.heap (mod_key _)).mono ?_
      rintro e w4 ⟨rfl, F4, h4, hF4, T4⟩
      have O4 : Own w g (AllRank rank) w4 F4 (upd f (zs.getD i 0 % 300) (some rank)) (bump f (zs.getD i 0 % 300) n) := O.turned h4 hF4 T4 (by
        intro k r hk
        by_cases e : k = zs.getD i 0 % 300
        · subst e; rw [upd_same] at hk; simpa using hk.symm
        · rw [upd_ne e] at hk; exact O.told k r hk)
      clear h4 hF4 T4 O cr sm
      go_wp2_with fail
      go_roundw
      case rel => exact ⟨i + 1, _, _, _, by simp, by omega, O4⟩
      case measure => simp [intOf]; omega
    · have hlt2 : ¬ ((i : Int) < (len : Int)) ∨ (i : Int) < (len : Int) ∧ ¬ ((i : Int) < 100) := by omega
      clear hlt ha
      rcases hlt2 with d1 | ⟨d1, d2⟩
      all_goals
        go_wp2_with fail
        go_loopg [7] n (fun n u wr => ∃ (F : Nat → Prop) (f : Int → Option Int) (last : Int), u = .int .i64 last ∧ Own w g (AllRank rank) wr F f n ∧ ∀ k r, f k = some r → last < k)
        case atStart => exact ⟨F, f, -1, rfl, O, fun k r hk => by
          obtain ⟨v, bm, G, m, h1, h2, h3, h4, h5, rfl⟩ := O.heap
          have := h5 k r hk
          omega⟩
        case round =>
          obtain ⟨F1, f1, last, rfl, O1, hlast⟩ := hrel
          clear O
          go_wp2_with fail
          refine (len_any _ g F1 f1 gk O1.heap).mono ?_
          rintro e w5 ⟨rfl, rfl⟩
          by_cases hk : gk = 0
          · subst hk
            go_wp2
            go_ret
            exact ⟨rfl, O1.below⟩
          · have d3 : (0 : Int) < (gk : Int) := by omega
            go_wp2_with fail
            refine (take_any _ g F1 f1 gk O1.heap).mono ?_
            rintro e w6 ⟨x, is, rfl, hL, F6, h6, hF6, T6⟩
            rcases hL with ⟨_, rfl, hx⟩ | ⟨q, _⟩
            · have O6 : Own w g (AllRank rank) w6 F6 (upd f1 x.1 none) (gk - 1) := O1.turned h6 hF6 T6 (by
                intro k r hk
                by_cases e : k = x.1
                · subst e; simp [upd_same] at hk
                · rw [upd_ne e] at hk; exact O1.told k r hk)
              have l1 := hlast _ _ hx.1
              have l2 := O1.told _ _ hx.1
              have l3 : ∀ k r, upd f1 x.1 none k = some r → x.1 < k := by
                intro k r hk
                by_cases e : k = x.1
                · subst e; rw [upd_same] at hk; simp at hk
                · rw [upd_ne e] at hk
                  have a := hx.2 k r hk
                  have b := O1.told k r hk
                  unfold le at a
                  simp only at a
                  omega
              clear h6 hF6 T6 O1 hlast hx
              have d4 : decide (x.1 ≤ last) = false := by simp; omega
              have d5 : (x.2 != rank) = false := by simp [l2]
              clear l2
              have O7 := O6.later ((Below.refl _ w6).alloc (Nat.le_refl _) (.cells #[.int .i64 x.1, .int .i64 x.2] 31))
              clear O6
              go_wp2_with fail
              go_roundg (gk - 1)
              case measure => omega
              case rel => exact ⟨_, _, _, rfl, O7, l3⟩
            · omega
end Go.Proofs.Ytnbemaijhmgooaa.Hp
