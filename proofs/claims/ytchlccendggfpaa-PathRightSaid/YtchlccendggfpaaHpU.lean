/- Walks: an item moved up, moved down. -/
import Derived.IntWalk
import Derived.Deep.DeepCutAuto
import Derived.Deep.CutBlock
import Derived.Test.YtchlccendggfpaaHpL
namespace Go.Proofs.Ytchlccendggfpaa.Hp
open Go.RowKit Go.Maps Go.Proofs
set_option linter.unusedVariables false
set_option linter.unusedSimpArgs false

structure UpRel (w : World) (g : Nat) (v : Value) (bm n : Nat) (f : Int → Option Int) (x : It) (y : Nat) (u : Value) (wr : World) (i : Nat) (G : Nat → It) (m : Int → Option Int) (s : Nat) : Prop where
  at_ : u = .int .i64 (i : Int)
  raw : RawH wr g v bm n G m s
  hole : HoleUp n G i
  rep : Rep n (upd G i x) f
  whr : WhrH m n G i x
  cnt : cnt m x n s
  turn : Turn (Foot g bm v) w wr
  x0 : wr.cell? ⟨y, 0, none⟩ = some (.int .i64 x.1)
  x1 : wr.cell? ⟨y, 1, none⟩ = some (.int .i64 x.2)
  ylt : y < wr.heap.size
  yfar : ¬ Foot g bm v y

def UpPost (w : World) (g : Nat) (v : Value) (bm n : Nat) (f : Int → Option Int) (e : Ending) (w' : World) : Prop :=
  ∃ (i : Nat) (G : Nat → It) (m : Int → Option Int), e = .returned (.int .i64 (i : Int)) ∧ RawH w' g v bm n G m n ∧ DownIn n G i ∧ Rep n G f ∧ Whr m n G ∧ Turn (Foot g bm v) w w'

theorem cell_turn {F : Nat → Prop} {w w' : World} {y i : Nat} (h : Turn F w w') (hy : y < w.heap.size) (hn : ¬ F y) : w'.cell? ⟨y, i, none⟩ = w.cell? ⟨y, i, none⟩ := World.cell?_of_block (h.block y hy hn)

theorem bump_all {m : Int → Option Int} {x : It} {n s : Nat} (h : cnt m x n s) : bump m x.1 s = n := by
  unfold cnt at h
  unfold bump
  split <;> rename_i q <;> simp [q] at h <;> omega
theorem bump_has {m : Int → Option Int} {k : Int} {s : Nat} (h : (m k).isSome = true) : bump m k s = s := if_pos h

set_option maxHeartbeats 800000 in
theorem up_any (w : World) (g : Nat) (v : Value) (bm n : Nat) (G : Nat → It) (m : Int → Option Int) (s : Nat) (at_ : Nat) (f : Int → Option Int) (h : RawH w g v bm n G m s) (hu : HoleUp n G at_) (hr : Rep n G f) (hw : WhrH m n G at_ (G at_)) (hc : cnt m (G at_) n s) (hd : Dom f) :
    Calls Try.prog 45 #[.pointer (some ⟨g, 0, none⟩), .int .i64 (at_ : Int)] w (UpPost w g v bm n f) := by
  have ha := hu.lt
  have hn := hr.le hd
  obtain ⟨b, cap, rfl, hb⟩ := h.row.form (by omega)
  have c0 := h.c0
  have k0 := h.row.key ha
  have k1 := h.row.rank ha
  have hi : (at_ : Int) < (n : Int) := by omega
  have hgl : g < w.heap.size := h.glt
  go_enter Try.func45, Try.ntmps45
  go_wp2
  obtain ⟨x, hx⟩ : ∃ x, x = G at_ := ⟨_, rfl⟩
  obtain ⟨W0, hW0⟩ : ∃ W, W = w.alloc (.cells #[.int .i64 x.1, .int .i64 x.2] 52) := ⟨_, rfl⟩
  rw [← hx] at hw hc ⊢
  have R0 : RawH W0 g (.slice (some ⟨b, 0, none⟩) n cap) bm n G m s := by rw [hW0]; exact h.alloc _
  have T0 : Turn (Foot g bm (.slice (some ⟨b, 0, none⟩) n cap)) w W0 := by rw [hW0]; exact (Turn.refl _ _).alloc _
  have x0 : W0.cell? ⟨w.heap.size, 0, none⟩ = some (.int .i64 x.1) := by rw [hW0]; exact new_cell rfl _ _ _ 0
  have x1 : W0.cell? ⟨w.heap.size, 1, none⟩ = some (.int .i64 x.2) := by rw [hW0]; exact new_cell rfl _ _ _ 1
  have yl : w.heap.size < W0.heap.size := by rw [hW0]; simp
  have yf : ¬ Foot g bm (.slice (some ⟨b, 0, none⟩) n cap) w.heap.size := fun q => by have := h.foot_lt q; omega
  rw [← hW0]
  have hrx : Rep n (upd G at_ x) f := by rw [hx, upd_self]; exact hr
  clear hW0 c0 k0 k1 hgl h hr hx
  generalize w.heap.size = y at *
  go_loopw [1] (fun u wr => ∃ i Gi mi si, UpRel w g (.slice (some ⟨b, 0, none⟩) n cap) bm n f x y u wr i Gi mi si) (fun u _ => (intOf u).toNat)
  case atStart => exact ⟨at_, G, m, s, rfl, R0, hu, hrx, hw, hc, T0, x0, x1, yl, yf⟩
  case round =>
    obtain ⟨i, Gi, mi, si, rfl, R1, hu1, hr1, hw1, hc1, T1, z0, z1, yl1, yf1⟩ := hrel
    clear R0 T0 x0 x1 yl yf hrx hw hc hu ha hi hb
    have hil := hu1.lt
    have hx0 : f x.1 = some x.2 := by have := hr1.there i hil; rwa [upd_same] at this
    have hs0 : si ≤ n := by have := hc1; unfold cnt at this; omega
    have c0 := R1.c0
    by_cases h0 : i = 0
    · subst h0
      go_wp2_with fail
      go_quiet (fail)
      go_wp2_with fail
      refine (lay_any _ g _ bm n Gi mi si 0 x 0 rfl (R1.drewN _) hil (hd _ _ hx0) (by omega) (by omega)).mono ?_
      rintro e w2 ⟨rfl, R2, T2⟩
      rw [bump_all hc1] at R2
      go_wp2
      go_ret
      exact ⟨0, _, _, rfl, R2, hu1.done (.inl rfl), hr1, hw1.done hr1 hil, (T1.drewN _).trans T2 fun _ _ q => q⟩
    · obtain ⟨j, rfl⟩ : ∃ j, i = j + 1 := ⟨i - 1, by omega⟩
      have hj : j / 2 < n := by omega
      have k0 := R1.row.key hj
      have k1 := R1.row.rank hj
      have hd0 : (0 : Int) < ((j + 1 : Nat) : Int) := by omega
      have g0 : g < wr.heap.size := R1.glt
      have b0 : b < wr.heap.size := R1.foot_lt (.inr (.inr rfl))
      have hp0 : f (Gi (j / 2)).1 = some (Gi (j / 2)).2 := by have := hr1.there (j / 2) hj; rwa [upd_ne (by omega)] at this
      have w2 : IntKind.i64.wrap (j : Int) = (j : Int) := IntWalk.i64_in _ (by omega)
      have w3 : Int.tdiv (j : Int) 2 = (j : Int) / 2 := by rw [Int.tdiv_eq_ediv_of_nonneg (by omega)]
      have w4 : IntKind.i64.wrap ((j : Int) / 2) = (j : Int) / 2 := IntWalk.i64_in _ (by omega)
      have w5 : (0 : Int) ≤ (j : Int) / 2 := by omega
      have w6 : (j : Int) / 2 < (n : Int) := by omega
      have w7 : ((j : Int) / 2).toNat = j / 2 := by omega
      go_wp2_with fail
      refine still_tail 13 (by kernel_rfl) (by kernel_rfl) ?_
      simp only [List.take_succ_cons, List.take_zero, List.drop_succ_cons, List.drop_zero]
      repeat (with_reducible refine still_on (by with_unfolding_all rfl) ?_; intro K hK; go_simp; with_reducible refine hK _ ?_; clear hK K)
      with_reducible refine wpStill_nil ?_
      go_wp2_with fail
      refine (less_any x (Gi (j / 2)) _).mono ?_
      rintro e w1 ⟨rfl, hb1⟩
      have R2 := R1.drew.below hb1
      have T2 := T1.drew.trans (Turn.of_below (F := fun _ => False) hb1 (fun k hk _ => hk)) (fun _ _ q => q.elim)
      have y0 : w1.cell? ⟨y, 0, none⟩ = some (.int .i64 x.1) := (hb1.cell (p := ⟨y, 0, none⟩) yl1).trans z0
      have y1 : w1.cell? ⟨y, 1, none⟩ = some (.int .i64 x.2) := (hb1.cell (p := ⟨y, 1, none⟩) yl1).trans z1
      have yl2 : y < w1.heap.size := Nat.lt_of_lt_of_le yl1 hb1.size
      clear k0 k1 c0 g0 b0 hb1
      have c0 := R2.c0
      have k0 := R2.row.key hj
      have k1 := R2.row.rank hj
      cases hl : lessB x (Gi (j / 2)) with
      | false =>
        have HL := Lib.hid hl
        clear hl
        go_wp2_with fail
        refine (lay_any _ g _ bm n Gi mi si (j + 1) x _ rfl R2 hil (hd _ _ hx0) (by omega) (by omega)).mono ?_
        rintro e w2 ⟨rfl, R3, T3⟩
        rw [bump_all hc1] at R3
        go_wp2
        go_ret
        exact ⟨j + 1, _, _, rfl, R3, hu1.done (.inr (lessB_false.1 HL.out)), hr1, hw1.done hr1 hil, T2.trans T3 fun _ _ q => q⟩
      | true =>
        have HL := Lib.hid hl
        clear hl
        go_wp2_with fail
        refine (lay_any _ g _ bm n Gi mi si (j + 1) (Gi (j / 2)) _ rfl R2 hil (hd _ _ hp0) (by omega) (by omega)).mono ?_
        rintro e w2 ⟨rfl, R3, T3⟩
        rw [bump_has (hw1.has hj (by omega))] at R3
        have S3 := hu1.step (by omega)
        have P3 := hr1.move hil hj (by omega)
        have W3 := hw1.step hr1 hil hj (by omega)
        have C3 := hw1.cnt hr1 hil hj (by omega) hc1
        have y3 := (cell_turn (i := 0) T3 yl2 yf1).trans y0
        have y4 := (cell_turn (i := 1) T3 yl2 yf1).trans y1
        have yl3 := Nat.lt_of_lt_of_le yl2 T3.size
        have T4 := T2.trans T3 fun _ _ q => q
        clear y0 y1 yl2 k0 k1 c0 T2 R2 T3
        go_wp2
        go_roundw
        case rel => exact ⟨j / 2, _, _, _, by simp, R3, S3, P3, W3, C3, T4, y3, y4, yl3, yf1⟩
        case measure => simp [intOf]; omega

def DownPost (w : World) (g : Nat) (v : Value) (bm n : Nat) (f : Int → Option Int) (e : Ending) (w' : World) : Prop :=
  ∃ (G : Nat → It) (m : Int → Option Int), e = .returned (.tuple #[]) ∧ RawH w' g v bm n G m n ∧ Ord n G ∧ Rep n G f ∧ Whr m n G ∧ Turn (Foot g bm v) w w'

structure DownRel (w : World) (g : Nat) (v : Value) (bm n : Nat) (f : Int → Option Int) (x : It) (y : Nat) (u : Value) (wr : World) (i : Nat) (G : Nat → It) (m : Int → Option Int) : Prop where
  at_ : u = .int .i64 (i : Int)
  raw : RawH wr g v bm n G m n
  hole : DownH n G i x
  rep : Rep n (upd G i x) f
  whr : WhrH m n G i x
  cnt : cnt m x n n
  turn : Turn (Foot g bm v) w wr
  x0 : wr.cell? ⟨y, 0, none⟩ = some (.int .i64 x.1)
  x1 : wr.cell? ⟨y, 1, none⟩ = some (.int .i64 x.2)
  ylt : y < wr.heap.size
  yfar : ¬ Foot g bm v y

/-- the one of i's children that is ahead -/
def Child (n : Nat) (G : Nat → It) (i k : Nat) : Prop := 1 ≤ k ∧ k < n ∧ (k - 1) / 2 = i ∧ ∀ c, 1 ≤ c → c < n → (c - 1) / 2 = i → le (G k) (G c)

structure DownTest (w : World) (g : Nat) (v : Value) (bm n : Nat) (i : Nat) (G : Nat → It) (m : Int → Option Int) (u : Value) (wr : World) (t : Bool) : Prop where
  at_ : u = .bool t
  raw : RawH wr g v bm n G m n
  child : Child n G i (if t then 2 * i + 2 else 2 * i + 1)
  turn : Turn (fun _ => False) w wr
structure DownCut (w : World) (g : Nat) (v : Value) (bm n : Nat) (x : It) (y i : Nat) (G : Nat → It) (m : Int → Option Int) (u : Value) (wr : World) (k : Nat) : Prop where
  at_ : u = .int .i64 (k : Int)
  raw : RawH wr g v bm n G m n
  child : Child n G i k
  turn : Turn (fun _ => False) w wr

set_option maxHeartbeats 1600000 in
theorem down_any (w : World) (g : Nat) (v : Value) (bm n : Nat) (G : Nat → It) (m : Int → Option Int) (at_ : Nat) (f : Int → Option Int) (h : RawH w g v bm n G m n) (hu : DownIn n G at_) (hr : Rep n G f) (hw0 : Whr m n G) (hd : Dom f) :
    Calls Try.prog 44 #[.pointer (some ⟨g, 0, none⟩), .int .i64 (at_ : Int)] w (DownPost w g v bm n f) := by
  have ha := hu.lt
  have hn := hr.le hd
  obtain ⟨b, cap, rfl, hb⟩ := h.row.form (by omega)
  have c0 := h.c0
  have k0 := h.row.key ha
  have k1 := h.row.rank ha
  have hi : (at_ : Int) < (n : Int) := by omega
  have hgl : g < w.heap.size := h.glt
  have hc : cnt m (G at_) n n := by unfold cnt; rw [hw0.at_ at_ ha]; rfl
  have hw : WhrH m n G at_ (G at_) := hw0.hole
  have hu2 := hu.open
  go_enter Try.func44, Try.ntmps44
  go_wp2
  go_step3
  go_wp2
  obtain ⟨x, hx⟩ : ∃ x, x = G at_ := ⟨_, rfl⟩
  obtain ⟨W0, hW0⟩ : ∃ W, W = w.alloc (.cells #[.int .i64 x.1, .int .i64 x.2] 52) := ⟨_, rfl⟩
  rw [← hx] at hw hc hu2 ⊢
  have R0 : RawH W0 g (.slice (some ⟨b, 0, none⟩) n cap) bm n G m n := by rw [hW0]; exact h.alloc _
  have T0 : Turn (Foot g bm (.slice (some ⟨b, 0, none⟩) n cap)) w W0 := by rw [hW0]; exact (Turn.refl _ _).alloc _
  have x0 : W0.cell? ⟨w.heap.size, 0, none⟩ = some (.int .i64 x.1) := by rw [hW0]; exact new_cell rfl _ _ _ 0
  have x1 : W0.cell? ⟨w.heap.size, 1, none⟩ = some (.int .i64 x.2) := by rw [hW0]; exact new_cell rfl _ _ _ 1
  have yl : w.heap.size < W0.heap.size := by rw [hW0]; simp
  have yf : ¬ Foot g bm (.slice (some ⟨b, 0, none⟩) n cap) w.heap.size := fun q => by have := h.foot_lt q; omega
  rw [← hW0]
  have hrx : Rep n (upd G at_ x) f := by rw [hx, upd_self]; exact hr
  clear hW0 c0 k0 k1 hgl h hr hx hw0 hu
  generalize w.heap.size = y at *
  go_step3
  go_wp2
  go_loopw [1] (fun u wr => ∃ i Gi mi, DownRel w g (.slice (some ⟨b, 0, none⟩) n cap) bm n f x y u wr i Gi mi) (fun u _ => n - (intOf u).toNat)
  case atStart => exact ⟨at_, G, m, rfl, R0, hu2, hrx, hw, hc, T0, x0, x1, yl, yf⟩
  case round =>
    obtain ⟨i, Gi, mi, rfl, R1, hu1, hr1, hw1, hc1, T1, z0, z1, yl1, yf1⟩ := hrel
    clear R0 T0 x0 x1 yl yf hrx hw hc hu2 ha hi hb
    have hil := hu1.lt
    have hx0 : f x.1 = some x.2 := by have := hr1.there i hil; rwa [upd_same] at this
    have c0 := R1.c0
    by_cases h0 : n ≤ 2 * i + 1
    · have hd0 : decide ((n : Int) ≤ 2 * (i : Int) + 1) = true := by simp; omega
      go_wp2_with fail
      refine (lay_any _ g _ bm n Gi mi n i x _ rfl R1 hil (hd _ _ hx0) (by omega) (by omega)).mono ?_
      rintro e w2 ⟨rfl, R2, T2⟩
      rw [bump_all hc1] at R2
      go_wp2
      go_end0
      exact ⟨_, _, rfl, R2, hu1.done (fun c h1 h2 h3 => by omega), hr1, hw1.done hr1 hil, T1.trans T2 fun _ _ q => q⟩
    · have hd0 : decide ((n : Int) ≤ 2 * (i : Int) + 1) = false := by simp; omega
      go_upto_if 48 with fail
      go_cut [48] (fun u48 wc => ∃ t, DownTest wr g (.slice (some ⟨b, 0, none⟩) n cap) bm n i Gi mi u48 wc t)
      case first =>
        have g0 : g < wr.heap.size := R1.glt
        have b0 : b < wr.heap.size := R1.foot_lt (.inr (.inr rfl))
        by_cases h2 : 2 * i + 2 < n
        · have k0 := R1.row.key (j := 2 * i + 1) (by omega)
          have k1 := R1.row.rank (j := 2 * i + 1) (by omega)
          have k2 := R1.row.key h2
          have k3 := R1.row.rank h2
          have e1 : IntKind.i64.wrap (2 * (i : Int) + 1 + 1) = 2 * (i : Int) + 2 := by rw [show 2 * (i : Int) + 1 + 1 = 2 * (i : Int) + 2 from by omega]; exact IntWalk.i64_in _ (by omega)
          have e2 : (2 * (i : Int) + 2).toNat = 2 * i + 2 := by omega
          have e3 : (2 * (i : Int) + 1).toNat = 2 * i + 1 := by omega
          have e4 : 2 * (i : Int) + 2 < (n : Int) := by omega
          have e5 : 0 ≤ 2 * (i : Int) + 2 := by omega
          have e6 : 2 * (i : Int) + 1 < (n : Int) := by omega
          have e7 : 0 ≤ 2 * (i : Int) + 1 := by omega
          refine still_tail 24 (by kernel_rfl) (by kernel_rfl) ?_
          simp only [List.take_succ_cons, List.take_zero, List.drop_succ_cons, List.drop_zero]
          repeat (with_reducible refine still_on (by with_unfolding_all rfl) ?_; intro K hK; go_simp; with_reducible refine hK _ ?_; clear hK K)
          with_reducible refine wpStill_nil ?_
          go_wp2_with fail
          refine (less_any (Gi (2 * i + 2)) (Gi (2 * i + 1)) _).mono ?_
          rintro e w1 ⟨rfl, hb1⟩
          have R2 := R1.drew.below hb1
          have T2 : Turn (fun _ => False) wr w1 := ((Turn.refl _ wr).drew).trans (Turn.of_below (F := fun _ => False) hb1 (fun k hk _ => hk)) (fun _ _ q => q.elim)
          clear k0 k1 k2 k3 c0
          cases hl : lessB (Gi (2 * i + 2)) (Gi (2 * i + 1)) with
          | false =>
            have HL := Lib.hid hl
            clear hl
            go_wp2_with fail
            go_meet
            refine ⟨false, rfl, R2, ⟨by simp, by simp <;> omega, by simp <;> omega, fun c h3 h4 h5 => ?_⟩, T2⟩
            rcases (show c = 2 * i + 1 ∨ c = 2 * i + 2 by omega) with rfl | rfl
            · exact le_refl _
            · exact lessB_false.1 HL.out
          | true =>
            have HL := Lib.hid hl
            clear hl
            go_wp2_with fail
            go_meet
            refine ⟨true, rfl, R2, ⟨by simp, by simp <;> omega, by simp <;> omega, fun c h3 h4 h5 => ?_⟩, T2⟩
            rcases (show c = 2 * i + 1 ∨ c = 2 * i + 2 by omega) with rfl | rfl
            · exact le_of_less HL.out
            · exact le_refl _
        · have hd1 : decide (2 * (i : Int) + 1 + 1 < (n : Int)) = false := by simp; omega
          go_quiet (fail)
          go_wp2_with fail
          go_meet
          refine ⟨false, rfl, R1.drewN _, ⟨by simp, by simp <;> omega, by simp <;> omega, fun c h3 h4 h5 => ?_⟩, (Turn.refl _ wr).drewN _⟩
          obtain rfl : c = 2 * i + 1 := by omega
          exact le_refl _
      case rest =>
        obtain ⟨t, rfl, R2, hch, T2⟩ := hcut
        go_upto_if 48 with fail
        go_cut [5] (fun u5 wd => ∃ k, DownCut wr g (.slice (some ⟨b, 0, none⟩) n cap) bm n x y i Gi mi u5 wd k)
        case first =>
          cases t
          · go_wp2_with fail
            go_meet
            exact ⟨2 * i + 1, by simp, R2, hch, T2⟩
          · go_wp2_with fail
            go_meet
            exact ⟨2 * i + 2, by simp; omega, R2, hch, T2⟩
        clear R2 hch T2
        obtain ⟨k, rfl, R2, hch, T2⟩ := hcut
        obtain ⟨q1, q2, q3, q4⟩ := hch
        have y0 := (cell_turn (i := 0) T2 yl1 (fun q => q)).trans z0
        have y1 := (cell_turn (i := 1) T2 yl1 (fun q => q)).trans z1
        have yl2 := Nat.lt_of_lt_of_le yl1 T2.size
        have T3 := T1.trans T2 fun _ _ q => q.elim
        have hp0 : f (Gi k).1 = some (Gi k).2 := by have := hr1.there k q2; rwa [upd_ne (by omega)] at this
        clear T2 T1 R1 z0 z1 yl1 c0
        have c0 := R2.c0
        have k0 := R2.row.key q2
        have k1 := R2.row.rank q2
        have g0 : g < wc.heap.size := R2.glt
        have e1 : (k : Int) < (n : Int) := by omega
        go_wp2_with fail
        refine still_tail 8 (by kernel_rfl) (by kernel_rfl) ?_
        simp only [List.take_succ_cons, List.take_zero, List.drop_succ_cons, List.drop_zero]
        repeat (with_reducible refine still_on (by with_unfolding_all rfl) ?_; intro K hK; go_simp; with_reducible refine hK _ ?_; clear hK K)
        with_reducible refine wpStill_nil ?_
        go_wp2_with fail
        refine (less_any (Gi k) x _).mono ?_
        rintro e w1 ⟨rfl, hb1⟩
        have R3 := R2.drew.below hb1
        have T4 := T3.drew.trans (Turn.of_below (F := fun _ => False) hb1 (fun k hk _ => hk)) (fun _ _ q => q.elim)
        have y3 : w1.cell? ⟨y, 0, none⟩ = some (.int .i64 x.1) := (hb1.cell (p := ⟨y, 0, none⟩) yl2).trans y0
        have y4 : w1.cell? ⟨y, 1, none⟩ = some (.int .i64 x.2) := (hb1.cell (p := ⟨y, 1, none⟩) yl2).trans y1
        have yl3 : y < w1.heap.size := Nat.lt_of_lt_of_le yl2 hb1.size
        clear k0 k1 c0 g0 hb1 y0 y1 yl2 R2 T3
        have c0 := R3.c0
        have k0 := R3.row.key q2
        have k1 := R3.row.rank q2
        cases hl : lessB (Gi k) x with
        | false =>
          have HL := Lib.hid hl
          clear hl
          go_wp2_with fail
          refine (lay_any _ g _ bm n Gi mi n i x _ rfl R3 hil (hd _ _ hx0) (by omega) (by omega)).mono ?_
          rintro e w2 ⟨rfl, R4, T5⟩
          rw [bump_all hc1] at R4
          go_wp2
          go_end0
          exact ⟨_, _, rfl, R4, hu1.done (fun c h1 h2 h3 => le_trans (lessB_false.1 HL.out) (q4 c h1 h2 h3)), hr1, hw1.done hr1 hil, T4.trans T5 fun _ _ q => q⟩
        | true =>
          have HL := Lib.hid hl
          clear hl
          go_wp2_with fail
          refine (lay_any _ g _ bm n Gi mi n i (Gi k) _ rfl R3 hil (hd _ _ hp0) (by omega) (by omega)).mono ?_
          rintro e w2 ⟨rfl, R4, T5⟩
          rw [bump_has (hw1.has q2 (by omega))] at R4
          have S3 := hu1.step q2 q1 q3 (le_of_less HL.out) q4
          have P3 := hr1.move hil q2 (by omega)
          have W3 := hw1.step hr1 hil q2 (by omega)
          have C3 := hw1.cnt hr1 hil q2 (by omega) hc1
          have y5 := (cell_turn (i := 0) T5 yl3 yf1).trans y3
          have y6 := (cell_turn (i := 1) T5 yl3 yf1).trans y4
          have yl4 := Nat.lt_of_lt_of_le yl3 T5.size
          have T6 := T4.trans T5 fun _ _ q => q
          clear y3 y4 yl3 k0 k1 c0 T4 R3 T5
          go_wp2
          go_roundw
          case rel => exact ⟨k, _, _, rfl, R4, S3, P3, W3, C3, T6, y5, y6, yl4, yf1⟩
          case measure => simp [intOf]; omega
end Go.Proofs.Ytchlccendggfpaa.Hp
