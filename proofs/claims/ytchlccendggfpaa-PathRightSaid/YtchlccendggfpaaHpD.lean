/- Walks: a key dropped. -/
import Derived.Test.YtchlccendggfpaaHpN0
namespace Go.Proofs.Ytchlccendggfpaa.Hp
open Go.RowKit Go.Maps Go.Proofs
set_option linter.unusedVariables false
set_option linter.unusedSimpArgs false

theorem drop_no (w : World) (g : Nat) (F : Nat → Prop) (f : Int → Option Int) (n : Nat) (key : Int) (h : HeapIs w g F f n) (hf : f key = none) :
    Calls Try.prog 47 #[.pointer (some ⟨g, 0, none⟩), .int .i64 key] w fun e w' => e = .returned (.bool false) ∧ w = w' := by
  obtain ⟨v, bm, G, m, h1, h2, h3, h4, h5, rfl⟩ := h
  by_cases hk : Key key
  · rcases h4.find h3 key with ⟨hm, _⟩ | ⟨j, hj, hm, hg, hf2⟩
    · have HM := Lib.hid hm
      clear hm hf
      go_enter Try.func47, Try.ntmps47
      go_wp2_with fail
      refine (place_in _ g _ bm _ G m _ key h1 hk).mono ?_
      rintro e w1 ⟨rfl, rfl⟩
      rw [HM.out]
      simp only [Option.getD_none]
      go_wp2
      go_ret
      exact ⟨rfl, rfl⟩
    · rw [hf] at hf2; simp at hf2
  · clear hf
    go_enter Try.func47, Try.ntmps47
    go_wp2_with fail
    refine (place_out _ g key hk).mono ?_
    rintro e w1 ⟨rfl, rfl⟩
    go_wp2
    go_ret
    exact ⟨rfl, rfl⟩

set_option maxHeartbeats 800000 in
theorem drop_yes (w : World) (g : Nat) (v : Value) (bm n : Nat) (G : Nat → It) (m : Int → Option Int) (f : Int → Option Int) (j : Nat) (key : Int) (h : RawH w g v bm (n + 1) G m (n + 1)) (ho : Ord (n + 1) G) (hr : Rep (n + 1) G f) (hw : Whr m (n + 1) G) (hd : Dom f)
    (hk : Key key) (hj : j < n + 1) (hm : m key = some (j : Int)) (hg : (G j).1 = key) :
    Calls Try.prog 47 #[.pointer (some ⟨g, 0, none⟩), .int .i64 key] w (PutPost w g (Foot g bm v) (upd f key none) n) := by
  obtain ⟨b, cap, rfl, hb⟩ := h.row.form (by omega)
  have hn := hr.le hd
  have c0 := h.c0
  have hgl := h.glt
  have k0 := h.row.key (j := n) (by omega)
  have k1 := h.row.rank (j := n) (by omega)
  have HM := Lib.hid hm
  have HG := Lib.hid hg
  have e1 : (((n + 1 : Nat) : Int) - 1) = (n : Int) := by omega
  have e2 : IntKind.i64.wrap (((n + 1 : Nat) : Int) - 1) = (n : Int) := by rw [e1]; exact IntWalk.i64_in _ (by omega)
  have e3 : (n : Int) < ((n + 1 : Nat) : Int) := by omega
  clear hm hg
  go_enter Try.func47, Try.ntmps47
  go_wp2_with fail
  refine (place_in _ g _ bm _ G m _ key h hk).mono ?_
  rintro e w1 ⟨rfl, rfl⟩
  rw [HM.out]
  simp only [Option.getD_some]
  go_wp2_with fail
  go_region
  go_wp2_with fail
  obtain ⟨x, hx⟩ : ∃ x, x = G n := ⟨_, rfl⟩
  obtain ⟨W1, hW1⟩ : ∃ W, W = (w.alloc (.cells #[.int .i64 x.1, .int .i64 x.2] 52)).drew := ⟨_, rfl⟩
  rw [← hx]
  rw [← hW1]
  have R1 : RawH W1 g (.slice (some ⟨b, 0, none⟩) (n + 1) cap) bm (n + 1) G m (n + 1) := by rw [hW1]; exact (h.alloc _).drew
  have T1 : Turn (Foot g bm (.slice (some ⟨b, 0, none⟩) (n + 1) cap)) w W1 := by rw [hW1]; exact ((Turn.refl _ _).alloc _).drew
  have x0 : W1.cell? ⟨w.heap.size, 0, none⟩ = some (.int .i64 x.1) := by rw [hW1]; exact new_cell rfl _ _ _ 0
  have x1 : W1.cell? ⟨w.heap.size, 1, none⟩ = some (.int .i64 x.2) := by rw [hW1]; exact new_cell rfl _ _ _ 1
  have yl : w.heap.size < W1.heap.size := by rw [hW1]; simp
  have yf : ¬ Foot g bm (.slice (some ⟨b, 0, none⟩) (n + 1) cap) w.heap.size := fun q => by have := h.foot_lt q; omega
  clear hW1 c0 k0 k1 hgl h hb e1
  generalize w.heap.size = y at *
  have HX := Lib.hid hx
  clear hx
  have c0 := R1.c0
  have f0 := R1.f 0
  have hgl := R1.glt
  obtain ⟨_, _, hcap⟩ := R1.row.blk
  have e4 : IntKind.i64.wrap (n : Int) = (n : Int) := IntWalk.i64_in _ (by omega)
  have e5 : (n : Int) ≤ (cap : Int) := by omega
  go_region
  go_upto_region 6 with fail
  obtain ⟨W2, hW2⟩ : ∃ W, W = (W1.setCell ⟨g, 0, none⟩ (.slice (some ⟨b, 0, none⟩) n cap)).drew := ⟨_, rfl⟩
  rw [← hW2]
  have R2 : RawH W2 g (.slice (some ⟨b, 0, none⟩) n cap) bm n G m (n + 1) := by rw [hW2]; exact R1.pop.drew
  have T2 : Turn (Foot g bm (.slice (some ⟨b, 0, none⟩) (n + 1) cap)) w W2 := by rw [hW2]; exact (T1.setCell (.inl (.inl rfl)) _).drew
  have gy : y ≠ g := fun e => yf (.inl e)
  have x2 : W2.cell? ⟨y, 0, none⟩ = some (.int .i64 x.1) := by rw [hW2]; exact (World.cell?_of_block (w := W1) (Below.heap_setCell _ _ _ _ gy)).trans x0
  have x3 : W2.cell? ⟨y, 1, none⟩ = some (.int .i64 x.2) := by rw [hW2]; exact (World.cell?_of_block (w := W1) (Below.heap_setCell _ _ _ _ gy)).trans x1
  have yl2 : y < W2.heap.size := by rw [hW2]; simpa [World.setCell] using yl
  clear hW2 c0 f0 hgl e4 e5 e2 e3 R1 T1 x0 x1 yl
  have hd2 : Dom (upd f key none) := hd.drop key
  have hF : ∀ k, Foot g bm (.slice (some ⟨b, 0, none⟩) n cap) k → Foot g bm (.slice (some ⟨b, 0, none⟩) (n + 1) cap) k := fun k q => q
  have c0 := R2.c0
  have c1 := R2.c1
  by_cases h0 : n = 0
  · subst h0
    go_wp2_with (refine wpList_clear (P := Try.prog) (K := 3) _ rfl _ 67 rfl Try.underlying67 bm 1 m rfl R2.map ?_; intro w1 hm1 ht1)
    go_ret
    have r2 := (hr.drop hj).zero (g' := G)
    rw [HG.out] at r2
    exact ⟨rfl, _, ⟨_, _, _, _, R2.put hm1 ht1, fun c h1 h2 => by omega, r2, ⟨fun j hj => by omega, fun k v h => by simp at h⟩, hd2, rfl⟩, fun k q => .inl (hF k q), T2.map ht1 (.inl (.inr (.inl rfl)))⟩
  · have d0 : ((n : Int) == 0) = false := by simp; omega
    have hsome : less1 m key (n + 1) = n := by unfold less1; rw [HM.out]; rfl
    by_cases hl : j = n
    · subst hl
      have d1 : decide ((j : Int) < (j : Int)) = false := by simp
      go_wp2_with (at_delete; refine wpList_strike (P := Try.prog) (K := 3) _ rfl _ _ 67 rfl Try.underlying3 Try.underlying67 bm (j + 1) m rfl R2.map key rfl (small_key hk) ?_; intro w1 hm1 ht1; rw [hsome] at hm1; have c2 := (R2.put hm1 ht1).c0)
      go_ret
      have r2 := hr.drop_last
      rw [HG.out] at r2
      have w2 := hw.drop_last hr
      rw [HG.out] at w2
      exact ⟨rfl, _, ⟨_, _, _, _, R2.put hm1 ht1, ho.less (by omega), r2, w2, hd2, rfl⟩, fun k q => .inl (hF k q), T2.map ht1 (.inl (.inr (.inl rfl)))⟩
    · have hjn : j < n := by omega
      have d1 : decide ((j : Int) < (n : Int)) = true := by simp; omega
      go_upto_region 11 with (at_delete; refine wpList_strike (P := Try.prog) (K := 3) _ rfl _ _ 67 rfl Try.underlying3 Try.underlying67 bm (n + 1) m rfl R2.map key rfl (small_key hk) ?_; intro w1 hm1 ht1; rw [hsome] at hm1; have c2 := (R2.put hm1 ht1).c0)
      have R3 := R2.put hm1 ht1
      have T3 := T2.map ht1 (.inl (.inr (.inl rfl)))
      have yb : y ≠ bm := fun e => yf (.inr (.inl e))
      have hg1 := ht1.grown
      have x4 : w1.cell? ⟨y, 0, none⟩ = some (.int .i64 x.1) := (hg1.cell_far ⟨y, 0, none⟩ yl2 (by intro e; injection e with e; exact yb e)).trans x2
      have x5 : w1.cell? ⟨y, 1, none⟩ = some (.int .i64 x.2) := (hg1.cell_far ⟨y, 1, none⟩ yl2 (by intro e; injection e with e; exact yb e)).trans x3
      clear x2 x3 hg1 ht1 hm1 R2 T2 c0 c1 yl2
      have k0 := R3.row.key hjn
      have k1 := R3.row.rank hjn
      have f0 := R3.row.frozen (j * 2)
      have f1 := R3.row.frozen (j * 2 + 1)
      have e6 : (j : Int) < (n : Int) := by omega
      refine still_tail 7 (by kernel_rfl) (by kernel_rfl) ?_
      simp only [List.take_succ_cons, List.take_zero, List.drop_succ_cons, List.drop_zero]
      repeat (with_reducible refine still_on (by with_unfolding_all rfl) ?_; intro K hK; go_simp; with_reducible refine hK _ ?_; clear hK K)
      with_reducible refine wpStill_nil ?_
      go_wp2_with fail
      obtain ⟨W3, hW3⟩ : ∃ W, W = ((w1.setCell ⟨b, j * 2, none⟩ (.int .i64 x.1)).setCell ⟨b, j * 2 + 1, none⟩ (.int .i64 x.2)).drew := ⟨_, rfl⟩
      have R4 : RawH W3 g (.slice (some ⟨b, 0, none⟩) n cap) bm n (upd G j x) (upd m key none) n := by rw [hW3]; exact (R3.store hjn x).drew
      have T4 : Turn (Foot g bm (.slice (some ⟨b, 0, none⟩) (n + 1) cap)) w W3 := by
        rw [hW3]; exact ((T3.setCell (p := ⟨b, j * 2, none⟩) (.inl (.inr (.inr rfl))) _).setCell (p := ⟨b, j * 2 + 1, none⟩) (.inl (.inr (.inr rfl))) _).drew
      rw [← hW3]
      clear hW3 k0 k1 f0 f1 c2 x4 x5
      have r2 := hr.drop hj
      have w2 := hw.drop hr hjn
      rw [HG.out, ← HX.out] at r2 w2
      have o2 : HoleUp n (upd G j x) j := (ho.less (m := n) (by omega)).hole hjn x
      have ce : cnt (upd m key none) (upd G j x j) n n := by
        rw [upd_same]
        unfold cnt
        have hn0 := hw.at_ n (by omega)
        have hne : x.1 ≠ key := by
          rw [HX.out, ← HG.out]
          intro e
          have := hr.apart n j (by omega) hj e
          omega
        rw [upd_ne hne, HX.out, hn0]; rfl
      refine (up_any W3 g _ bm n _ _ n j _ R4 o2 r2 (by rw [upd_same]; exact w2) ce hd2).mono ?_
      rintro e w2 ⟨i, G3, m3, rfl, R5, D5, P5, W5, T5⟩
      go_wp2_with fail
      refine (down_any w2 g _ bm n G3 m3 i _ R5 D5 P5 W5 hd2).mono ?_
      rintro e w3 ⟨G6, m6, rfl, R6, D6, P6, W6, T6⟩
      go_wp2
      go_ret
      exact ⟨rfl, _, ⟨_, _, _, _, R6, D6, P6, W6, hd2, rfl⟩, fun k q => .inl (hF k q), (T4.trans T5 fun k _ q => hF k q).trans T6 fun k _ q => hF k q⟩

theorem drop_any (w : World) (g : Nat) (F : Nat → Prop) (f : Int → Option Int) (n : Nat) (key r : Int) (h : HeapIs w g F f n) (hf : f key = some r) :
    Calls Try.prog 47 #[.pointer (some ⟨g, 0, none⟩), .int .i64 key] w (PutPost w g F (upd f key none) (n - 1)) := by
  obtain ⟨v, bm, G, m, h1, h2, h3, h4, h5, rfl⟩ := h
  rcases h4.find h3 key with ⟨_, hf2⟩ | ⟨j, hj, hm, hg, _⟩
  · rw [hf] at hf2; simp at hf2
  · obtain ⟨n, rfl⟩ : ∃ k, n = k + 1 := ⟨n - 1, by omega⟩
    exact drop_yes w g v bm n G m f j key h1 h2 h3 h4 h5 (h5 _ _ hf) hj hm hg

end Go.Proofs.Ytchlccendggfpaa.Hp
