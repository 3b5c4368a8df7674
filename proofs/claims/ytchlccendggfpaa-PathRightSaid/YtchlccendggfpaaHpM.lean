/- Walks: what a heap's calls do, said of what is there. -/
import Derived.Test.YtchlccendggfpaaHpU
namespace Go.Proofs.Ytchlccendggfpaa.Hp
open Go.RowKit Go.Maps Go.Proofs
set_option linter.unusedVariables false
set_option linter.unusedSimpArgs false

/-- block g is a heap of n keys that f tells; its own blocks are those of F -/
def HeapIs (w : World) (g : Nat) (F : Nat → Prop) (f : Int → Option Int) (n : Nat) : Prop :=
  ∃ v bm G m, RawH w g v bm n G m n ∧ Ord n G ∧ Rep n G f ∧ Whr m n G ∧ Dom f ∧ F = Foot g bm v
/-- behind a call it is one again; only its own blocks, and what is new, have turned -/
def Next (w : World) (g : Nat) (F : Nat → Prop) (f : Int → Option Int) (n : Nat) (w' : World) : Prop :=
  ∃ F', HeapIs w' g F' f n ∧ (∀ k, F' k → F k ∨ w.heap.size ≤ k) ∧ Turn F w w'

theorem HeapIs.keep {w w' : World} {g n : Nat} {F : Nat → Prop} {f : Int → Option Int} (h : HeapIs w g F f n) (hk : ∀ k, F k → w'.heap[k]? = w.heap[k]?) : HeapIs w' g F f n := by
  obtain ⟨v, bm, G, m, h1, h2, h3, h4, h5, rfl⟩ := h
  exact ⟨v, bm, G, m, h1.keep hk, h2, h3, h4, h5, rfl⟩
theorem HeapIs.lt {w : World} {g n : Nat} {F : Nat → Prop} {f : Int → Option Int} (h : HeapIs w g F f n) {k : Nat} (hk : F k) : k < w.heap.size := by
  obtain ⟨v, bm, G, m, h1, h2, h3, h4, h5, rfl⟩ := h
  exact h1.foot_lt hk
theorem HeapIs.turn {w w' : World} {g n : Nat} {F F2 : Nat → Prop} {f : Int → Option Int} (h : HeapIs w g F f n) (ht : Turn F2 w w') (hd : ∀ k, F k → ¬ F2 k) : HeapIs w' g F f n :=
  h.keep fun k hk => ht.block k (h.lt hk) (hd k hk)
theorem HeapIs.below {w w' : World} {g n : Nat} {F : Nat → Prop} {f : Int → Option Int} (h : HeapIs w g F f n) (hb : Below w.heap.size w w') : HeapIs w' g F f n :=
  h.keep fun k hk => hb.block k (h.lt hk)
theorem HeapIs.le {w : World} {g n : Nat} {F : Nat → Prop} {f : Int → Option Int} (h : HeapIs w g F f n) : n ≤ 300 := by
  obtain ⟨v, bm, G, m, h1, h2, h3, h4, h5, rfl⟩ := h
  exact h3.le h5

def Key (k : Int) : Prop := 0 ≤ k ∧ k < 300

theorem place_out (w : World) (g : Nat) (key : Int) (hk : ¬ Key key) :
    Calls Try.prog 43 #[.pointer (some ⟨g, 0, none⟩), .int .i64 key] w fun e w' => e = .returned (.int .i64 (-1)) ∧ w = w' := by
  unfold Key at hk
  by_cases h0 : key < 0
  · have d0 : decide (key < 0) = true := by simpa using h0
    go_enter Try.func43, Try.ntmps43
    go_wp2
    go_ret
    exact ⟨rfl, rfl⟩
  · have d0 : decide (key < 0) = false := by simpa using h0
    have d1 : 300 ≤ key := by omega
    go_enter Try.func43, Try.ntmps43
    go_wp2
    go_ret
    exact ⟨rfl, rfl⟩

theorem place_in (w : World) (g : Nat) (v : Value) (bm n : Nat) (G : Nat → It) (m : Int → Option Int) (s : Nat) (key : Int) (h : RawH w g v bm n G m s) (hk : Key key) :
    Calls Try.prog 43 #[.pointer (some ⟨g, 0, none⟩), .int .i64 key] w fun e w' => e = .returned (.int .i64 ((m key).getD (-1))) ∧ w = w' := by
  have d0 : decide (key < 0) = false := by have := hk.1; simp; omega
  have d1 : decide (300 ≤ key) = false := by have := hk.2; simp; omega
  have c1 := h.c1
  have hz : (zeroValue 3).run Try.prog w = .ok (.int .i64 0) w := by kernel_rfl
  cases hm : m key with
  | none =>
    have HM := Lib.hid hm
    clear hm
    go_enter Try.func43, Try.ntmps43
    go_wp2_with (first | (at_lookup; refine wpList_get (P := Try.prog) (K := 3) _ rfl _ _ 67 rfl Try.underlying3 Try.underlying67 hz bm s m rfl h.map key rfl (small_key hk) ?_; rw [HM.out]))
    go_ret
    exact ⟨rfl, rfl⟩
  | some u =>
    have HM := Lib.hid hm
    clear hm
    go_enter Try.func43, Try.ntmps43
    go_wp2_with (first | (at_lookup; refine wpList_get (P := Try.prog) (K := 3) _ rfl _ _ 67 rfl Try.underlying3 Try.underlying67 hz bm s m rfl h.map key rfl (small_key hk) ?_; rw [HM.out]))
    go_ret
    exact ⟨rfl, rfl⟩

theorem put_out (w : World) (g : Nat) (key rank : Int) (hk : ¬ Key key) :
    Calls Try.prog 29 #[.pointer (some ⟨g, 0, none⟩), .int .i64 key, .int .i64 rank] w fun e w' => e = .returned (.bool false) ∧ w = w' := by
  unfold Key at hk
  by_cases h0 : key < 0
  · have d0 : decide (key < 0) = true := by simpa using h0
    go_enter Try.func29, Try.ntmps29
    go_wp2
    go_ret
    exact ⟨rfl, rfl⟩
  · have d0 : decide (key < 0) = false := by simpa using h0
    have d1 : 300 ≤ key := by omega
    go_enter Try.func29, Try.ntmps29
    go_wp2
    go_ret
    exact ⟨rfl, rfl⟩

def PutPost (w : World) (g : Nat) (F : Nat → Prop) (f : Int → Option Int) (n : Nat) (e : Ending) (w' : World) : Prop := e = .returned (.bool true) ∧ Next w g F f n w'

theorem put_old (w : World) (g : Nat) (v : Value) (bm n : Nat) (G : Nat → It) (m : Int → Option Int) (f : Int → Option Int) (j : Nat) (key rank : Int) (h : RawH w g v bm n G m n) (ho : Ord n G) (hr : Rep n G f) (hw : Whr m n G) (hd : Dom f)
    (hk : Key key) (hj : j < n) (hm : m key = some (j : Int)) (hg : (G j).1 = key) :
    Calls Try.prog 29 #[.pointer (some ⟨g, 0, none⟩), .int .i64 key, .int .i64 rank] w (PutPost w g (Foot g bm v) (upd f key (some rank)) n) := by
  have d0 : decide (key < 0) = false := by have := hk.1; simp; omega
  have d1 : decide (300 ≤ key) = false := by have := hk.2; simp; omega
  obtain ⟨b, cap, rfl, hb⟩ := h.row.form (by omega)
  have hn := hr.le hd
  have c0 := h.c0
  have k0 := h.row.key hj
  have k1 := h.row.rank hj
  have f0 := h.row.frozen (j * 2)
  have f1 := h.row.frozen (j * 2 + 1)
  have hi : (j : Int) < (n : Int) := by omega
  have HM := Lib.hid hm
  have HG := Lib.hid hg
  clear hm hg
  go_enter Try.func29, Try.ntmps29
  go_wp2_with fail
  refine (place_in _ g _ bm n G m n key h hk).mono ?_
  rintro e w1 ⟨rfl, rfl⟩
  rw [HM.out]
  simp only [Option.getD_some]
  go_wp2_with fail
  obtain ⟨W, hW⟩ : ∃ W, W = (w.setCell ⟨b, j * 2, none⟩ (.int .i64 key)).setCell ⟨b, j * 2 + 1, none⟩ (.int .i64 rank) := ⟨_, rfl⟩
  have R2 : RawH W g (.slice (some ⟨b, 0, none⟩) n cap) bm n (upd G j (key, rank)) m n := by rw [hW]; exact h.store hj (key, rank)
  have T2 : Turn (Foot g bm (.slice (some ⟨b, 0, none⟩) n cap)) w W := by
    rw [hW]; exact ((Turn.refl _ _).setCell (.inl (.inr (.inr rfl))) _).setCell (.inl (.inr (.inr rfl))) _
  rw [← hW]
  clear hW k0 k1 f0 f1 c0
  have hr2 : Rep n (upd G j (key, rank)) (upd f key (some rank)) := by have := hr.anew hj rank; rw [HG.out] at this; exact this
  have hw2 : WhrH m n (upd G j (key, rank)) j (key, rank) := by have := hw.anew hj rank; rw [HG.out] at this; exact this
  have hd2 : Dom (upd f key (some rank)) := hd.put hk rank
  refine (up_any W g _ bm n _ m n j _ R2 (ho.hole hj _) hr2 (by rw [upd_same]; exact hw2) (by rw [upd_same]; unfold cnt; rw [HM.out]; rfl) hd2).mono ?_
  rintro e w2 ⟨i, G3, m3, rfl, R3, D3, P3, W3, T3⟩
  go_wp2_with fail
  refine (down_any w2 g _ bm n G3 m3 i _ R3 D3 P3 W3 hd2).mono ?_
  rintro e w3 ⟨G4, m4, rfl, R4, D4, P4, W4, T4⟩
  go_wp2
  go_ret
  exact ⟨rfl, _, ⟨_, _, _, _, R4, D4, P4, W4, hd2, rfl⟩, fun k q => .inl q, (T2.trans T3 fun _ _ q => q).trans T4 fun _ _ q => q⟩

theorem put_new (w : World) (g : Nat) (v : Value) (bm n : Nat) (G : Nat → It) (m : Int → Option Int) (f : Int → Option Int) (key rank : Int) (h : RawH w g v bm n G m n) (ho : Ord n G) (hr : Rep n G f) (hw : Whr m n G) (hd : Dom f)
    (hk : Key key) (hm : m key = none) (hf : f key = none) :
    Calls Try.prog 29 #[.pointer (some ⟨g, 0, none⟩), .int .i64 key, .int .i64 rank] w (PutPost w g (Foot g bm v) (upd f key (some rank)) (n + 1)) := by
  have d0 : decide (key < 0) = false := by have := hk.1; simp; omega
  have d1 : decide (300 ≤ key) = false := by have := hk.2; simp; omega
  have hn := hr.le hd
  have c0 := h.c0
  have hgl := h.glt
  have HM := Lib.hid hm
  clear hm
  have hinfo : (Try.prog.info? 52).map (fun i => (i.zero, i.size, i.bytes)) = some (some (.agg #[.int .i64 0, .int .i64 0]), 2, 16) := by kernel_rfl
  obtain ⟨v, rfl⟩ : ∃ u, u = v := ⟨_, rfl⟩
  obtain ⟨len, cap, ad, hv, hlen⟩ : ∃ (len cap : Nat) (ad : Option Addr), v = .slice ad len cap ∧ len = n := by
    obtain ⟨xs, ⟨_, h1⟩, _⟩ := h.row
    rcases h1 with ⟨rfl, rfl⟩ | ⟨b', cap', cur, rfl, _⟩
    · exact ⟨_, _, _, rfl, rfl⟩
    · exact ⟨_, _, _, rfl, rfl⟩
  subst hlen
  have hrow := h.row
  subst hv
  go_enter Try.func29, Try.ntmps29
  go_wp2_with fail
  refine (place_in _ g _ bm _ G m _ key h hk).mono ?_
  rintro e w1 ⟨rfl, rfl⟩
  rw [HM.out]
  simp only [Option.getD_none]
  have hrow2 : RowIs 52 (w.alloc (.cells #[.int .i64 0, .int .i64 0] 52)) (.slice ad len cap) len G := hrow.keep (fun k hk => Below.heap_alloc _ _ k (hrow.lt hk))
  have n0 : (w.alloc (.cells #[.int .i64 0, .int .i64 0] 52)).cell? ⟨w.heap.size, 0, none⟩ = some (.int .i64 0) := new_cell rfl _ _ _ 0
  have n1 : (w.alloc (.cells #[.int .i64 0, .int .i64 0] 52)).cell? ⟨w.heap.size, 1, none⟩ = some (.int .i64 0) := new_cell rfl _ _ _ 1
  have R1 := h.alloc (.cells #[.int .i64 0, .int .i64 0] 52)
  have T1 := (Turn.refl (Foot g bm (.slice ad len cap)) w).alloc (.cells #[.int .i64 0, .int .i64 0] 52)
  have nz : (w.alloc (.cells #[.int .i64 0, .int .i64 0] 52)).heap.size = w.heap.size + 1 := by simp
  have NZ := Lib.hid nz
  clear nz
  go_upto_region 7 with (at_builtin; go_must (refine wpList_grow (P := Try.prog) (E := 52) rfl _ _ 68 rfl Try.underlying68 hinfo (.slice ad len cap) len G rfl hrow2 ⟨w.heap.size, 0, none⟩ 1 0 0 rfl n0 n1 (by omega) ?_); intro b' c' w1 hrow1 hg1 hloc; clear n0 n1 c0; have c0 := hg1.cell_far ⟨g, 0, none⟩ R1.glt (fun e => R1.gv e.symm); rw [R1.c0] at c0; have f0 := hg1.frozen_far ⟨g, 0, none⟩ R1.glt (fun e => R1.gv e.symm); rw [R1.f 0] at f0; have R2 := R1.grow hg1 hrow1)
  have T2 : Turn (Foot g bm (.slice ad len cap)) w (w1.setCell ⟨g, 0, none⟩ (.slice (some ⟨b', 0, none⟩) (len + 1) c')) :=
    (T1.grown hg1 (fun k hk => .inl (.inr (.inr hk)))).setCell (.inl (.inl rfl)) _
  have hb2 : Foot g bm (.slice ad len cap) b' ∨ w.heap.size ≤ b' := by
    rcases hloc with e | e
    · exact .inl (.inr (.inr e.symm))
    · rw [NZ.out] at e; omega
  obtain ⟨W2, hW2⟩ : ∃ W, W = w1.setCell ⟨g, 0, none⟩ (.slice (some ⟨b', 0, none⟩) (len + 1) c') := ⟨_, rfl⟩
  rw [← hW2] at R2 T2 ⊢
  clear hW2 hg1 hloc hrow1 c0 f0 R1 T1 hrow hrow2 h NZ
  have c0 := R2.c0
  have k0 := R2.row.key (j := len) (by omega)
  have k1 := R2.row.rank (j := len) (by omega)
  have f0 := R2.row.frozen (len * 2)
  have f1 := R2.row.frozen (len * 2 + 1)
  have hi : (len : Int) < (len + 1 : Nat) := by omega
  go_wp2_with fail
  obtain ⟨W3, hW3⟩ : ∃ W, W = (W2.setCell ⟨b', len * 2, none⟩ (.int .i64 key)).setCell ⟨b', len * 2 + 1, none⟩ (.int .i64 rank) := ⟨_, rfl⟩
  have R3 : RawH W3 g (.slice (some ⟨b', 0, none⟩) (len + 1) c') bm (len + 1) (upd (upd G len (0, 0)) len (key, rank)) m len := by rw [hW3]; exact R2.store (by omega) (key, rank)
  have T3 : Turn (Foot g bm (.slice ad len cap)) w W3 := by
    rw [hW3]; exact (T2.setCell (by simpa using hb2) _).setCell (by simpa using hb2) _
  rw [← hW3]
  clear hW3 k0 k1 f0 f1 c0
  have eg : upd (upd G len (0, 0)) len (key, rank) = upd G len (key, rank) := by funext j; unfold upd; split <;> rfl
  rw [eg] at R3
  have hd2 : Dom (upd f key (some rank)) := hd.put hk rank
  refine (up_any W3 g _ bm (len + 1) _ m len len _ R3 (ho.grow _) (hr.grow hf rank) (by rw [upd_same]; exact hw.grow key rank) (by rw [upd_same]; unfold cnt; rw [HM.out]; rfl) hd2).mono ?_
  rintro e w2 ⟨i, G3, m3, rfl, R4, D4, P4, W4, T4⟩
  go_wp2_with fail
  refine (down_any w2 g _ bm (len + 1) G3 m3 i _ R4 D4 P4 W4 hd2).mono ?_
  rintro e w3 ⟨G5, m5, rfl, R5, D5, P5, W5, T5⟩
  go_wp2
  go_ret
  have hF : ∀ k, k < w.heap.size → Foot g bm (.slice (some ⟨b', 0, none⟩) (len + 1) c') k → Foot g bm (.slice ad len cap) k := by
    rintro k hk (q | q | q)
    · exact .inl q
    · exact .inr (.inl q)
    · simp [Value.ownBlock] at q; subst q
      rcases hb2 with hb2 | hb2
      · exact hb2
      · omega
  refine ⟨rfl, _, ⟨_, _, _, _, R5, D5, P5, W5, hd2, rfl⟩, fun k q => ?_, (T3.trans T4 hF).trans T5 hF⟩
  rcases Nat.lt_or_ge k w.heap.size with hk | hk
  · exact .inl (hF k hk q)
  · exact .inr hk
end Go.Proofs.Ytchlccendggfpaa.Hp
