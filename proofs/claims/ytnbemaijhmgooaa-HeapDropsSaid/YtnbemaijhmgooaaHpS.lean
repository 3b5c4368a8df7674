/- Walks: the reference's heap: put, rank, least. -/
import Derived.Test.YtnbemaijhmgooaaHpR
namespace Go.Proofs.Ytnbemaijhmgooaa.Hp
open Go.RowKit Go.Maps Go.Proofs
set_option linter.unusedVariables false
set_option linter.unusedSimpArgs false

theorem find_cases {n : Nat} {G : Nat → It} {f : Int → Option Int} (h : Rep n G f) (key : Int) :
    (f key = none ∧ ∀ j, j < n → (G j).1 ≠ key) ∨ ∃ j, j < n ∧ (G j).1 = key ∧ (∀ i, i < j → (G i).1 ≠ key) ∧ f key = some (G j).2 := by
  cases hf : f key with
  | none => exact .inl ⟨rfl, (h.none_iff key).1 hf⟩
  | some r =>
    obtain ⟨j, hj, e⟩ := h.all key r hf
    refine .inr ⟨j, hj, by rw [e], fun i hi q => ?_, by rw [e]⟩
    have := h.apart i j (by omega) hj (by rw [q, e])
    omega

theorem putR_out (w : World) (g : Nat) (key rank : Int) (hk : ¬ Key key) :
    Calls Try.prog 20 #[.pointer (some ⟨g, 0, none⟩), .int .i64 key, .int .i64 rank] w fun e w' => e = .returned (.bool false) ∧ w = w' := by
  unfold Key at hk
  by_cases h0 : key < 0
  · have d0 : decide (key < 0) = true := by simpa using h0
    go_enter Try.func20, Try.ntmps20
    go_wp2
    go_ret
    exact ⟨rfl, rfl⟩
  · have d0 : decide (key < 0) = false := by simpa using h0
    have d1 : 300 ≤ key := by omega
    go_enter Try.func20, Try.ntmps20
    go_wp2
    go_ret
    exact ⟨rfl, rfl⟩

def PutRPost (w : World) (g : Nat) (F : Nat → Prop) (f : Int → Option Int) (n : Nat) (e : Ending) (w' : World) : Prop := e = .returned (.bool true) ∧ NextR w g F f n w'

theorem putR_any (w : World) (g : Nat) (F : Nat → Prop) (f : Int → Option Int) (n : Nat) (key rank : Int) (h : RefIs w g F f n) (hk : Key key) :
    Calls Try.prog 20 #[.pointer (some ⟨g, 0, none⟩), .int .i64 key, .int .i64 rank] w (PutRPost w g F (upd f key (some rank)) (bump f key n)) := by
  obtain ⟨v, G, h1, h2, h3, rfl⟩ := h
  have hn := h2.le h3
  have d0 : decide (key < 0) = false := by have := hk.1; simp; omega
  have d1 : decide (300 ≤ key) = false := by have := hk.2; simp; omega
  rcases find_cases h2 key with ⟨hf, hno⟩ | ⟨j, hj, hg, hmin, hf⟩
  · have e : bump f key n = n + 1 := by unfold bump; rw [hf]; rfl
    rw [e]
    clear e
    have HF := Lib.hid hf
    clear hf
    obtain ⟨cap, ad, rfl⟩ := row_form h1.row
    have c0 := h1.c0
    have hgl := h1.glt
    have hrow := h1.row
    have hinfo : (Try.prog.info? 31).map (fun i => (i.zero, i.size, i.bytes)) = some (some (.agg #[.int .i64 0, .int .i64 0]), 2, 16) := by kernel_rfl
    have hrow2 : RowIs 31 (w.alloc (.cells #[.int .i64 key, .int .i64 rank] 31)) (.slice ad n cap) n G := hrow.keep (fun k hk => Below.heap_alloc _ _ k (hrow.lt hk))
    have n0 : (w.alloc (.cells #[.int .i64 key, .int .i64 rank] 31)).cell? ⟨w.heap.size, 0, none⟩ = some (.int .i64 key) := new_cell rfl _ _ _ 0
    have n1 : (w.alloc (.cells #[.int .i64 key, .int .i64 rank] 31)).cell? ⟨w.heap.size, 1, none⟩ = some (.int .i64 rank) := new_cell rfl _ _ _ 1
    have R1 := h1.alloc (.cells #[.int .i64 key, .int .i64 rank] 31)
    have T1 := (Turn.refl (RowFoot g (.slice ad n cap)) w).alloc (.cells #[.int .i64 key, .int .i64 rank] 31)
    have nz : (w.alloc (.cells #[.int .i64 key, .int .i64 rank] 31)).heap.size = w.heap.size + 1 := by simp
    have NZ := Lib.hid nz
    clear nz
    go_enter Try.func20, Try.ntmps20
    go_wp2_with fail
    refine (find_any _ g _ n G key (-1) h1 hn (.inr ⟨hno, rfl⟩)).mono ?_
    rintro e w1 ⟨rfl, rfl⟩
    go_upto_region 7 with (at_builtin; go_must (refine wpList_grow (P := Try.prog) (E := 31) rfl _ _ 49 rfl Try.underlying49 hinfo (.slice ad n cap) n G rfl hrow2 ⟨w.heap.size, 0, none⟩ 1 key rank rfl n0 n1 (by omega) ?_); intro b' c' w1 hrow1 hg1 hloc; clear n0 n1 c0; have c0 := hg1.cell_far ⟨g, 0, none⟩ R1.glt (fun e => R1.gv e.symm); rw [R1.c0] at c0; have f0 := hg1.frozen_far ⟨g, 0, none⟩ R1.glt (fun e => R1.gv e.symm); rw [R1.f 0] at f0; have R2 := R1.grow hg1 hrow1)
    go_wp2
    go_ret
    have hF : ∀ k, RowFoot g (.slice (some ⟨b', 0, none⟩) (n + 1) c') k → RowFoot g (.slice ad n cap) k ∨ w.heap.size ≤ k := by
      rintro k (q | q)
      · exact .inl (.inl q)
      · simp [Value.ownBlock] at q; subst q
        rcases hloc with e | e
        · exact .inl (.inr e.symm)
        · rw [NZ.out] at e; exact .inr (by omega)
    exact ⟨rfl, _, ⟨_, _, R2, h2.grow HF.out rank, h3.put hk rank, rfl⟩, hF, (T1.grown hg1 (fun k hk => .inl (.inr hk))).setCell (.inl (.inl rfl)) _⟩
  · have e : bump f key n = n := by unfold bump; rw [hf]; rfl
    rw [e]
    clear e
    have HF := Lib.hid hf
    have HG := Lib.hid hg
    obtain ⟨b, cap, rfl, hb⟩ := h1.row.form (by omega)
    have c0 := h1.c0
    have k1 := h1.row.rank hj
    have f1 := h1.row.frozen (j * 2 + 1)
    have hi : (j : Int) < (n : Int) := by omega
    have fa := find_any w g _ n G key j h1 hn (.inl ⟨j, hj, hg, hmin, rfl⟩)
    clear hf hg hmin
    go_enter Try.func20, Try.ntmps20
    go_wp2_with fail
    refine fa.mono ?_
    rintro e w1 ⟨rfl, rfl⟩
    clear fa
    go_wp2
    go_ret
    have hr2 := h2.anew hj rank
    rw [HG.out] at hr2
    exact ⟨rfl, _, ⟨_, _, h1.store hj rank, by rw [HG.out]; exact hr2, h3.put hk rank, rfl⟩, fun k q => .inl q, (Turn.refl _ _).setCell (.inl (.inr rfl)) _⟩

theorem rankR_any (w : World) (g : Nat) (F : Nat → Prop) (f : Int → Option Int) (n : Nat) (key : Int) (h : RefIs w g F f n) :
    Calls Try.prog 32 #[.pointer (some ⟨g, 0, none⟩), .int .i64 key] w (RankPost w f key) := by
  obtain ⟨v, G, h1, h2, h3, rfl⟩ := h
  have hn := h2.le h3
  rcases find_cases h2 key with ⟨hf, hno⟩ | ⟨j, hj, hg, hmin, hf⟩
  · have HF := Lib.hid hf
    have fa := find_any w g _ n G key (-1) h1 hn (.inr ⟨hno, rfl⟩)
    clear hf hno
    go_enter Try.func32, Try.ntmps32
    go_wp2_with fail
    refine fa.mono ?_
    rintro e w1 ⟨rfl, rfl⟩
    clear fa
    go_wp2
    go_ret2
    exact ⟨by rw [HF.out]; rfl, rfl⟩
  · have HF := Lib.hid hf
    have fa := find_any w g _ n G key j h1 hn (.inl ⟨j, hj, hg, hmin, rfl⟩)
    obtain ⟨b, cap, rfl, hb⟩ := h1.row.form (by omega)
    have c0 := h1.c0
    have k1 := h1.row.rank hj
    have hi : (j : Int) < (n : Int) := by omega
    clear hf hg hmin
    go_enter Try.func32, Try.ntmps32
    go_wp2_with fail
    refine fa.mono ?_
    rintro e w1 ⟨rfl, rfl⟩
    clear fa
    go_wp2
    go_ret2
    exact ⟨by rw [HF.out]; rfl, rfl⟩
end Go.Proofs.Ytnbemaijhmgooaa.Hp
