/- Walks: the law PathMore. -/
import Derived.Test.YtchlccendggfpaaPaKn
import Derived.Test.YtchlccendggfpaaPaMo
import Derived.Deep.RegionHeld3
import Derived.Deep.DeepCutAuto
namespace Go.Proofs.Ytchlccendggfpaa.Ro
open Go.RowKit Go.Proofs Go.Maps
set_option linter.unusedVariables false
set_option linter.unusedSimpArgs false

theorem more_rd {w : World} {M : Nat} {u : Int} (h : w.cell? ⟨M, 0, none⟩ = some (.int .i64 u)) (hM : M < w.heap.size) : Rd w (.slice (some ⟨M, 0, none⟩) 1 1) 1 (fun _ => u) :=
  ⟨_, _, rfl, fun _ => ⟨_, rfl, hM, fun i hi => by rw [add_head, show i = 0 by omega]; exact h⟩⟩
theorem fresh_one (w : World) (u : Int) : (w.alloc (.cells #[.int .i64 u] 3)).cell? ⟨w.heap.size, 0, none⟩ = some (.int .i64 u) := by rw [blk_cell (heap_alloc_new w _)]; rfl
theorem grown_keep {w w' : World} {r : Option Nat} {M : Nat} {v : Value} (g : w.grownBy w' r) (h : w.cell? ⟨M, 0, none⟩ = some v) (hM : r ≠ some M) : w'.cell? ⟨M, 0, none⟩ = some v :=
  (g.cell_far ⟨M, 0, none⟩ (World.block_lt_of_cell? w _ h) (fun e => hM e.symm)).trans h

set_option maxRecDepth 100000 in
set_option maxHeartbeats 12800000 in
theorem more_walk (size : Int) (A : Option Addr) (len cap : Nat) (zs : List Int) (s : Int) (more : Int) (turn : Int) (w : World) (hsize : Small size) (hV : Rd w (.slice A len cap) len (fun i => zs.getD i 0)) (hz : ∀ i, i < len → Small (zs.getD i 0)) (hl : len ≤ 9223372036854775807) (hs : Small s) (hmore : Small more) (hturn : Small turn) :
    Calls Try.prog 7 #[.int .i64 size, .slice A len cap, .int .i64 s, .int .i64 more, .int .i64 turn] w fun e w' => e = .returned (.bool true) ∧ Below w.heap.size w w' := by
  go_enter Try.func7, Try.ntmps7
  go_wp2_with fail
  refine (known6_ok _).mono ?_
  rintro e w1 ⟨rfl, B1⟩
  go_wp2_with fail
  refine (within6_any w1 size 14 hsize (by omega) (by omega)).mono ?_
  rintro e w2 ⟨rfl, rfl⟩
  obtain ⟨n0, hn0, hn1⟩ := within_nat (d := size) (m := 14) (by omega)
  rw [hn0]
  obtain ⟨n, hnn⟩ : ∃ n : Nat, n = n0 + 1 := ⟨_, rfl⟩
  have en : 1 + (n0 : Int) = (n : Int) := by omega
  have n1 : 1 ≤ n := by omega
  have n2 : n ≤ 14 := by omega
  clear hn0 hn1 hnn hsize
  go_wp2_with fail
  clear en
  refine (arcs_any w1 n len 0 _ _ (hV.below B1 (Nat.le_refl _)) hz hl (by omega) (by omega) (by omega) (by omega)).mono ?_
  rintro e w3 ⟨V, rfl, OA, hVo, b3⟩
  have B3 := B1.trans (b3.mono B1.size)
  have AI := arcsOf_in (k := min len 50) (n := n) (x := fun i => zs.getD i 0) (low := 0) (by omega) (by omega) (by omega)
  have kk : min len 50 ≤ 50 := Nat.min_le_right _ _
  have RV := OA.rdA
  have HVO := Lib.hid hVo
  clear b3 B1 hVo
  generalize hkk : min len 50 = k at *
  generalize hS : arcsOf n (fun i => zs.getD i 0) 0 = S at *
  have HL := Lib.hid (show ∀ i, i < k → 0 ≤ S.ln i by rw [← hS]; exact arcsOf_low)
  have NIL := Lib.hid OA.nilOr
  clear hkk hz hV OA hS
  obtain ⟨VA, vc, rfl, -⟩ := id RV
  go_wp2_with fail
  refine (within6_any w3 s (n : Int) hs (by omega) (by omega)).mono ?_
  rintro e w4 ⟨rfl, rfl⟩
  obtain ⟨x, hx0, hx1⟩ := within_nat (d := s) (m := (n : Int)) (by omega)
  rw [hx0]
  have hxn : x < n := by omega
  clear hx0 hx1 hs
  go_wp2_with fail
  have e51 : (k : Int) + 1 = ((k + 1 : Nat) : Int) := by omega
  refine (within6_any w3 turn ((k : Int) + 1) hturn (by omega) (by omega)).mono ?_
  rintro e w4 ⟨rfl, rfl⟩
  obtain ⟨q, hq0, hq1⟩ := within_nat (d := turn) (m := (k : Int) + 1) (by omega)
  rw [hq0]
  have hqk : q ≤ k := by omega
  clear hq0 hq1 hturn e51
  go_upto_region 7 with fail
  have OEa : OwA (w3.alloc (.cells #[] 30)).drew (.slice (some ⟨w3.heap.size, 0, none⟩) 0 0) 0 S := OwA.empty w3 S
  have OEb : OwA ((w3.alloc (.cells #[] 30)).alloc (.cells #[.int .i64 more] 3)).drew (.slice (some ⟨w3.heap.size, 0, none⟩) 0 0) 0 S := (OwA.empty w3 S).below (below_new _ (.cells #[.int .i64 more] 3)).drew (Nat.le_refl _)
  have OEc : OwA ((w3.alloc (.cells #[.int .i64 more] 3)).alloc (.cells #[] 30)).drew (.slice (some ⟨w3.heap.size + 1, 0, none⟩) 0 0) 0 S := by
    have := OwA.empty (w3.alloc (.cells #[.int .i64 more] 3)) S
    rw [show (w3.alloc (.cells #[.int .i64 more] 3)).heap.size = w3.heap.size + 1 by simp] at this
    exact this
  have CB : ((w3.alloc (.cells #[] 30)).alloc (.cells #[.int .i64 more] 3)).drew.cell? ⟨w3.heap.size + 1, 0, none⟩ = some (.int .i64 more) := by
    have := heap_alloc_new (w3.alloc (.cells #[] 30)) (.cells #[.int .i64 more] 3)
    rw [show (w3.alloc (.cells #[] 30)).heap.size = w3.heap.size + 1 by simp] at this
    rw [show ((w3.alloc (.cells #[] 30)).alloc (.cells #[.int .i64 more] 3)).drew.cell? ⟨w3.heap.size + 1, 0, none⟩ = ((w3.alloc (.cells #[] 30)).alloc (.cells #[.int .i64 more] 3)).cell? ⟨w3.heap.size + 1, 0, none⟩ from rfl, blk_cell this]; rfl
  have CC : ((w3.alloc (.cells #[.int .i64 more] 3)).alloc (.cells #[] 30)).drew.cell? ⟨w3.heap.size, 0, none⟩ = some (.int .i64 more) := by
    have := (Below.heap_alloc (w3.alloc (.cells #[.int .i64 more] 3)) (.cells #[] 30) w3.heap.size (by simp)).trans (heap_alloc_new w3 (.cells #[.int .i64 more] 3))
    rw [show ((w3.alloc (.cells #[.int .i64 more] 3)).alloc (.cells #[] 30)).drew.cell? ⟨w3.heap.size, 0, none⟩ = ((w3.alloc (.cells #[.int .i64 more] 3)).alloc (.cells #[] 30)).cell? ⟨w3.heap.size, 0, none⟩ from rfl, blk_cell this]; rfl
  go_cut [15] (fun s15 wx => ∃ v8, s15 = v8 ∧ OwA wx v8 (k + 1) (rotA S k q (arcsOf n (fun _ => more) 0)) ∧ Below w3.heap.size w3 wx)
  case first =>
    rcases NIL.out with ⟨ev, hk0⟩ | ⟨g, cap, ev, hcap, hcm, hg⟩
    · injection ev with e1 e2 e3
      subst e1 e2 e3
      have hq0 : q = 0 := by omega
      subst hq0
      have SRC : Hid ((∀ W, Below w3.heap.size w3 W → SrcA W none 0 (shA S 0)) ∧ (∀ W, Below w3.heap.size w3 W → SrcA W none 0 S)) := Lib.hid ⟨fun W _ => (.inl ⟨rfl, rfl⟩ : SrcA W none 0 (shA S 0)), fun W _ => (.inl ⟨rfl, rfl⟩ : SrcA W none 0 S)⟩
      go_region_held3 (fun W => Below w3.heap.size w3 W)
        (first | assumption | exact (Below.refl _ w3).drew | exact (below_new w3 _).drew | exact ((below_new w3 _).alloc (by simp) _).drew | exact B5 | exact B5.alloc B5.size _ | exact B6 | exact B6.alloc B6.size _ | exact B7 | exact B8 | fail)
        (first
          | (refine step_appA2 (o := ⟨some 40, _, _, _, _, _⟩) (by rfl) _ _ (by rfl) (.slice (some ⟨w3.heap.size, 0, none⟩) 0 0) 0 S (by rfl) OEa none 0 0 (shA S 0) (by rfl) (SRC.out.1 _ (by assumption)) (by omega) ?_; intro v5 w5 O5 g5 l5; have B5 : Below w3.heap.size w3 w5 := Below.grown (by assumption) g5 (by first | (simp; done) | (simp; omega)) (fun c hc => by have e : some (w3.heap.size) = some c := hc; injection e with e; omega); have HV5 : Hid (∀ c, v5.ownBlock = some c → w3.heap.size ≤ c) := Lib.hid (fun c hc => by rcases l5 with e | e <;> rw [hc] at e <;> (try have e : some c = some (w3.heap.size) := e) <;> injection e with e <;> (try simp at e) <;> omega))
          | (refine step_appA2 (o := ⟨some 40, _, _, _, _, _⟩) (by rfl) _ _ (by rfl) (.slice (some ⟨w3.heap.size, 0, none⟩) 0 0) 0 S (by rfl) OEb none 0 0 (shA S 0) (by rfl) (SRC.out.1 _ (by assumption)) (by omega) ?_; intro v5 w5 O5 g5 l5; have B5 : Below w3.heap.size w3 w5 := Below.grown (by assumption) g5 (by first | (simp; done) | (simp; omega)) (fun c hc => by have e : some (w3.heap.size) = some c := hc; injection e with e; omega); have HV5 : Hid (∀ c, v5.ownBlock = some c → w3.heap.size ≤ c ∧ c ≠ w3.heap.size + 1) := Lib.hid (fun c hc => by rcases l5 with e | e <;> rw [hc] at e <;> (try have e : some c = some (w3.heap.size) := e) <;> injection e with e <;> (try simp at e) <;> omega); have CM5 : w5.cell? ⟨w3.heap.size + 1, 0, none⟩ = some (.int .i64 more) := grown_keep g5 CB (by intro e; have e : some w3.heap.size = some (w3.heap.size + 1) := e; injection e with e; omega); have LM5 : w3.heap.size + 1 < w5.heap.size := World.block_lt_of_cell? w5 _ CM5)
          | (refine step_appA2 (o := ⟨some 40, _, _, _, _, _⟩) (by rfl) _ _ (by rfl) (.slice (some ⟨w3.heap.size + 1, 0, none⟩) 0 0) 0 S (by rfl) OEc none 0 0 (shA S 0) (by rfl) (SRC.out.1 _ (by assumption)) (by omega) ?_; intro v5 w5 O5 g5 l5; have B5 : Below w3.heap.size w3 w5 := Below.grown (by assumption) g5 (by first | (simp; done) | (simp; omega)) (fun c hc => by have e : some (w3.heap.size + 1) = some c := hc; injection e with e; omega); have HV5 : Hid (∀ c, v5.ownBlock = some c → w3.heap.size ≤ c ∧ c ≠ w3.heap.size) := Lib.hid (fun c hc => by rcases l5 with e | e <;> rw [hc] at e <;> (try have e : some c = some (w3.heap.size + 1) := e) <;> injection e with e <;> (try simp at e) <;> omega); have CM5 : w5.cell? ⟨w3.heap.size, 0, none⟩ = some (.int .i64 more) := grown_keep g5 CC (by intro e; have e : some (w3.heap.size + 1) = some w3.heap.size := e; injection e with e; omega); have LM5 : w3.heap.size < w5.heap.size := World.block_lt_of_cell? w5 _ CM5)
          | (refine step_appA2 (o := ⟨some 44, _, _, _, _, _⟩) (by rfl) _ _ (by rfl) v5 (0 + 0) (catA S 0 (shA S 0)) (by rfl) O5 none 0 0 S (by rfl) (SRC.out.2 _ (by assumption)) (by omega) ?_; intro v6 w6 O6 g6 l6; have B6 : Below w3.heap.size w3 w6 := Below.grown (by assumption) g6 (by have := B5.size; first | omega | (simp; omega)) (fun c hc => by first | exact HV5.out c hc | exact (HV5.out c hc).1); have HV6 : Hid (∀ c, v6.ownBlock = some c → w3.heap.size ≤ c) := Lib.hid (fun c hc => by rcases l6 with e | e <;> rw [hc] at e <;> (first | exact HV5.out c e.symm | exact (HV5.out c e.symm).1 | (injection e with e; have := B5.size; (try simp at e); omega))); (first | (have CM6 : w6.cell? ⟨w3.heap.size + 1, 0, none⟩ = some (.int .i64 more) := grown_keep g6 CM5 (fun e => (HV5.out _ e).2 rfl)) | (have CM6 : w6.cell? ⟨w3.heap.size, 0, none⟩ = some (.int .i64 more) := grown_keep g6 CM5 (fun e => (HV5.out _ e).2 rfl)) | skip))
          | (refine step_appA2 (o := ⟨some 44, _, _, _, _, _⟩) (by rfl) _ _ (by rfl) v5 (0 + 0) (catA S 0 (shA S 0)) (by rfl) (O5.below (below_new w5 _) (Nat.le_refl _)) none 0 0 S (by rfl) (SRC.out.2 _ (by assumption)) (by omega) ?_; intro v6 w6 O6 g6 l6; have B6 : Below w3.heap.size w3 w6 := Below.grown (by assumption) g6 (by have := B5.size; first | omega | (simp; omega)) (fun c hc => by first | exact HV5.out c hc | exact (HV5.out c hc).1); have HV6 : Hid (∀ c, v6.ownBlock = some c → w3.heap.size ≤ c) := Lib.hid (fun c hc => by rcases l6 with e | e <;> rw [hc] at e <;> (first | exact HV5.out c e.symm | exact (HV5.out c e.symm).1 | (injection e with e; have := B5.size; (try simp at e); omega))); have CM6 : w6.cell? ⟨w5.heap.size, 0, none⟩ = some (.int .i64 more) := grown_keep g6 (by rw [blk_cell (heap_alloc_new w5 _)]; rfl) (fun e => by have := O5.lt e; omega))
          | ((with_reducible refine (arcs_any (w6.alloc (.cells #[.int .i64 more] 3)) n 1 0 _ (fun _ => more) (more_rd (fresh_one w6 more) (World.block_lt_of_cell? (w6.alloc (.cells #[.int .i64 more] 3)) _ (fresh_one w6 more))) (fun _ _ => hmore) (by omega) (by omega) (by omega) (by omega) (by omega)).mono ?_); rintro e w7 ⟨V7, rfl, OA7, hVo7, b7⟩; have O7 := (show OwA (w6.alloc (.cells #[.int .i64 more] 3)) v6 (0 + 0 + 0) (catA (catA S 0 (shA S 0)) (0 + 0) S) from (by first | exact O6 | exact O6.below (below_new w6 _) (Nat.le_refl _))).below b7 (Nat.le_refl _); have B7 : Below w3.heap.size w3 w7 := (show Below w3.heap.size w3 (w6.alloc (.cells #[.int .i64 more] 3)) from (by first | exact B6 | exact B6.alloc B6.size _)).trans (b7.mono (by have := B6.size; first | omega | (simp; omega))); obtain ⟨b7', c7', rfl, -⟩ := OA7.form (by omega); have R7 := OA7.rdA)
          | ((with_reducible refine (arcs_any w6 n 1 0 _ (fun _ => more) (more_rd CM6 (World.block_lt_of_cell? w6 _ CM6)) (fun _ _ => hmore) (by omega) (by omega) (by omega) (by omega) (by omega)).mono ?_); rintro e w7 ⟨V7, rfl, OA7, hVo7, b7⟩; have O7 := (show OwA w6 v6 (0 + 0 + 0) (catA (catA S 0 (shA S 0)) (0 + 0) S) from (by first | exact O6 | exact O6.below (below_new w6 _) (Nat.le_refl _))).below b7 (Nat.le_refl _); have B7 : Below w3.heap.size w3 w7 := (show Below w3.heap.size w3 w6 from (by first | exact B6 | exact B6.alloc B6.size _)).trans (b7.mono (by have := B6.size; first | omega | (simp; omega))); obtain ⟨b7', c7', rfl, -⟩ := OA7.form (by omega); have R7 := OA7.rdA)
          | (refine step_appA2 (o := ⟨some 49, _, _, _, _, _⟩) (by rfl) _ _ (by rfl) v6 (0 + 0 + 0) (catA (catA S 0 (shA S 0)) (0 + 0) S) (by rfl) O7 (some ⟨b7', 0, none⟩) (min 1 50) c7' (arcsOf n (fun _ => more) 0) (by rfl) R7.src (by omega) ?_; intro v8 w8 O8 g8 l8; have B8 : Below w3.heap.size w3 w8 := Below.grown B7 g8 B7.size (fun c hc => HV6.out c hc))
          | fail)
      all_goals
        go_wp2_with fail
        go_meet
        exact ⟨_, rfl, by unfold rotA; exact O8, B8⟩
    · injection ev with e1 e2 e3
      subst e1 e3
      have i0 : (q : Int) ≤ (k : Int) := by omega
      have i1 : (q : Int) ≤ (vc : Int) := by omega
      have i2 : (0 : Int) ≤ (q : Int) := by omega
      by_cases hqc : q = vc
      · have hqk2 : k = q := by omega
        subst hqk2 hqc
        have SRC : Hid ((∀ W, Below w3.heap.size w3 W → SrcA W (some ⟨g, 0, none⟩) 0 (shA S k)) ∧ (∀ W, Below w3.heap.size w3 W → SrcA W (some ⟨g, 0, none⟩) k S)) := Lib.hid ⟨fun W _ => (.inr ⟨⟨g, 0, none⟩, rfl, fun i hi => by omega⟩ : SrcA W (some ⟨g, 0, none⟩) 0 (shA S k)), fun W b => (RV.below b (Nat.le_refl _)).src⟩
        go_region_held3 (fun W => Below w3.heap.size w3 W)
          (first | assumption | exact (Below.refl _ w3).drew | exact (below_new w3 _).drew | exact ((below_new w3 _).alloc (by simp) _).drew | exact B5 | exact B5.alloc B5.size _ | exact B6 | exact B6.alloc B6.size _ | exact B7 | exact B8 | fail)
          (first
            | (refine step_appA2 (o := ⟨some 40, _, _, _, _, _⟩) (by rfl) _ _ (by rfl) (.slice (some ⟨w3.heap.size, 0, none⟩) 0 0) 0 S (by rfl) OEa (some ⟨g, 0, none⟩) 0 0 (shA S k) (by rfl) (SRC.out.1 _ (by assumption)) (by omega) ?_; intro v5 w5 O5 g5 l5; have B5 : Below w3.heap.size w3 w5 := Below.grown (by assumption) g5 (by first | (simp; done) | (simp; omega)) (fun c hc => by have e : some (w3.heap.size) = some c := hc; injection e with e; omega); have HV5 : Hid (∀ c, v5.ownBlock = some c → w3.heap.size ≤ c) := Lib.hid (fun c hc => by rcases l5 with e | e <;> rw [hc] at e <;> (try have e : some c = some (w3.heap.size) := e) <;> injection e with e <;> (try simp at e) <;> omega))
            | (refine step_appA2 (o := ⟨some 40, _, _, _, _, _⟩) (by rfl) _ _ (by rfl) (.slice (some ⟨w3.heap.size, 0, none⟩) 0 0) 0 S (by rfl) OEb (some ⟨g, 0, none⟩) 0 0 (shA S k) (by rfl) (SRC.out.1 _ (by assumption)) (by omega) ?_; intro v5 w5 O5 g5 l5; have B5 : Below w3.heap.size w3 w5 := Below.grown (by assumption) g5 (by first | (simp; done) | (simp; omega)) (fun c hc => by have e : some (w3.heap.size) = some c := hc; injection e with e; omega); have HV5 : Hid (∀ c, v5.ownBlock = some c → w3.heap.size ≤ c ∧ c ≠ w3.heap.size + 1) := Lib.hid (fun c hc => by rcases l5 with e | e <;> rw [hc] at e <;> (try have e : some c = some (w3.heap.size) := e) <;> injection e with e <;> (try simp at e) <;> omega); have CM5 : w5.cell? ⟨w3.heap.size + 1, 0, none⟩ = some (.int .i64 more) := grown_keep g5 CB (by intro e; have e : some w3.heap.size = some (w3.heap.size + 1) := e; injection e with e; omega); have LM5 : w3.heap.size + 1 < w5.heap.size := World.block_lt_of_cell? w5 _ CM5)
            | (refine step_appA2 (o := ⟨some 40, _, _, _, _, _⟩) (by rfl) _ _ (by rfl) (.slice (some ⟨w3.heap.size + 1, 0, none⟩) 0 0) 0 S (by rfl) OEc (some ⟨g, 0, none⟩) 0 0 (shA S k) (by rfl) (SRC.out.1 _ (by assumption)) (by omega) ?_; intro v5 w5 O5 g5 l5; have B5 : Below w3.heap.size w3 w5 := Below.grown (by assumption) g5 (by first | (simp; done) | (simp; omega)) (fun c hc => by have e : some (w3.heap.size + 1) = some c := hc; injection e with e; omega); have HV5 : Hid (∀ c, v5.ownBlock = some c → w3.heap.size ≤ c ∧ c ≠ w3.heap.size) := Lib.hid (fun c hc => by rcases l5 with e | e <;> rw [hc] at e <;> (try have e : some c = some (w3.heap.size + 1) := e) <;> injection e with e <;> (try simp at e) <;> omega); have CM5 : w5.cell? ⟨w3.heap.size, 0, none⟩ = some (.int .i64 more) := grown_keep g5 CC (by intro e; have e : some (w3.heap.size + 1) = some w3.heap.size := e; injection e with e; omega); have LM5 : w3.heap.size < w5.heap.size := World.block_lt_of_cell? w5 _ CM5)
            | (refine step_appA2 (o := ⟨some 44, _, _, _, _, _⟩) (by rfl) _ _ (by rfl) v5 (0 + 0) (catA S 0 (shA S k)) (by rfl) O5 (some ⟨g, 0, none⟩) k k S (by rfl) (SRC.out.2 _ (by assumption)) (by omega) ?_; intro v6 w6 O6 g6 l6; have B6 : Below w3.heap.size w3 w6 := Below.grown (by assumption) g6 (by have := B5.size; first | omega | (simp; omega)) (fun c hc => by first | exact HV5.out c hc | exact (HV5.out c hc).1); have HV6 : Hid (∀ c, v6.ownBlock = some c → w3.heap.size ≤ c) := Lib.hid (fun c hc => by rcases l6 with e | e <;> rw [hc] at e <;> (first | exact HV5.out c e.symm | exact (HV5.out c e.symm).1 | (injection e with e; have := B5.size; (try simp at e); omega))); (first | (have CM6 : w6.cell? ⟨w3.heap.size + 1, 0, none⟩ = some (.int .i64 more) := grown_keep g6 CM5 (fun e => (HV5.out _ e).2 rfl)) | (have CM6 : w6.cell? ⟨w3.heap.size, 0, none⟩ = some (.int .i64 more) := grown_keep g6 CM5 (fun e => (HV5.out _ e).2 rfl)) | skip))
            | (refine step_appA2 (o := ⟨some 44, _, _, _, _, _⟩) (by rfl) _ _ (by rfl) v5 (0 + 0) (catA S 0 (shA S k)) (by rfl) (O5.below (below_new w5 _) (Nat.le_refl _)) (some ⟨g, 0, none⟩) k k S (by rfl) (SRC.out.2 _ (by assumption)) (by omega) ?_; intro v6 w6 O6 g6 l6; have B6 : Below w3.heap.size w3 w6 := Below.grown (by assumption) g6 (by have := B5.size; first | omega | (simp; omega)) (fun c hc => by first | exact HV5.out c hc | exact (HV5.out c hc).1); have HV6 : Hid (∀ c, v6.ownBlock = some c → w3.heap.size ≤ c) := Lib.hid (fun c hc => by rcases l6 with e | e <;> rw [hc] at e <;> (first | exact HV5.out c e.symm | exact (HV5.out c e.symm).1 | (injection e with e; have := B5.size; (try simp at e); omega))); have CM6 : w6.cell? ⟨w5.heap.size, 0, none⟩ = some (.int .i64 more) := grown_keep g6 (by rw [blk_cell (heap_alloc_new w5 _)]; rfl) (fun e => by have := O5.lt e; omega))
            | ((with_reducible refine (arcs_any (w6.alloc (.cells #[.int .i64 more] 3)) n 1 0 _ (fun _ => more) (more_rd (fresh_one w6 more) (World.block_lt_of_cell? (w6.alloc (.cells #[.int .i64 more] 3)) _ (fresh_one w6 more))) (fun _ _ => hmore) (by omega) (by omega) (by omega) (by omega) (by omega)).mono ?_); rintro e w7 ⟨V7, rfl, OA7, hVo7, b7⟩; have O7 := (show OwA (w6.alloc (.cells #[.int .i64 more] 3)) v6 (0 + 0 + k) (catA (catA S 0 (shA S k)) (0 + 0) S) from (by first | exact O6 | exact O6.below (below_new w6 _) (Nat.le_refl _))).below b7 (Nat.le_refl _); have B7 : Below w3.heap.size w3 w7 := (show Below w3.heap.size w3 (w6.alloc (.cells #[.int .i64 more] 3)) from (by first | exact B6 | exact B6.alloc B6.size _)).trans (b7.mono (by have := B6.size; first | omega | (simp; omega))); obtain ⟨b7', c7', rfl, -⟩ := OA7.form (by omega); have R7 := OA7.rdA)
            | ((with_reducible refine (arcs_any w6 n 1 0 _ (fun _ => more) (more_rd CM6 (World.block_lt_of_cell? w6 _ CM6)) (fun _ _ => hmore) (by omega) (by omega) (by omega) (by omega) (by omega)).mono ?_); rintro e w7 ⟨V7, rfl, OA7, hVo7, b7⟩; have O7 := (show OwA w6 v6 (0 + 0 + k) (catA (catA S 0 (shA S k)) (0 + 0) S) from (by first | exact O6 | exact O6.below (below_new w6 _) (Nat.le_refl _))).below b7 (Nat.le_refl _); have B7 : Below w3.heap.size w3 w7 := (show Below w3.heap.size w3 w6 from (by first | exact B6 | exact B6.alloc B6.size _)).trans (b7.mono (by have := B6.size; first | omega | (simp; omega))); obtain ⟨b7', c7', rfl, -⟩ := OA7.form (by omega); have R7 := OA7.rdA)
            | (refine step_appA2 (o := ⟨some 49, _, _, _, _, _⟩) (by rfl) _ _ (by rfl) v6 (0 + 0 + k) (catA (catA S 0 (shA S k)) (0 + 0) S) (by rfl) O7 (some ⟨b7', 0, none⟩) (min 1 50) c7' (arcsOf n (fun _ => more) 0) (by rfl) R7.src (by omega) ?_; intro v8 w8 O8 g8 l8; have B8 : Below w3.heap.size w3 w8 := Below.grown B7 g8 B7.size (fun c hc => HV6.out c hc))
            | fail)
        all_goals
          go_wp2_with fail
          go_meet
          exact ⟨_, rfl, by unfold rotA; rw [Nat.sub_self]; exact OwA.count O8 (by omega), B8⟩
      · have i3 : (q : Int) < (vc : Int) := by omega
        have i4 : ¬ (vc = q) := by omega
        have SRC : Hid ((∀ W, Below w3.heap.size w3 W → SrcA W (some ⟨g, q * 3, none⟩) (k - q) (shA S q)) ∧ (∀ W, Below w3.heap.size w3 W → SrcA W (some ⟨g, 0, none⟩) q S)) := Lib.hid ⟨fun W b => (.inr ⟨⟨g, q * 3, none⟩, rfl, fun i hi => by
          have h := (RV.below b (Nat.le_refl _)).src
          rcases h with ⟨h, _⟩ | ⟨ad, h, h2⟩
          · cases h
          · injection h with h
            subst h
            have := h2 (i + q * 3) (by omega)
            rw [shA_cell, ← this, add_head]
            rw [add_off, show q * 3 + i = i + q * 3 by omega]⟩ : SrcA W (some ⟨g, q * 3, none⟩) (k - q) (shA S q)), fun W b => ((RV.below b (Nat.le_refl _)).front (k' := q) (c' := vc) (by omega)).src⟩
        go_region_held3 (fun W => Below w3.heap.size w3 W)
          (first | assumption | exact (Below.refl _ w3).drew | exact (below_new w3 _).drew | exact ((below_new w3 _).alloc (by simp) _).drew | exact B5 | exact B5.alloc B5.size _ | exact B6 | exact B6.alloc B6.size _ | exact B7 | exact B8 | fail)
          (first
            | (refine step_appA2 (o := ⟨some 40, _, _, _, _, _⟩) (by rfl) _ _ (by rfl) (.slice (some ⟨w3.heap.size, 0, none⟩) 0 0) 0 S (by rfl) OEa (some ⟨g, q * 3, none⟩) (k - q) (vc - q) (shA S q) (by rfl) (SRC.out.1 _ (by assumption)) (by omega) ?_; intro v5 w5 O5 g5 l5; have B5 : Below w3.heap.size w3 w5 := Below.grown (by assumption) g5 (by first | (simp; done) | (simp; omega)) (fun c hc => by have e : some (w3.heap.size) = some c := hc; injection e with e; omega); have HV5 : Hid (∀ c, v5.ownBlock = some c → w3.heap.size ≤ c) := Lib.hid (fun c hc => by rcases l5 with e | e <;> rw [hc] at e <;> (try have e : some c = some (w3.heap.size) := e) <;> injection e with e <;> (try simp at e) <;> omega))
            | (refine step_appA2 (o := ⟨some 40, _, _, _, _, _⟩) (by rfl) _ _ (by rfl) (.slice (some ⟨w3.heap.size, 0, none⟩) 0 0) 0 S (by rfl) OEb (some ⟨g, q * 3, none⟩) (k - q) (vc - q) (shA S q) (by rfl) (SRC.out.1 _ (by assumption)) (by omega) ?_; intro v5 w5 O5 g5 l5; have B5 : Below w3.heap.size w3 w5 := Below.grown (by assumption) g5 (by first | (simp; done) | (simp; omega)) (fun c hc => by have e : some (w3.heap.size) = some c := hc; injection e with e; omega); have HV5 : Hid (∀ c, v5.ownBlock = some c → w3.heap.size ≤ c ∧ c ≠ w3.heap.size + 1) := Lib.hid (fun c hc => by rcases l5 with e | e <;> rw [hc] at e <;> (try have e : some c = some (w3.heap.size) := e) <;> injection e with e <;> (try simp at e) <;> omega); have CM5 : w5.cell? ⟨w3.heap.size + 1, 0, none⟩ = some (.int .i64 more) := grown_keep g5 CB (by intro e; have e : some w3.heap.size = some (w3.heap.size + 1) := e; injection e with e; omega); have LM5 : w3.heap.size + 1 < w5.heap.size := World.block_lt_of_cell? w5 _ CM5)
            | (refine step_appA2 (o := ⟨some 40, _, _, _, _, _⟩) (by rfl) _ _ (by rfl) (.slice (some ⟨w3.heap.size + 1, 0, none⟩) 0 0) 0 S (by rfl) OEc (some ⟨g, q * 3, none⟩) (k - q) (vc - q) (shA S q) (by rfl) (SRC.out.1 _ (by assumption)) (by omega) ?_; intro v5 w5 O5 g5 l5; have B5 : Below w3.heap.size w3 w5 := Below.grown (by assumption) g5 (by first | (simp; done) | (simp; omega)) (fun c hc => by have e : some (w3.heap.size + 1) = some c := hc; injection e with e; omega); have HV5 : Hid (∀ c, v5.ownBlock = some c → w3.heap.size ≤ c ∧ c ≠ w3.heap.size) := Lib.hid (fun c hc => by rcases l5 with e | e <;> rw [hc] at e <;> (try have e : some c = some (w3.heap.size + 1) := e) <;> injection e with e <;> (try simp at e) <;> omega); have CM5 : w5.cell? ⟨w3.heap.size, 0, none⟩ = some (.int .i64 more) := grown_keep g5 CC (by intro e; have e : some (w3.heap.size + 1) = some w3.heap.size := e; injection e with e; omega); have LM5 : w3.heap.size < w5.heap.size := World.block_lt_of_cell? w5 _ CM5)
            | (refine step_appA2 (o := ⟨some 44, _, _, _, _, _⟩) (by rfl) _ _ (by rfl) v5 (0 + (k - q)) (catA S 0 (shA S q)) (by rfl) O5 (some ⟨g, 0, none⟩) q vc S (by rfl) (SRC.out.2 _ (by assumption)) (by omega) ?_; intro v6 w6 O6 g6 l6; have B6 : Below w3.heap.size w3 w6 := Below.grown (by assumption) g6 (by have := B5.size; first | omega | (simp; omega)) (fun c hc => by first | exact HV5.out c hc | exact (HV5.out c hc).1); have HV6 : Hid (∀ c, v6.ownBlock = some c → w3.heap.size ≤ c) := Lib.hid (fun c hc => by rcases l6 with e | e <;> rw [hc] at e <;> (first | exact HV5.out c e.symm | exact (HV5.out c e.symm).1 | (injection e with e; have := B5.size; (try simp at e); omega))); (first | (have CM6 : w6.cell? ⟨w3.heap.size + 1, 0, none⟩ = some (.int .i64 more) := grown_keep g6 CM5 (fun e => (HV5.out _ e).2 rfl)) | (have CM6 : w6.cell? ⟨w3.heap.size, 0, none⟩ = some (.int .i64 more) := grown_keep g6 CM5 (fun e => (HV5.out _ e).2 rfl)) | skip))
            | (refine step_appA2 (o := ⟨some 44, _, _, _, _, _⟩) (by rfl) _ _ (by rfl) v5 (0 + (k - q)) (catA S 0 (shA S q)) (by rfl) (O5.below (below_new w5 _) (Nat.le_refl _)) (some ⟨g, 0, none⟩) q vc S (by rfl) (SRC.out.2 _ (by assumption)) (by omega) ?_; intro v6 w6 O6 g6 l6; have B6 : Below w3.heap.size w3 w6 := Below.grown (by assumption) g6 (by have := B5.size; first | omega | (simp; omega)) (fun c hc => by first | exact HV5.out c hc | exact (HV5.out c hc).1); have HV6 : Hid (∀ c, v6.ownBlock = some c → w3.heap.size ≤ c) := Lib.hid (fun c hc => by rcases l6 with e | e <;> rw [hc] at e <;> (first | exact HV5.out c e.symm | exact (HV5.out c e.symm).1 | (injection e with e; have := B5.size; (try simp at e); omega))); have CM6 : w6.cell? ⟨w5.heap.size, 0, none⟩ = some (.int .i64 more) := grown_keep g6 (by rw [blk_cell (heap_alloc_new w5 _)]; rfl) (fun e => by have := O5.lt e; omega))
            | ((with_reducible refine (arcs_any (w6.alloc (.cells #[.int .i64 more] 3)) n 1 0 _ (fun _ => more) (more_rd (fresh_one w6 more) (World.block_lt_of_cell? (w6.alloc (.cells #[.int .i64 more] 3)) _ (fresh_one w6 more))) (fun _ _ => hmore) (by omega) (by omega) (by omega) (by omega) (by omega)).mono ?_); rintro e w7 ⟨V7, rfl, OA7, hVo7, b7⟩; have O7 := (show OwA (w6.alloc (.cells #[.int .i64 more] 3)) v6 (0 + (k - q) + q) (catA (catA S 0 (shA S q)) (0 + (k - q)) S) from (by first | exact O6 | exact O6.below (below_new w6 _) (Nat.le_refl _))).below b7 (Nat.le_refl _); have B7 : Below w3.heap.size w3 w7 := (show Below w3.heap.size w3 (w6.alloc (.cells #[.int .i64 more] 3)) from (by first | exact B6 | exact B6.alloc B6.size _)).trans (b7.mono (by have := B6.size; first | omega | (simp; omega))); obtain ⟨b7', c7', rfl, -⟩ := OA7.form (by omega); have R7 := OA7.rdA)
            | ((with_reducible refine (arcs_any w6 n 1 0 _ (fun _ => more) (more_rd CM6 (World.block_lt_of_cell? w6 _ CM6)) (fun _ _ => hmore) (by omega) (by omega) (by omega) (by omega) (by omega)).mono ?_); rintro e w7 ⟨V7, rfl, OA7, hVo7, b7⟩; have O7 := (show OwA w6 v6 (0 + (k - q) + q) (catA (catA S 0 (shA S q)) (0 + (k - q)) S) from (by first | exact O6 | exact O6.below (below_new w6 _) (Nat.le_refl _))).below b7 (Nat.le_refl _); have B7 : Below w3.heap.size w3 w7 := (show Below w3.heap.size w3 w6 from (by first | exact B6 | exact B6.alloc B6.size _)).trans (b7.mono (by have := B6.size; first | omega | (simp; omega))); obtain ⟨b7', c7', rfl, -⟩ := OA7.form (by omega); have R7 := OA7.rdA)
            | (refine step_appA2 (o := ⟨some 49, _, _, _, _, _⟩) (by rfl) _ _ (by rfl) v6 (0 + (k - q) + q) (catA (catA S 0 (shA S q)) (0 + (k - q)) S) (by rfl) O7 (some ⟨b7', 0, none⟩) (min 1 50) c7' (arcsOf n (fun _ => more) 0) (by rfl) R7.src (by omega) ?_; intro v8 w8 O8 g8 l8; have B8 : Below w3.heap.size w3 w8 := Below.grown B7 g8 B7.size (fun c hc => HV6.out c hc))
            | fail)
        all_goals
          go_wp2_with fail
          go_meet
          exact ⟨_, rfl, by unfold rotA; exact OwA.count O8 (by omega), B8⟩
  case rest =>
    obtain ⟨v8, rfl, O8, b8⟩ := hcut
    have XI := arcsOf_in (k := 1) (n := n) (x := fun _ => more) (low := 0) (by omega) (by omega) (by omega)
    have RI := rotA_in hqk AI XI
    have RL := Lib.hid (rotA_low hqk HL.out (arcsOf_low (n := n) (k := 1) (x := fun _ => more) 0 (by omega)))
    have HAS := Lib.hid (rotA_has (S := S) (X := arcsOf n (fun _ => more) 0) hqk)
    have HOF := Lib.hid (rotA_of (S := S) (X := arcsOf n (fun _ => more) 0) hqk)
    obtain ⟨g8, c8, rfl, -⟩ := O8.form (by omega)
    have hc8 := O8.cap
    generalize rotA S k q (arcsOf n (fun _ => more) 0) = R at *
    have B8 := B3.trans (b8.mono B3.size)
    have RV8 := RV.below b8 (Nat.le_refl _)
    have R8 := O8.rdA
    have R8f := R8.front (k' := k) (c' := c8) (by omega)
    have j1 : (k : Int) ≤ (c8 : Int) := by omega
    have RF := Lib.hid (RI.less (k' := k) (by omega))
    have RLf := Lib.hid (fun i (hi : i < k) => RL.out i (by omega))
    clear OEa OEb OEc CB CC NIL XI O8 b8 RV
    obtain ⟨w8, hw8⟩ : ∃ w8, w8 = wc := ⟨_, rfl⟩
    subst hw8
    have D8 : Below w8.heap.size w8 w8.drew := (Below.refl _ w8).drew
    go_upto_region 8 with fail
    go_region_held3 (fun W => Below w8.heap.size w8 W)
      (first | assumption | exact (Below.refl _ w8).drew | exact B9 | exact B10 | exact B11 | fail)
      (first
        | ((with_reducible refine (from_any w8.drew n k x _ S (RV8.below D8 (Nat.le_refl _)) AI HL.out hxn (by omega) (by omega)).mono ?_); rintro e w9 ⟨b1, c1, d, t1, rfl, O1, hb1, SD1, ht1, FX1, bb1⟩; have B9 : Below w8.heap.size w8 w9 := D8.trans (bb1.mono (Nat.le_refl _)); have H1 := Lib.hid (And.intro SD1 FX1); clear SD1 FX1)
        | ((with_reducible refine (from_any w9 n (k + 1) x _ R (R8.below B9 (Nat.le_refl _)) RI RL.out hxn (by omega) (by omega)).mono ?_); rintro e w10 ⟨b2, c2, e2, t2, rfl, O2, hb2, SD2, ht2, FX2, bb2⟩; have B10 : Below w8.heap.size w8 w10 := B9.trans (bb2.mono B9.size); have O1' := O1.below bb2 (Nat.le_refl _); have H2 := Lib.hid (And.intro SD2 FX2); clear SD2 FX2)
        | ((with_reducible refine (from_any w10 n k x _ R (R8f.below B10 (Nat.le_refl _)) RF.out RLf.out hxn (by omega) (by omega)).mono ?_); rintro e w11 ⟨b3, c3, f3, t3, rfl, O3, hb3, SD3, ht3, FX3, bb3⟩; have B11 : Below w8.heap.size w8 w11 := B10.trans (bb3.mono B10.size); have O1'' := O1'.below bb3 (Nat.le_refl _); have O2' := O2.below bb3 (Nat.le_refl _); have H3 := Lib.hid (And.intro SD3 FX3); clear SD3 FX3)
        | fail)
    have BB := B8.trans (B11.mono B8.size)
    have le1 : ∀ v, v < n → e2 v ≤ d v := fun v hv => Fix.more (S := S) (S' := R) (fun i hi => by obtain ⟨j, h1, h2⟩ := HAS.out i hi; exact ⟨j, by omega, h2⟩) H1.out.1 H2.out.2 H2.out.1 RI (by omega) (by unfold far; omega) hxn hv
    have le2 : ∀ v, v < n → f3 v = d v := fun v hv => by
      have h1 := Fix.more (S := S) (S' := R) HAS.out H1.out.1 H3.out.2 H3.out.1 RF.out (by omega) (by unfold far; omega) hxn hv
      have h2 := Fix.more (S := R) (S' := S) HOF.out H3.out.1 H1.out.2 H1.out.1 AI (by omega) (by unfold far; omega) hxn hv
      omega
    have HLE := Lib.hid (And.intro le1 le2)
    have en : ((n : Int) != (n : Int)) = false := by simp
    clear le1 le2 bb1 bb2 bb3 B9 B10 B11 O1 O1' O2 R8 R8f RV8 B8 D8 hb1 hb2 hb3 ht1 ht2 ht3
    go_wp2_with fail
    go_loopw [19] (fun u19 wr => ∃ i : Nat, u19 = .int .i64 (i : Int) ∧ i ≤ n ∧ Below w11.heap.size w11 wr) (fun u19 _ => n - (intOf u19).toNat)
    case atStart => exact ⟨0, rfl, Nat.zero_le _, Below.refl _ _⟩
    case round =>
      obtain ⟨i, rfl, hi, bz⟩ := hrel
      by_cases hlt : i < n
      · have d1 : (i : Int) < (n : Int) := by omega
        have y1 := (O1''.below bz (Nat.le_refl _)).cell hlt
        have y2 := (O2'.below bz (Nat.le_refl _)).cell hlt
        have y3 := (O3.below bz (Nat.le_refl _)).cell hlt
        have g1 := HLE.out.1 i hlt
        have g2 := HLE.out.2 i hlt
        rw [g2] at y3
        have z1 : decide (d i < e2 i) = false := by simp; exact g1
        have z2 : ¬ (e2 i > d i) := by omega
        have z3 : (d i != d i) = false := by simp
        clear g1 g2
        go_upto_region 14 with fail
        go_big_quiet (fail)
        go_wp2_with fail
        go_roundw
        case rel => exact ⟨i + 1, by simp, by omega, ⟨bz.os, bz.tape, bz.output, bz.size, bz.block⟩⟩
        case measure => simp [intOf]; omega
      · have d1 : ¬ ((i : Int) < (n : Int)) := by omega
        have BF := BB.trans (bz.mono BB.size)
        go_wp2_with fail
        go_ret
        exact ⟨rfl, BF⟩
end Go.Proofs.Ytchlccendggfpaa.Ro
