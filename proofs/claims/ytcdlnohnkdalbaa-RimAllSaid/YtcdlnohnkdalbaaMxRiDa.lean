/- Walks: the law RimAll. -/
import Derived.Deep.DeepCutAuto
import Derived.Deep.RegionHeld3
import Derived.Test.YtcdlnohnkdalbaaMg12
import Derived.Test.YtcdlnohnkdalbaaMg15
import Derived.Test.YtcdlnohnkdalbaaMg9
import Derived.Test.YtcdlnohnkdalbaaMxRiL4
namespace Go.Proofs.Ytcdlnohnkdalbaa.Ro
open Go.RowKit Go.Proofs Go.Maps
set_option linter.unusedVariables false
set_option linter.unusedSimpArgs false

set_option maxRecDepth 100000 in
set_option maxHeartbeats 12800000 in
theorem all_walk (A : Option Addr) (len cap : Nat) (zs : List Int) (s : Int) (v : Int) (u : Int) (y : Int) (w : World) (hV : Rd w (.slice A len cap) len (fun i => zs.getD i 0)) (hz : ∀ i, i < len → Small (zs.getD i 0)) (hl : len ≤ 9223372036854775807) (hs : Small s) (hv : Small v) (hu : Small u) (hy : Small y) :
    Calls Try.prog 3 #[.slice A len cap, .int .i64 s, .int .i64 v, .int .i64 u, .int .i64 y] w fun e w' => e = .returned (.bool true) ∧ Below w.heap.size w w' := by
  go_enter Try.func3, Try.ntmps3
  go_wp2_with fail
  refine (known8_ok _).mono ?_
  rintro e w1 ⟨rfl, B1⟩
  have h01 := B1.size
  go_wp2_with fail
  refine (plane_post _ _ len _ (hV.below B1 (Nat.le_refl _)) hz hl).mono ?_
  rintro e w2 ⟨N, m, t, x, c, TA, tp, XA, xp, CA, cp, rfl, gr, hN, hM, R2, b2⟩
  replace B1 := B1.trans (b2.mono B1.size)
  have gd := gr.good
  have ev := gd.even
  have N1 := gd.one
  have pa := gr.turns.perm
  have pb := pa.bh gd.even
  clear b2 hz hl hV
  go_upto_region 4 with fail
  obtain ⟨w3, hw3, X3, R3, b3⟩ := rows_enter (N : Int) R2
  rw [hw3]
  replace B1 := B1.trans (b3.mono B1.size)
  have NN := NetAt.of X3 R3
  have RR := R3.base h01
  clear hw3 b3 R2 X3 R3 h01
  generalize w2.heap.size = p at *
  clear w1 w2
  obtain ⟨a, ha, hal⟩ := small_within (d := s) (m := N) (by omega)
  obtain ⟨b, hb, hbl⟩ := small_within (d := v) (m := N) (by omega)
  have sa : Small (a : Int) := small_of (by omega) (by omega)
  have sb : Small (b : Int) := small_of (by omega) (by omega)
  have gm := gr.plane
  have gcap := gm.caps
  have c0 := NN.c0
  have SM := Lib.hid (And.intro sa (And.intro sb (And.intro hu (And.intro hy (And.intro sa hy)))))
  go_cut [12] (fun u12 wx => ∃ L : Nat, u12 = .slice (some ⟨L, 0, none⟩) 3 3 ∧ Three wx L (fun _ _ _ => True) ∧ Below w3.heap.size w3 wx)
  case first =>
    have HT := Lib.hid (fun a b c d => alloc4 w3 a b c d 3 3 3 22)
    have lp := NN.lt
    have f0 : ¬ (p = w3.heap.size) := by omega
    have f1 : ¬ (p = w3.heap.size + 1) := by omega
    have f2 : ¬ (p = w3.heap.size + 1 + 1) := by omega
    have f3 : ¬ (p = w3.heap.size + 1 + 1 + 1) := by omega
    have KK : Hid (∀ W, Below w3.heap.size w3 W → W.cell? ⟨p, 0, none⟩ = some (.int .i64 (N : Int))) := Lib.hid fun W b => (b.cell (p := ⟨p, 0, none⟩) lp).trans c0
    have N0 : Hid (Below w3.heap.size w3 w3.drew) := Lib.hid (Below.refl _ w3).drew
    have N1' := Lib.hid (fun a => (below_new w3 (.cells a 3)).drew)
    have N2' := Lib.hid (fun a b => ((below_new w3 (.cells a 3)).alloc (Nat.le_of_lt (by simp)) (.cells b 3)).drew)
    have N3' := Lib.hid (fun a b c => (((below_new w3 (.cells a 3)).alloc (Nat.le_of_lt (by simp)) (.cells b 3)).alloc (by simp; omega) (.cells c 3)).drew)
    refine wp_region_noPanic ?_
    refine wp_region_held_drew (S := fun W => W.cell? ⟨p, 0, none⟩ = some (.int .i64 (N : Int))) (by kernel_rfl) c0 (fun hHeld => ?_)
    refine held_takes (by kernel_rfl) (fun _ _ _ _ _ h => h) [0, 1, 2, 4, 5, 6, 9, 10, 12, 13, 14, 16] _ 8 _ _ _ rfl (by kernel_rfl) (by kernel_rfl) hHeld ?_
    simp only [pick, List.drop_succ_cons, List.drop_zero]
    iterate 12 (refine wpTakes_cons (v := ?_) (Or.inl ⟨by rfl, ?_⟩) ?_; rotate_left; (intro w hSw; (try dsimp only at hSw); go_simp <;> with_reducible rfl); (try simp only [Act.put, List.setIfInBounds_toArray, List.set_cons_zero, List.set_cons_succ]))
    refine wpTakes_nil ?_
    refine held_two 3 11 (fuel := 7) rfl (by kernel_rfl) ?_ ?_
    · simp only [List.drop_succ_cons, List.drop_zero]
      refine wpOne_cons (fun KO hK => ?_)
      go_simp
      refine (within8_any _ _ _ (by assumption) (by omega) (by omega)).mono ?_
      rintro e wq ⟨rfl, rfl⟩
      rw [ha]
      refine hK.out _ _ (KK.out _ N0.out) ?_
      clear hK KO
      try simp only [Act.put, List.setIfInBounds_toArray, List.set_cons_zero, List.set_cons_succ]
      refine held_two 7 11 (fuel := 6) rfl (by kernel_rfl) ?_ ?_
      · simp only [List.drop_succ_cons, List.drop_zero]
        refine wpOne_cons (fun KO hK => ?_)
        go_simp
        refine (within8_any _ _ _ (by assumption) (by omega) (by omega)).mono ?_
        rintro e wq ⟨rfl, rfl⟩
        rw [hb]
        refine hK.out _ _ (KK.out _ N0.out) ?_
        clear hK KO
        try simp only [Act.put, List.setIfInBounds_toArray, List.set_cons_zero, List.set_cons_succ]
        refine held_three 8 11 15 (fuel := 5) rfl (by kernel_rfl) ?_ ?_ ?_
        · simp only [List.drop_succ_cons, List.drop_zero]
          refine wpOne_cons (fun KO hK => ?_)
          go_simp
          refine hK.out _ _ (KK.out _ (N1'.out _)) ?_
          clear hK KO
          try simp only [Act.put, List.setIfInBounds_toArray, List.set_cons_zero, List.set_cons_succ]
          refine held_two 11 15 (fuel := 4) rfl (by kernel_rfl) ?_ ?_
          · simp only [List.drop_succ_cons, List.drop_zero]
            refine wpOne_cons (fun KO hK => ?_)
            go_simp
            refine hK.out _ _ (KK.out _ (N2'.out _ _)) ?_
            clear hK KO
            try simp only [Act.put, List.setIfInBounds_toArray, List.set_cons_zero, List.set_cons_succ]
            refine held_one 15 (fuel := 3) rfl (by kernel_rfl) ?_
            simp only [List.drop_succ_cons, List.drop_zero]
            refine wpOne_cons (fun KO hK => ?_)
            go_simp
            refine (within8_any _ _ _ (by assumption) (by omega) (by omega)).mono ?_
            rintro e wq ⟨rfl, rfl⟩
            rw [ha]
            refine hK.out _ _ (KK.out _ (N2'.out _ _)) ?_
            clear hK KO
            try simp only [Act.put, List.setIfInBounds_toArray, List.set_cons_zero, List.set_cons_succ]
            refine held_one 17 (fuel := 2) rfl (by kernel_rfl) ?_
            simp only [List.drop_succ_cons, List.drop_zero]
            refine wpOne_cons (fun KO hK => ?_)
            go_simp
            refine hK.out _ _ (KK.out _ (N3'.out _ _ _)) ?_
            clear hK KO
            try simp only [Act.put, List.setIfInBounds_toArray, List.set_cons_zero, List.set_cons_succ]
            refine held_one 18 (fuel := 1) rfl (by kernel_rfl) ?_
            simp only [List.drop_succ_cons, List.drop_zero]
            refine wpOne_cons (fun KO hK => ?_)
            go_simp
            refine hK.out _ _ ((((HT.out _ _ _ _).2.2.2.2.drew).cell (p := ⟨p, 0, none⟩) lp).trans c0) ?_
            clear hK KO
            try simp only [Act.put, List.setIfInBounds_toArray, List.set_cons_zero, List.set_cons_succ]
            refine held_takes (by kernel_rfl) (fun _ _ _ _ _ h => h) [19] _ 0 _ _ _ rfl (by kernel_rfl) (by kernel_rfl) ((((HT.out _ _ _ _).2.2.2.2.drew).cell (p := ⟨p, 0, none⟩) lp).trans c0) ?_
            simp only [pick, List.drop_succ_cons, List.drop_zero]
            iterate 1 (refine wpTakes_cons (v := ?_) (Or.inl ⟨by rfl, ?_⟩) ?_; rotate_left; (intro w hSw; go_simp <;> with_reducible rfl); (try simp only [Act.put, List.setIfInBounds_toArray, List.set_cons_zero, List.set_cons_succ]))
            refine wpTakes_nil ?_
            refine wpAnyH_done (by kernel_rfl) ?_ _
            refine NoPanic.normal ?_
            go_wp2_with fail
            go_meet
            exact ⟨_, rfl, Three.of (HT.out #[.int .i64 (a : Int), .int .i64 (b : Int)] #[.int .i64 u, .int .i64 y] #[.int .i64 (a : Int), .int .i64 y] #[.slice (some ⟨w3.heap.size, 0, none⟩) 2 2, .slice (some ⟨(w3.heap.size + 1), 0, none⟩) 2 2, .slice (some ⟨(w3.heap.size + 1 + 1), 0, none⟩) 2 2]).2.2.2.1 (HT.out #[.int .i64 (a : Int), .int .i64 (b : Int)] #[.int .i64 u, .int .i64 y] #[.int .i64 (a : Int), .int .i64 y] #[.slice (some ⟨w3.heap.size, 0, none⟩) 2 2, .slice (some ⟨(w3.heap.size + 1), 0, none⟩) 2 2, .slice (some ⟨(w3.heap.size + 1 + 1), 0, none⟩) 2 2]).1 (HT.out #[.int .i64 (a : Int), .int .i64 (b : Int)] #[.int .i64 u, .int .i64 y] #[.int .i64 (a : Int), .int .i64 y] #[.slice (some ⟨w3.heap.size, 0, none⟩) 2 2, .slice (some ⟨(w3.heap.size + 1), 0, none⟩) 2 2, .slice (some ⟨(w3.heap.size + 1 + 1), 0, none⟩) 2 2]).2.1 (HT.out #[.int .i64 (a : Int), .int .i64 (b : Int)] #[.int .i64 u, .int .i64 y] #[.int .i64 (a : Int), .int .i64 y] #[.slice (some ⟨w3.heap.size, 0, none⟩) 2 2, .slice (some ⟨(w3.heap.size + 1), 0, none⟩) 2 2, .slice (some ⟨(w3.heap.size + 1 + 1), 0, none⟩) 2 2]).2.2.1 SM.out trivial trivial trivial, (HT.out #[.int .i64 (a : Int), .int .i64 (b : Int)] #[.int .i64 u, .int .i64 y] #[.int .i64 (a : Int), .int .i64 y] #[.slice (some ⟨w3.heap.size, 0, none⟩) 2 2, .slice (some ⟨(w3.heap.size + 1), 0, none⟩) 2 2, .slice (some ⟨(w3.heap.size + 1 + 1), 0, none⟩) 2 2]).2.2.2.2.drew⟩
          · simp only [List.drop_succ_cons, List.drop_zero]
            refine wpOne_cons (fun KO hK => ?_)
            go_simp
            refine (within8_any _ _ _ (by assumption) (by omega) (by omega)).mono ?_
            rintro e wq ⟨rfl, rfl⟩
            rw [ha]
            refine hK.out _ _ (KK.out _ (N1'.out _)) ?_
            clear hK KO
            try simp only [Act.put, List.setIfInBounds_toArray, List.set_cons_zero, List.set_cons_succ]
            refine held_two 11 17 (fuel := 3) rfl (by kernel_rfl) ?_ ?_
            · simp only [List.drop_succ_cons, List.drop_zero]
              refine wpOne_cons (fun KO hK => ?_)
              go_simp
              refine hK.out _ _ (KK.out _ (N2'.out _ _)) ?_
              clear hK KO
              try simp only [Act.put, List.setIfInBounds_toArray, List.set_cons_zero, List.set_cons_succ]
              refine held_one 17 (fuel := 2) rfl (by kernel_rfl) ?_
              simp only [List.drop_succ_cons, List.drop_zero]
              refine wpOne_cons (fun KO hK => ?_)
              go_simp
              refine hK.out _ _ (KK.out _ (N3'.out _ _ _)) ?_
              clear hK KO
              try simp only [Act.put, List.setIfInBounds_toArray, List.set_cons_zero, List.set_cons_succ]
              refine held_one 18 (fuel := 1) rfl (by kernel_rfl) ?_
              simp only [List.drop_succ_cons, List.drop_zero]
              refine wpOne_cons (fun KO hK => ?_)
              go_simp
              refine hK.out _ _ ((((HT.out _ _ _ _).2.2.2.2.drew).cell (p := ⟨p, 0, none⟩) lp).trans c0) ?_
              clear hK KO
              try simp only [Act.put, List.setIfInBounds_toArray, List.set_cons_zero, List.set_cons_succ]
              refine held_takes (by kernel_rfl) (fun _ _ _ _ _ h => h) [19] _ 0 _ _ _ rfl (by kernel_rfl) (by kernel_rfl) ((((HT.out _ _ _ _).2.2.2.2.drew).cell (p := ⟨p, 0, none⟩) lp).trans c0) ?_
              simp only [pick, List.drop_succ_cons, List.drop_zero]
              iterate 1 (refine wpTakes_cons (v := ?_) (Or.inl ⟨by rfl, ?_⟩) ?_; rotate_left; (intro w hSw; go_simp <;> with_reducible rfl); (try simp only [Act.put, List.setIfInBounds_toArray, List.set_cons_zero, List.set_cons_succ]))
              refine wpTakes_nil ?_
              refine wpAnyH_done (by kernel_rfl) ?_ _
              refine NoPanic.normal ?_
              go_wp2_with fail
              go_meet
              exact ⟨_, rfl, Three.of (HT.out #[.int .i64 (a : Int), .int .i64 (b : Int)] #[.int .i64 u, .int .i64 y] #[.int .i64 (a : Int), .int .i64 y] #[.slice (some ⟨w3.heap.size, 0, none⟩) 2 2, .slice (some ⟨(w3.heap.size + 1), 0, none⟩) 2 2, .slice (some ⟨(w3.heap.size + 1 + 1), 0, none⟩) 2 2]).2.2.2.1 (HT.out #[.int .i64 (a : Int), .int .i64 (b : Int)] #[.int .i64 u, .int .i64 y] #[.int .i64 (a : Int), .int .i64 y] #[.slice (some ⟨w3.heap.size, 0, none⟩) 2 2, .slice (some ⟨(w3.heap.size + 1), 0, none⟩) 2 2, .slice (some ⟨(w3.heap.size + 1 + 1), 0, none⟩) 2 2]).1 (HT.out #[.int .i64 (a : Int), .int .i64 (b : Int)] #[.int .i64 u, .int .i64 y] #[.int .i64 (a : Int), .int .i64 y] #[.slice (some ⟨w3.heap.size, 0, none⟩) 2 2, .slice (some ⟨(w3.heap.size + 1), 0, none⟩) 2 2, .slice (some ⟨(w3.heap.size + 1 + 1), 0, none⟩) 2 2]).2.1 (HT.out #[.int .i64 (a : Int), .int .i64 (b : Int)] #[.int .i64 u, .int .i64 y] #[.int .i64 (a : Int), .int .i64 y] #[.slice (some ⟨w3.heap.size, 0, none⟩) 2 2, .slice (some ⟨(w3.heap.size + 1), 0, none⟩) 2 2, .slice (some ⟨(w3.heap.size + 1 + 1), 0, none⟩) 2 2]).2.2.1 SM.out trivial trivial trivial, (HT.out #[.int .i64 (a : Int), .int .i64 (b : Int)] #[.int .i64 u, .int .i64 y] #[.int .i64 (a : Int), .int .i64 y] #[.slice (some ⟨w3.heap.size, 0, none⟩) 2 2, .slice (some ⟨(w3.heap.size + 1), 0, none⟩) 2 2, .slice (some ⟨(w3.heap.size + 1 + 1), 0, none⟩) 2 2]).2.2.2.2.drew⟩
            · simp only [List.drop_succ_cons, List.drop_zero]
              refine wpOne_cons (fun KO hK => ?_)
              go_simp
              refine hK.out _ _ (KK.out _ (N2'.out _ _)) ?_
              clear hK KO
              try simp only [Act.put, List.setIfInBounds_toArray, List.set_cons_zero, List.set_cons_succ]
              refine held_one 11 (fuel := 2) rfl (by kernel_rfl) ?_
              simp only [List.drop_succ_cons, List.drop_zero]
              refine wpOne_cons (fun KO hK => ?_)
              go_simp
              refine hK.out _ _ (KK.out _ (N3'.out _ _ _)) ?_
              clear hK KO
              try simp only [Act.put, List.setIfInBounds_toArray, List.set_cons_zero, List.set_cons_succ]
              refine held_one 18 (fuel := 1) rfl (by kernel_rfl) ?_
              simp only [List.drop_succ_cons, List.drop_zero]
              refine wpOne_cons (fun KO hK => ?_)
              go_simp
              refine hK.out _ _ ((((HT.out _ _ _ _).2.2.2.2.drew).cell (p := ⟨p, 0, none⟩) lp).trans c0) ?_
              clear hK KO
              try simp only [Act.put, List.setIfInBounds_toArray, List.set_cons_zero, List.set_cons_succ]
              refine held_takes (by kernel_rfl) (fun _ _ _ _ _ h => h) [19] _ 0 _ _ _ rfl (by kernel_rfl) (by kernel_rfl) ((((HT.out _ _ _ _).2.2.2.2.drew).cell (p := ⟨p, 0, none⟩) lp).trans c0) ?_
              simp only [pick, List.drop_succ_cons, List.drop_zero]
              iterate 1 (refine wpTakes_cons (v := ?_) (Or.inl ⟨by rfl, ?_⟩) ?_; rotate_left; (intro w hSw; go_simp <;> with_reducible rfl); (try simp only [Act.put, List.setIfInBounds_toArray, List.set_cons_zero, List.set_cons_succ]))
              refine wpTakes_nil ?_
              refine wpAnyH_done (by kernel_rfl) ?_ _
              refine NoPanic.normal ?_
              go_wp2_with fail
              go_meet
              exact ⟨_, rfl, Three.of (HT.out #[.int .i64 (a : Int), .int .i64 (b : Int)] #[.int .i64 (a : Int), .int .i64 y] #[.int .i64 u, .int .i64 y] #[.slice (some ⟨w3.heap.size, 0, none⟩) 2 2, .slice (some ⟨(w3.heap.size + 1 + 1), 0, none⟩) 2 2, .slice (some ⟨(w3.heap.size + 1), 0, none⟩) 2 2]).2.2.2.1 (HT.out #[.int .i64 (a : Int), .int .i64 (b : Int)] #[.int .i64 (a : Int), .int .i64 y] #[.int .i64 u, .int .i64 y] #[.slice (some ⟨w3.heap.size, 0, none⟩) 2 2, .slice (some ⟨(w3.heap.size + 1 + 1), 0, none⟩) 2 2, .slice (some ⟨(w3.heap.size + 1), 0, none⟩) 2 2]).1 (HT.out #[.int .i64 (a : Int), .int .i64 (b : Int)] #[.int .i64 (a : Int), .int .i64 y] #[.int .i64 u, .int .i64 y] #[.slice (some ⟨w3.heap.size, 0, none⟩) 2 2, .slice (some ⟨(w3.heap.size + 1 + 1), 0, none⟩) 2 2, .slice (some ⟨(w3.heap.size + 1), 0, none⟩) 2 2]).2.2.1 (HT.out #[.int .i64 (a : Int), .int .i64 (b : Int)] #[.int .i64 (a : Int), .int .i64 y] #[.int .i64 u, .int .i64 y] #[.slice (some ⟨w3.heap.size, 0, none⟩) 2 2, .slice (some ⟨(w3.heap.size + 1 + 1), 0, none⟩) 2 2, .slice (some ⟨(w3.heap.size + 1), 0, none⟩) 2 2]).2.1 SM.out trivial trivial trivial, (HT.out #[.int .i64 (a : Int), .int .i64 (b : Int)] #[.int .i64 (a : Int), .int .i64 y] #[.int .i64 u, .int .i64 y] #[.slice (some ⟨w3.heap.size, 0, none⟩) 2 2, .slice (some ⟨(w3.heap.size + 1 + 1), 0, none⟩) 2 2, .slice (some ⟨(w3.heap.size + 1), 0, none⟩) 2 2]).2.2.2.2.drew⟩
        · simp only [List.drop_succ_cons, List.drop_zero]
          refine wpOne_cons (fun KO hK => ?_)
          go_simp
          refine hK.out _ _ (KK.out _ (N1'.out _)) ?_
          clear hK KO
          try simp only [Act.put, List.setIfInBounds_toArray, List.set_cons_zero, List.set_cons_succ]
          refine held_two 8 15 (fuel := 4) rfl (by kernel_rfl) ?_ ?_
          · simp only [List.drop_succ_cons, List.drop_zero]
            refine wpOne_cons (fun KO hK => ?_)
            go_simp
            refine hK.out _ _ (KK.out _ (N2'.out _ _)) ?_
            clear hK KO
            try simp only [Act.put, List.setIfInBounds_toArray, List.set_cons_zero, List.set_cons_succ]
            refine held_one 15 (fuel := 3) rfl (by kernel_rfl) ?_
            simp only [List.drop_succ_cons, List.drop_zero]
            refine wpOne_cons (fun KO hK => ?_)
            go_simp
            refine (within8_any _ _ _ (by assumption) (by omega) (by omega)).mono ?_
            rintro e wq ⟨rfl, rfl⟩
            rw [ha]
            refine hK.out _ _ (KK.out _ (N2'.out _ _)) ?_
            clear hK KO
            try simp only [Act.put, List.setIfInBounds_toArray, List.set_cons_zero, List.set_cons_succ]
            refine held_one 17 (fuel := 2) rfl (by kernel_rfl) ?_
            simp only [List.drop_succ_cons, List.drop_zero]
            refine wpOne_cons (fun KO hK => ?_)
            go_simp
            refine hK.out _ _ (KK.out _ (N3'.out _ _ _)) ?_
            clear hK KO
            try simp only [Act.put, List.setIfInBounds_toArray, List.set_cons_zero, List.set_cons_succ]
            refine held_one 18 (fuel := 1) rfl (by kernel_rfl) ?_
            simp only [List.drop_succ_cons, List.drop_zero]
            refine wpOne_cons (fun KO hK => ?_)
            go_simp
            refine hK.out _ _ ((((HT.out _ _ _ _).2.2.2.2.drew).cell (p := ⟨p, 0, none⟩) lp).trans c0) ?_
            clear hK KO
            try simp only [Act.put, List.setIfInBounds_toArray, List.set_cons_zero, List.set_cons_succ]
            refine held_takes (by kernel_rfl) (fun _ _ _ _ _ h => h) [19] _ 0 _ _ _ rfl (by kernel_rfl) (by kernel_rfl) ((((HT.out _ _ _ _).2.2.2.2.drew).cell (p := ⟨p, 0, none⟩) lp).trans c0) ?_
            simp only [pick, List.drop_succ_cons, List.drop_zero]
            iterate 1 (refine wpTakes_cons (v := ?_) (Or.inl ⟨by rfl, ?_⟩) ?_; rotate_left; (intro w hSw; go_simp <;> with_reducible rfl); (try simp only [Act.put, List.setIfInBounds_toArray, List.set_cons_zero, List.set_cons_succ]))
            refine wpTakes_nil ?_
            refine wpAnyH_done (by kernel_rfl) ?_ _
            refine NoPanic.normal ?_
            go_wp2_with fail
            go_meet
            exact ⟨_, rfl, Three.of (HT.out #[.int .i64 u, .int .i64 y] #[.int .i64 (a : Int), .int .i64 (b : Int)] #[.int .i64 (a : Int), .int .i64 y] #[.slice (some ⟨(w3.heap.size + 1), 0, none⟩) 2 2, .slice (some ⟨w3.heap.size, 0, none⟩) 2 2, .slice (some ⟨(w3.heap.size + 1 + 1), 0, none⟩) 2 2]).2.2.2.1 (HT.out #[.int .i64 u, .int .i64 y] #[.int .i64 (a : Int), .int .i64 (b : Int)] #[.int .i64 (a : Int), .int .i64 y] #[.slice (some ⟨(w3.heap.size + 1), 0, none⟩) 2 2, .slice (some ⟨w3.heap.size, 0, none⟩) 2 2, .slice (some ⟨(w3.heap.size + 1 + 1), 0, none⟩) 2 2]).2.1 (HT.out #[.int .i64 u, .int .i64 y] #[.int .i64 (a : Int), .int .i64 (b : Int)] #[.int .i64 (a : Int), .int .i64 y] #[.slice (some ⟨(w3.heap.size + 1), 0, none⟩) 2 2, .slice (some ⟨w3.heap.size, 0, none⟩) 2 2, .slice (some ⟨(w3.heap.size + 1 + 1), 0, none⟩) 2 2]).1 (HT.out #[.int .i64 u, .int .i64 y] #[.int .i64 (a : Int), .int .i64 (b : Int)] #[.int .i64 (a : Int), .int .i64 y] #[.slice (some ⟨(w3.heap.size + 1), 0, none⟩) 2 2, .slice (some ⟨w3.heap.size, 0, none⟩) 2 2, .slice (some ⟨(w3.heap.size + 1 + 1), 0, none⟩) 2 2]).2.2.1 SM.out trivial trivial trivial, (HT.out #[.int .i64 u, .int .i64 y] #[.int .i64 (a : Int), .int .i64 (b : Int)] #[.int .i64 (a : Int), .int .i64 y] #[.slice (some ⟨(w3.heap.size + 1), 0, none⟩) 2 2, .slice (some ⟨w3.heap.size, 0, none⟩) 2 2, .slice (some ⟨(w3.heap.size + 1 + 1), 0, none⟩) 2 2]).2.2.2.2.drew⟩
          · simp only [List.drop_succ_cons, List.drop_zero]
            refine wpOne_cons (fun KO hK => ?_)
            go_simp
            refine (within8_any _ _ _ (by assumption) (by omega) (by omega)).mono ?_
            rintro e wq ⟨rfl, rfl⟩
            rw [ha]
            refine hK.out _ _ (KK.out _ (N1'.out _)) ?_
            clear hK KO
            try simp only [Act.put, List.setIfInBounds_toArray, List.set_cons_zero, List.set_cons_succ]
            refine held_two 8 17 (fuel := 3) rfl (by kernel_rfl) ?_ ?_
            · simp only [List.drop_succ_cons, List.drop_zero]
              refine wpOne_cons (fun KO hK => ?_)
              go_simp
              refine hK.out _ _ (KK.out _ (N2'.out _ _)) ?_
              clear hK KO
              try simp only [Act.put, List.setIfInBounds_toArray, List.set_cons_zero, List.set_cons_succ]
              refine held_one 17 (fuel := 2) rfl (by kernel_rfl) ?_
              simp only [List.drop_succ_cons, List.drop_zero]
              refine wpOne_cons (fun KO hK => ?_)
              go_simp
              refine hK.out _ _ (KK.out _ (N3'.out _ _ _)) ?_
              clear hK KO
              try simp only [Act.put, List.setIfInBounds_toArray, List.set_cons_zero, List.set_cons_succ]
              refine held_one 18 (fuel := 1) rfl (by kernel_rfl) ?_
              simp only [List.drop_succ_cons, List.drop_zero]
              refine wpOne_cons (fun KO hK => ?_)
              go_simp
              refine hK.out _ _ ((((HT.out _ _ _ _).2.2.2.2.drew).cell (p := ⟨p, 0, none⟩) lp).trans c0) ?_
              clear hK KO
              try simp only [Act.put, List.setIfInBounds_toArray, List.set_cons_zero, List.set_cons_succ]
              refine held_takes (by kernel_rfl) (fun _ _ _ _ _ h => h) [19] _ 0 _ _ _ rfl (by kernel_rfl) (by kernel_rfl) ((((HT.out _ _ _ _).2.2.2.2.drew).cell (p := ⟨p, 0, none⟩) lp).trans c0) ?_
              simp only [pick, List.drop_succ_cons, List.drop_zero]
              iterate 1 (refine wpTakes_cons (v := ?_) (Or.inl ⟨by rfl, ?_⟩) ?_; rotate_left; (intro w hSw; go_simp <;> with_reducible rfl); (try simp only [Act.put, List.setIfInBounds_toArray, List.set_cons_zero, List.set_cons_succ]))
              refine wpTakes_nil ?_
              refine wpAnyH_done (by kernel_rfl) ?_ _
              refine NoPanic.normal ?_
              go_wp2_with fail
              go_meet
              exact ⟨_, rfl, Three.of (HT.out #[.int .i64 u, .int .i64 y] #[.int .i64 (a : Int), .int .i64 (b : Int)] #[.int .i64 (a : Int), .int .i64 y] #[.slice (some ⟨(w3.heap.size + 1), 0, none⟩) 2 2, .slice (some ⟨w3.heap.size, 0, none⟩) 2 2, .slice (some ⟨(w3.heap.size + 1 + 1), 0, none⟩) 2 2]).2.2.2.1 (HT.out #[.int .i64 u, .int .i64 y] #[.int .i64 (a : Int), .int .i64 (b : Int)] #[.int .i64 (a : Int), .int .i64 y] #[.slice (some ⟨(w3.heap.size + 1), 0, none⟩) 2 2, .slice (some ⟨w3.heap.size, 0, none⟩) 2 2, .slice (some ⟨(w3.heap.size + 1 + 1), 0, none⟩) 2 2]).2.1 (HT.out #[.int .i64 u, .int .i64 y] #[.int .i64 (a : Int), .int .i64 (b : Int)] #[.int .i64 (a : Int), .int .i64 y] #[.slice (some ⟨(w3.heap.size + 1), 0, none⟩) 2 2, .slice (some ⟨w3.heap.size, 0, none⟩) 2 2, .slice (some ⟨(w3.heap.size + 1 + 1), 0, none⟩) 2 2]).1 (HT.out #[.int .i64 u, .int .i64 y] #[.int .i64 (a : Int), .int .i64 (b : Int)] #[.int .i64 (a : Int), .int .i64 y] #[.slice (some ⟨(w3.heap.size + 1), 0, none⟩) 2 2, .slice (some ⟨w3.heap.size, 0, none⟩) 2 2, .slice (some ⟨(w3.heap.size + 1 + 1), 0, none⟩) 2 2]).2.2.1 SM.out trivial trivial trivial, (HT.out #[.int .i64 u, .int .i64 y] #[.int .i64 (a : Int), .int .i64 (b : Int)] #[.int .i64 (a : Int), .int .i64 y] #[.slice (some ⟨(w3.heap.size + 1), 0, none⟩) 2 2, .slice (some ⟨w3.heap.size, 0, none⟩) 2 2, .slice (some ⟨(w3.heap.size + 1 + 1), 0, none⟩) 2 2]).2.2.2.2.drew⟩
            · simp only [List.drop_succ_cons, List.drop_zero]
              refine wpOne_cons (fun KO hK => ?_)
              go_simp
              refine hK.out _ _ (KK.out _ (N2'.out _ _)) ?_
              clear hK KO
              try simp only [Act.put, List.setIfInBounds_toArray, List.set_cons_zero, List.set_cons_succ]
              refine held_one 8 (fuel := 2) rfl (by kernel_rfl) ?_
              simp only [List.drop_succ_cons, List.drop_zero]
              refine wpOne_cons (fun KO hK => ?_)
              go_simp
              refine hK.out _ _ (KK.out _ (N3'.out _ _ _)) ?_
              clear hK KO
              try simp only [Act.put, List.setIfInBounds_toArray, List.set_cons_zero, List.set_cons_succ]
              refine held_one 18 (fuel := 1) rfl (by kernel_rfl) ?_
              simp only [List.drop_succ_cons, List.drop_zero]
              refine wpOne_cons (fun KO hK => ?_)
              go_simp
              refine hK.out _ _ ((((HT.out _ _ _ _).2.2.2.2.drew).cell (p := ⟨p, 0, none⟩) lp).trans c0) ?_
              clear hK KO
              try simp only [Act.put, List.setIfInBounds_toArray, List.set_cons_zero, List.set_cons_succ]
              refine held_takes (by kernel_rfl) (fun _ _ _ _ _ h => h) [19] _ 0 _ _ _ rfl (by kernel_rfl) (by kernel_rfl) ((((HT.out _ _ _ _).2.2.2.2.drew).cell (p := ⟨p, 0, none⟩) lp).trans c0) ?_
              simp only [pick, List.drop_succ_cons, List.drop_zero]
              iterate 1 (refine wpTakes_cons (v := ?_) (Or.inl ⟨by rfl, ?_⟩) ?_; rotate_left; (intro w hSw; go_simp <;> with_reducible rfl); (try simp only [Act.put, List.setIfInBounds_toArray, List.set_cons_zero, List.set_cons_succ]))
              refine wpTakes_nil ?_
              refine wpAnyH_done (by kernel_rfl) ?_ _
              refine NoPanic.normal ?_
              go_wp2_with fail
              go_meet
              exact ⟨_, rfl, Three.of (HT.out #[.int .i64 u, .int .i64 y] #[.int .i64 (a : Int), .int .i64 y] #[.int .i64 (a : Int), .int .i64 (b : Int)] #[.slice (some ⟨(w3.heap.size + 1 + 1), 0, none⟩) 2 2, .slice (some ⟨w3.heap.size, 0, none⟩) 2 2, .slice (some ⟨(w3.heap.size + 1), 0, none⟩) 2 2]).2.2.2.1 (HT.out #[.int .i64 u, .int .i64 y] #[.int .i64 (a : Int), .int .i64 y] #[.int .i64 (a : Int), .int .i64 (b : Int)] #[.slice (some ⟨(w3.heap.size + 1 + 1), 0, none⟩) 2 2, .slice (some ⟨w3.heap.size, 0, none⟩) 2 2, .slice (some ⟨(w3.heap.size + 1), 0, none⟩) 2 2]).2.2.1 (HT.out #[.int .i64 u, .int .i64 y] #[.int .i64 (a : Int), .int .i64 y] #[.int .i64 (a : Int), .int .i64 (b : Int)] #[.slice (some ⟨(w3.heap.size + 1 + 1), 0, none⟩) 2 2, .slice (some ⟨w3.heap.size, 0, none⟩) 2 2, .slice (some ⟨(w3.heap.size + 1), 0, none⟩) 2 2]).1 (HT.out #[.int .i64 u, .int .i64 y] #[.int .i64 (a : Int), .int .i64 y] #[.int .i64 (a : Int), .int .i64 (b : Int)] #[.slice (some ⟨(w3.heap.size + 1 + 1), 0, none⟩) 2 2, .slice (some ⟨w3.heap.size, 0, none⟩) 2 2, .slice (some ⟨(w3.heap.size + 1), 0, none⟩) 2 2]).2.1 SM.out trivial trivial trivial, (HT.out #[.int .i64 u, .int .i64 y] #[.int .i64 (a : Int), .int .i64 y] #[.int .i64 (a : Int), .int .i64 (b : Int)] #[.slice (some ⟨(w3.heap.size + 1 + 1), 0, none⟩) 2 2, .slice (some ⟨w3.heap.size, 0, none⟩) 2 2, .slice (some ⟨(w3.heap.size + 1), 0, none⟩) 2 2]).2.2.2.2.drew⟩
        · simp only [List.drop_succ_cons, List.drop_zero]
          refine wpOne_cons (fun KO hK => ?_)
          go_simp
          refine (within8_any _ _ _ (by assumption) (by omega) (by omega)).mono ?_
          rintro e wq ⟨rfl, rfl⟩
          rw [ha]
          refine hK.out _ _ (KK.out _ N0.out) ?_
          clear hK KO
          try simp only [Act.put, List.setIfInBounds_toArray, List.set_cons_zero, List.set_cons_succ]
          refine held_three 8 11 17 (fuel := 4) rfl (by kernel_rfl) ?_ ?_ ?_
          · simp only [List.drop_succ_cons, List.drop_zero]
            refine wpOne_cons (fun KO hK => ?_)
            go_simp
            refine hK.out _ _ (KK.out _ (N1'.out _)) ?_
            clear hK KO
            try simp only [Act.put, List.setIfInBounds_toArray, List.set_cons_zero, List.set_cons_succ]
            refine held_two 11 17 (fuel := 3) rfl (by kernel_rfl) ?_ ?_
            · simp only [List.drop_succ_cons, List.drop_zero]
              refine wpOne_cons (fun KO hK => ?_)
              go_simp
              refine hK.out _ _ (KK.out _ (N2'.out _ _)) ?_
              clear hK KO
              try simp only [Act.put, List.setIfInBounds_toArray, List.set_cons_zero, List.set_cons_succ]
              refine held_one 17 (fuel := 2) rfl (by kernel_rfl) ?_
              simp only [List.drop_succ_cons, List.drop_zero]
              refine wpOne_cons (fun KO hK => ?_)
              go_simp
              refine hK.out _ _ (KK.out _ (N3'.out _ _ _)) ?_
              clear hK KO
              try simp only [Act.put, List.setIfInBounds_toArray, List.set_cons_zero, List.set_cons_succ]
              refine held_one 18 (fuel := 1) rfl (by kernel_rfl) ?_
              simp only [List.drop_succ_cons, List.drop_zero]
              refine wpOne_cons (fun KO hK => ?_)
              go_simp
              refine hK.out _ _ ((((HT.out _ _ _ _).2.2.2.2.drew).cell (p := ⟨p, 0, none⟩) lp).trans c0) ?_
              clear hK KO
              try simp only [Act.put, List.setIfInBounds_toArray, List.set_cons_zero, List.set_cons_succ]
              refine held_takes (by kernel_rfl) (fun _ _ _ _ _ h => h) [19] _ 0 _ _ _ rfl (by kernel_rfl) (by kernel_rfl) ((((HT.out _ _ _ _).2.2.2.2.drew).cell (p := ⟨p, 0, none⟩) lp).trans c0) ?_
              simp only [pick, List.drop_succ_cons, List.drop_zero]
              iterate 1 (refine wpTakes_cons (v := ?_) (Or.inl ⟨by rfl, ?_⟩) ?_; rotate_left; (intro w hSw; go_simp <;> with_reducible rfl); (try simp only [Act.put, List.setIfInBounds_toArray, List.set_cons_zero, List.set_cons_succ]))
              refine wpTakes_nil ?_
              refine wpAnyH_done (by kernel_rfl) ?_ _
              refine NoPanic.normal ?_
              go_wp2_with fail
              go_meet
              exact ⟨_, rfl, Three.of (HT.out #[.int .i64 (a : Int), .int .i64 (b : Int)] #[.int .i64 u, .int .i64 y] #[.int .i64 (a : Int), .int .i64 y] #[.slice (some ⟨w3.heap.size, 0, none⟩) 2 2, .slice (some ⟨(w3.heap.size + 1), 0, none⟩) 2 2, .slice (some ⟨(w3.heap.size + 1 + 1), 0, none⟩) 2 2]).2.2.2.1 (HT.out #[.int .i64 (a : Int), .int .i64 (b : Int)] #[.int .i64 u, .int .i64 y] #[.int .i64 (a : Int), .int .i64 y] #[.slice (some ⟨w3.heap.size, 0, none⟩) 2 2, .slice (some ⟨(w3.heap.size + 1), 0, none⟩) 2 2, .slice (some ⟨(w3.heap.size + 1 + 1), 0, none⟩) 2 2]).1 (HT.out #[.int .i64 (a : Int), .int .i64 (b : Int)] #[.int .i64 u, .int .i64 y] #[.int .i64 (a : Int), .int .i64 y] #[.slice (some ⟨w3.heap.size, 0, none⟩) 2 2, .slice (some ⟨(w3.heap.size + 1), 0, none⟩) 2 2, .slice (some ⟨(w3.heap.size + 1 + 1), 0, none⟩) 2 2]).2.1 (HT.out #[.int .i64 (a : Int), .int .i64 (b : Int)] #[.int .i64 u, .int .i64 y] #[.int .i64 (a : Int), .int .i64 y] #[.slice (some ⟨w3.heap.size, 0, none⟩) 2 2, .slice (some ⟨(w3.heap.size + 1), 0, none⟩) 2 2, .slice (some ⟨(w3.heap.size + 1 + 1), 0, none⟩) 2 2]).2.2.1 SM.out trivial trivial trivial, (HT.out #[.int .i64 (a : Int), .int .i64 (b : Int)] #[.int .i64 u, .int .i64 y] #[.int .i64 (a : Int), .int .i64 y] #[.slice (some ⟨w3.heap.size, 0, none⟩) 2 2, .slice (some ⟨(w3.heap.size + 1), 0, none⟩) 2 2, .slice (some ⟨(w3.heap.size + 1 + 1), 0, none⟩) 2 2]).2.2.2.2.drew⟩
            · simp only [List.drop_succ_cons, List.drop_zero]
              refine wpOne_cons (fun KO hK => ?_)
              go_simp
              refine hK.out _ _ (KK.out _ (N2'.out _ _)) ?_
              clear hK KO
              try simp only [Act.put, List.setIfInBounds_toArray, List.set_cons_zero, List.set_cons_succ]
              refine held_one 11 (fuel := 2) rfl (by kernel_rfl) ?_
              simp only [List.drop_succ_cons, List.drop_zero]
              refine wpOne_cons (fun KO hK => ?_)
              go_simp
              refine hK.out _ _ (KK.out _ (N3'.out _ _ _)) ?_
              clear hK KO
              try simp only [Act.put, List.setIfInBounds_toArray, List.set_cons_zero, List.set_cons_succ]
              refine held_one 18 (fuel := 1) rfl (by kernel_rfl) ?_
              simp only [List.drop_succ_cons, List.drop_zero]
              refine wpOne_cons (fun KO hK => ?_)
              go_simp
              refine hK.out _ _ ((((HT.out _ _ _ _).2.2.2.2.drew).cell (p := ⟨p, 0, none⟩) lp).trans c0) ?_
              clear hK KO
              try simp only [Act.put, List.setIfInBounds_toArray, List.set_cons_zero, List.set_cons_succ]
              refine held_takes (by kernel_rfl) (fun _ _ _ _ _ h => h) [19] _ 0 _ _ _ rfl (by kernel_rfl) (by kernel_rfl) ((((HT.out _ _ _ _).2.2.2.2.drew).cell (p := ⟨p, 0, none⟩) lp).trans c0) ?_
              simp only [pick, List.drop_succ_cons, List.drop_zero]
              iterate 1 (refine wpTakes_cons (v := ?_) (Or.inl ⟨by rfl, ?_⟩) ?_; rotate_left; (intro w hSw; go_simp <;> with_reducible rfl); (try simp only [Act.put, List.setIfInBounds_toArray, List.set_cons_zero, List.set_cons_succ]))
              refine wpTakes_nil ?_
              refine wpAnyH_done (by kernel_rfl) ?_ _
              refine NoPanic.normal ?_
              go_wp2_with fail
              go_meet
              exact ⟨_, rfl, Three.of (HT.out #[.int .i64 (a : Int), .int .i64 (b : Int)] #[.int .i64 (a : Int), .int .i64 y] #[.int .i64 u, .int .i64 y] #[.slice (some ⟨w3.heap.size, 0, none⟩) 2 2, .slice (some ⟨(w3.heap.size + 1 + 1), 0, none⟩) 2 2, .slice (some ⟨(w3.heap.size + 1), 0, none⟩) 2 2]).2.2.2.1 (HT.out #[.int .i64 (a : Int), .int .i64 (b : Int)] #[.int .i64 (a : Int), .int .i64 y] #[.int .i64 u, .int .i64 y] #[.slice (some ⟨w3.heap.size, 0, none⟩) 2 2, .slice (some ⟨(w3.heap.size + 1 + 1), 0, none⟩) 2 2, .slice (some ⟨(w3.heap.size + 1), 0, none⟩) 2 2]).1 (HT.out #[.int .i64 (a : Int), .int .i64 (b : Int)] #[.int .i64 (a : Int), .int .i64 y] #[.int .i64 u, .int .i64 y] #[.slice (some ⟨w3.heap.size, 0, none⟩) 2 2, .slice (some ⟨(w3.heap.size + 1 + 1), 0, none⟩) 2 2, .slice (some ⟨(w3.heap.size + 1), 0, none⟩) 2 2]).2.2.1 (HT.out #[.int .i64 (a : Int), .int .i64 (b : Int)] #[.int .i64 (a : Int), .int .i64 y] #[.int .i64 u, .int .i64 y] #[.slice (some ⟨w3.heap.size, 0, none⟩) 2 2, .slice (some ⟨(w3.heap.size + 1 + 1), 0, none⟩) 2 2, .slice (some ⟨(w3.heap.size + 1), 0, none⟩) 2 2]).2.1 SM.out trivial trivial trivial, (HT.out #[.int .i64 (a : Int), .int .i64 (b : Int)] #[.int .i64 (a : Int), .int .i64 y] #[.int .i64 u, .int .i64 y] #[.slice (some ⟨w3.heap.size, 0, none⟩) 2 2, .slice (some ⟨(w3.heap.size + 1 + 1), 0, none⟩) 2 2, .slice (some ⟨(w3.heap.size + 1), 0, none⟩) 2 2]).2.2.2.2.drew⟩
          · simp only [List.drop_succ_cons, List.drop_zero]
            refine wpOne_cons (fun KO hK => ?_)
            go_simp
            refine hK.out _ _ (KK.out _ (N1'.out _)) ?_
            clear hK KO
            try simp only [Act.put, List.setIfInBounds_toArray, List.set_cons_zero, List.set_cons_succ]
            refine held_two 8 17 (fuel := 3) rfl (by kernel_rfl) ?_ ?_
            · simp only [List.drop_succ_cons, List.drop_zero]
              refine wpOne_cons (fun KO hK => ?_)
              go_simp
              refine hK.out _ _ (KK.out _ (N2'.out _ _)) ?_
              clear hK KO
              try simp only [Act.put, List.setIfInBounds_toArray, List.set_cons_zero, List.set_cons_succ]
              refine held_one 17 (fuel := 2) rfl (by kernel_rfl) ?_
              simp only [List.drop_succ_cons, List.drop_zero]
              refine wpOne_cons (fun KO hK => ?_)
              go_simp
              refine hK.out _ _ (KK.out _ (N3'.out _ _ _)) ?_
              clear hK KO
              try simp only [Act.put, List.setIfInBounds_toArray, List.set_cons_zero, List.set_cons_succ]
              refine held_one 18 (fuel := 1) rfl (by kernel_rfl) ?_
              simp only [List.drop_succ_cons, List.drop_zero]
              refine wpOne_cons (fun KO hK => ?_)
              go_simp
              refine hK.out _ _ ((((HT.out _ _ _ _).2.2.2.2.drew).cell (p := ⟨p, 0, none⟩) lp).trans c0) ?_
              clear hK KO
              try simp only [Act.put, List.setIfInBounds_toArray, List.set_cons_zero, List.set_cons_succ]
              refine held_takes (by kernel_rfl) (fun _ _ _ _ _ h => h) [19] _ 0 _ _ _ rfl (by kernel_rfl) (by kernel_rfl) ((((HT.out _ _ _ _).2.2.2.2.drew).cell (p := ⟨p, 0, none⟩) lp).trans c0) ?_
              simp only [pick, List.drop_succ_cons, List.drop_zero]
              iterate 1 (refine wpTakes_cons (v := ?_) (Or.inl ⟨by rfl, ?_⟩) ?_; rotate_left; (intro w hSw; go_simp <;> with_reducible rfl); (try simp only [Act.put, List.setIfInBounds_toArray, List.set_cons_zero, List.set_cons_succ]))
              refine wpTakes_nil ?_
              refine wpAnyH_done (by kernel_rfl) ?_ _
              refine NoPanic.normal ?_
              go_wp2_with fail
              go_meet
              exact ⟨_, rfl, Three.of (HT.out #[.int .i64 u, .int .i64 y] #[.int .i64 (a : Int), .int .i64 (b : Int)] #[.int .i64 (a : Int), .int .i64 y] #[.slice (some ⟨(w3.heap.size + 1), 0, none⟩) 2 2, .slice (some ⟨w3.heap.size, 0, none⟩) 2 2, .slice (some ⟨(w3.heap.size + 1 + 1), 0, none⟩) 2 2]).2.2.2.1 (HT.out #[.int .i64 u, .int .i64 y] #[.int .i64 (a : Int), .int .i64 (b : Int)] #[.int .i64 (a : Int), .int .i64 y] #[.slice (some ⟨(w3.heap.size + 1), 0, none⟩) 2 2, .slice (some ⟨w3.heap.size, 0, none⟩) 2 2, .slice (some ⟨(w3.heap.size + 1 + 1), 0, none⟩) 2 2]).2.1 (HT.out #[.int .i64 u, .int .i64 y] #[.int .i64 (a : Int), .int .i64 (b : Int)] #[.int .i64 (a : Int), .int .i64 y] #[.slice (some ⟨(w3.heap.size + 1), 0, none⟩) 2 2, .slice (some ⟨w3.heap.size, 0, none⟩) 2 2, .slice (some ⟨(w3.heap.size + 1 + 1), 0, none⟩) 2 2]).1 (HT.out #[.int .i64 u, .int .i64 y] #[.int .i64 (a : Int), .int .i64 (b : Int)] #[.int .i64 (a : Int), .int .i64 y] #[.slice (some ⟨(w3.heap.size + 1), 0, none⟩) 2 2, .slice (some ⟨w3.heap.size, 0, none⟩) 2 2, .slice (some ⟨(w3.heap.size + 1 + 1), 0, none⟩) 2 2]).2.2.1 SM.out trivial trivial trivial, (HT.out #[.int .i64 u, .int .i64 y] #[.int .i64 (a : Int), .int .i64 (b : Int)] #[.int .i64 (a : Int), .int .i64 y] #[.slice (some ⟨(w3.heap.size + 1), 0, none⟩) 2 2, .slice (some ⟨w3.heap.size, 0, none⟩) 2 2, .slice (some ⟨(w3.heap.size + 1 + 1), 0, none⟩) 2 2]).2.2.2.2.drew⟩
            · simp only [List.drop_succ_cons, List.drop_zero]
              refine wpOne_cons (fun KO hK => ?_)
              go_simp
              refine hK.out _ _ (KK.out _ (N2'.out _ _)) ?_
              clear hK KO
              try simp only [Act.put, List.setIfInBounds_toArray, List.set_cons_zero, List.set_cons_succ]
              refine held_one 8 (fuel := 2) rfl (by kernel_rfl) ?_
              simp only [List.drop_succ_cons, List.drop_zero]
              refine wpOne_cons (fun KO hK => ?_)
              go_simp
              refine hK.out _ _ (KK.out _ (N3'.out _ _ _)) ?_
              clear hK KO
              try simp only [Act.put, List.setIfInBounds_toArray, List.set_cons_zero, List.set_cons_succ]
              refine held_one 18 (fuel := 1) rfl (by kernel_rfl) ?_
              simp only [List.drop_succ_cons, List.drop_zero]
              refine wpOne_cons (fun KO hK => ?_)
              go_simp
              refine hK.out _ _ ((((HT.out _ _ _ _).2.2.2.2.drew).cell (p := ⟨p, 0, none⟩) lp).trans c0) ?_
              clear hK KO
              try simp only [Act.put, List.setIfInBounds_toArray, List.set_cons_zero, List.set_cons_succ]
              refine held_takes (by kernel_rfl) (fun _ _ _ _ _ h => h) [19] _ 0 _ _ _ rfl (by kernel_rfl) (by kernel_rfl) ((((HT.out _ _ _ _).2.2.2.2.drew).cell (p := ⟨p, 0, none⟩) lp).trans c0) ?_
              simp only [pick, List.drop_succ_cons, List.drop_zero]
              iterate 1 (refine wpTakes_cons (v := ?_) (Or.inl ⟨by rfl, ?_⟩) ?_; rotate_left; (intro w hSw; go_simp <;> with_reducible rfl); (try simp only [Act.put, List.setIfInBounds_toArray, List.set_cons_zero, List.set_cons_succ]))
              refine wpTakes_nil ?_
              refine wpAnyH_done (by kernel_rfl) ?_ _
              refine NoPanic.normal ?_
              go_wp2_with fail
              go_meet
              exact ⟨_, rfl, Three.of (HT.out #[.int .i64 u, .int .i64 y] #[.int .i64 (a : Int), .int .i64 y] #[.int .i64 (a : Int), .int .i64 (b : Int)] #[.slice (some ⟨(w3.heap.size + 1 + 1), 0, none⟩) 2 2, .slice (some ⟨w3.heap.size, 0, none⟩) 2 2, .slice (some ⟨(w3.heap.size + 1), 0, none⟩) 2 2]).2.2.2.1 (HT.out #[.int .i64 u, .int .i64 y] #[.int .i64 (a : Int), .int .i64 y] #[.int .i64 (a : Int), .int .i64 (b : Int)] #[.slice (some ⟨(w3.heap.size + 1 + 1), 0, none⟩) 2 2, .slice (some ⟨w3.heap.size, 0, none⟩) 2 2, .slice (some ⟨(w3.heap.size + 1), 0, none⟩) 2 2]).2.2.1 (HT.out #[.int .i64 u, .int .i64 y] #[.int .i64 (a : Int), .int .i64 y] #[.int .i64 (a : Int), .int .i64 (b : Int)] #[.slice (some ⟨(w3.heap.size + 1 + 1), 0, none⟩) 2 2, .slice (some ⟨w3.heap.size, 0, none⟩) 2 2, .slice (some ⟨(w3.heap.size + 1), 0, none⟩) 2 2]).1 (HT.out #[.int .i64 u, .int .i64 y] #[.int .i64 (a : Int), .int .i64 y] #[.int .i64 (a : Int), .int .i64 (b : Int)] #[.slice (some ⟨(w3.heap.size + 1 + 1), 0, none⟩) 2 2, .slice (some ⟨w3.heap.size, 0, none⟩) 2 2, .slice (some ⟨(w3.heap.size + 1), 0, none⟩) 2 2]).2.1 SM.out trivial trivial trivial, (HT.out #[.int .i64 u, .int .i64 y] #[.int .i64 (a : Int), .int .i64 y] #[.int .i64 (a : Int), .int .i64 (b : Int)] #[.slice (some ⟨(w3.heap.size + 1 + 1), 0, none⟩) 2 2, .slice (some ⟨w3.heap.size, 0, none⟩) 2 2, .slice (some ⟨(w3.heap.size + 1), 0, none⟩) 2 2]).2.2.2.2.drew⟩
          · simp only [List.drop_succ_cons, List.drop_zero]
            refine wpOne_cons (fun KO hK => ?_)
            go_simp
            refine hK.out _ _ (KK.out _ (N1'.out _)) ?_
            clear hK KO
            try simp only [Act.put, List.setIfInBounds_toArray, List.set_cons_zero, List.set_cons_succ]
            refine held_two 8 11 (fuel := 3) rfl (by kernel_rfl) ?_ ?_
            · simp only [List.drop_succ_cons, List.drop_zero]
              refine wpOne_cons (fun KO hK => ?_)
              go_simp
              refine hK.out _ _ (KK.out _ (N2'.out _ _)) ?_
              clear hK KO
              try simp only [Act.put, List.setIfInBounds_toArray, List.set_cons_zero, List.set_cons_succ]
              refine held_one 11 (fuel := 2) rfl (by kernel_rfl) ?_
              simp only [List.drop_succ_cons, List.drop_zero]
              refine wpOne_cons (fun KO hK => ?_)
              go_simp
              refine hK.out _ _ (KK.out _ (N3'.out _ _ _)) ?_
              clear hK KO
              try simp only [Act.put, List.setIfInBounds_toArray, List.set_cons_zero, List.set_cons_succ]
              refine held_one 18 (fuel := 1) rfl (by kernel_rfl) ?_
              simp only [List.drop_succ_cons, List.drop_zero]
              refine wpOne_cons (fun KO hK => ?_)
              go_simp
              refine hK.out _ _ ((((HT.out _ _ _ _).2.2.2.2.drew).cell (p := ⟨p, 0, none⟩) lp).trans c0) ?_
              clear hK KO
              try simp only [Act.put, List.setIfInBounds_toArray, List.set_cons_zero, List.set_cons_succ]
              refine held_takes (by kernel_rfl) (fun _ _ _ _ _ h => h) [19] _ 0 _ _ _ rfl (by kernel_rfl) (by kernel_rfl) ((((HT.out _ _ _ _).2.2.2.2.drew).cell (p := ⟨p, 0, none⟩) lp).trans c0) ?_
              simp only [pick, List.drop_succ_cons, List.drop_zero]
              iterate 1 (refine wpTakes_cons (v := ?_) (Or.inl ⟨by rfl, ?_⟩) ?_; rotate_left; (intro w hSw; go_simp <;> with_reducible rfl); (try simp only [Act.put, List.setIfInBounds_toArray, List.set_cons_zero, List.set_cons_succ]))
              refine wpTakes_nil ?_
              refine wpAnyH_done (by kernel_rfl) ?_ _
              refine NoPanic.normal ?_
              go_wp2_with fail
              go_meet
              exact ⟨_, rfl, Three.of (HT.out #[.int .i64 (a : Int), .int .i64 y] #[.int .i64 (a : Int), .int .i64 (b : Int)] #[.int .i64 u, .int .i64 y] #[.slice (some ⟨(w3.heap.size + 1), 0, none⟩) 2 2, .slice (some ⟨(w3.heap.size + 1 + 1), 0, none⟩) 2 2, .slice (some ⟨w3.heap.size, 0, none⟩) 2 2]).2.2.2.1 (HT.out #[.int .i64 (a : Int), .int .i64 y] #[.int .i64 (a : Int), .int .i64 (b : Int)] #[.int .i64 u, .int .i64 y] #[.slice (some ⟨(w3.heap.size + 1), 0, none⟩) 2 2, .slice (some ⟨(w3.heap.size + 1 + 1), 0, none⟩) 2 2, .slice (some ⟨w3.heap.size, 0, none⟩) 2 2]).2.1 (HT.out #[.int .i64 (a : Int), .int .i64 y] #[.int .i64 (a : Int), .int .i64 (b : Int)] #[.int .i64 u, .int .i64 y] #[.slice (some ⟨(w3.heap.size + 1), 0, none⟩) 2 2, .slice (some ⟨(w3.heap.size + 1 + 1), 0, none⟩) 2 2, .slice (some ⟨w3.heap.size, 0, none⟩) 2 2]).2.2.1 (HT.out #[.int .i64 (a : Int), .int .i64 y] #[.int .i64 (a : Int), .int .i64 (b : Int)] #[.int .i64 u, .int .i64 y] #[.slice (some ⟨(w3.heap.size + 1), 0, none⟩) 2 2, .slice (some ⟨(w3.heap.size + 1 + 1), 0, none⟩) 2 2, .slice (some ⟨w3.heap.size, 0, none⟩) 2 2]).1 SM.out trivial trivial trivial, (HT.out #[.int .i64 (a : Int), .int .i64 y] #[.int .i64 (a : Int), .int .i64 (b : Int)] #[.int .i64 u, .int .i64 y] #[.slice (some ⟨(w3.heap.size + 1), 0, none⟩) 2 2, .slice (some ⟨(w3.heap.size + 1 + 1), 0, none⟩) 2 2, .slice (some ⟨w3.heap.size, 0, none⟩) 2 2]).2.2.2.2.drew⟩
            · simp only [List.drop_succ_cons, List.drop_zero]
              refine wpOne_cons (fun KO hK => ?_)
              go_simp
              refine hK.out _ _ (KK.out _ (N2'.out _ _)) ?_
              clear hK KO
              try simp only [Act.put, List.setIfInBounds_toArray, List.set_cons_zero, List.set_cons_succ]
              refine held_one 8 (fuel := 2) rfl (by kernel_rfl) ?_
              simp only [List.drop_succ_cons, List.drop_zero]
              refine wpOne_cons (fun KO hK => ?_)
              go_simp
              refine hK.out _ _ (KK.out _ (N3'.out _ _ _)) ?_
              clear hK KO
              try simp only [Act.put, List.setIfInBounds_toArray, List.set_cons_zero, List.set_cons_succ]
              refine held_one 18 (fuel := 1) rfl (by kernel_rfl) ?_
              simp only [List.drop_succ_cons, List.drop_zero]
              refine wpOne_cons (fun KO hK => ?_)
              go_simp
              refine hK.out _ _ ((((HT.out _ _ _ _).2.2.2.2.drew).cell (p := ⟨p, 0, none⟩) lp).trans c0) ?_
              clear hK KO
              try simp only [Act.put, List.setIfInBounds_toArray, List.set_cons_zero, List.set_cons_succ]
              refine held_takes (by kernel_rfl) (fun _ _ _ _ _ h => h) [19] _ 0 _ _ _ rfl (by kernel_rfl) (by kernel_rfl) ((((HT.out _ _ _ _).2.2.2.2.drew).cell (p := ⟨p, 0, none⟩) lp).trans c0) ?_
              simp only [pick, List.drop_succ_cons, List.drop_zero]
              iterate 1 (refine wpTakes_cons (v := ?_) (Or.inl ⟨by rfl, ?_⟩) ?_; rotate_left; (intro w hSw; go_simp <;> with_reducible rfl); (try simp only [Act.put, List.setIfInBounds_toArray, List.set_cons_zero, List.set_cons_succ]))
              refine wpTakes_nil ?_
              refine wpAnyH_done (by kernel_rfl) ?_ _
              refine NoPanic.normal ?_
              go_wp2_with fail
              go_meet
              exact ⟨_, rfl, Three.of (HT.out #[.int .i64 (a : Int), .int .i64 y] #[.int .i64 u, .int .i64 y] #[.int .i64 (a : Int), .int .i64 (b : Int)] #[.slice (some ⟨(w3.heap.size + 1 + 1), 0, none⟩) 2 2, .slice (some ⟨(w3.heap.size + 1), 0, none⟩) 2 2, .slice (some ⟨w3.heap.size, 0, none⟩) 2 2]).2.2.2.1 (HT.out #[.int .i64 (a : Int), .int .i64 y] #[.int .i64 u, .int .i64 y] #[.int .i64 (a : Int), .int .i64 (b : Int)] #[.slice (some ⟨(w3.heap.size + 1 + 1), 0, none⟩) 2 2, .slice (some ⟨(w3.heap.size + 1), 0, none⟩) 2 2, .slice (some ⟨w3.heap.size, 0, none⟩) 2 2]).2.2.1 (HT.out #[.int .i64 (a : Int), .int .i64 y] #[.int .i64 u, .int .i64 y] #[.int .i64 (a : Int), .int .i64 (b : Int)] #[.slice (some ⟨(w3.heap.size + 1 + 1), 0, none⟩) 2 2, .slice (some ⟨(w3.heap.size + 1), 0, none⟩) 2 2, .slice (some ⟨w3.heap.size, 0, none⟩) 2 2]).2.1 (HT.out #[.int .i64 (a : Int), .int .i64 y] #[.int .i64 u, .int .i64 y] #[.int .i64 (a : Int), .int .i64 (b : Int)] #[.slice (some ⟨(w3.heap.size + 1 + 1), 0, none⟩) 2 2, .slice (some ⟨(w3.heap.size + 1), 0, none⟩) 2 2, .slice (some ⟨w3.heap.size, 0, none⟩) 2 2]).1 SM.out trivial trivial trivial, (HT.out #[.int .i64 (a : Int), .int .i64 y] #[.int .i64 u, .int .i64 y] #[.int .i64 (a : Int), .int .i64 (b : Int)] #[.slice (some ⟨(w3.heap.size + 1 + 1), 0, none⟩) 2 2, .slice (some ⟨(w3.heap.size + 1), 0, none⟩) 2 2, .slice (some ⟨w3.heap.size, 0, none⟩) 2 2]).2.2.2.2.drew⟩
      · simp only [List.drop_succ_cons, List.drop_zero]
        refine wpOne_cons (fun KO hK => ?_)
        go_simp
        refine hK.out _ _ (KK.out _ (N1'.out _)) ?_
        clear hK KO
        try simp only [Act.put, List.setIfInBounds_toArray, List.set_cons_zero, List.set_cons_succ]
        refine held_one 7 (fuel := 5) rfl (by kernel_rfl) ?_
        simp only [List.drop_succ_cons, List.drop_zero]
        refine wpOne_cons (fun KO hK => ?_)
        go_simp
        refine (within8_any _ _ _ (by assumption) (by omega) (by omega)).mono ?_
        rintro e wq ⟨rfl, rfl⟩
        rw [hb]
        refine hK.out _ _ (KK.out _ (N1'.out _)) ?_
        clear hK KO
        try simp only [Act.put, List.setIfInBounds_toArray, List.set_cons_zero, List.set_cons_succ]
        refine held_two 8 15 (fuel := 4) rfl (by kernel_rfl) ?_ ?_
        · simp only [List.drop_succ_cons, List.drop_zero]
          refine wpOne_cons (fun KO hK => ?_)
          go_simp
          refine hK.out _ _ (KK.out _ (N2'.out _ _)) ?_
          clear hK KO
          try simp only [Act.put, List.setIfInBounds_toArray, List.set_cons_zero, List.set_cons_succ]
          refine held_one 15 (fuel := 3) rfl (by kernel_rfl) ?_
          simp only [List.drop_succ_cons, List.drop_zero]
          refine wpOne_cons (fun KO hK => ?_)
          go_simp
          refine (within8_any _ _ _ (by assumption) (by omega) (by omega)).mono ?_
          rintro e wq ⟨rfl, rfl⟩
          rw [ha]
          refine hK.out _ _ (KK.out _ (N2'.out _ _)) ?_
          clear hK KO
          try simp only [Act.put, List.setIfInBounds_toArray, List.set_cons_zero, List.set_cons_succ]
          refine held_one 17 (fuel := 2) rfl (by kernel_rfl) ?_
          simp only [List.drop_succ_cons, List.drop_zero]
          refine wpOne_cons (fun KO hK => ?_)
          go_simp
          refine hK.out _ _ (KK.out _ (N3'.out _ _ _)) ?_
          clear hK KO
          try simp only [Act.put, List.setIfInBounds_toArray, List.set_cons_zero, List.set_cons_succ]
          refine held_one 18 (fuel := 1) rfl (by kernel_rfl) ?_
          simp only [List.drop_succ_cons, List.drop_zero]
          refine wpOne_cons (fun KO hK => ?_)
          go_simp
          refine hK.out _ _ ((((HT.out _ _ _ _).2.2.2.2.drew).cell (p := ⟨p, 0, none⟩) lp).trans c0) ?_
          clear hK KO
          try simp only [Act.put, List.setIfInBounds_toArray, List.set_cons_zero, List.set_cons_succ]
          refine held_takes (by kernel_rfl) (fun _ _ _ _ _ h => h) [19] _ 0 _ _ _ rfl (by kernel_rfl) (by kernel_rfl) ((((HT.out _ _ _ _).2.2.2.2.drew).cell (p := ⟨p, 0, none⟩) lp).trans c0) ?_
          simp only [pick, List.drop_succ_cons, List.drop_zero]
          iterate 1 (refine wpTakes_cons (v := ?_) (Or.inl ⟨by rfl, ?_⟩) ?_; rotate_left; (intro w hSw; go_simp <;> with_reducible rfl); (try simp only [Act.put, List.setIfInBounds_toArray, List.set_cons_zero, List.set_cons_succ]))
          refine wpTakes_nil ?_
          refine wpAnyH_done (by kernel_rfl) ?_ _
          refine NoPanic.normal ?_
          go_wp2_with fail
          go_meet
          exact ⟨_, rfl, Three.of (HT.out #[.int .i64 u, .int .i64 y] #[.int .i64 (a : Int), .int .i64 (b : Int)] #[.int .i64 (a : Int), .int .i64 y] #[.slice (some ⟨(w3.heap.size + 1), 0, none⟩) 2 2, .slice (some ⟨w3.heap.size, 0, none⟩) 2 2, .slice (some ⟨(w3.heap.size + 1 + 1), 0, none⟩) 2 2]).2.2.2.1 (HT.out #[.int .i64 u, .int .i64 y] #[.int .i64 (a : Int), .int .i64 (b : Int)] #[.int .i64 (a : Int), .int .i64 y] #[.slice (some ⟨(w3.heap.size + 1), 0, none⟩) 2 2, .slice (some ⟨w3.heap.size, 0, none⟩) 2 2, .slice (some ⟨(w3.heap.size + 1 + 1), 0, none⟩) 2 2]).2.1 (HT.out #[.int .i64 u, .int .i64 y] #[.int .i64 (a : Int), .int .i64 (b : Int)] #[.int .i64 (a : Int), .int .i64 y] #[.slice (some ⟨(w3.heap.size + 1), 0, none⟩) 2 2, .slice (some ⟨w3.heap.size, 0, none⟩) 2 2, .slice (some ⟨(w3.heap.size + 1 + 1), 0, none⟩) 2 2]).1 (HT.out #[.int .i64 u, .int .i64 y] #[.int .i64 (a : Int), .int .i64 (b : Int)] #[.int .i64 (a : Int), .int .i64 y] #[.slice (some ⟨(w3.heap.size + 1), 0, none⟩) 2 2, .slice (some ⟨w3.heap.size, 0, none⟩) 2 2, .slice (some ⟨(w3.heap.size + 1 + 1), 0, none⟩) 2 2]).2.2.1 SM.out trivial trivial trivial, (HT.out #[.int .i64 u, .int .i64 y] #[.int .i64 (a : Int), .int .i64 (b : Int)] #[.int .i64 (a : Int), .int .i64 y] #[.slice (some ⟨(w3.heap.size + 1), 0, none⟩) 2 2, .slice (some ⟨w3.heap.size, 0, none⟩) 2 2, .slice (some ⟨(w3.heap.size + 1 + 1), 0, none⟩) 2 2]).2.2.2.2.drew⟩
        · simp only [List.drop_succ_cons, List.drop_zero]
          refine wpOne_cons (fun KO hK => ?_)
          go_simp
          refine (within8_any _ _ _ (by assumption) (by omega) (by omega)).mono ?_
          rintro e wq ⟨rfl, rfl⟩
          rw [ha]
          refine hK.out _ _ (KK.out _ (N1'.out _)) ?_
          clear hK KO
          try simp only [Act.put, List.setIfInBounds_toArray, List.set_cons_zero, List.set_cons_succ]
          refine held_two 8 17 (fuel := 3) rfl (by kernel_rfl) ?_ ?_
          · simp only [List.drop_succ_cons, List.drop_zero]
            refine wpOne_cons (fun KO hK => ?_)
            go_simp
            refine hK.out _ _ (KK.out _ (N2'.out _ _)) ?_
            clear hK KO
            try simp only [Act.put, List.setIfInBounds_toArray, List.set_cons_zero, List.set_cons_succ]
            refine held_one 17 (fuel := 2) rfl (by kernel_rfl) ?_
            simp only [List.drop_succ_cons, List.drop_zero]
            refine wpOne_cons (fun KO hK => ?_)
            go_simp
            refine hK.out _ _ (KK.out _ (N3'.out _ _ _)) ?_
            clear hK KO
            try simp only [Act.put, List.setIfInBounds_toArray, List.set_cons_zero, List.set_cons_succ]
            refine held_one 18 (fuel := 1) rfl (by kernel_rfl) ?_
            simp only [List.drop_succ_cons, List.drop_zero]
            refine wpOne_cons (fun KO hK => ?_)
            go_simp
            refine hK.out _ _ ((((HT.out _ _ _ _).2.2.2.2.drew).cell (p := ⟨p, 0, none⟩) lp).trans c0) ?_
            clear hK KO
            try simp only [Act.put, List.setIfInBounds_toArray, List.set_cons_zero, List.set_cons_succ]
            refine held_takes (by kernel_rfl) (fun _ _ _ _ _ h => h) [19] _ 0 _ _ _ rfl (by kernel_rfl) (by kernel_rfl) ((((HT.out _ _ _ _).2.2.2.2.drew).cell (p := ⟨p, 0, none⟩) lp).trans c0) ?_
            simp only [pick, List.drop_succ_cons, List.drop_zero]
            iterate 1 (refine wpTakes_cons (v := ?_) (Or.inl ⟨by rfl, ?_⟩) ?_; rotate_left; (intro w hSw; go_simp <;> with_reducible rfl); (try simp only [Act.put, List.setIfInBounds_toArray, List.set_cons_zero, List.set_cons_succ]))
            refine wpTakes_nil ?_
            refine wpAnyH_done (by kernel_rfl) ?_ _
            refine NoPanic.normal ?_
            go_wp2_with fail
            go_meet
            exact ⟨_, rfl, Three.of (HT.out #[.int .i64 u, .int .i64 y] #[.int .i64 (a : Int), .int .i64 (b : Int)] #[.int .i64 (a : Int), .int .i64 y] #[.slice (some ⟨(w3.heap.size + 1), 0, none⟩) 2 2, .slice (some ⟨w3.heap.size, 0, none⟩) 2 2, .slice (some ⟨(w3.heap.size + 1 + 1), 0, none⟩) 2 2]).2.2.2.1 (HT.out #[.int .i64 u, .int .i64 y] #[.int .i64 (a : Int), .int .i64 (b : Int)] #[.int .i64 (a : Int), .int .i64 y] #[.slice (some ⟨(w3.heap.size + 1), 0, none⟩) 2 2, .slice (some ⟨w3.heap.size, 0, none⟩) 2 2, .slice (some ⟨(w3.heap.size + 1 + 1), 0, none⟩) 2 2]).2.1 (HT.out #[.int .i64 u, .int .i64 y] #[.int .i64 (a : Int), .int .i64 (b : Int)] #[.int .i64 (a : Int), .int .i64 y] #[.slice (some ⟨(w3.heap.size + 1), 0, none⟩) 2 2, .slice (some ⟨w3.heap.size, 0, none⟩) 2 2, .slice (some ⟨(w3.heap.size + 1 + 1), 0, none⟩) 2 2]).1 (HT.out #[.int .i64 u, .int .i64 y] #[.int .i64 (a : Int), .int .i64 (b : Int)] #[.int .i64 (a : Int), .int .i64 y] #[.slice (some ⟨(w3.heap.size + 1), 0, none⟩) 2 2, .slice (some ⟨w3.heap.size, 0, none⟩) 2 2, .slice (some ⟨(w3.heap.size + 1 + 1), 0, none⟩) 2 2]).2.2.1 SM.out trivial trivial trivial, (HT.out #[.int .i64 u, .int .i64 y] #[.int .i64 (a : Int), .int .i64 (b : Int)] #[.int .i64 (a : Int), .int .i64 y] #[.slice (some ⟨(w3.heap.size + 1), 0, none⟩) 2 2, .slice (some ⟨w3.heap.size, 0, none⟩) 2 2, .slice (some ⟨(w3.heap.size + 1 + 1), 0, none⟩) 2 2]).2.2.2.2.drew⟩
          · simp only [List.drop_succ_cons, List.drop_zero]
            refine wpOne_cons (fun KO hK => ?_)
            go_simp
            refine hK.out _ _ (KK.out _ (N2'.out _ _)) ?_
            clear hK KO
            try simp only [Act.put, List.setIfInBounds_toArray, List.set_cons_zero, List.set_cons_succ]
            refine held_one 8 (fuel := 2) rfl (by kernel_rfl) ?_
            simp only [List.drop_succ_cons, List.drop_zero]
            refine wpOne_cons (fun KO hK => ?_)
            go_simp
            refine hK.out _ _ (KK.out _ (N3'.out _ _ _)) ?_
            clear hK KO
            try simp only [Act.put, List.setIfInBounds_toArray, List.set_cons_zero, List.set_cons_succ]
            refine held_one 18 (fuel := 1) rfl (by kernel_rfl) ?_
            simp only [List.drop_succ_cons, List.drop_zero]
            refine wpOne_cons (fun KO hK => ?_)
            go_simp
            refine hK.out _ _ ((((HT.out _ _ _ _).2.2.2.2.drew).cell (p := ⟨p, 0, none⟩) lp).trans c0) ?_
            clear hK KO
            try simp only [Act.put, List.setIfInBounds_toArray, List.set_cons_zero, List.set_cons_succ]
            refine held_takes (by kernel_rfl) (fun _ _ _ _ _ h => h) [19] _ 0 _ _ _ rfl (by kernel_rfl) (by kernel_rfl) ((((HT.out _ _ _ _).2.2.2.2.drew).cell (p := ⟨p, 0, none⟩) lp).trans c0) ?_
            simp only [pick, List.drop_succ_cons, List.drop_zero]
            iterate 1 (refine wpTakes_cons (v := ?_) (Or.inl ⟨by rfl, ?_⟩) ?_; rotate_left; (intro w hSw; go_simp <;> with_reducible rfl); (try simp only [Act.put, List.setIfInBounds_toArray, List.set_cons_zero, List.set_cons_succ]))
            refine wpTakes_nil ?_
            refine wpAnyH_done (by kernel_rfl) ?_ _
            refine NoPanic.normal ?_
            go_wp2_with fail
            go_meet
            exact ⟨_, rfl, Three.of (HT.out #[.int .i64 u, .int .i64 y] #[.int .i64 (a : Int), .int .i64 y] #[.int .i64 (a : Int), .int .i64 (b : Int)] #[.slice (some ⟨(w3.heap.size + 1 + 1), 0, none⟩) 2 2, .slice (some ⟨w3.heap.size, 0, none⟩) 2 2, .slice (some ⟨(w3.heap.size + 1), 0, none⟩) 2 2]).2.2.2.1 (HT.out #[.int .i64 u, .int .i64 y] #[.int .i64 (a : Int), .int .i64 y] #[.int .i64 (a : Int), .int .i64 (b : Int)] #[.slice (some ⟨(w3.heap.size + 1 + 1), 0, none⟩) 2 2, .slice (some ⟨w3.heap.size, 0, none⟩) 2 2, .slice (some ⟨(w3.heap.size + 1), 0, none⟩) 2 2]).2.2.1 (HT.out #[.int .i64 u, .int .i64 y] #[.int .i64 (a : Int), .int .i64 y] #[.int .i64 (a : Int), .int .i64 (b : Int)] #[.slice (some ⟨(w3.heap.size + 1 + 1), 0, none⟩) 2 2, .slice (some ⟨w3.heap.size, 0, none⟩) 2 2, .slice (some ⟨(w3.heap.size + 1), 0, none⟩) 2 2]).1 (HT.out #[.int .i64 u, .int .i64 y] #[.int .i64 (a : Int), .int .i64 y] #[.int .i64 (a : Int), .int .i64 (b : Int)] #[.slice (some ⟨(w3.heap.size + 1 + 1), 0, none⟩) 2 2, .slice (some ⟨w3.heap.size, 0, none⟩) 2 2, .slice (some ⟨(w3.heap.size + 1), 0, none⟩) 2 2]).2.1 SM.out trivial trivial trivial, (HT.out #[.int .i64 u, .int .i64 y] #[.int .i64 (a : Int), .int .i64 y] #[.int .i64 (a : Int), .int .i64 (b : Int)] #[.slice (some ⟨(w3.heap.size + 1 + 1), 0, none⟩) 2 2, .slice (some ⟨w3.heap.size, 0, none⟩) 2 2, .slice (some ⟨(w3.heap.size + 1), 0, none⟩) 2 2]).2.2.2.2.drew⟩
    · simp only [List.drop_succ_cons, List.drop_zero]
      refine wpOne_cons (fun KO hK => ?_)
      go_simp
      refine hK.out _ _ (KK.out _ (N1'.out _)) ?_
      clear hK KO
      try simp only [Act.put, List.setIfInBounds_toArray, List.set_cons_zero, List.set_cons_succ]
      refine held_one 3 (fuel := 6) rfl (by kernel_rfl) ?_
      simp only [List.drop_succ_cons, List.drop_zero]
      refine wpOne_cons (fun KO hK => ?_)
      go_simp
      refine (within8_any _ _ _ (by assumption) (by omega) (by omega)).mono ?_
      rintro e wq ⟨rfl, rfl⟩
      rw [ha]
      refine hK.out _ _ (KK.out _ (N1'.out _)) ?_
      clear hK KO
      try simp only [Act.put, List.setIfInBounds_toArray, List.set_cons_zero, List.set_cons_succ]
      refine held_one 7 (fuel := 5) rfl (by kernel_rfl) ?_
      simp only [List.drop_succ_cons, List.drop_zero]
      refine wpOne_cons (fun KO hK => ?_)
      go_simp
      refine (within8_any _ _ _ (by assumption) (by omega) (by omega)).mono ?_
      rintro e wq ⟨rfl, rfl⟩
      rw [hb]
      refine hK.out _ _ (KK.out _ (N1'.out _)) ?_
      clear hK KO
      try simp only [Act.put, List.setIfInBounds_toArray, List.set_cons_zero, List.set_cons_succ]
      refine held_two 8 15 (fuel := 4) rfl (by kernel_rfl) ?_ ?_
      · simp only [List.drop_succ_cons, List.drop_zero]
        refine wpOne_cons (fun KO hK => ?_)
        go_simp
        refine hK.out _ _ (KK.out _ (N2'.out _ _)) ?_
        clear hK KO
        try simp only [Act.put, List.setIfInBounds_toArray, List.set_cons_zero, List.set_cons_succ]
        refine held_one 15 (fuel := 3) rfl (by kernel_rfl) ?_
        simp only [List.drop_succ_cons, List.drop_zero]
        refine wpOne_cons (fun KO hK => ?_)
        go_simp
        refine (within8_any _ _ _ (by assumption) (by omega) (by omega)).mono ?_
        rintro e wq ⟨rfl, rfl⟩
        rw [ha]
        refine hK.out _ _ (KK.out _ (N2'.out _ _)) ?_
        clear hK KO
        try simp only [Act.put, List.setIfInBounds_toArray, List.set_cons_zero, List.set_cons_succ]
        refine held_one 17 (fuel := 2) rfl (by kernel_rfl) ?_
        simp only [List.drop_succ_cons, List.drop_zero]
        refine wpOne_cons (fun KO hK => ?_)
        go_simp
        refine hK.out _ _ (KK.out _ (N3'.out _ _ _)) ?_
        clear hK KO
        try simp only [Act.put, List.setIfInBounds_toArray, List.set_cons_zero, List.set_cons_succ]
        refine held_one 18 (fuel := 1) rfl (by kernel_rfl) ?_
        simp only [List.drop_succ_cons, List.drop_zero]
        refine wpOne_cons (fun KO hK => ?_)
        go_simp
        refine hK.out _ _ ((((HT.out _ _ _ _).2.2.2.2.drew).cell (p := ⟨p, 0, none⟩) lp).trans c0) ?_
        clear hK KO
        try simp only [Act.put, List.setIfInBounds_toArray, List.set_cons_zero, List.set_cons_succ]
        refine held_takes (by kernel_rfl) (fun _ _ _ _ _ h => h) [19] _ 0 _ _ _ rfl (by kernel_rfl) (by kernel_rfl) ((((HT.out _ _ _ _).2.2.2.2.drew).cell (p := ⟨p, 0, none⟩) lp).trans c0) ?_
        simp only [pick, List.drop_succ_cons, List.drop_zero]
        iterate 1 (refine wpTakes_cons (v := ?_) (Or.inl ⟨by rfl, ?_⟩) ?_; rotate_left; (intro w hSw; go_simp <;> with_reducible rfl); (try simp only [Act.put, List.setIfInBounds_toArray, List.set_cons_zero, List.set_cons_succ]))
        refine wpTakes_nil ?_
        refine wpAnyH_done (by kernel_rfl) ?_ _
        refine NoPanic.normal ?_
        go_wp2_with fail
        go_meet
        exact ⟨_, rfl, Three.of (HT.out #[.int .i64 u, .int .i64 y] #[.int .i64 (a : Int), .int .i64 (b : Int)] #[.int .i64 (a : Int), .int .i64 y] #[.slice (some ⟨(w3.heap.size + 1), 0, none⟩) 2 2, .slice (some ⟨w3.heap.size, 0, none⟩) 2 2, .slice (some ⟨(w3.heap.size + 1 + 1), 0, none⟩) 2 2]).2.2.2.1 (HT.out #[.int .i64 u, .int .i64 y] #[.int .i64 (a : Int), .int .i64 (b : Int)] #[.int .i64 (a : Int), .int .i64 y] #[.slice (some ⟨(w3.heap.size + 1), 0, none⟩) 2 2, .slice (some ⟨w3.heap.size, 0, none⟩) 2 2, .slice (some ⟨(w3.heap.size + 1 + 1), 0, none⟩) 2 2]).2.1 (HT.out #[.int .i64 u, .int .i64 y] #[.int .i64 (a : Int), .int .i64 (b : Int)] #[.int .i64 (a : Int), .int .i64 y] #[.slice (some ⟨(w3.heap.size + 1), 0, none⟩) 2 2, .slice (some ⟨w3.heap.size, 0, none⟩) 2 2, .slice (some ⟨(w3.heap.size + 1 + 1), 0, none⟩) 2 2]).1 (HT.out #[.int .i64 u, .int .i64 y] #[.int .i64 (a : Int), .int .i64 (b : Int)] #[.int .i64 (a : Int), .int .i64 y] #[.slice (some ⟨(w3.heap.size + 1), 0, none⟩) 2 2, .slice (some ⟨w3.heap.size, 0, none⟩) 2 2, .slice (some ⟨(w3.heap.size + 1 + 1), 0, none⟩) 2 2]).2.2.1 SM.out trivial trivial trivial, (HT.out #[.int .i64 u, .int .i64 y] #[.int .i64 (a : Int), .int .i64 (b : Int)] #[.int .i64 (a : Int), .int .i64 y] #[.slice (some ⟨(w3.heap.size + 1), 0, none⟩) 2 2, .slice (some ⟨w3.heap.size, 0, none⟩) 2 2, .slice (some ⟨(w3.heap.size + 1 + 1), 0, none⟩) 2 2]).2.2.2.2.drew⟩
      · simp only [List.drop_succ_cons, List.drop_zero]
        refine wpOne_cons (fun KO hK => ?_)
        go_simp
        refine (within8_any _ _ _ (by assumption) (by omega) (by omega)).mono ?_
        rintro e wq ⟨rfl, rfl⟩
        rw [ha]
        refine hK.out _ _ (KK.out _ (N1'.out _)) ?_
        clear hK KO
        try simp only [Act.put, List.setIfInBounds_toArray, List.set_cons_zero, List.set_cons_succ]
        refine held_two 8 17 (fuel := 3) rfl (by kernel_rfl) ?_ ?_
        · simp only [List.drop_succ_cons, List.drop_zero]
          refine wpOne_cons (fun KO hK => ?_)
          go_simp
          refine hK.out _ _ (KK.out _ (N2'.out _ _)) ?_
          clear hK KO
          try simp only [Act.put, List.setIfInBounds_toArray, List.set_cons_zero, List.set_cons_succ]
          refine held_one 17 (fuel := 2) rfl (by kernel_rfl) ?_
          simp only [List.drop_succ_cons, List.drop_zero]
          refine wpOne_cons (fun KO hK => ?_)
          go_simp
          refine hK.out _ _ (KK.out _ (N3'.out _ _ _)) ?_
          clear hK KO
          try simp only [Act.put, List.setIfInBounds_toArray, List.set_cons_zero, List.set_cons_succ]
          refine held_one 18 (fuel := 1) rfl (by kernel_rfl) ?_
          simp only [List.drop_succ_cons, List.drop_zero]
          refine wpOne_cons (fun KO hK => ?_)
          go_simp
          refine hK.out _ _ ((((HT.out _ _ _ _).2.2.2.2.drew).cell (p := ⟨p, 0, none⟩) lp).trans c0) ?_
          clear hK KO
          try simp only [Act.put, List.setIfInBounds_toArray, List.set_cons_zero, List.set_cons_succ]
          refine held_takes (by kernel_rfl) (fun _ _ _ _ _ h => h) [19] _ 0 _ _ _ rfl (by kernel_rfl) (by kernel_rfl) ((((HT.out _ _ _ _).2.2.2.2.drew).cell (p := ⟨p, 0, none⟩) lp).trans c0) ?_
          simp only [pick, List.drop_succ_cons, List.drop_zero]
          iterate 1 (refine wpTakes_cons (v := ?_) (Or.inl ⟨by rfl, ?_⟩) ?_; rotate_left; (intro w hSw; go_simp <;> with_reducible rfl); (try simp only [Act.put, List.setIfInBounds_toArray, List.set_cons_zero, List.set_cons_succ]))
          refine wpTakes_nil ?_
          refine wpAnyH_done (by kernel_rfl) ?_ _
          refine NoPanic.normal ?_
          go_wp2_with fail
          go_meet
          exact ⟨_, rfl, Three.of (HT.out #[.int .i64 u, .int .i64 y] #[.int .i64 (a : Int), .int .i64 (b : Int)] #[.int .i64 (a : Int), .int .i64 y] #[.slice (some ⟨(w3.heap.size + 1), 0, none⟩) 2 2, .slice (some ⟨w3.heap.size, 0, none⟩) 2 2, .slice (some ⟨(w3.heap.size + 1 + 1), 0, none⟩) 2 2]).2.2.2.1 (HT.out #[.int .i64 u, .int .i64 y] #[.int .i64 (a : Int), .int .i64 (b : Int)] #[.int .i64 (a : Int), .int .i64 y] #[.slice (some ⟨(w3.heap.size + 1), 0, none⟩) 2 2, .slice (some ⟨w3.heap.size, 0, none⟩) 2 2, .slice (some ⟨(w3.heap.size + 1 + 1), 0, none⟩) 2 2]).2.1 (HT.out #[.int .i64 u, .int .i64 y] #[.int .i64 (a : Int), .int .i64 (b : Int)] #[.int .i64 (a : Int), .int .i64 y] #[.slice (some ⟨(w3.heap.size + 1), 0, none⟩) 2 2, .slice (some ⟨w3.heap.size, 0, none⟩) 2 2, .slice (some ⟨(w3.heap.size + 1 + 1), 0, none⟩) 2 2]).1 (HT.out #[.int .i64 u, .int .i64 y] #[.int .i64 (a : Int), .int .i64 (b : Int)] #[.int .i64 (a : Int), .int .i64 y] #[.slice (some ⟨(w3.heap.size + 1), 0, none⟩) 2 2, .slice (some ⟨w3.heap.size, 0, none⟩) 2 2, .slice (some ⟨(w3.heap.size + 1 + 1), 0, none⟩) 2 2]).2.2.1 SM.out trivial trivial trivial, (HT.out #[.int .i64 u, .int .i64 y] #[.int .i64 (a : Int), .int .i64 (b : Int)] #[.int .i64 (a : Int), .int .i64 y] #[.slice (some ⟨(w3.heap.size + 1), 0, none⟩) 2 2, .slice (some ⟨w3.heap.size, 0, none⟩) 2 2, .slice (some ⟨(w3.heap.size + 1 + 1), 0, none⟩) 2 2]).2.2.2.2.drew⟩
        · simp only [List.drop_succ_cons, List.drop_zero]
          refine wpOne_cons (fun KO hK => ?_)
          go_simp
          refine hK.out _ _ (KK.out _ (N2'.out _ _)) ?_
          clear hK KO
          try simp only [Act.put, List.setIfInBounds_toArray, List.set_cons_zero, List.set_cons_succ]
          refine held_one 8 (fuel := 2) rfl (by kernel_rfl) ?_
          simp only [List.drop_succ_cons, List.drop_zero]
          refine wpOne_cons (fun KO hK => ?_)
          go_simp
          refine hK.out _ _ (KK.out _ (N3'.out _ _ _)) ?_
          clear hK KO
          try simp only [Act.put, List.setIfInBounds_toArray, List.set_cons_zero, List.set_cons_succ]
          refine held_one 18 (fuel := 1) rfl (by kernel_rfl) ?_
          simp only [List.drop_succ_cons, List.drop_zero]
          refine wpOne_cons (fun KO hK => ?_)
          go_simp
          refine hK.out _ _ ((((HT.out _ _ _ _).2.2.2.2.drew).cell (p := ⟨p, 0, none⟩) lp).trans c0) ?_
          clear hK KO
          try simp only [Act.put, List.setIfInBounds_toArray, List.set_cons_zero, List.set_cons_succ]
          refine held_takes (by kernel_rfl) (fun _ _ _ _ _ h => h) [19] _ 0 _ _ _ rfl (by kernel_rfl) (by kernel_rfl) ((((HT.out _ _ _ _).2.2.2.2.drew).cell (p := ⟨p, 0, none⟩) lp).trans c0) ?_
          simp only [pick, List.drop_succ_cons, List.drop_zero]
          iterate 1 (refine wpTakes_cons (v := ?_) (Or.inl ⟨by rfl, ?_⟩) ?_; rotate_left; (intro w hSw; go_simp <;> with_reducible rfl); (try simp only [Act.put, List.setIfInBounds_toArray, List.set_cons_zero, List.set_cons_succ]))
          refine wpTakes_nil ?_
          refine wpAnyH_done (by kernel_rfl) ?_ _
          refine NoPanic.normal ?_
          go_wp2_with fail
          go_meet
          exact ⟨_, rfl, Three.of (HT.out #[.int .i64 u, .int .i64 y] #[.int .i64 (a : Int), .int .i64 y] #[.int .i64 (a : Int), .int .i64 (b : Int)] #[.slice (some ⟨(w3.heap.size + 1 + 1), 0, none⟩) 2 2, .slice (some ⟨w3.heap.size, 0, none⟩) 2 2, .slice (some ⟨(w3.heap.size + 1), 0, none⟩) 2 2]).2.2.2.1 (HT.out #[.int .i64 u, .int .i64 y] #[.int .i64 (a : Int), .int .i64 y] #[.int .i64 (a : Int), .int .i64 (b : Int)] #[.slice (some ⟨(w3.heap.size + 1 + 1), 0, none⟩) 2 2, .slice (some ⟨w3.heap.size, 0, none⟩) 2 2, .slice (some ⟨(w3.heap.size + 1), 0, none⟩) 2 2]).2.2.1 (HT.out #[.int .i64 u, .int .i64 y] #[.int .i64 (a : Int), .int .i64 y] #[.int .i64 (a : Int), .int .i64 (b : Int)] #[.slice (some ⟨(w3.heap.size + 1 + 1), 0, none⟩) 2 2, .slice (some ⟨w3.heap.size, 0, none⟩) 2 2, .slice (some ⟨(w3.heap.size + 1), 0, none⟩) 2 2]).1 (HT.out #[.int .i64 u, .int .i64 y] #[.int .i64 (a : Int), .int .i64 y] #[.int .i64 (a : Int), .int .i64 (b : Int)] #[.slice (some ⟨(w3.heap.size + 1 + 1), 0, none⟩) 2 2, .slice (some ⟨w3.heap.size, 0, none⟩) 2 2, .slice (some ⟨(w3.heap.size + 1), 0, none⟩) 2 2]).2.1 SM.out trivial trivial trivial, (HT.out #[.int .i64 u, .int .i64 y] #[.int .i64 (a : Int), .int .i64 y] #[.int .i64 (a : Int), .int .i64 (b : Int)] #[.slice (some ⟨(w3.heap.size + 1 + 1), 0, none⟩) 2 2, .slice (some ⟨w3.heap.size, 0, none⟩) 2 2, .slice (some ⟨(w3.heap.size + 1), 0, none⟩) 2 2]).2.2.2.2.drew⟩
  case rest =>
    obtain ⟨L, rfl, h3, b5⟩ := hcut
    have T3 := Lib.hid h3
    have lL := h3.1
    replace NN := NN.below b5 (Nat.le_refl _)
    replace B1 := B1.trans (b5.mono B1.size)
    clear b5 c0 ha hb h3 SM
    obtain ⟨w5, hw5⟩ : ∃ w5, w5 = wc := ⟨_, rfl⟩
    subst hw5
    have E5 := Below.refl w5.heap.size w5
    go_wp2_with fail
    go_loopw [13] (fun u13 wr => ∃ i : Nat, u13 = .int .i64 (i : Int) ∧ i ≤ 3 ∧ Below w5.heap.size w5 wr) (fun u13 _ => 3 - (intOf u13).toNat)
    case atStart => exact ⟨0, rfl, by omega, E5⟩
    case round =>
      clear E5
      obtain ⟨i, rfl, hi, E5⟩ := hrel
      by_cases hlt : i < 3
      · have i1 : (i : Int) < 3 := by omega
        obtain ⟨P, q, r, lP, l0, r0, r1, sq, sr, -⟩ := T3.out.2 i hlt
        have NW := NN.below E5 (Nat.le_refl _)
        have hwr := E5.size
        replace l0 := (E5.cell (p := ⟨L, i, none⟩) lL).trans l0
        replace r0 := (E5.cell (p := ⟨P, 0, none⟩) lP).trans r0
        replace r1 := (E5.cell (p := ⟨P, 1, none⟩) lP).trans r1
        have lL2 : L < wr.heap.size := by omega
        have lP2 : P < wr.heap.size := by omega
        have c0 := NW.c0
        have c1 := NW.c1
        have c2 := NW.c2
        have c3 := NW.c3
        have pl := NW.lt
        have KK : Hid (∀ W, Below wr.heap.size wr W → W.cell? ⟨p, 0, none⟩ = some (.int .i64 (N : Int)) ∧ W.cell? ⟨p, 1, none⟩ = some (.slice TA m tp) ∧ W.cell? ⟨p, 2, none⟩ = some (.slice XA m xp) ∧ W.cell? ⟨p, 3, none⟩ = some (.slice CA m cp) ∧ W.cell? ⟨L, i, none⟩ = some (.slice (some ⟨P, 0, none⟩) 2 2) ∧ W.cell? ⟨P, 0, none⟩ = some (.int .i64 q) ∧ W.cell? ⟨P, 1, none⟩ = some (.int .i64 r)) :=
          Lib.hid fun W b => ⟨(b.cell (p := ⟨p, 0, none⟩) pl).trans c0, (b.cell (p := ⟨p, 1, none⟩) pl).trans c1, (b.cell (p := ⟨p, 2, none⟩) pl).trans c2, (b.cell (p := ⟨p, 3, none⟩) pl).trans c3, (b.cell (p := ⟨L, i, none⟩) lL2).trans l0, (b.cell (p := ⟨P, 0, none⟩) lP2).trans r0, (b.cell (p := ⟨P, 1, none⟩) lP2).trans r1⟩
        have D0 : Below wr.heap.size wr wr.drew := (Below.refl _ wr).drew
        go_upto_region 8 with fail
        go_region_held3 (fun w' => w'.cell? ⟨p, 0, none⟩ = some (.int .i64 (N : Int)) ∧ w'.cell? ⟨p, 1, none⟩ = some (.slice TA m tp) ∧ w'.cell? ⟨p, 2, none⟩ = some (.slice XA m xp) ∧ w'.cell? ⟨p, 3, none⟩ = some (.slice CA m cp) ∧ w'.cell? ⟨L, i, none⟩ = some (.slice (some ⟨P, 0, none⟩) 2 2) ∧ w'.cell? ⟨P, 0, none⟩ = some (.int .i64 q) ∧ w'.cell? ⟨P, 1, none⟩ = some (.int .i64 r))
          (first | with_reducible exact k1 | go_keep)
          ((go_at_call 16; refine (rimHeightsOf_ok wr.drew N _ _ _ m t x c (NW.rt.below D0 (Nat.le_refl _)) (NW.rx.below D0 (Nat.le_refl _)) (NW.rc.below D0 (Nat.le_refl _)) gm hM q r sq sr).mono ?_; intro e w8x hh; obtain ⟨V8, n8, y8, code8, rfl, R8, bb, IS8⟩ := hh.row; have E7 : Below wr.heap.size wr w8x := D0.trans (bb.mono (Nat.le_refl _)); have k1 := KK.out w8x E7; clear bb hh))
        obtain ⟨-, -, -, -, l0', r0', r1'⟩ := k1
        replace l0 := l0'
        replace r0 := r0'
        replace r1 := r1'
        replace NW := NW.below E7 (Nat.le_refl _)
        replace lL2 : L < w8x.heap.size := Nat.lt_of_lt_of_le lL2 E7.size
        replace lP2 : P < w8x.heap.size := Nat.lt_of_lt_of_le lP2 E7.size
        replace E5 := E5.trans (E7.mono E5.size)
        have O8 := R8.1
        obtain ⟨A8, q8, rfl⟩ := R8.slice
        clear E7 KK D0 c0 c1 c2 c3 pl l0' r0' r1' R8
        have HI8 := Lib.hid IS8
        clear IS8
        have c0 := NW.c0
        have c1 := NW.c1
        have c2 := NW.c2
        have c3 := NW.c3
        have pl := NW.lt
        have KK : Hid (∀ W, Below w8x.heap.size w8x W → W.cell? ⟨p, 0, none⟩ = some (.int .i64 (N : Int)) ∧ W.cell? ⟨p, 1, none⟩ = some (.slice TA m tp) ∧ W.cell? ⟨p, 2, none⟩ = some (.slice XA m xp) ∧ W.cell? ⟨p, 3, none⟩ = some (.slice CA m cp) ∧ W.cell? ⟨L, i, none⟩ = some (.slice (some ⟨P, 0, none⟩) 2 2) ∧ W.cell? ⟨P, 0, none⟩ = some (.int .i64 q) ∧ W.cell? ⟨P, 1, none⟩ = some (.int .i64 r)) :=
          Lib.hid fun W b => ⟨(b.cell (p := ⟨p, 0, none⟩) pl).trans c0, (b.cell (p := ⟨p, 1, none⟩) pl).trans c1, (b.cell (p := ⟨p, 2, none⟩) pl).trans c2, (b.cell (p := ⟨p, 3, none⟩) pl).trans c3, (b.cell (p := ⟨L, i, none⟩) lL2).trans l0, (b.cell (p := ⟨P, 0, none⟩) lP2).trans r0, (b.cell (p := ⟨P, 1, none⟩) lP2).trans r1⟩
        have D0 : Below w8x.heap.size w8x w8x.drew := (Below.refl _ w8x).drew
        go_upto_region 9 with fail
        go_region_held3 (fun w' => w'.cell? ⟨p, 0, none⟩ = some (.int .i64 (N : Int)) ∧ w'.cell? ⟨p, 1, none⟩ = some (.slice TA m tp) ∧ w'.cell? ⟨p, 2, none⟩ = some (.slice XA m xp) ∧ w'.cell? ⟨p, 3, none⟩ = some (.slice CA m cp) ∧ w'.cell? ⟨L, i, none⟩ = some (.slice (some ⟨P, 0, none⟩) 2 2) ∧ w'.cell? ⟨P, 0, none⟩ = some (.int .i64 q) ∧ w'.cell? ⟨P, 1, none⟩ = some (.int .i64 r))
          (first | with_reducible exact k1 | go_keep)
          ((go_at_call 17; refine (refHeights8_ok w8x.drew N _ _ _ m t x c (NW.rt.below D0 (Nat.le_refl _)) (NW.rx.below D0 (Nat.le_refl _)) (NW.rc.below D0 (Nat.le_refl _)) gd pb gcap hM q r sq sr).mono ?_; intro e w9x hh; obtain ⟨V9, n9, y9, code9, rfl, R9, bb, IS9⟩ := hh.row; have E7 : Below w8x.heap.size w8x w9x := D0.trans (bb.mono (Nat.le_refl _)); have k1 := KK.out w9x E7; clear bb hh))
        obtain ⟨-, -, -, -, l0', r0', r1'⟩ := k1
        replace l0 := l0'
        replace r0 := r0'
        replace r1 := r1'
        replace NW := NW.below E7 (Nat.le_refl _)
        replace lL2 : L < w9x.heap.size := Nat.lt_of_lt_of_le lL2 E7.size
        replace lP2 : P < w9x.heap.size := Nat.lt_of_lt_of_le lP2 E7.size
        replace E5 := E5.trans (E7.mono E5.size)
        have O9 := R9.1
        obtain ⟨A9, q9, rfl⟩ := R9.slice
        replace O8 := O8.below E7 (Nat.le_refl _)
        clear E7 KK D0 c0 c1 c2 c3 pl l0' r0' r1' R9
        have HI9 := Lib.hid IS9
        clear IS9
        have c0 := NW.c0
        have c1 := NW.c1
        have c2 := NW.c2
        have c3 := NW.c3
        have pl := NW.lt
        have KK : Hid (∀ W, Below w9x.heap.size w9x W → W.cell? ⟨p, 0, none⟩ = some (.int .i64 (N : Int)) ∧ W.cell? ⟨p, 1, none⟩ = some (.slice TA m tp) ∧ W.cell? ⟨p, 2, none⟩ = some (.slice XA m xp) ∧ W.cell? ⟨p, 3, none⟩ = some (.slice CA m cp) ∧ W.cell? ⟨L, i, none⟩ = some (.slice (some ⟨P, 0, none⟩) 2 2) ∧ W.cell? ⟨P, 0, none⟩ = some (.int .i64 q) ∧ W.cell? ⟨P, 1, none⟩ = some (.int .i64 r)) :=
          Lib.hid fun W b => ⟨(b.cell (p := ⟨p, 0, none⟩) pl).trans c0, (b.cell (p := ⟨p, 1, none⟩) pl).trans c1, (b.cell (p := ⟨p, 2, none⟩) pl).trans c2, (b.cell (p := ⟨p, 3, none⟩) pl).trans c3, (b.cell (p := ⟨L, i, none⟩) lL2).trans l0, (b.cell (p := ⟨P, 0, none⟩) lP2).trans r0, (b.cell (p := ⟨P, 1, none⟩) lP2).trans r1⟩
        have D0 : Below w9x.heap.size w9x w9x.drew := (Below.refl _ w9x).drew
        go_upto_region 10 with fail
        go_region_held3 (fun w' => w'.cell? ⟨p, 0, none⟩ = some (.int .i64 (N : Int)) ∧ w'.cell? ⟨p, 1, none⟩ = some (.slice TA m tp) ∧ w'.cell? ⟨p, 2, none⟩ = some (.slice XA m xp) ∧ w'.cell? ⟨p, 3, none⟩ = some (.slice CA m cp) ∧ w'.cell? ⟨L, i, none⟩ = some (.slice (some ⟨P, 0, none⟩) 2 2) ∧ w'.cell? ⟨P, 0, none⟩ = some (.int .i64 q) ∧ w'.cell? ⟨P, 1, none⟩ = some (.int .i64 r))
          (first | with_reducible exact k1 | go_keep)
          ((go_at_call 18; refine (rimFlow_ok w9x.drew N _ _ _ m t x c (NW.rt.below D0 (Nat.le_refl _)) (NW.rx.below D0 (Nat.le_refl _)) (NW.rc.below D0 (Nat.le_refl _)) gm hM q r sq sr).mono ?_; intro e w10x hh; obtain ⟨V10, n10, y10, u10, code10, rfl, R10, bb, IS10⟩ := hh.row; have E7 : Below w9x.heap.size w9x w10x := D0.trans (bb.mono (Nat.le_refl _)); have k1 := KK.out w10x E7; clear bb hh))
        obtain ⟨-, -, -, -, l0', r0', r1'⟩ := k1
        replace l0 := l0'
        replace r0 := r0'
        replace r1 := r1'
        replace NW := NW.below E7 (Nat.le_refl _)
        replace lL2 : L < w10x.heap.size := Nat.lt_of_lt_of_le lL2 E7.size
        replace lP2 : P < w10x.heap.size := Nat.lt_of_lt_of_le lP2 E7.size
        replace E5 := E5.trans (E7.mono E5.size)
        have O10 := R10.1
        obtain ⟨A10, q10, rfl⟩ := R10.slice
        replace O8 := O8.below E7 (Nat.le_refl _)
        replace O9 := O9.below E7 (Nat.le_refl _)
        clear E7 KK D0 c0 c1 c2 c3 pl l0' r0' r1' R10
        have HI10 := Lib.hid IS10
        clear IS10
        have c0 := NW.c0
        have c1 := NW.c1
        have c2 := NW.c2
        have c3 := NW.c3
        have pl := NW.lt
        have KK : Hid (∀ W, Below w10x.heap.size w10x W → W.cell? ⟨p, 0, none⟩ = some (.int .i64 (N : Int)) ∧ W.cell? ⟨p, 1, none⟩ = some (.slice TA m tp) ∧ W.cell? ⟨p, 2, none⟩ = some (.slice XA m xp) ∧ W.cell? ⟨p, 3, none⟩ = some (.slice CA m cp) ∧ W.cell? ⟨L, i, none⟩ = some (.slice (some ⟨P, 0, none⟩) 2 2) ∧ W.cell? ⟨P, 0, none⟩ = some (.int .i64 q) ∧ W.cell? ⟨P, 1, none⟩ = some (.int .i64 r)) :=
          Lib.hid fun W b => ⟨(b.cell (p := ⟨p, 0, none⟩) pl).trans c0, (b.cell (p := ⟨p, 1, none⟩) pl).trans c1, (b.cell (p := ⟨p, 2, none⟩) pl).trans c2, (b.cell (p := ⟨p, 3, none⟩) pl).trans c3, (b.cell (p := ⟨L, i, none⟩) lL2).trans l0, (b.cell (p := ⟨P, 0, none⟩) lP2).trans r0, (b.cell (p := ⟨P, 1, none⟩) lP2).trans r1⟩
        have D0 : Below w10x.heap.size w10x w10x.drew := (Below.refl _ w10x).drew
        go_upto_region 11 with fail
        go_region_held3 (fun w' => w'.cell? ⟨p, 0, none⟩ = some (.int .i64 (N : Int)) ∧ w'.cell? ⟨p, 1, none⟩ = some (.slice TA m tp) ∧ w'.cell? ⟨p, 2, none⟩ = some (.slice XA m xp) ∧ w'.cell? ⟨p, 3, none⟩ = some (.slice CA m cp) ∧ w'.cell? ⟨L, i, none⟩ = some (.slice (some ⟨P, 0, none⟩) 2 2) ∧ w'.cell? ⟨P, 0, none⟩ = some (.int .i64 q) ∧ w'.cell? ⟨P, 1, none⟩ = some (.int .i64 r))
          (first | with_reducible exact k1 | go_keep)
          ((go_at_call 19; refine (refFlow8_ok w10x.drew N _ _ _ m t x c (NW.rt.below D0 (Nat.le_refl _)) (NW.rx.below D0 (Nat.le_refl _)) (NW.rc.below D0 (Nat.le_refl _)) gd pb gcap hM q r sq sr).mono ?_; intro e w11x hh; obtain ⟨V11, n11, y11, u11, code11, rfl, R11, bb, IS11⟩ := hh.row; have E7 : Below w10x.heap.size w10x w11x := D0.trans (bb.mono (Nat.le_refl _)); have k1 := KK.out w11x E7; clear bb hh))
        obtain ⟨-, -, -, -, l0', r0', r1'⟩ := k1
        replace l0 := l0'
        replace r0 := r0'
        replace r1 := r1'
        replace NW := NW.below E7 (Nat.le_refl _)
        replace lL2 : L < w11x.heap.size := Nat.lt_of_lt_of_le lL2 E7.size
        replace lP2 : P < w11x.heap.size := Nat.lt_of_lt_of_le lP2 E7.size
        replace E5 := E5.trans (E7.mono E5.size)
        have O11 := R11.1
        obtain ⟨A11, q11, rfl⟩ := R11.slice
        replace O8 := O8.below E7 (Nat.le_refl _)
        replace O9 := O9.below E7 (Nat.le_refl _)
        replace O10 := O10.below E7 (Nat.le_refl _)
        clear E7 KK D0 c0 c1 c2 c3 pl l0' r0' r1' R11
        have HI11 := Lib.hid IS11
        clear IS11
        obtain ⟨rfl, rfl, hy8, hn8⟩ := HeightsIs.one HI8.out HI9.out pb hM ev gcap
        obtain rfl := HeightsIs.flow HI8.out HI10.out pb
        obtain ⟨rfl, rfl, rfl, hy10, hn10⟩ := FlowIs.one HI10.out HI11.out pb hM ev gcap
        have HY8 := Lib.hid hy8
        have HY10 := Lib.hid hy10
        clear hy8 hy10 HI8 HI9 HI10 HI11 NW l0 r0 r1 lL2 lP2
        have q1 : (code8 != code8) = false := by simp
        have q2 : (u10 != u10) = false := by simp
        go_wp2_with fail
        refine (ints_same _ _ _ n8 _ _ (by omega) O8.rd O9.rd HY8.out).mono ?_
        rintro e w12 ⟨rfl, bb⟩
        replace E5 := E5.trans (bb.mono E5.size)
        replace O10 := O10.below bb (Nat.le_refl _)
        replace O11 := O11.below bb (Nat.le_refl _)
        clear bb O8 O9
        go_wp2_with fail
        refine (ints_same _ _ _ n10 _ _ (by omega) O10.rd O11.rd HY10.out).mono ?_
        rintro e w13 ⟨rfl, bb⟩
        replace E5 := E5.trans (bb.mono E5.size)
        clear bb O10 O11
        go_wp2_with fail
        go_roundw
        case rel => exact ⟨i + 1, by simp, by omega, E5⟩
        case measure => simp [intOf]; omega
      · have i1 : ¬ ((i : Int) < 3) := by omega
        go_wp2_with fail
        go_ret
        exact ⟨rfl, B1.trans (E5.mono B1.size)⟩
end Go.Proofs.Ytcdlnohnkdalbaa.Ro
