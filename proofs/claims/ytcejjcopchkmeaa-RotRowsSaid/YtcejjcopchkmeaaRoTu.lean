/- Walks: slices.Clone; Turn: a net seen from behind. -/
import Derived.Test.YtcejjcopchkmeaaRoD
import Derived.Test.YtcejjcopchkmeaaRoCl
import Derived.Test.YtcejjcopchkmeaaRoTq
import Derived.Deep.DeepCutAuto
namespace Go.Proofs.Ytcejjcopchkmeaa.Ro
open Go.RowKit Go.Proofs Go.Maps
set_option linter.unusedVariables false
set_option maxRecDepth 100000
set_option linter.unusedSimpArgs false

theorem cell_put4 {w : World} {p k i : Nat} {N : Int} {T X C : Value} (h : ¬ (p = k)) : ((((w.setCell ⟨p, 0, none⟩ (.int .i64 N)).setCell ⟨p, 1, none⟩ T).setCell ⟨p, 2, none⟩ X).setCell ⟨p, 3, none⟩ C).cell? ⟨k, i, none⟩ = w.cell? ⟨k, i, none⟩ :=
  World.cell?_of_block (put4_ne (fun e => h e.symm))
/-- what stands behind the copies -/
def Copied (w : World) (N : Int) (T X C : Value) (m : Nat) (t x c : Nat → Int) (s3 : Value) (wx : World) : Prop :=
  ∃ p2 T' X' C', s3 = .pointer (some ⟨p2, 0, none⟩) ∧ Box wx w.heap.size N T X C ∧ Box wx (w.heap.size + 1) 0 (.slice none 0 0) (.slice none 0 0) (.slice none 0 0) ∧ Box wx p2 N T' X' C' ∧ Rows wx (w.heap.size + 2) T' X' C' m t x c ∧ (w.heap.size + 2 ≤ p2 ∧ ∀ k, X'.ownBlock = some k → k ≠ p2) ∧ Below w.heap.size w wx
theorem copied {w w1 wT wX wC wf : World} {p2 : Nat} {N : Int} {T X C T' X' C' : Value} {m : Nat} {t x c : Nat → Int} (s1 : w1.heap.size = w.heap.size + 2) (B1 : Below w.heap.size w w1)
    (X1 : Box w1 w.heap.size N T X C) (Q1 : Box w1 (w.heap.size + 1) 0 (.slice none 0 0) (.slice none 0 0) (.slice none 0 0))
    (BT : Below w1.heap.size w1 wT) (BX : Below wT.heap.size wT wX) (BC : Below wX.heap.size wX wC) (hp : w1.heap.size ≤ p2)
    (OT : Ow wT T' m t) (OX : Ow wX X' m x) (OC : Ow wC C' m c) (nT : ∀ k, T'.ownBlock = some k → w1.heap.size ≤ k ∧ k ≠ p2) (nX : ∀ k, X'.ownBlock = some k → wT.heap.size ≤ k ∧ k ≠ p2) (nC : ∀ k, C'.ownBlock = some k → wX.heap.size ≤ k ∧ k ≠ p2)
    (kf : ∀ k, k < wC.heap.size → k ≠ p2 → wf.heap[k]? = wC.heap[k]?) (BF : Below w1.heap.size w1 wf) (ZF : Box wf p2 N T' X' C') :
    Copied w N T X C m t x c (.pointer (some ⟨p2, 0, none⟩)) wf := by
  have BXC := BX.trans (BC.mono BX.size)
  have z1 := BT.size
  have z2 := BX.size
  have OT2 := (OT.below BXC (Nat.le_refl _)).keep (w' := wf) fun k hk => kf k ((OT.below BXC (Nat.le_refl _)).lt hk) (nT k hk).2
  have OX2 := (OX.below BC (Nat.le_refl _)).keep (w' := wf) fun k hk => kf k ((OX.below BC (Nat.le_refl _)).lt hk) (nX k hk).2
  have OC2 := OC.keep (w' := wf) fun k hk => kf k (OC.lt hk) (nC k hk).2
  have lT := fun k (hk : T'.ownBlock = some k) => OT.lt hk
  have lX := fun k (hk : X'.ownBlock = some k) => OX.lt hk
  exact ⟨p2, T', X', C', rfl, X1.below BF (Nat.le_refl _), Q1.below BF (Nat.le_refl _), ZF,
    ⟨OT2, OX2, OC2, fun k hk => by have := (nT k hk).1; omega, fun k hk => by have := (nX k hk).1; omega, fun k hk => by have := (nC k hk).1; omega,
      fun k hk hk' => by have := lT k hk; have := (nX k hk').1; omega, fun k hk hk' => by have := lT k hk; have := (nC k hk').1; omega, fun k hk hk' => by have := lX k hk; have := (nC k hk').1; omega⟩,
    ⟨by omega, fun k hk => (nX k hk).2⟩, B1.trans (BF.mono B1.size)⟩
theorem copied_store {w w1 wT wX wC : World} {p2 : Nat} {N : Int} {T X C T' X' C' : Value} {m : Nat} {t x c : Nat → Int} (s1 : w1.heap.size = w.heap.size + 2) (B1 : Below w.heap.size w w1)
    (X1 : Box w1 w.heap.size N T X C) (Q1 : Box w1 (w.heap.size + 1) 0 (.slice none 0 0) (.slice none 0 0) (.slice none 0 0))
    (BT : Below w1.heap.size w1 wT) (BX : Below wT.heap.size wT wX) (BC : Below wX.heap.size wX wC) (hp : w1.heap.size ≤ p2)
    (OT : Ow wT T' m t) (OX : Ow wX X' m x) (OC : Ow wC C' m c) (nT : ∀ k, T'.ownBlock = some k → w1.heap.size ≤ k ∧ k ≠ p2) (nX : ∀ k, X'.ownBlock = some k → wT.heap.size ≤ k ∧ k ≠ p2) (nC : ∀ k, C'.ownBlock = some k → wX.heap.size ≤ k ∧ k ≠ p2)
    (ZB : Box wC p2 0 (.slice none 0 0) (.slice none 0 0) (.slice none 0 0)) :
    Copied w N T X C m t x c (.pointer (some ⟨p2, 0, none⟩)) ((((wC.setCell ⟨p2, 0, none⟩ (.int .i64 N)).setCell ⟨p2, 1, none⟩ T').setCell ⟨p2, 2, none⟩ X').setCell ⟨p2, 3, none⟩ C') :=
  copied s1 B1 X1 Q1 BT BX BC hp OT OX OC nT nX nC (fun k _ hk => put4_ne hk) (put4_below (BT.trans ((BX.trans (BC.mono BX.size)).mono BT.size)) hp _ _ _ _) (put4_box ZB _ _ _ _)
theorem copied_new {w w1 wT wX wC : World} {N : Int} {T X C T' X' C' : Value} {m : Nat} {t x c : Nat → Int} (s1 : w1.heap.size = w.heap.size + 2) (B1 : Below w.heap.size w w1)
    (X1 : Box w1 w.heap.size N T X C) (Q1 : Box w1 (w.heap.size + 1) 0 (.slice none 0 0) (.slice none 0 0) (.slice none 0 0))
    (BT : Below w1.heap.size w1 wT) (BX : Below wT.heap.size wT wX) (BC : Below wX.heap.size wX wC)
    (OT : Ow wT T' m t) (OX : Ow wX X' m x) (OC : Ow wC C' m c) (nT : ∀ k, T'.ownBlock = some k → w1.heap.size ≤ k) (nX : ∀ k, X'.ownBlock = some k → wT.heap.size ≤ k) (nC : ∀ k, C'.ownBlock = some k → wX.heap.size ≤ k) :
    Copied w N T X C m t x c (.pointer (some ⟨wC.heap.size, 0, none⟩)) (wC.alloc (.cells #[.int .i64 N, T', X', C'] 25)) := by
  have z1 := BT.size
  have z2 := BX.size
  have z3 := BC.size
  have BA := BT.trans ((BX.trans (BC.mono BX.size)).mono BT.size)
  have bA : Below wC.heap.size wC (wC.alloc (.cells #[.int .i64 N, T', X', C'] 25)) := (Below.refl _ _).alloc (Nat.le_refl _) _
  exact copied s1 B1 X1 Q1 BT BX BC BA.size OT OX OC (fun k hk => ⟨nT k hk, by have := OT.lt hk; omega⟩) (fun k hk => ⟨nX k hk, by have := OX.lt hk; omega⟩) (fun k hk => ⟨nC k hk, by have := OC.lt hk; omega⟩)
    (fun k hk _ => bA.block k hk) (BA.trans (bA.mono BA.size)) (heap_alloc_new _ _)

set_option maxHeartbeats 6400000 in
theorem turn_ok (w : World) (N : Int) (T X C : Value) (m : Nat) (t x c : Nat → Int) (hT : Rd w T m t) (hX : Rd w X m x) (hC : Rd w C m c) (hm : m ≤ 999) (hn : ∀ d, d < m → 0 ≤ x d ∧ x d < m) :
    Calls Try.prog 27 #[.agg #[.int .i64 N, T, X, C]] w
      fun e w' => ∃ T' X' C', e = .returned (.agg #[.int .i64 N, T', X', C']) ∧ Rows w' w.heap.size T' X' C' m t (turnUp x m) c ∧ Below w.heap.size w w' := by
  go_enter Try.func27, Try.ntmps27
  go_upto_region 1 with fail
  have B0 : Below w.heap.size w (w.alloc (.cells #[.int .i64 N, T, X, C] 25)) := (Below.refl _ w).alloc (Nat.le_refl _) _
  have X0 : Box (w.alloc (.cells #[.int .i64 N, T, X, C] 25)) w.heap.size N T X C := heap_alloc_new _ _
  have s0 : (w.alloc (.cells #[.int .i64 N, T, X, C] 25)).heap.size = w.heap.size + 1 := by simp
  generalize (w.alloc (.cells #[.int .i64 N, T, X, C] 25)) = w0 at *
  have b1 : Below w0.heap.size w0 (w0.alloc (.cells #[.int .i64 0, .slice none 0 0, .slice none 0 0, .slice none 0 0] 25)) := (Below.refl _ w0).alloc (Nat.le_refl _) _
  have Q1 : Box (w0.alloc (.cells #[.int .i64 0, .slice none 0 0, .slice none 0 0, .slice none 0 0] 25)) w0.heap.size 0 (.slice none 0 0) (.slice none 0 0) (.slice none 0 0) := heap_alloc_new _ _
  have s1 : (w0.alloc (.cells #[.int .i64 0, .slice none 0 0, .slice none 0 0, .slice none 0 0] 25)).heap.size = w0.heap.size + 1 := by simp
  rw [s0] at Q1 s1
  have X1 := X0.below b1 (Nat.le_refl _)
  have B1 := B0.trans (b1.mono B0.size)
  clear b1 X0 B0 s0
  generalize (w0.alloc (.cells #[.int .i64 0, .slice none 0 0, .slice none 0 0, .slice none 0 0] 25)) = w1 at *
  clear w0
  have S1 : Hid (w1.heap.size = w.heap.size + 1 + 1) := Lib.hid s1
  have s1' : w.heap.size + 1 < w1.heap.size := by omega
  clear s1
  go_cut [3] (fun s3 wx => Copied w N T X C m t x c s3 wx)
  case first =>
    have hT1 := hT.below B1 (Nat.le_refl _)
    have hX1 := hX.below B1 (Nat.le_refl _)
    have hC1 := hC.below B1 (Nat.le_refl _)
    have c0 : w1.cell? ⟨w.heap.size, 0, none⟩ = some (.int .i64 N) := blk_cell X1 0
    have c1 : w1.cell? ⟨w.heap.size, 1, none⟩ = some T := blk_cell X1 1
    have c2 : w1.cell? ⟨w.heap.size, 2, none⟩ = some X := blk_cell X1 2
    have c3 : w1.cell? ⟨w.heap.size, 3, none⟩ = some C := blk_cell X1 3
    have pl : w.heap.size < w1.heap.size := by omega
    have P1 : Below w1.heap.size w1 w1.drew := (Below.refl _ w1).drew
    have e1 : ¬ (w1.heap.size = w.heap.size) := by omega
    have hTP : Rd w1.drew T m t := hT1.below P1 (Nat.le_refl _)
    have PZ : Below w1.heap.size w1 (w1.alloc (.cells #[.int .i64 0, .slice none 0 0, .slice none 0 0, .slice none 0 0] 25)).drew := ((Below.refl _ w1).alloc (Nat.le_refl _) _).drew
    have hTZ : Rd (w1.alloc (.cells #[.int .i64 0, .slice none 0 0, .slice none 0 0, .slice none 0 0] 25)).drew T m t := hT1.below PZ (Nat.le_refl _)
    have sz : (w1.alloc (.cells #[.int .i64 0, .slice none 0 0, .slice none 0 0, .slice none 0 0] 25)).drew.heap.size = w1.heap.size + 1 := by simp
    have SZ := Lib.hid sz
    have ZZ : Box (w1.alloc (.cells #[.int .i64 0, .slice none 0 0, .slice none 0 0, .slice none 0 0] 25)).drew w1.heap.size 0 (.slice none 0 0) (.slice none 0 0) (.slice none 0 0) := heap_alloc_new w1 _
    clear sz
    go_region_held3 (fun w' => w'.cell? ⟨w.heap.size, 0, none⟩ = some (.int .i64 N) ∧ w'.cell? ⟨w.heap.size, 1, none⟩ = some T ∧ w'.cell? ⟨w.heap.size, 2, none⟩ = some X ∧ w'.cell? ⟨w.heap.size, 3, none⟩ = some C)
      (first | with_reducible exact k1 | ((try dsimp only); rw [cell_put4 e1, cell_put4 e1, cell_put4 e1, cell_put4 e1]; with_reducible exact k1) | ((try dsimp only); rw [cell_put4 e2, cell_put4 e2, cell_put4 e2, cell_put4 e2]; with_reducible exact k1) | ((try dsimp only); rw [cell_put4 e3, cell_put4 e3, cell_put4 e3, cell_put4 e3]; with_reducible exact k1) | go_keep)
      (first
        | ((with_reducible refine (clone_any w1.drew T m t hTP (by omega)).mono ?_); rintro e wT ⟨AT, cT, rfl, OT, nT, bT⟩; have BT : Below w1.heap.size w1 wT := P1.trans (bT.mono (Nat.le_refl _)); have k1 := (And.intro ((BT.cell (p := ⟨w.heap.size, 0, none⟩) pl).trans c0) (And.intro ((BT.cell (p := ⟨w.heap.size, 1, none⟩) pl).trans c1) (And.intro ((BT.cell (p := ⟨w.heap.size, 2, none⟩) pl).trans c2) ((BT.cell (p := ⟨w.heap.size, 3, none⟩) pl).trans c3)))); have nT' : ∀ k, (Value.slice AT m cT).ownBlock = some k → w1.heap.size ≤ k := fun k hk => nT k hk; have e2 : ¬ (wT.heap.size = w.heap.size) := (by have := BT.size; omega))
        | ((with_reducible refine (clone_any (w1.alloc (.cells #[.int .i64 0, .slice none 0 0, .slice none 0 0, .slice none 0 0] 25)).drew T m t hTZ (by omega)).mono ?_); rintro e wT ⟨AT, cT, rfl, OT, nT, bT⟩; have BT : Below w1.heap.size w1 wT := PZ.trans (bT.mono PZ.size); have k1 := (And.intro ((BT.cell (p := ⟨w.heap.size, 0, none⟩) pl).trans c0) (And.intro ((BT.cell (p := ⟨w.heap.size, 1, none⟩) pl).trans c1) (And.intro ((BT.cell (p := ⟨w.heap.size, 2, none⟩) pl).trans c2) ((BT.cell (p := ⟨w.heap.size, 3, none⟩) pl).trans c3)))); have nT' : ∀ k, (Value.slice AT m cT).ownBlock = some k → w1.heap.size + 1 ≤ k := (fun k hk => by have := nT k hk; have e := SZ.out; omega); have ZB := ZZ.below bT (Nat.le_refl _); have e2 : ¬ (wT.heap.size = w.heap.size) := (by have := BT.size; omega); have zl := blk_lt ZB)
        | ((with_reducible refine (clone_any wT X m x (hX1.below BT (Nat.le_refl _)) (by omega)).mono ?_); rintro e wX ⟨AX, cX, rfl, OX, nX, bX⟩; have BX : Below w1.heap.size w1 wX := BT.trans (bX.mono BT.size); have k1 := (And.intro ((BX.cell (p := ⟨w.heap.size, 0, none⟩) pl).trans c0) (And.intro ((BX.cell (p := ⟨w.heap.size, 1, none⟩) pl).trans c1) (And.intro ((BX.cell (p := ⟨w.heap.size, 2, none⟩) pl).trans c2) ((BX.cell (p := ⟨w.heap.size, 3, none⟩) pl).trans c3)))); (try (have ZB := ZB.below bX (Nat.le_refl _))); have e3 : ¬ (wX.heap.size = w.heap.size) := (by have := BX.size; omega); have bX' : Below wT.heap.size wT wX := bX; have nX' : ∀ k, (Value.slice AX m cX).ownBlock = some k → wT.heap.size ≤ k := nX)
        | ((with_reducible refine (clone_any (wT.alloc (.cells #[.int .i64 0, .slice none 0 0, .slice none 0 0, .slice none 0 0] 25)) X m x (hX1.below (BT.alloc BT.size _) (Nat.le_refl _)) (by omega)).mono ?_); rintro e wX ⟨AX, cX, rfl, OX, nX, bX⟩; have BX : Below w1.heap.size w1 wX := (BT.alloc BT.size _).trans (bX.mono (by have := BT.size; simp; omega)); have k1 := (And.intro ((BX.cell (p := ⟨w.heap.size, 0, none⟩) pl).trans c0) (And.intro ((BX.cell (p := ⟨w.heap.size, 1, none⟩) pl).trans c1) (And.intro ((BX.cell (p := ⟨w.heap.size, 2, none⟩) pl).trans c2) ((BX.cell (p := ⟨w.heap.size, 3, none⟩) pl).trans c3)))); have ZB := Box.below (heap_alloc_new wT _) bX (Nat.le_refl _); have e3 : ¬ (wX.heap.size = w.heap.size) := (by have := BX.size; omega); have bX' : Below wT.heap.size wT wX := ((Below.refl _ wT).alloc (Nat.le_refl _) _).trans (bX.mono (by simp)); have nX' : ∀ k, (Value.slice AX m cX).ownBlock = some k → wT.heap.size + 1 ≤ k := (fun k hk => by have := nX k hk; simp at this; omega); have zl := blk_lt ZB)
        | ((with_reducible refine (clone_any wX C m c (hC1.below BX (Nat.le_refl _)) (by omega)).mono ?_); rintro e wC ⟨AC, cC, rfl, OC, nC, bC⟩; have BC : Below w1.heap.size w1 wC := BX.trans (bC.mono BX.size); have k1 := (And.intro ((BC.cell (p := ⟨w.heap.size, 0, none⟩) pl).trans c0) (And.intro ((BC.cell (p := ⟨w.heap.size, 1, none⟩) pl).trans c1) (And.intro ((BC.cell (p := ⟨w.heap.size, 2, none⟩) pl).trans c2) ((BC.cell (p := ⟨w.heap.size, 3, none⟩) pl).trans c3)))); (try (have ZB := ZB.below bC (Nat.le_refl _); have z0 := blk_cell ZB 0; have z1 := blk_cell ZB 1; have z2 := blk_cell ZB 2; have z3 := blk_cell ZB 3; have f0 := blk_frozen ZB 0; have f1 := blk_frozen ZB 1; have f2 := blk_frozen ZB 2; have f3 := blk_frozen ZB 3)); have e4 : ¬ (wC.heap.size = w.heap.size) := (by have := BC.size; omega); have bC' : Below wX.heap.size wX wC := bC; have nC' : ∀ k, (Value.slice AC m cC).ownBlock = some k → wX.heap.size ≤ k := nC)
        | ((with_reducible refine (clone_any (wX.alloc (.cells #[.int .i64 0, .slice none 0 0, .slice none 0 0, .slice none 0 0] 25)) C m c (hC1.below (BX.alloc BX.size _) (Nat.le_refl _)) (by omega)).mono ?_); rintro e wC ⟨AC, cC, rfl, OC, nC, bC⟩; have BC : Below w1.heap.size w1 wC := (BX.alloc BX.size _).trans (bC.mono (by have := BX.size; simp; omega)); have k1 := (And.intro ((BC.cell (p := ⟨w.heap.size, 0, none⟩) pl).trans c0) (And.intro ((BC.cell (p := ⟨w.heap.size, 1, none⟩) pl).trans c1) (And.intro ((BC.cell (p := ⟨w.heap.size, 2, none⟩) pl).trans c2) ((BC.cell (p := ⟨w.heap.size, 3, none⟩) pl).trans c3)))); have ZB := Box.below (heap_alloc_new wX _) bC (Nat.le_refl _); have z0 := blk_cell ZB 0; have z1 := blk_cell ZB 1; have z2 := blk_cell ZB 2; have z3 := blk_cell ZB 3; have f0 := blk_frozen ZB 0; have f1 := blk_frozen ZB 1; have f2 := blk_frozen ZB 2; have f3 := blk_frozen ZB 3; have e4 : ¬ (wC.heap.size = w.heap.size) := (by have := BC.size; omega); have bC' : Below wX.heap.size wX wC := ((Below.refl _ wX).alloc (Nat.le_refl _) _).trans (bC.mono (by simp)); have nC' : ∀ k, (Value.slice AC m cC).ownBlock = some k → wX.heap.size + 1 ≤ k := (fun k hk => by have := nC k hk; simp at this; omega))
        | fail)
    all_goals
      go_wp2_with fail
      go_meet
      have hs : w1.heap.size = w.heap.size + 2 := by have := S1.out; omega
      have n1 : ∀ k, (Value.slice AT m cT).ownBlock = some k → w1.heap.size ≤ k := fun k hk => by have := nT' k hk; omega
      have n2 : ∀ k, (Value.slice AX m cX).ownBlock = some k → wT.heap.size ≤ k := fun k hk => by have := nX' k hk; omega
      have n3 : ∀ k, (Value.slice AC m cC).ownBlock = some k → wX.heap.size ≤ k := fun k hk => by have := nC' k hk; omega
      first
        | with_reducible exact copied_new hs B1 X1 Q1 BT bX' bC' OT OX OC n1 n2 n3
        | with_reducible exact copied_store hs B1 X1 Q1 BT bX' bC' (by have := BT.size; have := bX'.size; omega) OT OX OC (fun k hk => ⟨n1 k hk, by have := nT' k hk; have := OT.lt hk; have := bX'.size; omega⟩) (fun k hk => ⟨n2 k hk, by have := nX' k hk; have := OX.lt hk; have := BT.size; omega⟩) (fun k hk => ⟨n3 k hk, by have := nC' k hk; have := OC.lt hk; have := BT.size; have := bX'.size; omega⟩) ZB
  case rest =>
    obtain ⟨p2, T', X', C', rfl, Xb, Qb, Zb, R, ⟨hp2, hxp⟩, B⟩ := hcut
    clear X1 Q1 B1 S1 s1'
    generalize wc = w2 at *
    clear w1
    obtain ⟨p, hp⟩ : ∃ p, p = w.heap.size := ⟨_, rfl⟩
    rw [← hp] at Xb Qb R hp2 ⊢
    have hpw : w.heap.size ≤ p := by omega
    clear hp
    have hv : ∀ d, d < m → x d = (ab x d : Int) ∧ ab x d < m := fun d hd => by
      have := hn d hd
      unfold ab; omega
    obtain ⟨A2, cap2, rfl, r2⟩ := id hX
    have c2 : w2.cell? ⟨p, 2, none⟩ = some (.slice A2 m cap2) := blk_cell Xb 2
    go_wp2_with fail
    clear c2
    go_loopw [21] (fun u wr => ∃ i : Nat, u = .int .i64 (i : Int) ∧ i ≤ m ∧ Box wr (p + 1) 0 (.slice none 0 0) (.slice none 0 0) (.slice none 0 0) ∧ Box wr p2 N T' X' C' ∧ Rows wr (p + 2) T' X' C' m t (turnUp x i) c ∧ Below w.heap.size w wr) (fun u _ => m - (intOf u).toNat)
    case atStart => exact ⟨0, rfl, Nat.zero_le _, Qb, Zb, R, B⟩
    case round =>
      clear Xb Qb Zb R B w2
      obtain ⟨i, rfl, hi, Qb, Zb, R, B⟩ := hrel
      by_cases hlt : i < m
      · obtain ⟨y, rfl, hy, hc⟩ := r2 (by omega)
        have cr : wr.cell? (y.add i) = some (.int .i64 (ab x i : Int)) := by rw [← (hv i hlt).1]; exact (B.cell (by rw [block_add]; exact hy)).trans (hc i hlt)
        have hal := (hv i hlt).2
        obtain ⟨bx, cx, rfl, -⟩ := R.ox.form (by omega)
        have z2 : wr.cell? ⟨p2, 2, none⟩ = some (.slice (some ⟨bx, 0, none⟩) m cx) := blk_cell Zb 2
        have ca := R.ox.cell hal
        have fa := R.ox.frozen (ab x i)
        have d1 : (i : Int) < (m : Int) := by omega
        have d2 : (ab x i : Int) < (m : Int) := by omega
        have bxp : bx ≠ p2 := hxp bx rfl
        have bxq : p + 2 ≤ bx := R.bx bx rfl
        have T3 : Turn (fun k => k = bx) wr (wr.setCell ⟨bx, ab x i, none⟩ (.int .i64 (i : Int))) := ⟨rfl, rfl, rfl, by simp [World.setCell], fun k _ hk => Below.heap_setCell _ _ _ _ hk⟩
        have R3 := R.turn T3 (R.ox.set hal (i : Int))
        have Q3 := Qb.turn T3 (by omega)
        have Z3 := Zb.turn T3 (fun e => bxp e.symm)
        have B3 := Below.turn B T3 (by omega) B.size
        clear R Qb Zb B T3 hc r2 hv hy hn
        go_wp2_with fail
        go_roundw
        case rel => exact ⟨i + 1, by simp, by omega, Q3, Z3, R3, B3⟩
        case measure => simp [intOf]; omega
      · have d1 : ¬ ((i : Int) < (m : Int)) := by omega
        obtain rfl : i = m := by omega
        obtain ⟨B1, p1, rfl, -⟩ := id R.ot.rd
        obtain ⟨B2, p2', rfl, -⟩ := id R.ox.rd
        obtain ⟨B3, p3, rfl, -⟩ := id R.oc.rd
        have c0 : wr.cell? ⟨p2, 0, none⟩ = some (.int .i64 N) := blk_cell Zb 0
        have c1 : wr.cell? ⟨p2, 1, none⟩ = some (.slice B1 i p1) := blk_cell Zb 1
        have c2 : wr.cell? ⟨p2, 2, none⟩ = some (.slice B2 i p2') := blk_cell Zb 2
        have c3 : wr.cell? ⟨p2, 3, none⟩ = some (.slice B3 i p3) := blk_cell Zb 3
        have r0 : wr.cell? ⟨p + 1, 0, none⟩ = some (.int .i64 0) := blk_cell Qb 0
        have r1 : wr.cell? ⟨p + 1, 1, none⟩ = some (.slice none 0 0) := blk_cell Qb 1
        have r2 : wr.cell? ⟨p + 1, 2, none⟩ = some (.slice none 0 0) := blk_cell Qb 2
        have r3 : wr.cell? ⟨p + 1, 3, none⟩ = some (.slice none 0 0) := blk_cell Qb 3
        have f0 := blk_frozen Qb 0
        have f1 := blk_frozen Qb 1
        have f2 := blk_frozen Qb 2
        have f3 := blk_frozen Qb 3
        have R7 := R.keep (w' := put4 wr (p + 1) N (.slice B1 i p1) (.slice B2 i p2') (.slice B3 i p3)) fun k hk => put4_ne (by have := (R.lt hk).1; omega)
        have B7 := put4_below B (p := p + 1) (by omega) N (.slice B1 i p1) (.slice B2 i p2') (.slice B3 i p3)
        unfold put4 at R7 B7
        have g0 : (wr.setCell ⟨p + 1, 0, none⟩ (.int .i64 N)).cell? ⟨p + 1, 0, none⟩ = some (.int .i64 N) := blk_cell (blk_set (i := 0) Qb _) 0
        have g1 : ((wr.setCell ⟨p + 1, 0, none⟩ (.int .i64 N)).setCell ⟨p + 1, 1, none⟩ (.slice B1 i p1)).cell? ⟨p + 1, 1, none⟩ = some (.slice B1 i p1) := blk_cell (blk_set (i := 1) (blk_set (i := 0) Qb _) _) 1
        have g2 : (((wr.setCell ⟨p + 1, 0, none⟩ (.int .i64 N)).setCell ⟨p + 1, 1, none⟩ (.slice B1 i p1)).setCell ⟨p + 1, 2, none⟩ (.slice B2 i p2')).cell? ⟨p + 1, 2, none⟩ = some (.slice B2 i p2') := blk_cell (blk_set (i := 2) (blk_set (i := 1) (blk_set (i := 0) Qb _) _) _) 2
        have g3 : ((((wr.setCell ⟨p + 1, 0, none⟩ (.int .i64 N)).setCell ⟨p + 1, 1, none⟩ (.slice B1 i p1)).setCell ⟨p + 1, 2, none⟩ (.slice B2 i p2')).setCell ⟨p + 1, 3, none⟩ (.slice B3 i p3)).cell? ⟨p + 1, 3, none⟩ = some (.slice B3 i p3) := blk_cell (blk_set (i := 3) (blk_set (i := 2) (blk_set (i := 1) (blk_set (i := 0) Qb _) _) _) _) 3
        clear Zb Qb R B hv
        go_wp2_with fail
        exact bodyPost_ret (v := .agg #[.int .i64 N, .slice B1 i p1, .slice B2 i p2', .slice B3 i p3]) (by simp [results, Try.results27, go_sem, g0, g1, g2, g3]) rfl ⟨_, _, _, rfl, R7.base (by omega), B7⟩
end Go.Proofs.Ytcejjcopchkmeaa.Ro
