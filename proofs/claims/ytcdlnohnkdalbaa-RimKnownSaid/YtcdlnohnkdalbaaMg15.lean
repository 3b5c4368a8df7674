/- Plain: what is told of two that share a face, or not. Walks: known, of chapter 8. -/
import Derived.Test.YtcdlnohnkdalbaaMg11
import Derived.Test.YtcdlnohnkdalbaaMg14
import Derived.Test.YtcdlnohnkdalbaaMxRiFl
import Derived.Test.YtcdlnohnkdalbaaMxRoD
namespace Go.Proofs.Ytcdlnohnkdalbaa.Ro
open Go.RowKit Go.Proofs Go.Maps
set_option linter.unusedVariables false
set_option maxRecDepth 100000
set_option linter.unusedSimpArgs false

/-- the error that is told, by whether two are one, whether they share a face -/
def wantOf (s v : Int) (b : Bool) : Int := if s = v then 9 else if b = true then 0 else 10
section
variable {N m K f k : Nat} {x t c o oo D : Nat → Int} {s v code r : Int} {b : Bool} {B : Nat} {w w' : World} {e : Ending}
theorem RimBad.want (h : RimBad N m x t s v code) (hin : InNet N s v) (O : Orb (bh x) m o k) (S : Shares m o t (max k 1) s v r b) (p : Perm (bh x) m) : code = wantOf s v b := by
  unfold wantOf
  rcases h with ⟨h1, -⟩ | ⟨-, h2, rfl⟩ | ⟨-, h2, ⟨o1, k1, O1, S1⟩, rfl⟩
  · exact absurd hin h1
  · rw [if_pos h2]
  · obtain rfl := O.count O1 p
    obtain ⟨-, rfl⟩ := S.one S1 (fun d hd => O.same O1 p m d hd hd)
    rw [if_neg h2]
    rfl
theorem RimOk.want (h : RimOk N m x t c s v oo K f D) (O : Orb (bh x) m o k) (S : Shares m o t (max k 1) s v r b) (p : Perm (bh x) m) : wantOf s v b = 0 ∧ b = true := by
  obtain ⟨o1, k1, e0, l, a, r1, ⟨O1, S1, -⟩, -, -⟩ := h.over
  obtain rfl := O.count O1 p
  obtain ⟨-, rfl⟩ := S.one S1 (fun d hd => O.same O1 p m d hd hd)
  unfold wantOf
  rw [if_neg h.ne]
  exact ⟨rfl, rfl⟩
theorem HeightsPost.told (h : HeightsPost B w N m x t c s v e w') (hin : InNet N s v) (O : Orb (bh x) m o k) (S : Shares m o t (max k 1) s v r b) (p : Perm (bh x) m) : ∃ V, e = .returned (.tuple #[V, .int .i64 (wantOf s v b)]) ∧ Below B w w' := by
  obtain ⟨b1, ⟨code, hb, rfl⟩ | ⟨o, K, f, D, bb, cap, hok, rfl, -⟩⟩ := h
  · exact ⟨_, by rw [hb.want hin O S p], b1⟩
  · exact ⟨_, by rw [(hok.want O S p).1], b1⟩
theorem FlowPost.told (h : FlowPost B w N m x t c s v e w') (hin : InNet N s v) (O : Orb (bh x) m o k) (S : Shares m o t (max k 1) s v r b) (p : Perm (bh x) m) : ∃ V u, e = .returned (.tuple #[V, u, .int .i64 (wantOf s v b)]) ∧ Below B w w' := by
  obtain ⟨b1, ⟨code, hb, rfl⟩ | ⟨o, K, f, D, bb, cap, hok, rfl, -⟩⟩ := h
  · exact ⟨_, _, by rw [hb.want hin O S p], b1⟩
  · exact ⟨_, _, by rw [(hok.want O S p).1], b1⟩
def HeightsIs (N m : Nat) (x t c : Nat → Int) (s v : Int) (n : Nat) (y : Nat → Int) (code : Int) : Prop := (n = 0 ∧ RimBad N m x t s v code) ∨ ∃ o K f, n = K + 1 ∧ code = 0 ∧ RimOk N m x t c s v o K f y
def FlowIs (N m : Nat) (x t c : Nat → Int) (s v : Int) (n : Nat) (y : Nat → Int) (u code : Int) : Prop := (n = 0 ∧ u = 0 ∧ RimBad N m x t s v code) ∨ ∃ o K f D, n = m ∧ u = D K ∧ code = 0 ∧ y = fallOf o D ∧ RimOk N m x t c s v o K f D
/-- a row that is told, nil or of the call's own -/
def RowTold (B : Nat) (w : World) (V : Value) (n : Nat) (y : Nat → Int) : Prop := Ow w V n y ∧ (∀ k, V.ownBlock = some k → B ≤ k) ∧ ((n = 0 ∧ V = .slice none 0 0) ∨ ∃ b cap, V = .slice (some ⟨b, 0, none⟩) n cap)
theorem RowTold.slice {V : Value} {n : Nat} {y : Nat → Int} (h : RowTold B w V n y) : ∃ A cap, V = .slice A n cap := by
  rcases h.2.2 with ⟨rfl, rfl⟩ | ⟨b, cap, rfl⟩
  · exact ⟨_, _, rfl⟩
  · exact ⟨_, _, rfl⟩
/-- what both Heights tell is one -/
theorem HeightsPost.row (h : HeightsPost B w N m x t c s v e w') : ∃ V n y code, e = .returned (.tuple #[V, .int .i64 code]) ∧ RowTold B w' V n y ∧ Below B w w' ∧ HeightsIs N m x t c s v n y code := by
  obtain ⟨b1, ⟨code, hb, rfl⟩ | ⟨o, K, f, D, bb, cap, hok, rfl, hO, hB⟩⟩ := h
  · exact ⟨_, 0, fun _ => 0, code, rfl, ⟨Ow.nil _ _, (fun k hk => by cases hk), .inl ⟨rfl, rfl⟩⟩, b1, .inl ⟨rfl, hb⟩⟩
  · exact ⟨_, K + 1, D, 0, rfl, ⟨hO, (fun k hk => by have e : some bb = some k := hk; injection e with e; omega), .inr ⟨bb, cap, rfl⟩⟩, b1, .inr ⟨o, K, f, rfl, rfl, hok⟩⟩
theorem FlowPost.row (h : FlowPost B w N m x t c s v e w') : ∃ V n y u code, e = .returned (.tuple #[V, .int .i64 u, .int .i64 code]) ∧ RowTold B w' V n y ∧ Below B w w' ∧ FlowIs N m x t c s v n y u code := by
  obtain ⟨b1, ⟨code, hb, rfl⟩ | ⟨o, K, f, D, bb, cap, hok, rfl, hO, hB⟩⟩ := h
  · exact ⟨_, 0, fun _ => 0, 0, code, rfl, ⟨Ow.nil _ _, (fun k hk => by cases hk), .inl ⟨rfl, rfl⟩⟩, b1, .inl ⟨rfl, rfl, hb⟩⟩
  · exact ⟨_, m, fallOf o D, D K, 0, rfl, ⟨hO, (fun k hk => by have e : some bb = some k := hk; injection e with e; omega), .inr ⟨bb, cap, rfl⟩⟩, b1, .inr ⟨o, K, f, D, rfl, rfl, rfl, rfl, hok⟩⟩
theorem HeightsIs.one {n n' : Nat} {y y' : Nat → Int} {code' : Int} (h : HeightsIs N m x t c s v n y code) (h' : HeightsIs N m x t c s v n' y' code') (p : Perm (bh x) m) (hm : m ≤ 48) (h2 : m % 2 = 0) (hc : ∀ d, d < m → 0 ≤ c d ∧ c d ≤ 2147483648) : n = n' ∧ code = code' ∧ (∀ j, j < n → y j = y' j) ∧ n ≤ 60 := by
  rcases h with ⟨rfl, h⟩ | ⟨o, K, f, rfl, rfl, h⟩ <;> rcases h' with ⟨rfl, h'⟩ | ⟨o', K', f', rfl, rfl, h'⟩
  · exact ⟨rfl, h.one h', fun j hj => by omega, by omega⟩
  · exact (h.ok h' p).elim
  · exact (h'.ok h p).elim
  · obtain ⟨rfl, rfl, e1, e2, e3⟩ := h.one h' p hm h2 hc
    exact ⟨rfl, rfl, e2, (h.over.ok hm h2 hc).1.most⟩
theorem FlowIs.one {n n' : Nat} {y y' : Nat → Int} {u u' code' : Int} (h : FlowIs N m x t c s v n y u code) (h' : FlowIs N m x t c s v n' y' u' code') (p : Perm (bh x) m) (hm : m ≤ 48) (h2 : m % 2 = 0) (hc : ∀ d, d < m → 0 ≤ c d ∧ c d ≤ 2147483648) : n = n' ∧ u = u' ∧ code = code' ∧ (∀ j, j < n → y j = y' j) ∧ n ≤ 60 := by
  rcases h with ⟨rfl, rfl, h⟩ | ⟨o, K, f, D, rfl, rfl, rfl, rfl, h⟩ <;> rcases h' with ⟨rfl, rfl, h'⟩ | ⟨o', K', f', D', rfl, rfl, rfl, rfl, h'⟩
  · exact ⟨rfl, rfl, h.one h', fun j hj => by omega, by omega⟩
  · exact (h.ok h' p).elim
  · exact (h'.ok h p).elim
  · obtain ⟨rfl, rfl, e1, e2, e3⟩ := h.one h' p hm h2 hc
    exact ⟨rfl, e2 _ (by omega), rfl, e3, by omega⟩
/-- both tell one error -/
theorem HeightsIs.flow {n n' : Nat} {y y' : Nat → Int} {u code' : Int} (h : HeightsIs N m x t c s v n y code) (h' : FlowIs N m x t c s v n' y' u code') (p : Perm (bh x) m) : code = code' := by
  rcases h with ⟨rfl, h⟩ | ⟨o, K, f, rfl, rfl, h⟩ <;> rcases h' with ⟨rfl, rfl, h'⟩ | ⟨o', K', f', D', rfl, rfl, rfl, rfl, h'⟩
  · exact h.one h'
  · exact (h.ok h' p).elim
  · exact (h'.ok h p).elim
  · rfl
end
end Go.Proofs.Ytcdlnohnkdalbaa.Ro
namespace Go.Proofs.Ytcdlnohnkdalbaa.Ro
open Go.RowKit Go.Proofs Go.Maps
set_option linter.unusedVariables false
set_option maxRecDepth 100000
set_option linter.unusedSimpArgs false

theorem known_rim {o D : Nat → Int} {K f : Nat} (h : RimOk 2 2 (two 0 1) (two 0 1) (two 5 3) 0 1 o K f D) (p : Perm (bh (two 0 1)) 2) : D K = 5 ∧ fallOf o D 0 = 5 ∧ fallOf o D 1 = -5 := by
  obtain ⟨o0, k, O⟩ := p.orb
  have S := known_shares O
  obtain ⟨k1, -, -⟩ := known_orb O
  subst k1
  obtain ⟨v0, v1⟩ := known_half O
  have h0 : Over 2 (two 0 1) (two 0 1) 0 1 (halfO (two 0 1) o0 ((1 : Nat) : Int) 0 0 1 2) 1 0 := ⟨o0, 1, 0, 2, 0, 1, ⟨O, S, known_halved O⟩, rfl, rfl⟩
  generalize halfO (two 0 1) o0 ((1 : Nat) : Int) 0 0 1 2 = oo at *
  have v0 : oo 0 = 0 := v0
  have v1 : oo 1 = 1 := v1
  have f0 : (overA oo (two 5 3)).fr 0 = 0 := by show (oo 0).toNat = 0; rw [v0]; rfl
  have t0 : (overA oo (two 5 3)).th 0 = 1 := by show (oo 1).toNat = 1; rw [v1]; rfl
  have f1 : (overA oo (two 5 3)).fr 1 = 1 := by show (oo 1).toNat = 1; rw [v1]; rfl
  have t1 : (overA oo (two 5 3)).th 1 = 0 := by show (oo 0).toNat = 0; rw [v0]; rfl
  have W1 : Way (overA oo (two 5 3)) 2 0 1 5 1 := by
    have := Way.snoc (S := overA oo (two 5 3)) (k := 2) (s := 0) (i := 0) (c := 0) (m := 0) (by rw [f0]; exact .nil) (by omega)
    rw [t0] at this
    exact this
  have A : Away 2 (two 5 3) oo 1 0 (two 0 5) := by
    refine ⟨1, ⟨fun v hv => ?_, by show (0 : Int) ≤ 0; omega⟩, by omega, fun i hi hf => ?_⟩
    · rcases (show v = 0 ∨ v = 1 by omega) with rfl | rfl
      · exact .inr ⟨0, by omega, .nil⟩
      · exact .inr ⟨1, by omega, W1⟩
    · rcases (show i = 0 ∨ i = 1 by omega) with rfl | rfl
      · rw [f0, t0]; show (5 : Int) ≤ 0 + 5; omega
      · rw [f1, t1]; show (0 : Int) ≤ 5 + 3; omega
  have R : RimOk 2 2 (two 0 1) (two 0 1) (two 5 3) 0 1 oo 1 0 (two 0 5) := ⟨⟨by omega, by omega, by omega, by omega⟩, by omega, h0, A⟩
  obtain ⟨rfl, rfl, e1, e2, e3⟩ := h.one R p (by omega) rfl (fun d hd => by
    rcases (show d = 0 ∨ d = 1 by omega) with rfl | rfl
    · show (0 : Int) ≤ 5 ∧ (5 : Int) ≤ 2147483648; omega
    · show (0 : Int) ≤ 3 ∧ (3 : Int) ≤ 2147483648; omega)
  refine ⟨e2 1 (by omega), (e3 0 (by omega)).trans ?_, (e3 1 (by omega)).trans ?_⟩
  · show two 0 5 (oo 1).toNat - two 0 5 (oo 0).toNat = 5
    rw [v0, v1]; rfl
  · show two 0 5 (oo 0).toNat - two 0 5 (oo 1).toNat = -5
    rw [v0, v1]; rfl

theorem known_bad {code : Int} (h : RimBad 2 2 (two 0 1) (two 0 1) 0 1 code) (p : Perm (bh (two 0 1)) 2) : False := by
  rcases h with ⟨h1, -⟩ | ⟨-, h2, -⟩ | ⟨-, -, ⟨o, k, O, S⟩, -⟩
  · exact h1 ⟨by omega, by omega, by omega, by omega⟩
  · omega
  · have := (S.one (known_shares O) (fun _ _ => rfl)).2
    exact absurd this (by simp)
set_option maxHeartbeats 12800000 in
theorem known8_ok (w : World) : Calls Try.prog 13 #[] w fun e w' => e = .returned (.bool true) ∧ Below w.heap.size w w' := by
  have gr : Grown 2 2 (two 0 1) (two 0 1) (two 5 3) := Grown.edge1 rfl rfl rfl rfl (by show (0 : Int) ≤ 5 ∧ (5 : Int) ≤ 2147483648; omega) (by show (0 : Int) ≤ 3 ∧ (3 : Int) ≤ 2147483648; omega)
  have pn := gr.plane
  have pb := gr.turns.perm.bh gr.good.even
  have g1 : Grown 1 0 (fun _ => 0) (fun _ => 0) (fun _ => 0) := Grown.start _ _ _
  have pn1 := g1.plane
  clear gr g1
  go_enter Try.func13, Try.ntmps13
  go_upto_region 2 with fail
  have R1 := fresh3 w w.heap.size (Nat.le_refl _) 0 1 0 1 5 3
  have B1 := below3 w (.cells #[.int .i64 0, .int .i64 1] 3) (.cells #[.int .i64 0, .int .i64 1] 3) (.cells #[.int .i64 5, .int .i64 3] 3)
  have s1 : (((w.alloc (.cells #[.int .i64 0, .int .i64 1] 3)).alloc (.cells #[.int .i64 0, .int .i64 1] 3)).alloc (.cells #[.int .i64 5, .int .i64 3] 3)).heap.size = w.heap.size + 1 + 1 + 1 := by simp
  generalize (((w.alloc (.cells #[.int .i64 0, .int .i64 1] 3)).alloc (.cells #[.int .i64 0, .int .i64 1] 3)).alloc (.cells #[.int .i64 5, .int .i64 3] 3)) = w1 at *
  obtain ⟨w2, hw2, X2, R2, b2⟩ := rows_enter 2 R1
  have B2 := B1.trans (b2.mono B1.size)
  rw [s1] at X2
  rw [hw2]
  clear hw2 b2 R1 B1 s1 w1
  obtain ⟨g, hg⟩ : ∃ g, g = w.heap.size := ⟨_, rfl⟩
  rw [← hg] at X2 R2 ⊢
  clear hg
  have NN := NetAt.of X2 R2
  clear X2 R2
  go_wp2_with fail
  refine (rimHeightsOf_ok _ 1 _ _ _ 0 (fun _ => 0) (fun _ => 0) (fun _ => 0) (Ow.nil _ _).rd (Ow.nil _ _).rd (Ow.nil _ _).rd pn1 (by omega) 0 0 (small_of (by omega) (by omega)) (small_of (by omega) (by omega))).mono ?_
  rintro e w3 ⟨b3, ⟨code, hb, rfl⟩ | ⟨o, K, f, D, b, cap, hok, -, -, -⟩⟩
  · have hc : code = 9 := by
      rcases hb with ⟨h1, -⟩ | ⟨-, -, h⟩ | ⟨-, h, -⟩
      · exact absurd (show InNet 1 0 0 from ⟨by omega, by omega, by omega, by omega⟩) h1
      · exact h
      · exact absurd rfl h
    subst hc
    clear hb
    replace NN := NN.below b3 (Nat.le_refl _)
    replace B2 := B2.trans (b3.mono B2.size)
    clear b3
    have c0 := NN.c0
    have c1 := NN.c1
    have c2 := NN.c2
    have c3 := NN.c3
    go_wp2_with fail
    refine (rimFlow_ok _ 2 _ _ _ 2 _ _ _ NN.rt NN.rx NN.rc pn (by omega) 0 1 (small_of (by omega) (by omega)) (small_of (by omega) (by omega))).mono ?_
    rintro e w4 ⟨b4, ⟨code, hb, rfl⟩ | ⟨o, K, f, D, b, cap, hok, rfl, OF, hbb⟩⟩
    · exact (known_bad hb pb).elim
    · obtain ⟨e1, e2, e3⟩ := known_rim hok pb
      have f0 := OF.cell (j := 0) (by omega)
      have f1 := OF.cell (j := 1) (by omega)
      rw [e2] at f0
      rw [e3] at f1
      replace B2 := B2.trans (b4.mono B2.size)
      rw [e1]
      clear hok e1 e2 e3 OF b4
      go_wp2_with fail
      go_ret
      exact ⟨by simp, B2⟩
  · exact absurd rfl hok.ne
end Go.Proofs.Ytcdlnohnkdalbaa.Ro
