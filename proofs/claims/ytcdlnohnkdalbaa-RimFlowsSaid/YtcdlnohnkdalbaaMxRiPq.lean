/- What is known of the net of a law's numbers, and that what goes round in it is what falls; the ends of an edge share a face. -/
import Derived.Test.YtcdlnohnkdalbaaMg12
import Derived.Test.YtcdlnohnkdalbaaMg15
import Derived.Test.YtcdlnohnkdalbaaMxRoPu
namespace Go.Proofs.Ytcdlnohnkdalbaa.Ro
open Go.RowKit Go.Proofs Go.Maps
set_option linter.unusedVariables false
set_option maxRecDepth 100000
set_option linter.unusedSimpArgs false

/-- what Plane hands back -/
def PotsPost (B : Nat) (w : World) (e : Ending) (w' : World) : Prop :=
  ∃ (N m : Nat) (t x c : Nat → Int) (TA : Option Addr) (tp : Nat) (XA : Option Addr) (xp : Nat) (CA : Option Addr) (cp : Nat),
    e = .returned (.agg #[.int .i64 (N : Int), .slice TA m tp, .slice XA m xp, .slice CA m cp]) ∧ Grown N m t x c ∧ Pots m t x ∧ N ≤ 25 ∧ m ≤ 48 ∧ Rows w' B (.slice TA m tp) (.slice XA m xp) (.slice CA m cp) m t x c ∧ Below B w w'
theorem plane_pots (w : World) (V : Value) (n : Nat) (z : Nat → Int) (hV : Rd w V n z) (hz : ∀ i, i < n → Small (z i)) (hn : n ≤ 9223372036854775807) :
    Calls Try.prog 14 #[V] w (PotsPost w.heap.size w) := by
  refine (plane_any w V n z hV hz hn).mono ?_
  rintro e w' ⟨T, X, C, rfl, R, b⟩
  obtain ⟨gr, h1, h2⟩ := plane_ok z n
  obtain ⟨TA, tp, rfl, -⟩ := id R.ot.rd
  obtain ⟨XA, xp, rfl, -⟩ := id R.ox.rd
  obtain ⟨CA, cp, rfl, -⟩ := id R.oc.rd
  exact ⟨_, _, _, _, _, TA, tp, XA, xp, CA, cp, rfl, gr, planeOf_pots z n, h1, h2, R, b⟩
section
variable {N m k : Nat} {x t c o : Nat → Int}
/-- the ends of an edge share a face -/
theorem edge_shares (g : Good N m t x) (tu : Turns m t x) (O : Orb (bh x) m o k) {d : Nat} (hd : d < m) (hne : t d ≠ t (oth d)) : ¬ Shares m o t (max k 1) (t d) (t (oth d)) 0 false := by
  rintro ⟨-, h | h⟩
  · exact hne h
  · have lo := O.lo d hd
    refine h (o d).toNat (by omega) ⟨⟨d, hd, by omega, rfl⟩, ⟨bh x d, (tu.perm.bh g.even).lt d hd, ?_, tu.head g hd⟩⟩
    rw [O.fwd d hd]; omega
theorem edge_code {code : Int} {a : Nat} (h : RimBad N m x t (t a) (t (oth a)) code) (g : Good N m t x) (tu : Turns m t x) {d : Nat} (hd : d < m) (e : a = d) : code = 9 ∧ t d = t (oth d) := by
  subst e
  rcases h with ⟨h1, -⟩ | ⟨-, h2, rfl⟩ | ⟨-, h2, ⟨o, k, O, S⟩, -⟩
  · exact absurd (show InNet N (t a) (t (oth a)) from ⟨(g.tail a hd).1, (g.tail a hd).2, (g.tail _ (oth_lt hd g.even)).1, (g.tail _ (oth_lt hd g.even)).2⟩) h1
  · exact ⟨rfl, h2⟩
  · exact absurd S (edge_shares g tu O hd h2)
/-- what one edge bears, and nothing else -/
theorem edge_flows (m : Nat) (t : Nat → Int) (W : Int) {d : Nat} (hd : d < m) (ev : m % 2 = 0) : Flows m t (fun y => (if y = d then W else 0) + (if y = oth d then -W else 0)) (t d) (t (oth d)) W := by
  have ho := oth_lt hd ev
  refine ⟨fun y hy => ?_, fun u => ?_⟩
  · have i1 : oth y = d ↔ y = oth d := ⟨fun z => by rw [← z, oth_oth], fun z => by rw [z, oth_oth]⟩
    have i2 : oth y = oth d ↔ y = d := ⟨fun z => oth_inj z, fun z => by rw [z]⟩
    show (if oth y = d then W else 0) + (if oth y = oth d then -W else 0) = - ((if y = d then W else 0) + (if y = oth d then -W else 0))
    simp only [i1, i2]
    split <;> split <;> omega
  · unfold val
    rw [sm_congr (g := fun y => (if y = d then (fun _ => if u = t d then W else 0) y else 0) + (if y = oth d then (fun _ => if u = t (oth d) then -W else 0) y else 0)) m fun y hy => ?_]
    · rw [sm_add, sm_one _ _ m hd, sm_one _ _ m ho]
    · show (if t y = u then (if y = d then W else 0) + (if y = oth d then -W else 0) else 0) = (if y = d then (if u = t d then W else 0) else 0) + (if y = oth d then (if u = t (oth d) then -W else 0) else 0)
      have k1 : (if y = d then (if u = t d then W else 0) else 0) = if t y = u then (if y = d then W else 0) else 0 := by
        by_cases q : y = d
        · subst q; rw [if_pos rfl, if_pos rfl]
          by_cases z : u = t y
          · rw [if_pos z, if_pos z.symm]
          · rw [if_neg z, if_neg fun h => z h.symm]
        · rw [if_neg q, if_neg q]; split <;> rfl
      have k2 : (if y = oth d then (if u = t (oth d) then -W else 0) else 0) = if t y = u then (if y = oth d then -W else 0) else 0 := by
        by_cases q : y = oth d
        · subst q; rw [if_pos rfl, if_pos rfl]
          by_cases z : u = t (oth d)
          · rw [if_pos z, if_pos z.symm]
          · rw [if_neg z, if_neg fun h => z h.symm]
        · rw [if_neg q, if_neg q]; split <;> rfl
      rw [k1, k2]
      by_cases q : t y = u
      · simp only [if_pos q]
      · simp only [if_neg q]; rfl
theorem RimOk.edge {K f d : Nat} {oo D : Nat → Int} (h : RimOk N m x t c (t d) (t (oth d)) oo K f D) (ps : Pots m t x) (gd : Good N m t x) (tu : Turns m t x) (hm : m ≤ 48) (hc : ∀ d, d < m → 0 ≤ c d ∧ c d ≤ 2147483648) (hd : d < m) : c d ≤ D K :=
  h.most ps gd tu hm hc (edge_flows m t (c d) hd gd.even) fun y hy => by
    have h1 := hc y hy
    have h2 := hc d hd
    show (if y = d then c d else 0) + (if y = oth d then - c d else 0) ≤ c y
    by_cases q : y = d
    · subst q; rw [if_pos rfl]; split <;> omega
    · rw [if_neg q]; split <;> omega
end
end Go.Proofs.Ytcdlnohnkdalbaa.Ro
