/- Plain laws: the plane net that numbers make, as a function of the numbers. -/
import Derived.Test.YtcejjcopchkmeaaRoJ2
namespace Go.Proofs.Ytcejjcopchkmeaa.Ro
set_option linter.unusedVariables false
set_option maxRecDepth 100000
set_option linter.unusedSimpArgs false

/-- a net -/
structure Net5 where
  N : Nat
  m : Nat
  t : Nat → Int
  x : Nat → Int
  c : Nat → Int

open Classical in
/-- the faces of darts, numbered by their least ones -/
noncomputable def facesOf (m : Nat) (x : Nat → Int) : Nat → Int := if h : ∃ o : Nat → Int, ∃ c, Orb (bh x) m o c then Classical.choose h else fun _ => 0
theorem facesOf_orb {m : Nat} {x : Nat → Int} (p : Perm (bh x) m) : ∃ c, Orb (bh x) m (facesOf m x) c := by
  have h : ∃ o : Nat → Int, ∃ c, Orb (bh x) m o c := p.orb
  unfold facesOf
  rw [dif_pos h]
  exact Classical.choose_spec h
theorem facesOf_eq {m c : Nat} {x o : Nat → Int} (p : Perm (bh x) m) (h : Orb (bh x) m o c) {j : Nat} (hj : j < m) : o j = facesOf m x j := by
  obtain ⟨c', h'⟩ := facesOf_orb p
  exact h.same h' p m j hj hj

/-- the darts whose corner is in one face with e's -/
noncomputable def sameOf (m : Nat) (x : Nat → Int) (e n : Nat) : List Nat := (List.range n).filter fun y => decide (facesOf m x (ab x y) = facesOf m x (ab x e))
theorem sameOf_zero (m : Nat) (x : Nat → Int) (e : Nat) : sameOf m x e 0 = [] := rfl
theorem sameOf_yes {m e n : Nat} {x : Nat → Int} (h : facesOf m x (ab x n) = facesOf m x (ab x e)) : sameOf m x e (n + 1) = sameOf m x e n ++ [n] := by
  unfold sameOf; rw [List.range_succ, List.filter_append]; simp [h]
theorem sameOf_no {m e n : Nat} {x : Nat → Int} (h : ¬ facesOf m x (ab x n) = facesOf m x (ab x e)) : sameOf m x e (n + 1) = sameOf m x e n := by
  unfold sameOf; rw [List.range_succ, List.filter_append]; simp [h]
theorem sameOf_mem {m e n y : Nat} {x : Nat → Int} : y ∈ sameOf m x e n ↔ y < n ∧ facesOf m x (ab x y) = facesOf m x (ab x e) := by
  unfold sameOf; simp
theorem sameOf_len (m : Nat) (x : Nat → Int) (e n : Nat) : (sameOf m x e n).length ≤ n := by
  unfold sameOf; have := List.length_filter_le (fun y => decide (facesOf m x (ab x y) = facesOf m x (ab x e))) (List.range n); simpa using this

def two (a b : Int) : Nat → Int := fun j => if j = 0 then a else b
def onlyEdge (k c d : Int) : Net5 := if k % 5 = 0 then ⟨1, 2, two 0 0, two 1 0, two c d⟩ else ⟨2, 2, two 0 1, two 0 1, two c d⟩
/-- the dart behind which the new one lies -/
def pickE (s : Net5) (k : Int) : Nat := (k / 5 % s.m).toNat
/-- the dart behind which its other one lies -/
noncomputable def pickG (s : Net5) (k : Int) : Nat := (sameOf s.m s.x (pickE s k) s.m).getD (k / 1200 % (sameOf s.m s.x (pickE s k) s.m).length).toNat 0
/-- a dart laid in behind another one -/
def layIn (x : Nat → Int) (e d : Nat) : Nat → Int := upd (upd x d (x e)) e (d : Int)
noncomputable def more1 (s : Net5) (k : Int) : Net5 :=
  ⟨s.N + 1, s.m + 2, cat s.t s.m (two (s.t (pickE s k)) s.N), layIn (cat s.x s.m (two s.m (s.m + 1 : Nat))) (pickE s k) s.m, cat s.c s.m (two (capOf (k / 30)) (capOf (k / 7000)))⟩
noncomputable def more2 (s : Net5) (k : Int) : Net5 :=
  ⟨s.N, s.m + 2, cat s.t s.m (two (s.t (pickE s k)) (s.t (pickG s k))), layIn (layIn (cat s.x s.m (two s.m (s.m + 1 : Nat))) (pickE s k) s.m) (if pickG s k = pickE s k then s.m else pickG s k) (s.m + 1), cat s.c s.m (two (capOf (k / 30)) (capOf (k / 7000)))⟩
/-- what one number does -/
noncomputable def grow1 (s : Net5) (k : Int) : Net5 :=
  if s.m = 0 then onlyEdge k (capOf (k / 30)) (capOf (k / 7000)) else if k % 5 < 2 then more1 s k else more2 s k
/-- the net of the first numbers -/
noncomputable def planeUp (z : Nat → Int) : Nat → Net5
  | 0 => ⟨1, 0, fun _ => 0, fun _ => 0, fun _ => 0⟩
  | i + 1 => grow1 (planeUp z i) (z i % 1125899906842624)
noncomputable def planeOf (z : Nat → Int) (n : Nat) : Net5 := planeUp z (min n 24)

def Net5.Ok (s : Net5) : Prop := Grown s.N s.m s.t s.x s.c
theorem pickE_lt {s : Net5} {k : Int} (hk : 0 ≤ k) (hm : 0 < s.m) : pickE s k < s.m ∧ k / 5 % s.m = (pickE s k : Int) := by
  have h1 := Int.emod_nonneg (k / 5) (b := (s.m : Int)) (by omega)
  have h2 := Int.emod_lt_of_pos (k / 5) (b := (s.m : Int)) (by omega)
  unfold pickE
  omega
theorem pickG_in {s : Net5} {k : Int} (hk : 0 ≤ k) (hm : 0 < s.m) : 0 < (sameOf s.m s.x (pickE s k) s.m).length ∧ (k / 1200 % (sameOf s.m s.x (pickE s k) s.m).length).toNat < (sameOf s.m s.x (pickE s k) s.m).length ∧ 0 ≤ k / 1200 % (sameOf s.m s.x (pickE s k) s.m).length ∧
    pickG s k < s.m ∧ facesOf s.m s.x (ab s.x (pickG s k)) = facesOf s.m s.x (ab s.x (pickE s k)) := by
  have h0 : pickE s k ∈ sameOf s.m s.x (pickE s k) s.m := sameOf_mem.2 ⟨(pickE_lt hk hm).1, rfl⟩
  have h1 := List.length_pos_of_mem h0
  have h2 := Int.emod_nonneg (k / 1200) (b := ((sameOf s.m s.x (pickE s k) s.m).length : Int)) (by omega)
  have h3 := Int.emod_lt_of_pos (k / 1200) (b := ((sameOf s.m s.x (pickE s k) s.m).length : Int)) (by omega)
  have h4 : (k / 1200 % (sameOf s.m s.x (pickE s k) s.m).length).toNat < (sameOf s.m s.x (pickE s k) s.m).length := by omega
  have h5 : pickG s k ∈ sameOf s.m s.x (pickE s k) s.m := by
    unfold pickG
    rw [List.getD_eq_getElem?_getD, List.getElem?_eq_getElem h4]
    exact List.getElem_mem _
  exact ⟨h1, h4, h2, sameOf_mem.1 h5⟩

theorem more1_ok {s : Net5} {k : Int} (h : s.Ok) (hk : 0 ≤ k) (hm : 0 < s.m) (hN : s.N + 1 ≤ 60) (hM : s.m + 2 ≤ 240) : (more1 s k).Ok := by
  have he := (pickE_lt hk hm).1
  show Grown (s.N + 1) (s.m + 2) (cat s.t s.m (two (s.t (pickE s k)) s.N)) (layIn (cat s.x s.m (two s.m (s.m + 1 : Nat))) (pickE s k) s.m) (cat s.c s.m (two (capOf (k / 30)) (capOf (k / 7000))))
  refine Grown.vertex (e := pickE s k) h hN hM he (fun d hd => cat_lo hd) ?_ ?_ ?_ ?_ ?_ ?_ (fun d hd => cat_lo hd) ?_ ?_
  · rw [cat_hi (Nat.le_refl _), Nat.sub_self]; rfl
  · rw [cat_hi (by omega), show s.m + 1 - s.m = 1 by omega]; rfl
  · intro d hd hn; unfold layIn; rw [upd_ne hn, upd_ne (by omega), cat_lo hd]
  · unfold layIn; rw [upd_same]
  · unfold layIn; rw [upd_ne (by omega), upd_same, cat_lo he]
  · unfold layIn; rw [upd_ne (by omega), upd_ne (by omega), cat_hi (by omega), show s.m + 1 - s.m = 1 by omega]; rfl
  · rw [cat_hi (Nat.le_refl _), Nat.sub_self]; exact capOf_in _
  · rw [cat_hi (by omega), show s.m + 1 - s.m = 1 by omega]; exact capOf_in _
theorem more2_ok {s : Net5} {k : Int} (h : s.Ok) (hk : 0 ≤ k) (hm : 0 < s.m) (hM : s.m + 2 ≤ 240) : (more2 s k).Ok := by
  have he := (pickE_lt hk hm).1
  obtain ⟨_, _, _, hg, hf⟩ := pickG_in (s := s) hk hm
  have pb := h.turns.perm.bh h.good.even
  have ev := h.good.even
  have fc : ∃ j, it (bh s.x) j (oth (pickG s k)) = oth (pickE s k) := by
    obtain ⟨c, O⟩ := facesOf_orb pb
    have e1 : ∀ y, ab s.x y = bh s.x (oth y) := fun y => by unfold ab bh; rw [oth_oth]
    rw [e1, e1, O.fwd _ (oth_lt hg ev), O.fwd _ (oth_lt he ev)] at hf
    exact O.one _ _ (oth_lt hg ev) (oth_lt he ev) hf
  have c0 : cat s.x s.m (two s.m (s.m + 1 : Nat)) s.m = s.m := by rw [cat_hi (Nat.le_refl _), Nat.sub_self]; rfl
  have c1 : cat s.x s.m (two s.m (s.m + 1 : Nat)) (s.m + 1) = (s.m + 1 : Nat) := by rw [cat_hi (by omega), show s.m + 1 - s.m = 1 by omega]; rfl
  have c2 : ∀ d, d < s.m → cat s.x s.m (two s.m (s.m + 1 : Nat)) d = s.x d := fun d hd => cat_lo hd
  show Grown s.N (s.m + 2) (cat s.t s.m (two (s.t (pickE s k)) (s.t (pickG s k)))) (layIn (layIn (cat s.x s.m (two s.m (s.m + 1 : Nat))) (pickE s k) s.m) (if pickG s k = pickE s k then s.m else pickG s k) (s.m + 1)) (cat s.c s.m (two (capOf (k / 30)) (capOf (k / 7000))))
  generalize cat s.x s.m (two s.m (s.m + 1 : Nat)) = y at *
  have l1 : ∀ d, d < s.m → d ≠ pickE s k → layIn y (pickE s k) s.m d = s.x d := fun d hd hn => by unfold layIn; rw [upd_ne hn, upd_ne (by omega), c2 d hd]
  have l2 : layIn y (pickE s k) s.m (pickE s k) = s.m := by unfold layIn; rw [upd_same]
  have l3 : layIn y (pickE s k) s.m s.m = s.x (pickE s k) := by unfold layIn; rw [upd_ne (by omega), upd_same, c2 _ he]
  have l4 : layIn y (pickE s k) s.m (s.m + 1) = (s.m + 1 : Nat) := by unfold layIn; rw [upd_ne (by omega), upd_ne (by omega), c1]
  generalize layIn y (pickE s k) s.m = x1 at *
  by_cases ge : pickG s k = pickE s k
  · rw [if_pos ge, ge]
    refine Grown.loop (e := pickE s k) h hM he (fun d hd => cat_lo hd) ?_ ?_ ?_ ?_ ?_ ?_ (fun d hd => cat_lo hd) ?_ ?_
    · rw [cat_hi (Nat.le_refl _), Nat.sub_self]; rfl
    · rw [cat_hi (by omega), show s.m + 1 - s.m = 1 by omega]; rfl
    · intro d hd hn; unfold layIn; rw [upd_ne (by omega), upd_ne (by omega), l1 d hd hn]
    · unfold layIn; rw [upd_ne (by omega), upd_ne (by omega), l2]
    · unfold layIn; rw [upd_same]
    · unfold layIn; rw [upd_ne (by omega), upd_same, l3]
    · rw [cat_hi (Nat.le_refl _), Nat.sub_self]; exact capOf_in _
    · rw [cat_hi (by omega), show s.m + 1 - s.m = 1 by omega]; exact capOf_in _
  · rw [if_neg ge]
    refine Grown.chord (e := pickE s k) (g := pickG s k) h hM he hg ge fc (fun d hd => cat_lo hd) ?_ ?_ ?_ ?_ ?_ ?_ ?_ (fun d hd => cat_lo hd) ?_ ?_
    · rw [cat_hi (Nat.le_refl _), Nat.sub_self]; rfl
    · rw [cat_hi (by omega), show s.m + 1 - s.m = 1 by omega]; rfl
    · intro d hd hn hn2; unfold layIn; rw [upd_ne hn2, upd_ne (by omega), l1 d hd hn]
    · unfold layIn; rw [upd_ne (fun q => ge q.symm), upd_ne (by omega), l2]
    · unfold layIn; rw [upd_same]
    · unfold layIn; rw [upd_ne (by omega), upd_ne (by omega), l3]
    · unfold layIn; rw [upd_ne (by omega), upd_same, l1 _ hg ge]
    · rw [cat_hi (Nat.le_refl _), Nat.sub_self]; exact capOf_in _
    · rw [cat_hi (by omega), show s.m + 1 - s.m = 1 by omega]; exact capOf_in _
theorem onlyEdge_ok (k : Int) {c d : Int} (hc : 0 ≤ c ∧ c ≤ 2147483648) (hd : 0 ≤ d ∧ d ≤ 2147483648) : (onlyEdge k c d).Ok := by
  unfold Net5.Ok onlyEdge
  split
  · exact Grown.loop1 rfl rfl rfl rfl hc hd
  · exact Grown.edge1 rfl rfl rfl rfl hc hd
theorem planeUp_ok (z : Nat → Int) : ∀ i, i ≤ 24 → (planeUp z i).Ok ∧ (planeUp z i).N ≤ i + 1 ∧ (planeUp z i).m ≤ 2 * i ∧ (0 < i → 0 < (planeUp z i).m)
  | 0, _ => ⟨Grown.start _ _ _, Nat.le_refl _, Nat.le_refl _, fun h => by omega⟩
  | i + 1, hi => by
    obtain ⟨h1, h2, h3, h4⟩ := planeUp_ok z i (by omega)
    have hk := Int.emod_nonneg (z i) (b := 1125899906842624) (by omega)
    show (grow1 (planeUp z i) (z i % 1125899906842624)).Ok ∧ (grow1 (planeUp z i) (z i % 1125899906842624)).N ≤ i + 1 + 1 ∧ (grow1 (planeUp z i) (z i % 1125899906842624)).m ≤ 2 * (i + 1) ∧ (0 < i + 1 → 0 < (grow1 (planeUp z i) (z i % 1125899906842624)).m)
    unfold grow1
    split
    · refine ⟨onlyEdge_ok _ (capOf_in _) (capOf_in _), ?_⟩
      unfold onlyEdge
      split <;> simp <;> omega
    · split
      · refine ⟨more1_ok h1 hk (by omega) (by omega) (by omega), ?_⟩
        unfold more1; simp; omega
      · refine ⟨more2_ok h1 hk (by omega) (by omega), ?_⟩
        unfold more2; simp; omega
end Go.Proofs.Ytcejjcopchkmeaa.Ro
