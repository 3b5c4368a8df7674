/- Plain: each face is reached; what is met from the first half on, arc for arc, is all. -/
import Derived.Test.YtcdlnohnkdalbaaMxRiBk
import Derived.Test.YtcdlnohnkdalbaaMxRoDu
namespace Go.Proofs.Ytcdlnohnkdalbaa.Ro
open Go.RowKit Go.Proofs Go.Maps
set_option linter.unusedVariables false
set_option maxRecDepth 100000
set_option linter.unusedSimpArgs false

section
variable {N m K f : Nat} {x t c o D : Nat → Int} {s v : Int}
theorem Over.sharing (h : Over m x t s v o K f) : Sharing m x t s v ∧ s ≠ v := by
  obtain ⟨o0, k, e0, l, a, r, ⟨O, S, H⟩, -, -⟩ := h
  obtain ⟨hne, g, -, -, ⟨d1, h1, o1, t1⟩, ⟨d2, h2, o2, t2⟩, -⟩ := S
  exact ⟨⟨d1, d2, h1, h2, O.one d1 d2 h1 h2 (o1.trans o2.symm), t1, t2⟩, hne⟩
/-- each face is reached -/
theorem RimOk.all (h : RimOk N m x t c s v o K f D) (gr : Grown N m t x c) (hm : m ≤ 48) : ∀ j, j < K + 1 → D j ≠ far := by
  have gd := gr.good
  have ev := gd.even
  have pb := gr.turns.perm.bh ev
  obtain ⟨z1, z2, z3⟩ := h.near gd gr.turns hm gr.caps
  obtain ⟨ok, -, hfK⟩ := h.over.ok hm ev gr.caps
  have hA := h.away
  obtain ⟨o0, k, e0, l, a, r, ⟨O, S, H⟩, hK, rfl⟩ := h.over
  have hf : D f ≠ far := by rw [z1]; unfold far; omega
  have hKf : D K ≠ far := by unfold far; omega
  -- by the old faces alone
  have inF : ∀ d, d < m → o0 d = f → D (halfO x o0 (K : Int) e0 a r l d).toNat ≠ far := fun d hd e => by
    obtain ⟨j, hj, rfl⟩ := H.place O pb hd e
    rw [H.value O pb K hj]
    split
    · rw [Int.toNat_natCast]; exact hKf
    · rw [Int.toNat_natCast]; exact hf
  have other : ∀ d, o0 d ≠ f → halfO x o0 (K : Int) e0 a r l d = o0 d := fun d e => H.other O pb K e
  have both : ∀ d, d < m → D (halfO x o0 (K : Int) e0 a r l d).toNat ≠ far → D (halfO x o0 (K : Int) e0 a r l (oth d)).toNat ≠ far := fun d hd e z => by
    have := (hA.both ok (oth_lt hd ev)).1 z
    rw [oth_oth] at this
    exact e this
  have P : ∀ j, Conn m (tlOf o0) (tlOf o0 e0) j → ∀ d, d < m → tlOf o0 d = j → D (halfO x o0 (K : Int) e0 a r l d).toNat ≠ far := fun j hc => by
    have old : ∀ d d', d < m → d' < m → tlOf o0 d = tlOf o0 d' → D (halfO x o0 (K : Int) e0 a r l d).toNat ≠ far → D (halfO x o0 (K : Int) e0 a r l d').toNat ≠ far := fun d d' hd hd' e q => by
      have l1 := O.lo d hd
      have l2 := O.lo d' hd'
      have e2 : o0 d = o0 d' := by unfold tlOf at e; omega
      by_cases e3 : o0 d' = f
      · exact inF d' hd' e3
      · rw [other d' e3, ← e2]
        rw [other d (by rw [e2]; exact e3)] at q
        exact q
    induction hc with
    | refl =>
      intro d hd e
      exact old e0 d H.lt hd e.symm (inF e0 H.lt H.face)
    | @step d' hd' _ ih =>
      intro d hd e
      exact old (oth d') d (oth_lt hd' ev) hd e.symm (both d' hd' (ih d' hd' rfl))
  have tlN : ∀ d, d < m → tlOf t d < N := fun d hd => by have := gd.tail d hd; unfold tlOf; omega
  have allD : ∀ d, d < m → D (halfO x o0 (K : Int) e0 a r l d).toNat ≠ far := fun d hd =>
    P _ (face_conn gr O H.lt (gr.whole _ _ (tlN e0 H.lt) (tlN d hd)) d hd rfl) d hd rfl
  intro j hj
  by_cases e1 : j = K
  · subst e1; exact hKf
  · by_cases e2 : j = f
    · subst e2; exact hf
    · have hjk : j < k := by omega
      obtain ⟨y, hy, e3⟩ := O.each j hjk
      have := allD y hy
      rw [other y (by rw [e3]; omega), e3, Int.toNat_natCast] at this
      exact this
/-- where nothing more is met, all is -/
theorem Away.met (A : Away m c o K f D) (ok : OverOk m (K + 1) f o c) (hall : ∀ j, j < K + 1 → D j ≠ far) {M : Nat → Bool} (h0 : M f = true) (hc : ∀ d, d < m → M (o d).toNat = true → D (o (oth d)).toNat = D (o d).toNat + c d → M (o (oth d)).toNat = true) : ∀ j, j < K + 1 → M j = true := by
  obtain ⟨T, S, hT, F⟩ := A
  have way : ∀ {j : Nat} {L : Int} {n : Nat}, Way (overA o c) m f j L n → D j = L → M j = true := by
    intro j L n w
    induction w with
    | nil => exact fun _ => h0
    | @snoc L' n' i w hi ih =>
      intro e
      have h1 := F.le S ok.arcs (by omega) (by unfold far; omega) ok.start w
      have h2 := F i hi h1.1
      have e3 : (overA o c).ln i = c i := rfl
      have e4 : (overA o c).fr i = (o i).toNat := rfl
      have e5 : (overA o c).th i = (o (oth i)).toNat := rfl
      rw [e3, e4, e5] at h2
      rw [e5, e3] at e
      rw [e4] at h1
      exact hc i hi (ih (by rw [e4]; omega)) (by omega)
  intro j hj
  rcases S.each j hj with q | ⟨n, -, w⟩
  · exact absurd q (hall j hj)
  · exact way w rfl
end
/-- what Split tells, a parting or none -/
theorem SplitPost.told {B : Nat} {w w' : World} {m : Nat} {x t : Nat → Int} {s v : Int} {e : Ending} (h : SplitPost B w m x t s v e w') : Below B w w' ∧
    (((∃ o k, Orb (bh x) m o k ∧ Shares m o t (max k 1) s v 0 false) ∧ e = .returned (.tuple #[.slice none 0 0, .int .i64 0, .int .i64 0, .int .i64 0, .bool false])) ∨
     ∃ (o : Nat → Int) (K f J b cap : Nat), J = K + 1 ∧ Over m x t s v o K f ∧ e = .returned (.tuple #[.slice (some ⟨b, 0, none⟩) m cap, .int .i64 (J : Int), .int .i64 (f : Int), .int .i64 (K : Int), .bool true]) ∧ Ow w' (.slice (some ⟨b, 0, none⟩) m cap) m o ∧ B ≤ b) := by
  obtain ⟨o, k, O, bb, ⟨S, rfl⟩ | ⟨f, e0, l, a, r, b, cap, S, H, rfl, hO, hb⟩⟩ := h
  · exact ⟨bb, .inl ⟨⟨o, k, O, S⟩, rfl⟩⟩
  · exact ⟨bb, .inr ⟨_, max k 1, f, max k 1 + 1, b, cap, rfl, ⟨o, k, e0, l, a, r, ⟨O, S, H⟩, rfl, rfl⟩, rfl, hO, hb⟩⟩
end Go.Proofs.Ytcdlnohnkdalbaa.Ro
