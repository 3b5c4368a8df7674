/- A net of the call's own, in a variable; its caps written over. -/
import Derived.Test.YtcdlnohnkdalbaaMg12
namespace Go.Proofs.Ytcdlnohnkdalbaa.Ro
open Go.RowKit Go.Proofs Go.Maps
set_option linter.unusedVariables false
set_option maxRecDepth 100000
set_option linter.unusedSimpArgs false

/-- a net in a variable, its rows the call's own, all in blocks of G -/
structure NetG (w : World) (p : Nat) (N : Int) (T X C : Value) (m : Nat) (t x c : Nat → Int) (G : Nat → Prop) : Prop where
  box : Box w p N T X C
  ot : Ow w T m t
  ox : Ow w X m x
  oc : Ow w C m c
  gp : G p
  gt : ∀ k, T.ownBlock = some k → G k
  gx : ∀ k, X.ownBlock = some k → G k
  gc : ∀ k, C.ownBlock = some k → G k
  tc : ∀ k, T.ownBlock = some k → C.ownBlock ≠ some k
  xc : ∀ k, X.ownBlock = some k → C.ownBlock ≠ some k
  pc : C.ownBlock ≠ some p
section
variable {w w' : World} {p m B : Nat} {N : Int} {T X C : Value} {t x c : Nat → Int} {G : Nat → Prop}
theorem NetG.keep (h : NetG w p N T X C m t x c G) (hk : ∀ k, G k → w'.heap[k]? = w.heap[k]?) : NetG w' p N T X C m t x c G :=
  ⟨(hk p h.gp).trans h.box, h.ot.keep fun k e => hk k (h.gt k e), h.ox.keep fun k e => hk k (h.gx k e), h.oc.keep fun k e => hk k (h.gc k e), h.gp, h.gt, h.gx, h.gc, h.tc, h.xc, h.pc⟩
theorem NetG.below (h : NetG w p N T X C m t x c G) (hG : ∀ k, G k → k < B) (hb : Below B w w') : NetG w' p N T X C m t x c G := h.keep fun k e => hb.block k (hG k e)
theorem NetG.other (h : NetG w p N T X C m t x c G) {b : Nat} (hb : ¬ G b) (i : Nat) (u : Value) : NetG (w.setCell ⟨b, i, none⟩ u) p N T X C m t x c G :=
  h.keep fun k e => Below.heap_setCell _ _ _ _ (fun z => hb (by have z : k = b := z; rw [← z]; exact e))
theorem NetG.drew (h : NetG w p N T X C m t x c G) : NetG w.drew p N T X C m t x c G := h.keep fun _ _ => rfl
theorem NetG.at_ (h : NetG w p N T X C m t x c G) : NetAt w p N T X C m t x c := ⟨h.box, h.ot.rd, h.ox.rd, h.oc.rd⟩
theorem NetG.cap (h : NetG w p N T X C m t x c G) {i : Nat} (hi : i < m) : ∃ b q, C = .slice (some ⟨b, 0, none⟩) m q ∧ w.cell? ⟨b, i, none⟩ = some (.int .i64 (c i)) ∧ w.frozen? ⟨b, i, none⟩ = false ∧ G b ∧ b ≠ p ∧ b < w.heap.size := by
  obtain ⟨b, q, rfl, hlt⟩ := h.oc.form (by omega)
  exact ⟨b, q, rfl, h.oc.cell hi, h.oc.frozen i, h.gc b rfl, fun e => h.pc (by rw [← e]; rfl), hlt⟩
theorem NetG.set {b q : Nat} (h : NetG w p N T X (.slice (some ⟨b, 0, none⟩) m q) m t x c G) {i : Nat} (hi : i < m) (u : Int) {c' : Nat → Int} (e : ∀ j, j < m → upd c i u j = c' j) : NetG (w.setCell ⟨b, i, none⟩ (.int .i64 u)) p N T X (.slice (some ⟨b, 0, none⟩) m q) m t x c' G :=
  ⟨(Below.heap_setCell _ _ _ _ (fun z => h.pc (by have z : p = b := z; rw [z]; rfl))).trans h.box, h.ot.keep fun k z => Below.heap_setCell _ _ _ _ (fun y => h.tc k z (by have y : k = b := y; rw [y]; rfl)), h.ox.keep fun k z => Below.heap_setCell _ _ _ _ (fun y => h.xc k z (by have y : k = b := y; rw [y]; rfl)), (h.oc.set hi u).congr e,
    h.gp, h.gt, h.gx, h.gc, h.tc, h.xc, h.pc⟩
theorem NetG.of {B0 : Nat} (b : Box w p N T X C) (h : Rows w B0 T X C m t x c) (gp : G p) (hg : ∀ k, T.ownBlock = some k ∨ X.ownBlock = some k ∨ C.ownBlock = some k → G k ∧ k ≠ p) : NetG w p N T X C m t x c G :=
  ⟨b, h.ot, h.ox, h.oc, gp, fun k e => (hg k (.inl e)).1, fun k e => (hg k (.inr (.inl e))).1, fun k e => (hg k (.inr (.inr e))).1, h.tc, h.xc, fun e => (hg p (.inr (.inr e))).2 rfl⟩
theorem NetG.congr {c' : Nat → Int} (h : NetG w p N T X C m t x c G) (e : ∀ j, j < m → c j = c' j) : NetG w p N T X C m t x c' G := ⟨h.box, h.ot, h.ox, h.oc.congr e, h.gp, h.gt, h.gx, h.gc, h.tc, h.xc, h.pc⟩
end
end Go.Proofs.Ytcdlnohnkdalbaa.Ro
