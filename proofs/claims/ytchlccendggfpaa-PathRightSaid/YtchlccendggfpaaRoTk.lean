/- A region that draws its order, gone through by hand: what may be taken first is taken in a row; one operation carried out; then more may be held than before. -/
import Derived.Test.YtchlccendggfpaaRoW
import Derived.Deep.RegionHeld3
namespace Go.Proofs.Ytchlccendggfpaa.Ro
open Go.RowKit Go.Proofs
set_option linter.unusedVariables false
set_option linter.unusedSimpArgs false

section
variable {P : Program} {md : Region.Mode} {ops : Array Oper} {Q : Exit → Act → World → Prop} {S S' : World → Prop}
/-- more may be held from here on -/
theorem held_more (h : ∀ w, S' w → S w) : ∀ (fuel : Nat) (listed : Array Bool) (a : Act) (w : World), wpAnyH P md ops Q S' fuel listed a w → wpAnyH P md ops Q S fuel listed a w
  | 0, _, _, _, k => k
  | f + 1, _, _, _, k => ⟨k.1, fun i hi => wpOp_mono (fun a' w' h' => ⟨h _ h'.1, held_more h f _ a' w' h'.2⟩) (k.2 i hi)⟩
/-- these may be taken first, one behind the other -/
def takes (md : Region.Mode) (ops : Array Oper) : Array Bool → List Nat → Bool
  | _, [] => true
  | listed, i :: r => Region.free md ops listed i && (Region.ready md ops listed).contains i && takes md ops (listed.setIfInBounds i true) r
def gone (listed : Array Bool) : List Nat → Array Bool
  | [] => listed
  | i :: r => gone (listed.setIfInBounds i true) r
def pick : List Nat → List Oper → List Oper
  | [], _ => []
  | i :: r, l => match l.drop i with
    | o :: _ => o :: pick r l
    | [] => pick r l
def wpTakes (P : Program) (ops : Array Oper) (S : World → Prop) (K : Act → Prop) : List Oper → Act → Prop
  | [], a => K a
  | o :: r, a => ∃ v, YieldsIf P ops S o v a ∧ wpTakes P ops S K r (a.put o.dst v)
theorem wpTakes_nil {K : Act → Prop} {a : Act} (h : K a) : wpTakes P ops S K [] a := h
theorem wpTakes_cons {K : Act → Prop} {o : Oper} {r : List Oper} {a : Act} {v : Value} (hy : YieldsIf P ops S o v a) (h : wpTakes P ops S K r (a.put o.dst v)) : wpTakes P ops S K (o :: r) a := ⟨v, hy, h⟩
theorem held_takes {l : List Oper} (hs : Region.noSelect l.toArray = true) (hQ : ∀ c a d v w, Q (.panic c) (a.put d v) w → Q (.panic c) a w) : ∀ (is : List Nat) (n fuel : Nat) (listed : Array Bool) (a : Act) (w : World),
    n = fuel + is.length → (is.all fun i => decide (i < l.length)) = true → takes md l.toArray listed is = true → S w → wpTakes P l.toArray S (fun a => wpAnyH P md l.toArray Q S fuel (gone listed is) a w) (pick is l) a → wpAnyH P md l.toArray Q S n listed a w
  | [], n, fuel, listed, a, w, hn, _, _, _, h => by
    rw [hn]; exact h
  | i :: r, n, fuel, listed, a, w, hn, hi, ht, hS, h => by
    obtain rfl : n = (fuel + r.length) + 1 := by rw [hn, List.length_cons]; omega
    simp only [takes, Bool.and_eq_true] at ht
    simp only [List.all_cons, Bool.and_eq_true, decide_eq_true_eq] at hi
    have e : pick (i :: r) l = l[i]'hi.1 :: pick r l := by
      show (match l.drop i with | o :: _ => o :: pick r l | [] => pick r l) = _
      rw [List.drop_eq_getElem_cons hi.1]
    rw [e] at h
    obtain ⟨v, hy, h⟩ := h
    exact wpAnyH_take (oi := l[i]'hi.1) (v := v) (by simp [hi.1]) hs ht.1.1 ht.1.2 (fun c a w k => hQ c a _ v w k) hy hS (held_takes hs hQ r _ fuel _ _ w rfl hi.2 ht.2 hS h)
/-- one operation, the only one that may come up -/
def wpOne (P : Program) (md : Region.Mode) (ops : Array Oper) (Q : Exit → Act → World → Prop) (S : World → Prop) (fuel : Nat) (listed : Array Bool) : List Oper → Act → World → Prop
  | [], _, _ => False
  | o :: _, a, w => ∀ K' : Act → World → Prop, Shut (∀ a w, S w → wpAnyH P md ops Q S fuel listed a w → K' a w) → if Region.wanted o (yielded ops a.tmps) = true then Oper.wp P o a w K' Q else K' (a.put o.dst undef) w
theorem held_one {l : List Oper} (i : Nat) {n fuel : Nat} {listed : Array Bool} {a : Act} {w : World} (hn : n = fuel + 1) (hr : Region.ready md l.toArray listed = [i])
    (h : wpOne P md l.toArray Q S fuel (listed.setIfInBounds i true) (l.drop i) a w) : wpAnyH P md l.toArray Q S n listed a w := by
  subst hn
  refine wpAnyH_ready hr (by simp) ?_
  rcases Nat.lt_or_ge i l.length with q | q
  · rw [List.drop_eq_getElem_cons q] at h
    exact AllReadyH.cons (o := l[i]) (by simp [q]) (fun K' hK => h K' (fun a w hS hW => hK a w hS (fun _ => hW))) AllReadyH.nil
  · rw [List.drop_eq_nil_of_le q] at h; exact h.elim
/-- one of two operations that may come up -/
theorem held_two {l : List Oper} (i j : Nat) {n fuel : Nat} {listed : Array Bool} {a : Act} {w : World} (hn : n = fuel + 1) (hr : Region.ready md l.toArray listed = [i, j])
    (h1 : wpOne P md l.toArray Q S fuel (listed.setIfInBounds i true) (l.drop i) a w) (h2 : wpOne P md l.toArray Q S fuel (listed.setIfInBounds j true) (l.drop j) a w) : wpAnyH P md l.toArray Q S n listed a w := by
  subst hn
  refine wpAnyH_ready hr (by simp) ?_
  have one : ∀ (i : Nat) (rs : List Nat), wpOne P md l.toArray Q S fuel (listed.setIfInBounds i true) (l.drop i) a w → AllReadyH P md l.toArray Q S fuel listed a w rs → AllReadyH P md l.toArray Q S fuel listed a w (i :: rs) := fun i rs h hs => by
    rcases Nat.lt_or_ge i l.length with q | q
    · rw [List.drop_eq_getElem_cons q] at h
      exact AllReadyH.cons (o := l[i]) (by simp [q]) (fun K' hK => h K' (fun a w hS hW => hK a w hS (fun _ => hW))) hs
    · rw [List.drop_eq_nil_of_le q] at h; exact h.elim
  exact one i _ h1 (one j _ h2 AllReadyH.nil)
theorem wpOne_cons {fuel : Nat} {listed : Array Bool} {o : Oper} {r : List Oper} {a : Act} {w : World} (h : ∀ K' : Act → World → Prop, Shut (∀ a w, S w → wpAnyH P md ops Q S fuel listed a w → K' a w) → if Region.wanted o (yielded ops a.tmps) = true then Oper.wp P o a w K' Q else K' (a.put o.dst undef) w) :
    wpOne P md ops Q S fuel listed (o :: r) a w := h
end
end Go.Proofs.Ytchlccendggfpaa.Ro
