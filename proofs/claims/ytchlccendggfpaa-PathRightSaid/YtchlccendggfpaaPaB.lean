/- Plain laws: places taken by their distance, the least first. -/
import Derived.Test.YtchlccendggfpaaPaA
namespace Go.Proofs.Ytchlccendggfpaa.Ro
set_option linter.unusedVariables false
set_option linter.unusedSimpArgs false

/-- what is known between two takings: which places are done, what waits, the last one's distance -/
structure Dij (S : ArcsF) (k s n t : Nat) (d : Nat → Int) (done : Nat → Bool) (f : Int → Option Int) (top : Int) : Prop where
  sound : Sound S k s n t d
  wait : ∀ v : Nat, v < n → done v = false → d v ≠ far → f (v : Int) = some (d v)
  none_ : ∀ v : Nat, v < n → done v = true ∨ d v = far → f (v : Int) = none
  keys : ∀ z r, f z = some r → ∃ v : Nat, v < n ∧ z = (v : Int)
  fin : ∀ u, u < n → done u = true → d u ≠ far ∧ d u ≤ top
  all : ∀ v, v < n → done v = false → d v ≠ far → top ≤ d v
  fix : ∀ i, i < k → done (S.fr i) = true → d (S.th i) ≤ d (S.fr i) + S.ln i
/-- x was taken; the first j arcs were gone over -/
structure DijX (S : ArcsF) (k s n t : Nat) (d : Nat → Int) (done : Nat → Bool) (f : Int → Option Int) (x j : Nat) : Prop where
  sound : Sound S k s n t d
  wait : ∀ v : Nat, v < n → done v = false → d v ≠ far → f (v : Int) = some (d v)
  none_ : ∀ v : Nat, v < n → done v = true ∨ d v = far → f (v : Int) = none
  keys : ∀ z r, f z = some r → ∃ v : Nat, v < n ∧ z = (v : Int)
  here : x < n ∧ done x = true
  fin : ∀ u, u < n → done u = true → d u ≠ far ∧ d u ≤ d x
  all : ∀ v, v < n → done v = false → d v ≠ far → d x ≤ d v
  fix : ∀ i, i < k → done (S.fr i) = true → (S.fr i ≠ x ∨ i < j) → d (S.th i) ≤ d (S.fr i) + S.ln i
section
variable {S : ArcsF} {k s n t x j : Nat} {L top : Int} {d : Nat → Int} {done : Nat → Bool} {f : Int → Option Int}
theorem Dij.start (hs : s < n) : Dij S k s n 0 (upd (fun _ => far) s 0) (fun _ => false) (upd (fun _ => none) (s : Int) (some 0)) 0 := by
  refine ⟨Sound.start S k s n, fun v hv _ h => ?_, fun v hv h => ?_, fun z r h => ?_, fun u _ h => ?_, fun v _ _ h => ?_, fun i _ h => ?_⟩
  · by_cases e : v = s
    · subst e; rw [upd_same, upd_same]
    · rw [upd_ne e] at h; exact absurd rfl h
  · by_cases e : v = s
    · subst e; rw [upd_same] at h
      rcases h with h | h
      · cases h
      · unfold far at h; omega
    · rw [upd_ne (by omega)]
  · by_cases e : z = (s : Int)
    · exact ⟨s, hs, e⟩
    · rw [upd_ne e] at h; cases h
  · cases h
  · by_cases e : v = s
    · subst e; rw [upd_same]; exact Int.le_refl _
    · rw [upd_ne e] at h; exact absurd rfl h
  · cases h
/-- the least of what waits is taken -/
theorem Dij.take (h : Dij S k s n t d done f top) {z r : Int} (hf : f z = some r) (hl : ∀ z' r', f z' = some r' → r ≤ r') : ∃ x : Nat, x < n ∧ z = (x : Int) ∧ r = d x ∧ done x = false ∧ DijX S k s n t d (upd done x true) (upd f z none) x 0 := by
  obtain ⟨x, hx, rfl⟩ := h.keys z r hf
  have hd : done x = false ∧ d x ≠ far := by
    rcases Classical.em (done x = true ∨ d x = far) with q | q
    · rw [h.none_ x hx q] at hf; cases hf
    · refine ⟨?_, fun e => q (.inr e)⟩
      cases e : done x with
      | false => rfl
      | true => exact absurd (.inl e) q
  have hr : r = d x := by
    have := h.wait x hx hd.1 hd.2
    rw [hf] at this
    injection this
  refine ⟨x, hx, rfl, hr, hd.1, h.sound, fun v hv h1 h2 => ?_, fun v hv h1 => ?_, fun z' r' h1 => ?_, ⟨hx, upd_same _ _ _⟩, fun u hu h1 => ?_, fun v hv h1 h2 => ?_, fun i hi h1 h2 => ?_⟩
  · by_cases e : v = x
    · subst e; rw [upd_same] at h1; cases h1
    · rw [upd_ne e] at h1; rw [upd_ne (by omega)]; exact h.wait v hv h1 h2
  · by_cases e : v = x
    · subst e; rw [upd_same]
    · rw [upd_ne e] at h1; rw [upd_ne (by omega)]; exact h.none_ v hv h1
  · by_cases e : z' = (x : Int)
    · rw [e, upd_same] at h1; cases h1
    · rw [upd_ne e] at h1; exact h.keys z' r' h1
  · by_cases e : u = x
    · subst e; exact ⟨hd.2, Int.le_refl _⟩
    · rw [upd_ne e] at h1
      have h3 := h.fin u hu h1
      have h4 := h.all x hx hd.1 hd.2
      exact ⟨h3.1, by omega⟩
  · by_cases e : v = x
    · subst e; exact Int.le_refl _
    · rw [upd_ne e] at h1
      have := hl _ _ (h.wait v hv h1 h2)
      omega
  · have e : S.fr i ≠ x := by rcases h2 with q | q
                              · exact q
                              · omega
    rw [upd_ne e] at h1
    exact h.fix i hi h1
theorem DijX.skip (h : DijX S k s n t d done f x j) (hj : j < k) (hn : S.fr j ≠ x ∨ d (S.th j) ≤ d (S.fr j) + S.ln j) : DijX S k s n t d done f x (j + 1) :=
  ⟨h.sound, h.wait, h.none_, h.keys, h.here, h.fin, h.all, fun i hi h1 h2 => by
    by_cases e : i = j
    · subst e
      rcases hn with q | q
      · exact h.fix i hi h1 (.inl q)
      · exact q
    · exact h.fix i hi h1 (h2.elim .inl fun z => .inr (by omega))⟩
/-- an arc to what is done makes nothing less -/
theorem DijX.seen (h : DijX S k s n t d done f x j) (A : ArcsIn S k n L) (hj : j < k) (h0 : 0 ≤ S.ln j) (hx : S.fr j = x) (hd : done (S.th j) = true) : d (S.th j) ≤ d (S.fr j) + S.ln j := by
  have := (h.fin _ (A.th j hj) hd).2
  rw [hx]; omega
theorem DijX.put (h : DijX S k s n t d done f x j) (A : ArcsIn S k n L) (hj : j < k) (h0 : 0 ≤ S.ln j) (hx : S.fr j = x) (hd : done (S.th j) = false) (hl : d (S.fr j) + S.ln j < d (S.th j)) (hb : d x + S.ln j < far) :
    DijX S k s n (t + 1) (upd d (S.th j) (d (S.fr j) + S.ln j)) done (upd f ((S.th j : Nat) : Int) (some (d (S.fr j) + S.ln j))) x (j + 1) := by
  have nx : S.th j ≠ x := fun e => by rw [e, h.here.2] at hd; cases hd
  have hf := (h.fin x h.here.1 h.here.2).1
  have vx : upd d (S.th j) (d (S.fr j) + S.ln j) x = d x := upd_ne (Ne.symm nx)
  refine ⟨h.sound.step A hj (by rw [hx]; exact hf) hl, fun v hv h1 h2 => ?_, fun v hv h1 => ?_, fun z r h1 => ?_, h.here, fun u hu h1 => ?_, fun v hv h1 h2 => ?_, fun i hi h1 h2 => ?_⟩
  · by_cases e : v = S.th j
    · subst e; rw [upd_same, upd_same]
    · rw [upd_ne e] at h2 ⊢; rw [upd_ne (by omega)]; exact h.wait v hv h1 h2
  · by_cases e : v = S.th j
    · subst e
      rw [upd_same] at h1
      rcases h1 with q | q
      · rw [hd] at q; cases q
      · rw [hx] at q; omega
    · rw [upd_ne e] at h1; rw [upd_ne (by omega)]; exact h.none_ v hv h1
  · by_cases e : z = ((S.th j : Nat) : Int)
    · exact ⟨_, A.th j hj, e⟩
    · rw [upd_ne e] at h1; exact h.keys z r h1
  · have e : u ≠ S.th j := fun e => by rw [e, hd] at h1; cases h1
    rw [upd_ne e, vx]; exact h.fin u hu h1
  · rw [vx]
    by_cases e : v = S.th j
    · subst e; rw [upd_same, hx]; omega
    · rw [upd_ne e] at h2 ⊢; exact h.all v hv h1 h2
  · have e : S.fr i ≠ S.th j := fun e => by rw [e, hd] at h1; cases h1
    rw [upd_ne e]
    by_cases e2 : S.th i = S.th j
    · rw [e2, upd_same]
      by_cases e3 : i = j
      · subst e3; exact Int.le_refl _
      · have := h.fix i hi h1 (h2.elim .inl fun z => .inr (by omega))
        rw [e2] at this; omega
    · rw [upd_ne e2]
      by_cases e3 : i = j
      · subst e3; exact absurd rfl e2
      · exact h.fix i hi h1 (h2.elim .inl fun z => .inr (by omega))
theorem DijX.done_ (h : DijX S k s n t d done f x k) : Dij S k s n t d done f (d x) :=
  ⟨h.sound, h.wait, h.none_, h.keys, h.fin, h.all, fun i hi h1 => h.fix i hi h1 (.inr hi)⟩
/-- nothing waits: nothing makes it less -/
theorem Dij.end_ (h : Dij S k s n t d done f top) (A : ArcsIn S k n L) (he : ∀ z, f z = none) : Fix S k d := fun i hi hf => by
  cases e : done (S.fr i) with
  | true => exact h.fix i hi e
  | false =>
    have := h.wait _ (A.fr i hi) e hf
    rw [he] at this; cases this
end
end Go.Proofs.Ytchlccendggfpaa.Ro
