/- Plain laws: of the shortest ways those of the fewest arcs, of these the least row. -/
import Derived.Test.YtchlccendggfpaaPaC
namespace Go.Proofs.Ytchlccendggfpaa.Ro
set_option linter.unusedVariables false
set_option linter.unusedSimpArgs false

/-- the arcs, turned about -/
def ArcsF.rev (S : ArcsF) : ArcsF := ⟨S.th, S.fr, S.ln⟩
theorem ArcsIn.rev {S : ArcsF} {k n : Nat} {L : Int} (A : ArcsIn S k n L) : ArcsIn S.rev k n L := ⟨A.th, A.fr, A.lo, A.hi⟩
/-- how far it is to t: D, by how many arcs at least: F -/
structure Best (S : ArcsF) (k t n : Nat) (D F : Nat → Int) : Prop where
  none_ : ∀ v, v < n → D v = far → ∀ c m, ¬ Way S.rev k t v c m
  way : ∀ v, v < n → D v ≠ far → ∃ m : Nat, F v = (m : Int) ∧ Way S.rev k t v (D v) m
  least : ∀ v c m, v < n → Way S.rev k t v c m → D v < c ∨ (D v = c ∧ F v ≤ m)
section
variable {S : ArcsF} {k n s t v T : Nat} {L : Int} {D F D' F' : Nat → Int}
theorem Best.one (h : Best S k t n D F) (h' : Best S k t n D' F') : ∀ v, v < n → D v = D' v ∧ (D v ≠ far → F v = F' v) := by
  intro v hv
  by_cases e : D v = far <;> by_cases e' : D' v = far
  · exact ⟨by rw [e, e'], fun q => absurd e q⟩
  · obtain ⟨m, _, w⟩ := h'.way v hv e'
    exact absurd w (h.none_ v hv e _ _)
  · obtain ⟨m, _, w⟩ := h.way v hv e
    exact absurd w (h'.none_ v hv e' _ _)
  · obtain ⟨m, h1, w⟩ := h.way v hv e
    obtain ⟨m', h1', w'⟩ := h'.way v hv e'
    have l := h.least v _ _ hv w'
    have l' := h'.least v _ _ hv w
    exact ⟨by omega, fun _ => by omega⟩

/-- pairs that are reached -/
structure Sound2 (S : ArcsF) (k t n T : Nat) (g a : Nat → Int) : Prop where
  each : ∀ v, v < n → (g v = far ∧ a v = far) ∨ ∃ m : Nat, m ≤ T ∧ a v = (m : Int) ∧ Way S.rev k t v (g v) m
  here : g t = 0 ∧ a t = 0
def Fix2 (S : ArcsF) (k : Nat) (g a : Nat → Int) : Prop := ∀ i, i < k → g (S.th i) ≠ far → g (S.fr i) < g (S.th i) + S.ln i ∨ (g (S.fr i) = g (S.th i) + S.ln i ∧ a (S.fr i) ≤ a (S.th i) + 1)
theorem Sound2.start (S : ArcsF) (k t n : Nat) : Sound2 S k t n 0 (upd (fun _ => far) t 0) (upd (fun _ => far) t 0) :=
  ⟨fun v _ => by
    by_cases e : v = t
    · subst e; rw [upd_same]; exact .inr ⟨0, Nat.le_refl _, rfl, .nil⟩
    · rw [upd_ne e]; exact .inl ⟨rfl, rfl⟩, by rw [upd_same]; exact ⟨rfl, rfl⟩⟩
theorem Way.nonneg {c : Int} {m : Nat} (h : Way S k s v c m) (h0 : ∀ i, i < k → 0 ≤ S.ln i) : 0 ≤ c := by
  induction h with
  | nil => exact Int.le_refl _
  | snoc _ hi ih => have := h0 _ hi; omega
theorem Sound2.more {g a : Nat → Int} (h : Sound2 S k t n T g a) {T' : Nat} (hT : T ≤ T') : Sound2 S k t n T' g a :=
  ⟨fun v hv => (h.each v hv).elim .inl fun ⟨m, h1, h2, h3⟩ => .inr ⟨m, by omega, h2, h3⟩, h.here⟩
theorem Sound2.step {g a : Nat → Int} (h : Sound2 S k t n T g a) (A : ArcsIn S k n L) (h0 : ∀ i, i < k → 0 ≤ S.ln i) (ht : t < n) {i : Nat} (hi : i < k) (hf : g (S.th i) ≠ far)
    (hl : g (S.th i) + S.ln i < g (S.fr i) ∨ (g (S.th i) + S.ln i = g (S.fr i) ∧ a (S.th i) + 1 < a (S.fr i))) :
    Sound2 S k t n (T + 1) (upd g (S.fr i) (g (S.th i) + S.ln i)) (upd a (S.fr i) (a (S.th i) + 1)) := by
  have pos : ∀ v, v < n → g v ≠ far → 0 ≤ g v ∧ 0 ≤ a v := fun v hv hg => by
    rcases h.each v hv with q | ⟨m, h1, h2, w⟩
    · exact absurd q.1 hg
    · exact ⟨w.nonneg (S := S.rev) h0, by omega⟩
  refine ⟨fun v hv => ?_, ?_⟩
  · by_cases e : v = S.fr i
    · subst e
      rw [upd_same, upd_same]
      rcases h.each _ (A.th i hi) with q | ⟨m, h1, h2, w⟩
      · exact absurd q.1 hf
      · exact .inr ⟨m + 1, by omega, by omega, Way.snoc (S := S.rev) w hi⟩
    · rw [upd_ne e, upd_ne e]; exact (h.more (Nat.le_succ T)).each v hv
  · have nt : t ≠ S.fr i := fun e => by
      have h1 := h.here
      rw [e] at h1
      have h2 := pos _ (A.th i hi) hf
      have h3 := h0 i hi
      omega
    rw [upd_ne nt, upd_ne nt]; exact h.here
theorem Sound2.size {g a : Nat → Int} (h : Sound2 S k t n T g a) (A : ArcsIn S k n L) (hL : 0 ≤ L) (hv : v < n) (hd : g v ≠ far) : -(T * L) ≤ g v ∧ g v ≤ T * L ∧ 0 ≤ a v ∧ a v ≤ T := by
  rcases h.each v hv with q | ⟨m, h1, h2, w⟩
  · exact absurd q.1 hd
  · have b := w.bound A.rev
    have : (m : Int) * L ≤ T * L := Int.mul_le_mul_of_nonneg_right (by omega) hL
    omega
theorem Fix2.best {g a : Nat → Int} (f : Fix2 S k g a) (h : Sound2 S k t n T g a) (A : ArcsIn S k n L) (hL : 0 ≤ L) (hb : (T : Int) * L + L < far) (ht : t < n) : Best S k t n g a := by
  have le : ∀ v c m, Way S.rev k t v c m → g v ≠ far ∧ (g v < c ∨ (g v = c ∧ a v ≤ m)) := fun v c m w => by
    induction w with
    | nil => have := h.here; exact ⟨by unfold far; omega, .inr ⟨this.1, by omega⟩⟩
    | @snoc c m i w hi ih =>
      have i1 : g (S.th i) ≠ far ∧ (g (S.th i) < c ∨ (g (S.th i) = c ∧ a (S.th i) ≤ m)) := ih
      have f1 := f i hi i1.1
      have s1 := (h.size A hL (A.th i hi) i1.1).2.1
      have s2 := A.hi i hi
      show g (S.fr i) ≠ far ∧ (g (S.fr i) < c + S.ln i ∨ (g (S.fr i) = c + S.ln i ∧ a (S.fr i) ≤ ((m + 1 : Nat) : Int)))
      refine ⟨by omega, ?_⟩
      omega
  refine ⟨fun v hv e c m w => (le v c m w).1 e, fun v hv e => ?_, fun v c m _ w => (le v c m w).2⟩
  rcases h.each v hv with q | ⟨m, _, h2, w⟩
  · exact absurd q.1 e
  · exact ⟨m, h2, w⟩

/-- so few arcs are reached along tight ones -/
structure SoundF (S : ArcsF) (k t n T : Nat) (D F : Nat → Int) : Prop where
  each : ∀ v, v < n → F v = far ∨ ∃ m : Nat, m ≤ T ∧ F v = (m : Int) ∧ Way S.rev k t v (D v) m
  here : F t ≤ 0
def FixF (S : ArcsF) (k : Nat) (D F : Nat → Int) : Prop := ∀ i, i < k → D (S.th i) ≠ far → D (S.fr i) = D (S.th i) + S.ln i → F (S.th i) ≠ far → F (S.fr i) ≤ F (S.th i) + 1
theorem SoundF.start (h0 : D t = 0) : SoundF S k t n 0 D (upd (fun _ => far) t 0) :=
  ⟨fun v _ => by
    by_cases e : v = t
    · subst e; rw [upd_same, h0]; exact .inr ⟨0, Nat.le_refl _, rfl, .nil⟩
    · rw [upd_ne e]; exact .inl rfl, by rw [upd_same]; exact Int.le_refl _⟩
theorem SoundF.step (h : SoundF S k t n T D F) (A : ArcsIn S k n L) {i : Nat} (hi : i < k) (ht : D (S.fr i) = D (S.th i) + S.ln i) (hf : F (S.th i) ≠ far) (hl : F (S.th i) + 1 < F (S.fr i)) : SoundF S k t n (T + 1) D (upd F (S.fr i) (F (S.th i) + 1)) := by
  refine ⟨fun v hv => ?_, ?_⟩
  · by_cases e : v = S.fr i
    · subst e
      rw [upd_same]
      rcases h.each _ (A.th i hi) with q | ⟨m, h1, h2, w⟩
      · exact absurd q hf
      · refine .inr ⟨m + 1, by omega, by omega, ?_⟩
        rw [ht]; exact Way.snoc (S := S.rev) w hi
    · rw [upd_ne e]
      rcases h.each v hv with q | ⟨m, h1, h2, w⟩
      · exact .inl q
      · exact .inr ⟨m, by omega, h2, w⟩
  · by_cases e : t = S.fr i
    · rw [e, upd_same]
      have := h.here
      rw [e] at this
      omega
    · rw [upd_ne e]; exact h.here
theorem FixF.best (f : FixF S k D F) (h : SoundF S k t n T D F) (hT : (T : Int) + 1 < far) (fD : Fix S.rev k D) {U : Nat} (hD : Sound S.rev k t n U D) (A : ArcsIn S k n L) (hL : 0 ≤ L) (hb : (U : Int) * L + L < far) (ht : t < n) (h0 : ∀ i, i < k → 0 ≤ S.ln i) : Best S k t n D F := by
  have le : ∀ v c m, Way S.rev k t v c m → D v = c → F v ≠ far ∧ F v ≤ m := fun v c m w => by
    induction w with
    | nil => intro _; have := h.here; exact ⟨by unfold far; omega, by omega⟩
    | @snoc c m i w hi ih =>
      intro e
      have e : D (S.fr i) = c + S.ln i := e
      have d1 : D (S.th i) ≠ far ∧ D (S.th i) ≤ c := fD.le hD A.rev hL hb ht w
      have d2 := fD i hi d1.1
      have d2 : D (S.fr i) ≤ D (S.th i) + S.ln i := d2
      have i1 : F (S.th i) ≠ far ∧ F (S.th i) ≤ m := ih (by show D (S.th i) = c; omega)
      have f1 := f i hi d1.1 (by omega) i1.1
      have s1 : F (S.th i) ≤ T := by
        rcases h.each _ (A.th i hi) with q | ⟨m, h1, h2, _⟩
        · exact absurd q i1.1
        · omega
      show F (S.fr i) ≠ far ∧ F (S.fr i) ≤ ((m + 1 : Nat) : Int)
      exact ⟨by omega, by omega⟩
  refine ⟨fun v hv e c m w => (fD.le hD A.rev hL hb ht w).1 e, fun v hv e => ?_, fun v c m hv w => ?_⟩
  · rcases hD.each v hv with q | ⟨m, _, w⟩
    · exact absurd q e
    · have h1 := le v _ _ w rfl
      rcases h.each v hv with q | ⟨m', _, h2, w'⟩
      · exact absurd q h1.1
      · exact ⟨m', h2, w'⟩
  · have h1 := (fD.le hD A.rev hL hb ht w).2
    rcases Int.lt_or_eq_of_le h1 with q | q
    · exact .inl q
    · exact .inr ⟨q, (le v c m w q).2⟩

/-- the arc that is gone along from a place -/
structure Pick (S : ArcsF) (k : Nat) (D F : Nat → Int) (v i : Nat) : Prop where
  lt : i < k
  fr : S.fr i = v
  fin : D (S.th i) ≠ far
  len : D v = D (S.th i) + S.ln i
  few : F v = F (S.th i) + 1
  least : ∀ j, j < i → ¬ (S.fr j = v ∧ D (S.th j) ≠ far ∧ D v = D (S.th j) + S.ln j ∧ F v = F (S.th j) + 1)
theorem Best.pick (h : Best S k t n D F) (A : ArcsIn S k n L) (hv : v < n) (hd : D v ≠ far) (ht : v ≠ t) : ∃ i, Pick S k D F v i := by
  obtain ⟨m, hm, w⟩ := h.way v hv hd
  have ex : ∃ i, i < k ∧ S.fr i = v ∧ D (S.th i) ≠ far ∧ D v = D (S.th i) + S.ln i ∧ F v = F (S.th i) + 1 := by
    have key : ∀ c, Way S.rev k t v c m → c = D v → ∃ i, i < k ∧ S.fr i = v ∧ D (S.th i) ≠ far ∧ D v = D (S.th i) + S.ln i ∧ F v = F (S.th i) + 1 := fun c w hc => by
      cases w with
      | nil => exact absurd rfl ht
      | @snoc c' m' i w1 hi =>
        have wt : Way S.rev k t (S.th i) c' m' := w1
        have hln : S.rev.ln i = S.ln i := rfl
        have hto : S.rev.th i = S.fr i := rfl
        rw [hln, hto] at hc
        rw [hto] at hm
        have l1 := h.least _ _ _ (A.th i hi) wt
        have d1 : D (S.th i) ≠ far := fun e => h.none_ _ (A.th i hi) e _ _ wt
        obtain ⟨m2, hm2, w2⟩ := h.way _ (A.th i hi) d1
        have w3 : Way S.rev k t (S.fr i) (D (S.th i) + S.ln i) (m2 + 1) := Way.snoc (S := S.rev) w2 hi
        have l2 := h.least _ _ _ (A.fr i hi) w3
        refine ⟨i, hi, rfl, d1, ?_, ?_⟩
        · show D (S.fr i) = _; omega
        · show F (S.fr i) = _; omega
    exact key _ w rfl
  obtain ⟨i0, hi0⟩ := ex
  have wf : ∀ b, ∀ i, i ≤ b → (i < k ∧ S.fr i = v ∧ D (S.th i) ≠ far ∧ D v = D (S.th i) + S.ln i ∧ F v = F (S.th i) + 1) → ∃ i, Pick S k D F v i := by
    intro b
    induction b with
    | zero => intro i hi h1; exact ⟨i, h1.1, h1.2.1, h1.2.2.1, h1.2.2.2.1, h1.2.2.2.2, fun j hj => by omega⟩
    | succ b ih =>
      intro i hi h1
      by_cases q : ∃ j, j < i ∧ (S.fr j = v ∧ D (S.th j) ≠ far ∧ D v = D (S.th j) + S.ln j ∧ F v = F (S.th j) + 1)
      · obtain ⟨j, hj, h2⟩ := q
        exact ih j (by omega) ⟨by omega, h2⟩
      · exact ⟨i, h1.1, h1.2.1, h1.2.2.1, h1.2.2.2.1, h1.2.2.2.2, fun j hj h2 => q ⟨j, hj, h2⟩⟩
  exact wf i0 i0 (Nat.le_refl _) hi0
theorem Pick.one {i i' : Nat} (h : Pick S k D F v i) (h' : Pick S k D' F' v i') (A : ArcsIn S k n L) (hv : v < n) (b : Best S k t n D F) (b' : Best S k t n D' F') : i = i' := by
  have e := b.one b'
  have nf : ∀ i, i < k → D (S.th i) ≠ far → D v = D (S.th i) + S.ln i → D v ≠ far := fun i hi h1 h2 h3 => by
    obtain ⟨m, _, w⟩ := b.way _ (A.th i hi) h1
    by_cases q : S.fr i = v
    · exact b.none_ v hv h3 _ _ (by rw [← q]; exact Way.snoc (S := S.rev) w hi)
    · obtain ⟨i, hi⟩ : ∃ i, Pick S k D F v i := ⟨_, h⟩
      obtain ⟨m, _, w⟩ := b.way _ (A.th i hi.lt) hi.fin
      exact b.none_ v hv h3 _ _ (by rw [← hi.fr]; exact Way.snoc (S := S.rev) w hi.lt)
  have dv : D v ≠ far := nf i h.lt h.fin h.len
  have ev := e v hv
  rcases Nat.lt_trichotomy i i' with q | q | q
  · refine absurd ⟨h.fr, ?_, ?_, ?_⟩ (h'.least i q)
    · rw [← (e _ (A.th i h.lt)).1]; exact h.fin
    · rw [← ev.1, ← (e _ (A.th i h.lt)).1]; exact h.len
    · rw [← ev.2 dv, ← (e _ (A.th i h.lt)).2 h.fin]; exact h.few
  · exact q
  · refine absurd ⟨h'.fr, ?_, ?_, ?_⟩ (h.least i' q)
    · rw [(e _ (A.th i' h'.lt)).1]; exact h'.fin
    · rw [ev.1, (e _ (A.th i' h'.lt)).1]; exact h'.len
    · rw [ev.2 dv, (e _ (A.th i' h'.lt)).2 (by rw [(e _ (A.th i' h'.lt)).1]; exact h'.fin)]; exact h'.few
end
end Go.Proofs.Ytchlccendggfpaa.Ro
