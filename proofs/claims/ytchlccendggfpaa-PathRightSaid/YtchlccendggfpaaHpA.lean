/- The plain laws of a heap of items (key, rank) in a row, with where each key stands: what moving an item up and down leaves. No program in sight. -/
namespace Go.Proofs.Ytchlccendggfpaa.Hp
set_option linter.unusedVariables false
set_option linter.unusedSimpArgs false

abbrev It := Int × Int
/-- an item is ahead of another one -/
def lessB (a b : It) : Bool := if a.2 = b.2 then decide (a.1 < b.1) else decide (a.2 < b.2)
def le (a b : It) : Prop := a.2 < b.2 ∨ (a.2 = b.2 ∧ a.1 ≤ b.1)

theorem lessB_true {a b : It} : lessB a b = true ↔ ¬ le b a := by
  unfold lessB le
  split <;> simp <;> omega
theorem lessB_false {a b : It} : lessB a b = false ↔ le b a := by
  unfold lessB le
  split <;> simp <;> omega
theorem le_refl (a : It) : le a a := by unfold le; omega
theorem le_trans {a b c : It} (h : le a b) (k : le b c) : le a c := by unfold le at *; omega
theorem le_total (a b : It) : le a b ∨ le b a := by unfold le; omega
theorem le_of_less {a b : It} (h : lessB a b = true) : le a b := by
  rcases le_total a b with h' | h'
  · exact h'
  · exact absurd h' (lessB_true.1 h)
theorem le_antisymm {a b : It} (h : le a b) (k : le b a) : a = b := by
  unfold le at *
  exact Prod.ext (by omega) (by omega)

def upd {α β : Type} [DecidableEq α] (g : α → β) (i : α) (x : β) : α → β := fun j => if j = i then x else g j
theorem upd_same {α β : Type} [DecidableEq α] (g : α → β) (i : α) (x : β) : upd g i x i = x := if_pos rfl
theorem upd_ne {α β : Type} [DecidableEq α] {g : α → β} {i j : α} {x : β} (h : j ≠ i) : upd g i x j = g j := if_neg h
theorem upd_self {α β : Type} [DecidableEq α] (g : α → β) (i : α) : upd g i (g i) = g := by
  funext j; unfold upd; split <;> simp_all

/-! ### the order -/
/-- each item is behind its parent -/
def Ord (n : Nat) (g : Nat → It) : Prop := ∀ c, 1 ≤ c → c < n → le (g ((c - 1) / 2)) (g c)

structure HoleUp (n : Nat) (g : Nat → It) (i : Nat) : Prop where
  lt : i < n
  away : ∀ c, 1 ≤ c → c < n → c ≠ i → (c - 1) / 2 ≠ i → le (g ((c - 1) / 2)) (g c)
  over : ∀ c, 1 ≤ c → c < n → (c - 1) / 2 = i → 1 ≤ i → le (g ((i - 1) / 2)) (g c)

structure DownIn (n : Nat) (g : Nat → It) (i : Nat) : Prop where
  lt : i < n
  away : ∀ c, 1 ≤ c → c < n → (c - 1) / 2 ≠ i → le (g ((c - 1) / 2)) (g c)
  over : ∀ c, 1 ≤ c → c < n → (c - 1) / 2 = i → 1 ≤ i → le (g ((i - 1) / 2)) (g c)

structure DownH (n : Nat) (g : Nat → It) (i : Nat) (x : It) : Prop where
  lt : i < n
  away : ∀ c, 1 ≤ c → c < n → (c - 1) / 2 ≠ i → c ≠ i → le (g ((c - 1) / 2)) (g c)
  top : 1 ≤ i → le (g ((i - 1) / 2)) x
  over : ∀ c, 1 ≤ c → c < n → (c - 1) / 2 = i → 1 ≤ i → le (g ((i - 1) / 2)) (g c)

theorem Ord.hole {n : Nat} {g : Nat → It} (h : Ord n g) {i : Nat} (hi : i < n) (x : It) : HoleUp n (upd g i x) i := by
  refine ⟨hi, fun c h1 h2 h3 h4 => ?_, fun c h1 h2 h3 h4 => ?_⟩
  · rw [upd_ne h3, upd_ne h4]; exact h c h1 h2
  · rw [upd_ne (by omega), upd_ne (by omega)]
    have a := h c h1 h2
    rw [h3] at a
    exact le_trans (h i h4 hi) a

theorem Ord.grow {n : Nat} {g : Nat → It} (h : Ord n g) (x : It) : HoleUp (n + 1) (upd g n x) n := by
  refine ⟨by omega, fun c h1 h2 h3 h4 => ?_, fun c h1 h2 h3 h4 => by omega⟩
  rw [upd_ne h3, upd_ne h4]; exact h c h1 (by omega)

theorem Ord.less {n m : Nat} {g : Nat → It} (h : Ord n g) (hm : m ≤ n) : Ord m g := fun c h1 h2 => h c h1 (by omega)

theorem HoleUp.step {n : Nat} {g : Nat → It} {i : Nat} (h : HoleUp n g i) (hi : 1 ≤ i) : HoleUp n (upd g i (g ((i - 1) / 2))) ((i - 1) / 2) := by
  have hl := h.lt
  refine ⟨by omega, fun c h1 h2 h3 h4 => ?_, fun c h1 h2 h3 h4 => ?_⟩
  · by_cases hc : c = i
    · subst hc; omega
    · rw [upd_ne hc]
      by_cases hp : (c - 1) / 2 = i
      · rw [hp, upd_same]; exact h.over c h1 h2 hp hi
      · rw [upd_ne hp]; exact h.away c h1 h2 hc hp
  · have hq : ((i - 1) / 2 - 1) / 2 ≠ i := by omega
    rw [upd_ne hq]
    have a := h.away ((i - 1) / 2) h4 (by omega) (by omega) hq
    by_cases hc : c = i
    · subst hc; rw [upd_same]; exact a
    · rw [upd_ne hc]
      have b := h.away c h1 h2 hc (by omega)
      rw [h3] at b
      exact le_trans a b

theorem HoleUp.done {n : Nat} {g : Nat → It} {i : Nat} {x : It} (h : HoleUp n g i) (hx : i = 0 ∨ le (g ((i - 1) / 2)) x) : DownIn n (upd g i x) i := by
  refine ⟨h.lt, fun c h1 h2 h3 => ?_, fun c h1 h2 h3 h4 => ?_⟩
  · rw [upd_ne h3]
    by_cases hc : c = i
    · subst hc; rw [upd_same]
      rcases hx with hx | hx
      · omega
      · exact hx
    · rw [upd_ne hc]; exact h.away c h1 h2 hc h3
  · rw [upd_ne (by omega), upd_ne (by omega)]; exact h.over c h1 h2 h3 h4

theorem DownIn.open {n : Nat} {g : Nat → It} {i : Nat} (h : DownIn n g i) : DownH n g i (g i) :=
  ⟨h.lt, fun c h1 h2 h3 _ => h.away c h1 h2 h3, fun hi => h.away i hi h.lt (by omega), h.over⟩

theorem DownH.step {n : Nat} {g : Nat → It} {i k : Nat} {x : It} (h : DownH n g i x) (hk : k < n) (k1 : 1 ≤ k) (kp : (k - 1) / 2 = i) (hx : le (g k) x) (hl : ∀ c, 1 ≤ c → c < n → (c - 1) / 2 = i → le (g k) (g c)) :
    DownH n (upd g i (g k)) k x := by
  refine ⟨hk, fun c h1 h2 h3 h4 => ?_, fun _ => ?_, fun c h1 h2 h3 _ => ?_⟩
  · by_cases hc : c = i
    · subst hc
      rw [upd_same, upd_ne (by omega)]
      exact h.over k k1 hk kp h1
    · rw [upd_ne hc]
      by_cases hp : (c - 1) / 2 = i
      · rw [hp, upd_same]; exact hl c h1 h2 hp
      · rw [upd_ne hp]; exact h.away c h1 h2 hp hc
  · rw [kp, upd_same]; exact hx
  · rw [kp, upd_same, upd_ne (by omega)]
    have a := h.away c h1 h2 (by omega) (by omega)
    rwa [h3] at a

theorem DownH.done {n : Nat} {g : Nat → It} {i : Nat} {x : It} (h : DownH n g i x) (hx : ∀ c, 1 ≤ c → c < n → (c - 1) / 2 = i → le x (g c)) : Ord n (upd g i x) := by
  intro c h1 h2
  by_cases hc : c = i
  · subst hc; rw [upd_same, upd_ne (by omega)]; exact h.top h1
  · rw [upd_ne hc]
    by_cases hp : (c - 1) / 2 = i
    · rw [hp, upd_same]; exact hx c h1 h2 hp
    · rw [upd_ne hp]; exact h.away c h1 h2 hp hc

/-- the first is the least -/
theorem Ord.first {n : Nat} {g : Nat → It} (h : Ord n g) : ∀ c, c < n → le (g 0) (g c) := by
  intro c
  induction c using Nat.strongRecOn with
  | _ c ih =>
    intro hc
    by_cases h0 : c = 0
    · subst h0; exact le_refl _
    · exact le_trans (ih ((c - 1) / 2) (by omega) (by omega)) (h c (by omega) hc)

/-! ### what is there: f tells a key's rank -/
structure Rep (n : Nat) (g : Nat → It) (f : Int → Option Int) : Prop where
  there : ∀ j, j < n → f (g j).1 = some (g j).2
  all : ∀ k r, f k = some r → ∃ j, j < n ∧ g j = (k, r)
  apart : ∀ i j, i < n → j < n → (g i).1 = (g j).1 → i = j

theorem Rep.move {n : Nat} {g : Nat → It} {f : Int → Option Int} {i p : Nat} {x : It} (h : Rep n (upd g i x) f) (hi : i < n) (hp : p < n) (hne : p ≠ i) : Rep n (upd (upd g i (g p)) p x) f := by
  have key : ∀ j, j < n → upd (upd g i (g p)) p x j = upd g i x (if j = p then i else if j = i then p else j) := by
    intro j hj
    unfold upd
    by_cases h1 : j = p
    · simp [h1]
    · by_cases h2 : j = i
      · simp [h2, hne, Ne.symm hne]
      · simp [h1, h2]
  have low : ∀ j, j < n → (if j = p then i else if j = i then p else j) < n := by intro j hj; split; exact hi; split; exact hp; exact hj
  refine ⟨fun j hj => ?_, fun k r hk => ?_, fun a b ha hb hab => ?_⟩
  · rw [key j hj]; exact h.there _ (low j hj)
  · obtain ⟨j, hj, e⟩ := h.all k r hk
    refine ⟨if j = p then i else if j = i then p else j, low j hj, ?_⟩
    rw [key _ (low j hj), ← e]
    congr 1
    by_cases h1 : j = p
    · simp [h1, Ne.symm hne]
    · by_cases h2 : j = i
      · simp [h2, Ne.symm hne]
      · simp [h1, h2]
  · rw [key a ha, key b hb] at hab
    have e := h.apart _ _ (low a ha) (low b hb) hab
    by_cases a1 : a = p <;> by_cases b1 : b = p <;> by_cases a2 : a = i <;> by_cases b2 : b = i <;> simp_all

theorem Rep.empty : Rep 0 (fun _ => (0, 0)) (fun _ => none) := ⟨fun j hj => by omega, fun k r h => by simp at h, fun i j hi => by omega⟩

theorem Rep.none_iff {n : Nat} {g : Nat → It} {f : Int → Option Int} (h : Rep n g f) (k : Int) : f k = none ↔ ∀ j, j < n → (g j).1 ≠ k := by
  constructor
  · intro hk j hj e
    have := h.there j hj
    rw [e, hk] at this; simp at this
  · intro hk
    cases hf : f k with
    | none => rfl
    | some r => obtain ⟨j, hj, e⟩ := h.all k r hf; exact absurd (by rw [e]) (hk j hj)

/-- a key's rank is laid anew -/
theorem Rep.anew {n : Nat} {g : Nat → It} {f : Int → Option Int} (h : Rep n g f) {i : Nat} (hi : i < n) (r : Int) : Rep n (upd g i ((g i).1, r)) (upd f (g i).1 (some r)) := by
  refine ⟨fun j hj => ?_, fun k s hk => ?_, fun a b ha hb hab => ?_⟩
  · by_cases e : j = i
    · subst e; rw [upd_same, upd_same]
    · rw [upd_ne e, upd_ne (fun hh => e (h.apart _ _ hj hi hh))]; exact h.there j hj
  · by_cases e : k = (g i).1
    · subst e; rw [upd_same] at hk; exact ⟨i, hi, by rw [upd_same]; simpa using hk⟩
    · rw [upd_ne e] at hk
      obtain ⟨j, hj, ej⟩ := h.all k s hk
      refine ⟨j, hj, ?_⟩
      rw [upd_ne (fun hh => e (by rw [← hh, ej])), ej]
  · have q : ∀ c, (upd g i ((g i).1, r) c).1 = (g c).1 := by intro c; unfold upd; split <;> simp_all
    rw [q, q] at hab; exact h.apart a b ha hb hab

/-- a new key -/
theorem Rep.grow {n : Nat} {g : Nat → It} {f : Int → Option Int} (h : Rep n g f) {k : Int} (hk : f k = none) (r : Int) : Rep (n + 1) (upd g n (k, r)) (upd f k (some r)) := by
  have hn := (h.none_iff k).1 hk
  refine ⟨fun j hj => ?_, fun q s hq => ?_, fun a b ha hb hab => ?_⟩
  · by_cases e : j = n
    · subst e; rw [upd_same, upd_same]
    · rw [upd_ne e, upd_ne (hn j (by omega))]; exact h.there j (by omega)
  · by_cases e : q = k
    · subst e; rw [upd_same] at hq; exact ⟨n, by omega, by rw [upd_same]; simpa using hq⟩
    · rw [upd_ne e] at hq
      obtain ⟨j, hj, ej⟩ := h.all q s hq
      exact ⟨j, by omega, by rw [upd_ne (by omega), ej]⟩
  · by_cases ea : a = n <;> by_cases eb : b = n
    · omega
    · subst ea; rw [upd_same, upd_ne eb] at hab; exact absurd hab.symm (hn b (by omega))
    · subst eb; rw [upd_same, upd_ne ea] at hab; exact absurd hab (hn a (by omega))
    · rw [upd_ne ea, upd_ne eb] at hab; exact h.apart a b (by omega) (by omega) hab

/-- an item is struck, the last one laid in its place -/
theorem Rep.drop {n : Nat} {g : Nat → It} {f : Int → Option Int} (h : Rep (n + 1) g f) {i : Nat} (hi : i < n + 1) : Rep n (upd g i (g n)) (upd f (g i).1 none) := by
  have key : ∀ j, j < n → upd g i (g n) j = g (if j = i then n else j) := by intro j hj; unfold upd; split <;> rfl
  have low : ∀ j, j < n → (if j = i then n else j) < n + 1 := by intro j hj; split <;> omega
  have nei : ∀ j, j < n → (if j = i then n else j) ≠ i := by intro j hj; split <;> omega
  refine ⟨fun j hj => ?_, fun k s hk => ?_, fun a b ha hb hab => ?_⟩
  · rw [key j hj, upd_ne (fun hh => nei j hj (h.apart _ _ (low j hj) hi hh))]; exact h.there _ (low j hj)
  · by_cases e : k = (g i).1
    · subst e; rw [upd_same] at hk; simp at hk
    · rw [upd_ne e] at hk
      obtain ⟨j, hj, ej⟩ := h.all k s hk
      have ji : j ≠ i := fun hh => e (by rw [← hh, ej])
      by_cases jn : j = n
      · subst jn; exact ⟨i, by omega, by rw [upd_same, ej]⟩
      · exact ⟨j, by omega, by rw [upd_ne ji, ej]⟩
  · rw [key a ha, key b hb] at hab
    have e := h.apart _ _ (low a ha) (low b hb) hab
    by_cases a1 : a = i <;> by_cases b1 : b = i <;> simp_all <;> omega

theorem Rep.zero {g g' : Nat → It} {f : Int → Option Int} (h : Rep 0 g f) : Rep 0 g' f :=
  ⟨fun j hj => by omega, fun k r hk => by obtain ⟨j, hj, _⟩ := h.all k r hk; omega, fun i j hi => by omega⟩

/-! ### where each key stands -/
structure Whr (m : Int → Option Int) (n : Nat) (g : Nat → It) : Prop where
  at_ : ∀ j, j < n → m (g j).1 = some (j : Int)
  only : ∀ k v, m k = some v → ∃ j, j < n ∧ (g j).1 = k

/-- .. but for the item that is under way -/
structure WhrH (m : Int → Option Int) (n : Nat) (g : Nat → It) (i : Nat) (x : It) : Prop where
  at_ : ∀ j, j < n → j ≠ i → m (g j).1 = some (j : Int)
  only : ∀ k v, m k = some v → k = x.1 ∨ ∃ j, j < n ∧ j ≠ i ∧ (g j).1 = k

/-- how many keys the map has -/
def cnt (m : Int → Option Int) (x : It) (n s : Nat) : Prop := s + (if (m x.1).isSome then 0 else 1) = n

theorem WhrH.step {m : Int → Option Int} {n : Nat} {g : Nat → It} {f : Int → Option Int} {i p : Nat} {x : It} (h : WhrH m n g i x) (r : Rep n (upd g i x) f) (hi : i < n) (hp : p < n) (hne : p ≠ i) :
    WhrH (upd m (g p).1 (some (i : Int))) n (upd g i (g p)) p x := by
  have ap : ∀ j, j < n → j ≠ i → j ≠ p → (g j).1 ≠ (g p).1 := by
    intro j hj ji jp e
    have := r.apart j p hj hp (by rw [upd_ne ji, upd_ne hne]; exact e)
    exact jp this
  refine ⟨fun j hj jp => ?_, fun k v hk => ?_⟩
  · by_cases ji : j = i
    · subst ji; rw [upd_same, upd_same]
    · rw [upd_ne ji, upd_ne (ap j hj ji jp)]; exact h.at_ j hj ji
  · by_cases e : k = (g p).1
    · exact .inr ⟨i, hi, Ne.symm hne, by rw [upd_same, e]⟩
    · rw [upd_ne e] at hk
      rcases h.only k v hk with h1 | ⟨j, hj, ji, ej⟩
      · exact .inl h1
      · exact .inr ⟨j, hj, fun hh => e (by rw [← ej, hh]), by rw [upd_ne ji]; exact ej⟩

theorem WhrH.has {m : Int → Option Int} {n : Nat} {g : Nat → It} {i p : Nat} {x : It} (h : WhrH m n g i x) (hp : p < n) (hne : p ≠ i) : (m (g p).1).isSome = true := by rw [h.at_ p hp hne]; rfl

theorem WhrH.cnt {m : Int → Option Int} {n s : Nat} {g : Nat → It} {f : Int → Option Int} {i p : Nat} {x : It} (h : WhrH m n g i x) (r : Rep n (upd g i x) f) (hi : i < n) (hp : p < n) (hne : p ≠ i) (hc : cnt m x n s) :
    Hp.cnt (upd m (g p).1 (some (i : Int))) x n s := by
  have ne : x.1 ≠ (g p).1 := by
    intro e
    have := r.apart i p hi hp (by rw [upd_same, upd_ne hne]; exact e)
    exact hne this.symm
  unfold Hp.cnt at *
  rw [upd_ne ne]; exact hc

theorem WhrH.done {m : Int → Option Int} {n : Nat} {g : Nat → It} {f : Int → Option Int} {i : Nat} {x : It} (h : WhrH m n g i x) (r : Rep n (upd g i x) f) (hi : i < n) : Whr (upd m x.1 (some (i : Int))) n (upd g i x) := by
  refine ⟨fun j hj => ?_, fun k v hk => ?_⟩
  · by_cases ji : j = i
    · subst ji; rw [upd_same, upd_same]
    · rw [upd_ne ji, upd_ne]
      · exact h.at_ j hj ji
      · intro e; exact ji (r.apart j i hj hi (by rw [upd_ne ji, upd_same]; exact e))
  · by_cases e : k = x.1
    · exact ⟨i, hi, by rw [upd_same, e]⟩
    · rw [upd_ne e] at hk
      rcases h.only k v hk with h1 | ⟨j, hj, ji, ej⟩
      · exact absurd h1 e
      · exact ⟨j, hj, by rw [upd_ne ji]; exact ej⟩

/-- what is in place may be taken for what is under way -/
theorem Whr.hole {m : Int → Option Int} {n : Nat} {g : Nat → It} (h : Whr m n g) {i : Nat} : WhrH m n g i (g i) := by
  refine ⟨fun j hj _ => h.at_ j hj, fun k v hk => ?_⟩
  obtain ⟨j, hj, ej⟩ := h.only k v hk
  by_cases ji : j = i
  · exact .inl (by rw [← ej, ji])
  · exact .inr ⟨j, hj, ji, ej⟩

theorem Whr.find {m : Int → Option Int} {n : Nat} {g : Nat → It} {f : Int → Option Int} (h : Whr m n g) (r : Rep n g f) (k : Int) :
    (m k = none ∧ f k = none) ∨ ∃ j, j < n ∧ m k = some (j : Int) ∧ (g j).1 = k ∧ f k = some (g j).2 := by
  cases hm : m k with
  | none =>
    refine .inl ⟨rfl, (r.none_iff k).2 fun j hj e => ?_⟩
    have := h.at_ j hj
    rw [e, hm] at this; simp at this
  | some v =>
    obtain ⟨j, hj, ej⟩ := h.only k v hm
    refine .inr ⟨j, hj, ?_, ej, by rw [← ej]; exact r.there j hj⟩
    rw [← hm, ← ej]; exact h.at_ j hj

/-- a rank laid anew: keys stand where they stood -/
theorem Whr.anew {m : Int → Option Int} {n : Nat} {g : Nat → It} (h : Whr m n g) {i : Nat} (hi : i < n) (r : Int) : WhrH m n (upd g i ((g i).1, r)) i ((g i).1, r) := by
  refine ⟨fun j hj ji => by rw [upd_ne ji]; exact h.at_ j hj, fun k v hk => ?_⟩
  obtain ⟨j, hj, ej⟩ := h.only k v hk
  by_cases ji : j = i
  · exact .inl (by rw [← ej, ji])
  · exact .inr ⟨j, hj, ji, by rw [upd_ne ji]; exact ej⟩

theorem Whr.grow {m : Int → Option Int} {n : Nat} {g : Nat → It} (h : Whr m n g) (k r : Int) : WhrH m (n + 1) (upd g n (k, r)) n (k, r) := by
  refine ⟨fun j hj ji => by rw [upd_ne ji]; exact h.at_ j (by omega), fun q v hq => ?_⟩
  obtain ⟨j, hj, ej⟩ := h.only q v hq
  exact .inr ⟨j, by omega, by omega, by rw [upd_ne (by omega)]; exact ej⟩

/-- an item that is not the last is struck -/
theorem Whr.drop {m : Int → Option Int} {n : Nat} {g : Nat → It} {f : Int → Option Int} (h : Whr m (n + 1) g) (r : Rep (n + 1) g f) {i : Nat} (hi : i < n) : WhrH (upd m (g i).1 none) n (upd g i (g n)) i (g n) := by
  refine ⟨fun j hj ji => ?_, fun k v hk => ?_⟩
  · rw [upd_ne ji, upd_ne (fun e => ji (r.apart j i (by omega) (by omega) e))]; exact h.at_ j (by omega)
  · by_cases e : k = (g i).1
    · subst e; rw [upd_same] at hk; simp at hk
    · rw [upd_ne e] at hk
      obtain ⟨j, hj, ej⟩ := h.only k v hk
      by_cases jn : j = n
      · exact .inl (by rw [← ej, jn])
      · have ji : j ≠ i := fun hh => e (by rw [← ej, hh])
        exact .inr ⟨j, by omega, ji, by rw [upd_ne ji]; exact ej⟩

/-- the last one is struck -/
theorem Whr.drop_last {m : Int → Option Int} {n : Nat} {g : Nat → It} {f : Int → Option Int} (h : Whr m (n + 1) g) (r : Rep (n + 1) g f) : Whr (upd m (g n).1 none) n g := by
  refine ⟨fun j hj => ?_, fun k v hk => ?_⟩
  · rw [upd_ne (fun e => by have := r.apart j n (by omega) (by omega) e; omega)]; exact h.at_ j (by omega)
  · by_cases e : k = (g n).1
    · subst e; rw [upd_same] at hk; simp at hk
    · rw [upd_ne e] at hk
      obtain ⟨j, hj, ej⟩ := h.only k v hk
      have : j ≠ n := fun hh => e (by rw [← ej, hh])
      exact ⟨j, by omega, ej⟩

theorem Rep.drop_last {n : Nat} {g : Nat → It} {f : Int → Option Int} (h : Rep (n + 1) g f) : Rep n g (upd f (g n).1 none) := by
  have a := h.drop (i := n) (by omega)
  rw [upd_self] at a
  exact a

/-! ### keys from 0 to 299: no more than 300 -/
def Dom (f : Int → Option Int) : Prop := ∀ k r, f k = some r → 0 ≤ k ∧ k < 300
theorem Dom.put {f : Int → Option Int} (h : Dom f) {k : Int} (hk : 0 ≤ k ∧ k < 300) (r : Int) : Dom (upd f k (some r)) := by
  intro q s hq
  by_cases e : q = k
  · subst e; exact hk
  · rw [upd_ne e] at hq; exact h q s hq
theorem Dom.drop {f : Int → Option Int} (h : Dom f) (k : Int) : Dom (upd f k none) := by
  intro q s hq
  by_cases e : q = k
  · subst e; rw [upd_same] at hq; simp at hq
  · rw [upd_ne e] at hq; exact h q s hq

theorem length_le_of_nodup {α : Type} [DecidableEq α] : ∀ (a b : List α), a.Nodup → (∀ x, x ∈ a → x ∈ b) → a.length ≤ b.length
  | [], b, _, _ => Nat.zero_le _
  | x :: a, b, hn, hs => by
    have hx : x ∈ b := hs x (by simp)
    have ih := length_le_of_nodup a (b.erase x) (List.nodup_cons.1 hn).2 (fun y hy => by
      have : y ≠ x := fun e => (List.nodup_cons.1 hn).1 (e ▸ hy)
      exact (List.mem_erase_of_ne this).2 (hs y (by simp [hy])))
    rw [List.length_erase_of_mem hx] at ih
    have := List.length_pos_of_mem hx
    simp; omega

theorem Rep.le {n : Nat} {g : Nat → It} {f : Int → Option Int} (h : Rep n g f) (hd : Dom f) : n ≤ 300 := by
  have a := length_le_of_nodup ((List.range n).map fun j => (g j).1.toNat) (List.range 300) (by
      rw [List.nodup_iff_pairwise_ne, List.pairwise_map]
      refine List.Pairwise.imp_of_mem ?_ (List.nodup_iff_pairwise_ne.1 (List.nodup_range (n := n)))
      intro a b ha hb hab e
      have ha' : a < n := by simpa using ha
      have hb' : b < n := by simpa using hb
      have d1 := hd _ _ (h.there a ha')
      have d2 := hd _ _ (h.there b hb')
      exact hab (h.apart a b ha' hb' (by omega))) (by
      intro x hx
      simp only [List.mem_map, List.mem_range] at hx ⊢
      obtain ⟨j, hj, rfl⟩ := hx
      have d1 := hd _ _ (h.there j hj)
      omega)
  simpa using a

/-! ### the least -/
def Least (f : Int → Option Int) (x : It) : Prop := f x.1 = some x.2 ∧ ∀ k r, f k = some r → le x (k, r)
theorem Least.one {f : Int → Option Int} {x y : It} (h : Least f x) (k : Least f y) : x = y := le_antisymm (h.2 _ _ k.1) (k.2 _ _ h.1)
theorem Rep.least {n : Nat} {g : Nat → It} {f : Int → Option Int} (h : Rep n g f) (o : Ord n g) (hn : 0 < n) : Least f (g 0) := by
  refine ⟨h.there 0 hn, fun k r hk => ?_⟩
  obtain ⟨j, hj, e⟩ := h.all k r hk
  rw [← e]; exact o.first j hj
theorem Rep.nil {g : Nat → It} {f : Int → Option Int} (h : Rep 0 g f) : f = fun _ => none := by
  funext k
  exact (h.none_iff k).2 fun j hj => by omega
theorem Rep.pos {n : Nat} {g : Nat → It} {f : Int → Option Int} (h : Rep n g f) {k r : Int} (hk : f k = some r) : 0 < n := by
  obtain ⟨j, hj, _⟩ := h.all k r hk; omega

end Go.Proofs.Ytchlccendggfpaa.Hp
