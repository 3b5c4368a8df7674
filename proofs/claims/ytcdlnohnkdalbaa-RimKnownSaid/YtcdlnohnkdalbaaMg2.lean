/- The plain laws of a heap of items (key, rank) in a row, with where each key stands: what moving an item up and down leaves. No program in sight. What a heap object is in memory: its struct, its row of items, its map; and how one's own blocks turn. Walks: what less and lay of the heap do. Walks: an item moved up, moved down. Walks: what a heap's calls do, said of what is there. Walks: put, least and new of a heap. Walks: a key dropped. Walks: the least one taken. -/
import Derived.Below
import Derived.Laws.OwnMore
import Derived.Deep.AppendLies
import Derived.Deep.Draws
import Derived.Maps.OwnSet
import Derived.Maps.AppendAt
import Derived.WalkSmall
import Derived.OwnWalk
import Derived.Test.YtcdlnohnkdalbaaProg
import Derived.WalkKit
import Derived.WalkSpells
import Derived.WalkLawsBesides
import Derived.RegionTactic
import Derived.BigRegion
import Derived.Outline
import Derived.Deep.QuietTactic
import Derived.BigQuiet
import Derived.StillTailTactics
import Derived.Deep.RegionHeld3
import Derived.Deep.DeepFit
import Derived.Lib.Hide
import Derived.KernelRfl
import Derived.IntWalk
import Derived.Deep.DeepCutAuto
import Derived.Deep.CutBlock
namespace Go.Proofs.Ytcdlnohnkdalbaa.Hp
set_option linter.unusedVariables false
set_option maxRecDepth 100000
set_option linter.unusedSimpArgs false

abbrev It := Int × Int
/-- an item is ahead of another one -/
def lessB (a b : It) : Bool := if a.2 = b.2 then decide (a.1 < b.1) else decide (a.2 < b.2)
def le (a b : It) : Prop := a.2 < b.2 ∨ (a.2 = b.2 ∧ a.1 ≤ b.1)

theorem lessB_true {a b : It} : lessB a b = true ↔ ¬ le b a := by
  unfold lessB le
  split <;> simp <;> omega
theorem lessB_false {a b : It} : lessB a b = false ↔ le b a := by
  unfold lessB le
  split <;> simp <;> omega
theorem le_refl (a : It) : le a a := by unfold le; omega
theorem le_trans {a b c : It} (h : le a b) (k : le b c) : le a c := by unfold le at *; omega
theorem le_total (a b : It) : le a b ∨ le b a := by unfold le; omega
theorem le_of_less {a b : It} (h : lessB a b = true) : le a b := by
  rcases le_total a b with h' | h'
  · exact h'
  · exact absurd h' (lessB_true.1 h)
theorem le_antisymm {a b : It} (h : le a b) (k : le b a) : a = b := by
  unfold le at *
  exact Prod.ext (by omega) (by omega)

def upd {α β : Type} [DecidableEq α] (g : α → β) (i : α) (x : β) : α → β := fun j => if j = i then x else g j
theorem upd_same {α β : Type} [DecidableEq α] (g : α → β) (i : α) (x : β) : upd g i x i = x := if_pos rfl
theorem upd_ne {α β : Type} [DecidableEq α] {g : α → β} {i j : α} {x : β} (h : j ≠ i) : upd g i x j = g j := if_neg h
theorem upd_self {α β : Type} [DecidableEq α] (g : α → β) (i : α) : upd g i (g i) = g := by
  funext j; unfold upd; split <;> simp_all

/-! ### the order -/
/-- each item is behind its parent -/
def Ord (n : Nat) (g : Nat → It) : Prop := ∀ c, 1 ≤ c → c < n → le (g ((c - 1) / 2)) (g c)

structure HoleUp (n : Nat) (g : Nat → It) (i : Nat) : Prop where
  lt : i < n
  away : ∀ c, 1 ≤ c → c < n → c ≠ i → (c - 1) / 2 ≠ i → le (g ((c - 1) / 2)) (g c)
  over : ∀ c, 1 ≤ c → c < n → (c - 1) / 2 = i → 1 ≤ i → le (g ((i - 1) / 2)) (g c)

structure DownIn (n : Nat) (g : Nat → It) (i : Nat) : Prop where
  lt : i < n
  away : ∀ c, 1 ≤ c → c < n → (c - 1) / 2 ≠ i → le (g ((c - 1) / 2)) (g c)
  over : ∀ c, 1 ≤ c → c < n → (c - 1) / 2 = i → 1 ≤ i → le (g ((i - 1) / 2)) (g c)

structure DownH (n : Nat) (g : Nat → It) (i : Nat) (x : It) : Prop where
  lt : i < n
  away : ∀ c, 1 ≤ c → c < n → (c - 1) / 2 ≠ i → c ≠ i → le (g ((c - 1) / 2)) (g c)
  top : 1 ≤ i → le (g ((i - 1) / 2)) x
  over : ∀ c, 1 ≤ c → c < n → (c - 1) / 2 = i → 1 ≤ i → le (g ((i - 1) / 2)) (g c)

theorem Ord.hole {n : Nat} {g : Nat → It} (h : Ord n g) {i : Nat} (hi : i < n) (x : It) : HoleUp n (upd g i x) i := by
  refine ⟨hi, fun c h1 h2 h3 h4 => ?_, fun c h1 h2 h3 h4 => ?_⟩
  · rw [upd_ne h3, upd_ne h4]; exact h c h1 h2
  · rw [upd_ne (by omega), upd_ne (by omega)]
    have a := h c h1 h2
    rw [h3] at a
    exact le_trans (h i h4 hi) a

theorem Ord.grow {n : Nat} {g : Nat → It} (h : Ord n g) (x : It) : HoleUp (n + 1) (upd g n x) n := by
  refine ⟨by omega, fun c h1 h2 h3 h4 => ?_, fun c h1 h2 h3 h4 => by omega⟩
  rw [upd_ne h3, upd_ne h4]; exact h c h1 (by omega)

theorem Ord.less {n m : Nat} {g : Nat → It} (h : Ord n g) (hm : m ≤ n) : Ord m g := fun c h1 h2 => h c h1 (by omega)

theorem HoleUp.step {n : Nat} {g : Nat → It} {i : Nat} (h : HoleUp n g i) (hi : 1 ≤ i) : HoleUp n (upd g i (g ((i - 1) / 2))) ((i - 1) / 2) := by
  have hl := h.lt
  refine ⟨by omega, fun c h1 h2 h3 h4 => ?_, fun c h1 h2 h3 h4 => ?_⟩
  · by_cases hc : c = i
    · subst hc; omega
    · rw [upd_ne hc]
      by_cases hp : (c - 1) / 2 = i
      · rw [hp, upd_same]; exact h.over c h1 h2 hp hi
      · rw [upd_ne hp]; exact h.away c h1 h2 hc hp
  · have hq : ((i - 1) / 2 - 1) / 2 ≠ i := by omega
    rw [upd_ne hq]
    have a := h.away ((i - 1) / 2) h4 (by omega) (by omega) hq
    by_cases hc : c = i
    · subst hc; rw [upd_same]; exact a
    · rw [upd_ne hc]
      have b := h.away c h1 h2 hc (by omega)
      rw [h3] at b
      exact le_trans a b

theorem HoleUp.done {n : Nat} {g : Nat → It} {i : Nat} {x : It} (h : HoleUp n g i) (hx : i = 0 ∨ le (g ((i - 1) / 2)) x) : DownIn n (upd g i x) i := by
  refine ⟨h.lt, fun c h1 h2 h3 => ?_, fun c h1 h2 h3 h4 => ?_⟩
  · rw [upd_ne h3]
    by_cases hc : c = i
    · subst hc; rw [upd_same]
      rcases hx with hx | hx
      · omega
      · exact hx
    · rw [upd_ne hc]; exact h.away c h1 h2 hc h3
  · rw [upd_ne (by omega), upd_ne (by omega)]; exact h.over c h1 h2 h3 h4

theorem DownIn.open {n : Nat} {g : Nat → It} {i : Nat} (h : DownIn n g i) : DownH n g i (g i) :=
  ⟨h.lt, fun c h1 h2 h3 _ => h.away c h1 h2 h3, fun hi => h.away i hi h.lt (by omega), h.over⟩

theorem DownH.step {n : Nat} {g : Nat → It} {i k : Nat} {x : It} (h : DownH n g i x) (hk : k < n) (k1 : 1 ≤ k) (kp : (k - 1) / 2 = i) (hx : le (g k) x) (hl : ∀ c, 1 ≤ c → c < n → (c - 1) / 2 = i → le (g k) (g c)) :
    DownH n (upd g i (g k)) k x := by
  refine ⟨hk, fun c h1 h2 h3 h4 => ?_, fun _ => ?_, fun c h1 h2 h3 _ => ?_⟩
  · by_cases hc : c = i
    · subst hc
      rw [upd_same, upd_ne (by omega)]
      exact h.over k k1 hk kp h1
    · rw [upd_ne hc]
      by_cases hp : (c - 1) / 2 = i
      · rw [hp, upd_same]; exact hl c h1 h2 hp
      · rw [upd_ne hp]; exact h.away c h1 h2 hp hc
  · rw [kp, upd_same]; exact hx
  · rw [kp, upd_same, upd_ne (by omega)]
    have a := h.away c h1 h2 (by omega) (by omega)
    rwa [h3] at a

theorem DownH.done {n : Nat} {g : Nat → It} {i : Nat} {x : It} (h : DownH n g i x) (hx : ∀ c, 1 ≤ c → c < n → (c - 1) / 2 = i → le x (g c)) : Ord n (upd g i x) := by
  intro c h1 h2
  by_cases hc : c = i
  · subst hc; rw [upd_same, upd_ne (by omega)]; exact h.top h1
  · rw [upd_ne hc]
    by_cases hp : (c - 1) / 2 = i
    · rw [hp, upd_same]; exact hx c h1 h2 hp
    · rw [upd_ne hp]; exact h.away c h1 h2 hp hc

/-- the first is the least -/
theorem Ord.first {n : Nat} {g : Nat → It} (h : Ord n g) : ∀ c, c < n → le (g 0) (g c) := by
  intro c
  induction c using Nat.strongRecOn with
  | _ c ih =>
    intro hc
    by_cases h0 : c = 0
    · subst h0; exact le_refl _
    · exact le_trans (ih ((c - 1) / 2) (by omega) (by omega)) (h c (by omega) hc)

/-! ### what is there: f tells a key's rank -/
structure Rep (n : Nat) (g : Nat → It) (f : Int → Option Int) : Prop where
  there : ∀ j, j < n → f (g j).1 = some (g j).2
  all : ∀ k r, f k = some r → ∃ j, j < n ∧ g j = (k, r)
  apart : ∀ i j, i < n → j < n → (g i).1 = (g j).1 → i = j

theorem Rep.move {n : Nat} {g : Nat → It} {f : Int → Option Int} {i p : Nat} {x : It} (h : Rep n (upd g i x) f) (hi : i < n) (hp : p < n) (hne : p ≠ i) : Rep n (upd (upd g i (g p)) p x) f := by
  have key : ∀ j, j < n → upd (upd g i (g p)) p x j = upd g i x (if j = p then i else if j = i then p else j) := by
    intro j hj
    unfold upd
    by_cases h1 : j = p
    · simp [h1]
    · by_cases h2 : j = i
      · simp [h2, hne, Ne.symm hne]
      · simp [h1, h2]
  have low : ∀ j, j < n → (if j = p then i else if j = i then p else j) < n := by intro j hj; split; exact hi; split; exact hp; exact hj
  refine ⟨fun j hj => ?_, fun k r hk => ?_, fun a b ha hb hab => ?_⟩
  · rw [key j hj]; exact h.there _ (low j hj)
  · obtain ⟨j, hj, e⟩ := h.all k r hk
    refine ⟨if j = p then i else if j = i then p else j, low j hj, ?_⟩
    rw [key _ (low j hj), ← e]
    congr 1
    by_cases h1 : j = p
    · simp [h1, Ne.symm hne]
    · by_cases h2 : j = i
      · simp [h2, Ne.symm hne]
      · simp [h1, h2]
  · rw [key a ha, key b hb] at hab
    have e := h.apart _ _ (low a ha) (low b hb) hab
    by_cases a1 : a = p <;> by_cases b1 : b = p <;> by_cases a2 : a = i <;> by_cases b2 : b = i <;> simp_all

theorem Rep.empty : Rep 0 (fun _ => (0, 0)) (fun _ => none) := ⟨fun j hj => by omega, fun k r h => by simp at h, fun i j hi => by omega⟩

theorem Rep.none_iff {n : Nat} {g : Nat → It} {f : Int → Option Int} (h : Rep n g f) (k : Int) : f k = none ↔ ∀ j, j < n → (g j).1 ≠ k := by
  constructor
  · intro hk j hj e
    have := h.there j hj
    rw [e, hk] at this; simp at this
  · intro hk
    cases hf : f k with
    | none => rfl
    | some r => obtain ⟨j, hj, e⟩ := h.all k r hf; exact absurd (by rw [e]) (hk j hj)

/-- a key's rank is laid anew -/
theorem Rep.anew {n : Nat} {g : Nat → It} {f : Int → Option Int} (h : Rep n g f) {i : Nat} (hi : i < n) (r : Int) : Rep n (upd g i ((g i).1, r)) (upd f (g i).1 (some r)) := by
  refine ⟨fun j hj => ?_, fun k s hk => ?_, fun a b ha hb hab => ?_⟩
  · by_cases e : j = i
    · subst e; rw [upd_same, upd_same]
    · rw [upd_ne e, upd_ne (fun hh => e (h.apart _ _ hj hi hh))]; exact h.there j hj
  · by_cases e : k = (g i).1
    · subst e; rw [upd_same] at hk; exact ⟨i, hi, by rw [upd_same]; simpa using hk⟩
    · rw [upd_ne e] at hk
      obtain ⟨j, hj, ej⟩ := h.all k s hk
      refine ⟨j, hj, ?_⟩
      rw [upd_ne (fun hh => e (by rw [← hh, ej])), ej]
  · have q : ∀ c, (upd g i ((g i).1, r) c).1 = (g c).1 := by intro c; unfold upd; split <;> simp_all
    rw [q, q] at hab; exact h.apart a b ha hb hab

/-- a new key -/
theorem Rep.grow {n : Nat} {g : Nat → It} {f : Int → Option Int} (h : Rep n g f) {k : Int} (hk : f k = none) (r : Int) : Rep (n + 1) (upd g n (k, r)) (upd f k (some r)) := by
  have hn := (h.none_iff k).1 hk
  refine ⟨fun j hj => ?_, fun q s hq => ?_, fun a b ha hb hab => ?_⟩
  · by_cases e : j = n
    · subst e; rw [upd_same, upd_same]
    · rw [upd_ne e, upd_ne (hn j (by omega))]; exact h.there j (by omega)
  · by_cases e : q = k
    · subst e; rw [upd_same] at hq; exact ⟨n, by omega, by rw [upd_same]; simpa using hq⟩
    · rw [upd_ne e] at hq
      obtain ⟨j, hj, ej⟩ := h.all q s hq
      exact ⟨j, by omega, by rw [upd_ne (by omega), ej]⟩
  · by_cases ea : a = n <;> by_cases eb : b = n
    · omega
    · subst ea; rw [upd_same, upd_ne eb] at hab; exact absurd hab.symm (hn b (by omega))
    · subst eb; rw [upd_same, upd_ne ea] at hab; exact absurd hab (hn a (by omega))
    · rw [upd_ne ea, upd_ne eb] at hab; exact h.apart a b (by omega) (by omega) hab

/-- an item is struck, the last one laid in its place -/
theorem Rep.drop {n : Nat} {g : Nat → It} {f : Int → Option Int} (h : Rep (n + 1) g f) {i : Nat} (hi : i < n + 1) : Rep n (upd g i (g n)) (upd f (g i).1 none) := by
  have key : ∀ j, j < n → upd g i (g n) j = g (if j = i then n else j) := by intro j hj; unfold upd; split <;> rfl
  have low : ∀ j, j < n → (if j = i then n else j) < n + 1 := by intro j hj; split <;> omega
  have nei : ∀ j, j < n → (if j = i then n else j) ≠ i := by intro j hj; split <;> omega
  refine ⟨fun j hj => ?_, fun k s hk => ?_, fun a b ha hb hab => ?_⟩
  · rw [key j hj, upd_ne (fun hh => nei j hj (h.apart _ _ (low j hj) hi hh))]; exact h.there _ (low j hj)
  · by_cases e : k = (g i).1
    · subst e; rw [upd_same] at hk; simp at hk
    · rw [upd_ne e] at hk
      obtain ⟨j, hj, ej⟩ := h.all k s hk
      have ji : j ≠ i := fun hh => e (by rw [← hh, ej])
      by_cases jn : j = n
      · subst jn; exact ⟨i, by omega, by rw [upd_same, ej]⟩
      · exact ⟨j, by omega, by rw [upd_ne ji, ej]⟩
  · rw [key a ha, key b hb] at hab
    have e := h.apart _ _ (low a ha) (low b hb) hab
    by_cases a1 : a = i <;> by_cases b1 : b = i <;> simp_all <;> omega

theorem Rep.zero {g g' : Nat → It} {f : Int → Option Int} (h : Rep 0 g f) : Rep 0 g' f :=
  ⟨fun j hj => by omega, fun k r hk => by obtain ⟨j, hj, _⟩ := h.all k r hk; omega, fun i j hi => by omega⟩

/-! ### where each key stands -/
structure Whr (m : Int → Option Int) (n : Nat) (g : Nat → It) : Prop where
  at_ : ∀ j, j < n → m (g j).1 = some (j : Int)
  only : ∀ k v, m k = some v → ∃ j, j < n ∧ (g j).1 = k

/-- .. but for the item that is under way -/
structure WhrH (m : Int → Option Int) (n : Nat) (g : Nat → It) (i : Nat) (x : It) : Prop where
  at_ : ∀ j, j < n → j ≠ i → m (g j).1 = some (j : Int)
  only : ∀ k v, m k = some v → k = x.1 ∨ ∃ j, j < n ∧ j ≠ i ∧ (g j).1 = k

/-- how many keys the map has -/
def cnt (m : Int → Option Int) (x : It) (n s : Nat) : Prop := s + (if (m x.1).isSome then 0 else 1) = n

theorem WhrH.step {m : Int → Option Int} {n : Nat} {g : Nat → It} {f : Int → Option Int} {i p : Nat} {x : It} (h : WhrH m n g i x) (r : Rep n (upd g i x) f) (hi : i < n) (hp : p < n) (hne : p ≠ i) :
    WhrH (upd m (g p).1 (some (i : Int))) n (upd g i (g p)) p x := by
  have ap : ∀ j, j < n → j ≠ i → j ≠ p → (g j).1 ≠ (g p).1 := by
    intro j hj ji jp e
    have := r.apart j p hj hp (by rw [upd_ne ji, upd_ne hne]; exact e)
    exact jp this
  refine ⟨fun j hj jp => ?_, fun k v hk => ?_⟩
  · by_cases ji : j = i
    · subst ji; rw [upd_same, upd_same]
    · rw [upd_ne ji, upd_ne (ap j hj ji jp)]; exact h.at_ j hj ji
  · by_cases e : k = (g p).1
    · exact .inr ⟨i, hi, Ne.symm hne, by rw [upd_same, e]⟩
    · rw [upd_ne e] at hk
      rcases h.only k v hk with h1 | ⟨j, hj, ji, ej⟩
      · exact .inl h1
      · exact .inr ⟨j, hj, fun hh => e (by rw [← ej, hh]), by rw [upd_ne ji]; exact ej⟩

theorem WhrH.has {m : Int → Option Int} {n : Nat} {g : Nat → It} {i p : Nat} {x : It} (h : WhrH m n g i x) (hp : p < n) (hne : p ≠ i) : (m (g p).1).isSome = true := by rw [h.at_ p hp hne]; rfl

theorem WhrH.cnt {m : Int → Option Int} {n s : Nat} {g : Nat → It} {f : Int → Option Int} {i p : Nat} {x : It} (h : WhrH m n g i x) (r : Rep n (upd g i x) f) (hi : i < n) (hp : p < n) (hne : p ≠ i) (hc : cnt m x n s) :
    Hp.cnt (upd m (g p).1 (some (i : Int))) x n s := by
  have ne : x.1 ≠ (g p).1 := by
    intro e
    have := r.apart i p hi hp (by rw [upd_same, upd_ne hne]; exact e)
    exact hne this.symm
  unfold Hp.cnt at *
  rw [upd_ne ne]; exact hc

theorem WhrH.done {m : Int → Option Int} {n : Nat} {g : Nat → It} {f : Int → Option Int} {i : Nat} {x : It} (h : WhrH m n g i x) (r : Rep n (upd g i x) f) (hi : i < n) : Whr (upd m x.1 (some (i : Int))) n (upd g i x) := by
  refine ⟨fun j hj => ?_, fun k v hk => ?_⟩
  · by_cases ji : j = i
    · subst ji; rw [upd_same, upd_same]
    · rw [upd_ne ji, upd_ne]
      · exact h.at_ j hj ji
      · intro e; exact ji (r.apart j i hj hi (by rw [upd_ne ji, upd_same]; exact e))
  · by_cases e : k = x.1
    · exact ⟨i, hi, by rw [upd_same, e]⟩
    · rw [upd_ne e] at hk
      rcases h.only k v hk with h1 | ⟨j, hj, ji, ej⟩
      · exact absurd h1 e
      · exact ⟨j, hj, by rw [upd_ne ji]; exact ej⟩

/-- what is in place may be taken for what is under way -/
theorem Whr.hole {m : Int → Option Int} {n : Nat} {g : Nat → It} (h : Whr m n g) {i : Nat} : WhrH m n g i (g i) := by
  refine ⟨fun j hj _ => h.at_ j hj, fun k v hk => ?_⟩
  obtain ⟨j, hj, ej⟩ := h.only k v hk
  by_cases ji : j = i
  · exact .inl (by rw [← ej, ji])
  · exact .inr ⟨j, hj, ji, ej⟩

theorem Whr.find {m : Int → Option Int} {n : Nat} {g : Nat → It} {f : Int → Option Int} (h : Whr m n g) (r : Rep n g f) (k : Int) :
    (m k = none ∧ f k = none) ∨ ∃ j, j < n ∧ m k = some (j : Int) ∧ (g j).1 = k ∧ f k = some (g j).2 := by
  cases hm : m k with
  | none =>
    refine .inl ⟨rfl, (r.none_iff k).2 fun j hj e => ?_⟩
    have := h.at_ j hj
    rw [e, hm] at this; simp at this
  | some v =>
    obtain ⟨j, hj, ej⟩ := h.only k v hm
    refine .inr ⟨j, hj, ?_, ej, by rw [← ej]; exact r.there j hj⟩
    rw [← hm, ← ej]; exact h.at_ j hj

/-- a rank laid anew: keys stand where they stood -/
theorem Whr.anew {m : Int → Option Int} {n : Nat} {g : Nat → It} (h : Whr m n g) {i : Nat} (hi : i < n) (r : Int) : WhrH m n (upd g i ((g i).1, r)) i ((g i).1, r) := by
  refine ⟨fun j hj ji => by rw [upd_ne ji]; exact h.at_ j hj, fun k v hk => ?_⟩
  obtain ⟨j, hj, ej⟩ := h.only k v hk
  by_cases ji : j = i
  · exact .inl (by rw [← ej, ji])
  · exact .inr ⟨j, hj, ji, by rw [upd_ne ji]; exact ej⟩

theorem Whr.grow {m : Int → Option Int} {n : Nat} {g : Nat → It} (h : Whr m n g) (k r : Int) : WhrH m (n + 1) (upd g n (k, r)) n (k, r) := by
  refine ⟨fun j hj ji => by rw [upd_ne ji]; exact h.at_ j (by omega), fun q v hq => ?_⟩
  obtain ⟨j, hj, ej⟩ := h.only q v hq
  exact .inr ⟨j, by omega, by omega, by rw [upd_ne (by omega)]; exact ej⟩

/-- an item that is not the last is struck -/
theorem Whr.drop {m : Int → Option Int} {n : Nat} {g : Nat → It} {f : Int → Option Int} (h : Whr m (n + 1) g) (r : Rep (n + 1) g f) {i : Nat} (hi : i < n) : WhrH (upd m (g i).1 none) n (upd g i (g n)) i (g n) := by
  refine ⟨fun j hj ji => ?_, fun k v hk => ?_⟩
  · rw [upd_ne ji, upd_ne (fun e => ji (r.apart j i (by omega) (by omega) e))]; exact h.at_ j (by omega)
  · by_cases e : k = (g i).1
    · subst e; rw [upd_same] at hk; simp at hk
    · rw [upd_ne e] at hk
      obtain ⟨j, hj, ej⟩ := h.only k v hk
      by_cases jn : j = n
      · exact .inl (by rw [← ej, jn])
      · have ji : j ≠ i := fun hh => e (by rw [← ej, hh])
        exact .inr ⟨j, by omega, ji, by rw [upd_ne ji]; exact ej⟩

/-- the last one is struck -/
theorem Whr.drop_last {m : Int → Option Int} {n : Nat} {g : Nat → It} {f : Int → Option Int} (h : Whr m (n + 1) g) (r : Rep (n + 1) g f) : Whr (upd m (g n).1 none) n g := by
  refine ⟨fun j hj => ?_, fun k v hk => ?_⟩
  · rw [upd_ne (fun e => by have := r.apart j n (by omega) (by omega) e; omega)]; exact h.at_ j (by omega)
  · by_cases e : k = (g n).1
    · subst e; rw [upd_same] at hk; simp at hk
    · rw [upd_ne e] at hk
      obtain ⟨j, hj, ej⟩ := h.only k v hk
      have : j ≠ n := fun hh => e (by rw [← ej, hh])
      exact ⟨j, by omega, ej⟩

theorem Rep.drop_last {n : Nat} {g : Nat → It} {f : Int → Option Int} (h : Rep (n + 1) g f) : Rep n g (upd f (g n).1 none) := by
  have a := h.drop (i := n) (by omega)
  rw [upd_self] at a
  exact a

/-! ### keys from 0 to 299: no more than 300 -/
def Dom (f : Int → Option Int) : Prop := ∀ k r, f k = some r → 0 ≤ k ∧ k < 300
theorem Dom.put {f : Int → Option Int} (h : Dom f) {k : Int} (hk : 0 ≤ k ∧ k < 300) (r : Int) : Dom (upd f k (some r)) := by
  intro q s hq
  by_cases e : q = k
  · subst e; exact hk
  · rw [upd_ne e] at hq; exact h q s hq
theorem Dom.drop {f : Int → Option Int} (h : Dom f) (k : Int) : Dom (upd f k none) := by
  intro q s hq
  by_cases e : q = k
  · subst e; rw [upd_same] at hq; simp at hq
  · rw [upd_ne e] at hq; exact h q s hq

theorem length_le_of_nodup {α : Type} [DecidableEq α] : ∀ (a b : List α), a.Nodup → (∀ x, x ∈ a → x ∈ b) → a.length ≤ b.length
  | [], b, _, _ => Nat.zero_le _
  | x :: a, b, hn, hs => by
    have hx : x ∈ b := hs x (by simp)
    have ih := length_le_of_nodup a (b.erase x) (List.nodup_cons.1 hn).2 (fun y hy => by
      have : y ≠ x := fun e => (List.nodup_cons.1 hn).1 (e ▸ hy)
      exact (List.mem_erase_of_ne this).2 (hs y (by simp [hy])))
    rw [List.length_erase_of_mem hx] at ih
    have := List.length_pos_of_mem hx
    simp; omega

theorem Rep.le {n : Nat} {g : Nat → It} {f : Int → Option Int} (h : Rep n g f) (hd : Dom f) : n ≤ 300 := by
  have a := length_le_of_nodup ((List.range n).map fun j => (g j).1.toNat) (List.range 300) (by
      rw [List.nodup_iff_pairwise_ne, List.pairwise_map]
      refine List.Pairwise.imp_of_mem ?_ (List.nodup_iff_pairwise_ne.1 (List.nodup_range (n := n)))
      intro a b ha hb hab e
      have ha' : a < n := by simpa using ha
      have hb' : b < n := by simpa using hb
      have d1 := hd _ _ (h.there a ha')
      have d2 := hd _ _ (h.there b hb')
      exact hab (h.apart a b ha' hb' (by omega))) (by
      intro x hx
      simp only [List.mem_map, List.mem_range] at hx ⊢
      obtain ⟨j, hj, rfl⟩ := hx
      have d1 := hd _ _ (h.there j hj)
      omega)
  simpa using a

/-! ### the least -/
def Least (f : Int → Option Int) (x : It) : Prop := f x.1 = some x.2 ∧ ∀ k r, f k = some r → le x (k, r)
theorem Least.one {f : Int → Option Int} {x y : It} (h : Least f x) (k : Least f y) : x = y := le_antisymm (h.2 _ _ k.1) (k.2 _ _ h.1)
theorem Rep.least {n : Nat} {g : Nat → It} {f : Int → Option Int} (h : Rep n g f) (o : Ord n g) (hn : 0 < n) : Least f (g 0) := by
  refine ⟨h.there 0 hn, fun k r hk => ?_⟩
  obtain ⟨j, hj, e⟩ := h.all k r hk
  rw [← e]; exact o.first j hj
theorem Rep.nil {g : Nat → It} {f : Int → Option Int} (h : Rep 0 g f) : f = fun _ => none := by
  funext k
  exact (h.none_iff k).2 fun j hj => by omega
theorem Rep.pos {n : Nat} {g : Nat → It} {f : Int → Option Int} (h : Rep n g f) {k r : Int} (hk : f k = some r) : 0 < n := by
  obtain ⟨j, hj, _⟩ := h.all k r hk; omega

end Go.Proofs.Ytcdlnohnkdalbaa.Hp
namespace Go.Proofs.Ytcdlnohnkdalbaa.Hp
open Go.RowKit Go.Maps
set_option linter.unusedVariables false
set_option maxRecDepth 100000
set_option linter.unusedSimpArgs false

/-- of what was there only blocks of F may have turned -/
structure Turn (F : Nat → Prop) (w w' : World) : Prop where
  os : w'.os = w.os
  tape : w'.tape = w.tape
  output : w'.output = w.output
  size : w.heap.size ≤ w'.heap.size
  block : ∀ k, k < w.heap.size → ¬ F k → w'.heap[k]? = w.heap[k]?

section
variable {F F' : Nat → Prop} {a b c w w' : World}
theorem Turn.refl (F : Nat → Prop) (w : World) : Turn F w w := ⟨rfl, rfl, rfl, Nat.le_refl _, fun _ _ _ => rfl⟩
theorem Turn.trans (h : Turn F a b) (k : Turn F' b c) (hf : ∀ x, x < a.heap.size → F' x → F x) : Turn F a c :=
  ⟨k.os.trans h.os, k.tape.trans h.tape, k.output.trans h.output, Nat.le_trans h.size k.size, fun i hi hn => (k.block i (Nat.lt_of_lt_of_le hi h.size) fun q => hn (hf i hi q)).trans (h.block i hi hn)⟩
theorem Turn.mono (h : Turn F a b) (hf : ∀ x, F x → F' x) : Turn F' a b := ⟨h.os, h.tape, h.output, h.size, fun i hi hn => h.block i hi fun q => hn (hf i q)⟩
theorem Turn.drew (h : Turn F a w) : Turn F a w.drew := ⟨h.os, h.tape, h.output, h.size, h.block⟩
theorem Turn.drewN (h : Turn F a w) (n : Nat) : Turn F a (w.drewN n) := ⟨h.os, h.tape, h.output, h.size, h.block⟩
theorem Turn.alloc (h : Turn F a w) (o : Obj) : Turn F a (w.alloc o) :=
  ⟨h.os, h.tape, h.output, Nat.le_trans h.size (by simp), fun i hi hn => (Below.heap_alloc w o i (Nat.lt_of_lt_of_le hi h.size)).trans (h.block i hi hn)⟩
theorem Turn.setCell (h : Turn F a w) {p : Addr} (hp : F p.block ∨ a.heap.size ≤ p.block) (u : Value) : Turn F a (w.setCell p u) :=
  ⟨h.os, h.tape, h.output, by simpa [World.setCell] using h.size, fun i hi hn => (Below.heap_setCell w p u i (by
    rintro rfl
    rcases hp with hp | hp
    · exact hn hp
    · omega)).trans (h.block i hi hn)⟩
theorem Turn.grown (h : Turn F a w) {row : Option Nat} (hg : w.grownBy w' row) (hr : ∀ k, row = some k → F k ∨ a.heap.size ≤ k) : Turn F a w' :=
  ⟨hg.os.trans h.os, hg.tape.trans h.tape, hg.output.trans h.output, Nat.le_trans h.size hg.size, fun i hi hn => (hg.block i (Nat.lt_of_lt_of_le hi h.size) (by
    intro e
    rcases hr i e.symm with q | q
    · exact hn q
    · omega)).trans (h.block i hi hn)⟩
theorem Turn.map (h : Turn F a w) {m : Nat} (hm : w.mapTurned w' m) (hr : F m ∨ a.heap.size ≤ m) : Turn F a w' :=
  h.grown hm.grown (by rintro k e; injection e with e; subst e; exact hr)
theorem Turn.of_below {B : Nat} (h : Below B a b) (hF : ∀ k, k < a.heap.size → ¬ F k → k < B) : Turn F a b := ⟨h.os, h.tape, h.output, h.size, fun k hk hn => h.block k (hF k hk hn)⟩
theorem Turn.below {B : Nat} (h : Turn F a w) (hF : ∀ k, F k → B ≤ k) (hB : B ≤ a.heap.size) : Below B a w :=
  ⟨h.os, h.tape, h.output, h.size, fun k hk => h.block k (by omega) fun q => by have := hF k q; omega⟩
theorem Turn.below_all (h : Turn F a w) (hF : ∀ k, ¬ F k) : Below a.heap.size a w := h.below (fun k q => absurd q (hF k)) (Nat.le_refl _)
end

theorem blk_lt {w : World} {g : Nat} {o : Obj} (h : w.heap[g]? = some o) : g < w.heap.size := by
  rcases Nat.lt_or_ge g w.heap.size with hlt | hge
  · exact hlt
  · rw [Array.getElem?_eq_none hge] at h; cases h
theorem blk_cell {w : World} {g : Nat} {cs : Array Value} {t : TypeId} {fr : Nat × Nat} (h : w.heap[g]? = some (.cells cs t fr)) (i : Nat) : w.cell? ⟨g, i, none⟩ = cs[i]? := by simp [World.cell?, h]
theorem blk_frozen {w : World} {g : Nat} {cs : Array Value} {t : TypeId} (h : w.heap[g]? = some (.cells cs t (0, 0))) (i : Nat) : w.frozen? ⟨g, i, none⟩ = false := by simp [World.frozen?, h]
theorem blk_alloc {w : World} {g : Nat} {o x : Obj} (h : w.heap[g]? = some x) : (w.alloc o).heap[g]? = some x := (Below.heap_alloc w o g (blk_lt h)).trans h
theorem blk_far {w : World} {g : Nat} {x : Obj} (h : w.heap[g]? = some x) {p : Addr} (hp : g ≠ p.block) (u : Value) : (w.setCell p u).heap[g]? = some x := (Below.heap_setCell w p u g hp).trans h
theorem blk_set {w : World} {g : Nat} {cs : Array Value} {t : TypeId} {fr : Nat × Nat} (h : w.heap[g]? = some (.cells cs t fr)) (i : Nat) (u : Value) : (w.setCell ⟨g, i, none⟩ u).heap[g]? = some (.cells (cs.setIfInBounds i u) t fr) := by
  simp [World.setCell, Array.getElem?_modify, h]

/-! ### a row of items -/
def cells2 (x : It) : List Value := [.int .i64 x.1, .int .i64 x.2]
def RowIs (E : TypeId) (w : World) (v : Value) (n : Nat) (g : Nat → It) : Prop :=
  ∃ xs, w.ownsRow 0 E 2 v n xs ∧ ∀ j, j < n → xs[j * 2]? = some (.int .i64 (g j).1) ∧ xs[j * 2 + 1]? = some (.int .i64 (g j).2)

section
variable {E : TypeId} {w w' : World} {v : Value} {n cap b : Nat} {g : Nat → It}
theorem RowIs.nil (E : TypeId) (w : World) (g : Nat → It) : RowIs E w (.slice none 0 0) 0 g := ⟨[], World.ownsRow_nil _ _ _ _, fun j hj => by omega⟩
theorem RowIs.form (h : RowIs E w v n g) (hn : 0 < n) : ∃ b cap, v = .slice (some ⟨b, 0, none⟩) n cap ∧ b < w.heap.size := by
  obtain ⟨xs, h1, _⟩ := h
  obtain ⟨b, cap, e, _, hlt⟩ := h1.form hn
  exact ⟨b, cap, e, hlt⟩
theorem RowIs.blk (h : RowIs E w (.slice (some ⟨b, 0, none⟩) n cap) n g) : ∃ cur, w.heap[b]? = some (.cells cur E (0, 0)) ∧ n ≤ cap := by
  obtain ⟨xs, ⟨_, h1⟩, _⟩ := h
  rcases h1 with ⟨e, _⟩ | ⟨b', cap', cur, e, _, hg, hnc, _⟩
  · simp at e
  · simp only [Value.slice.injEq, Option.some.injEq, Addr.mk.injEq, and_true, true_and] at e
    obtain ⟨rfl, rfl⟩ := e
    exact ⟨cur, hg, hnc⟩
theorem RowIs.own_blk (h : RowIs E w v n g) (hb : v.ownBlock = some b) : ∃ cur, w.heap[b]? = some (.cells cur E (0, 0)) := by
  obtain ⟨xs, ⟨_, h1⟩, _⟩ := h
  rcases h1 with ⟨rfl, _⟩ | ⟨b', cap', cur, rfl, _, hg, hnc, _⟩
  · simp [Value.ownBlock] at hb
  · simp only [Value.ownBlock, Option.some.injEq] at hb; subst hb; exact ⟨cur, hg⟩
theorem RowIs.key (h : RowIs E w (.slice (some ⟨b, 0, none⟩) n cap) n g) {j : Nat} (hj : j < n) : w.cell? ⟨b, j * 2, none⟩ = some (.int .i64 (g j).1) := by
  obtain ⟨xs, h1, h2⟩ := h
  rw [h1.cellAt (j * 2) (by omega)]; exact (h2 j hj).1
theorem RowIs.rank (h : RowIs E w (.slice (some ⟨b, 0, none⟩) n cap) n g) {j : Nat} (hj : j < n) : w.cell? ⟨b, j * 2 + 1, none⟩ = some (.int .i64 (g j).2) := by
  obtain ⟨xs, h1, h2⟩ := h
  rw [h1.cellAt (j * 2 + 1) (by omega)]; exact (h2 j hj).2
theorem RowIs.frozen (h : RowIs E w (.slice (some ⟨b, 0, none⟩) n cap) n g) (j : Nat) : w.frozen? ⟨b, j, none⟩ = false := by
  obtain ⟨xs, h1, h2⟩ := h
  exact h1.frozenAt j
theorem RowIs.congr {g' : Nat → It} (h : RowIs E w v n g) (e : ∀ j, j < n → g j = g' j) : RowIs E w v n g' := by
  obtain ⟨xs, h1, h2⟩ := h
  exact ⟨xs, h1, fun j hj => by rw [← e j hj]; exact h2 j hj⟩
theorem RowIs.set (h : RowIs E w (.slice (some ⟨b, 0, none⟩) n cap) n g) {i : Nat} (hi : i < n) (x : It) :
    RowIs E ((w.setCell ⟨b, i * 2, none⟩ (.int .i64 x.1)).setCell ⟨b, i * 2 + 1, none⟩ (.int .i64 x.2)) (.slice (some ⟨b, 0, none⟩) n cap) n (upd g i x) := by
  obtain ⟨xs, h1, h2⟩ := h
  refine ⟨_, (((h1.stored (i * 2) _).1).stored (i * 2 + 1) _).1, fun j hj => ?_⟩
  have hl : xs.length = n * 2 := h1.1
  by_cases e : j = i
  · subst e; rw [upd_same]
    refine ⟨?_, ?_⟩
    · rw [List.getElem?_set_ne (by omega), List.getElem?_set_self (by omega)]
    · rw [List.getElem?_set_self (by simp; omega)]
  · rw [upd_ne e]
    refine ⟨?_, ?_⟩
    · rw [List.getElem?_set_ne (by omega), List.getElem?_set_ne (by omega)]; exact (h2 j hj).1
    · rw [List.getElem?_set_ne (by omega), List.getElem?_set_ne (by omega)]; exact (h2 j hj).2
/-- its block, or that it has none, is as it was -/
theorem RowIs.keep (h : RowIs E w v n g) (hb : ∀ k, v.ownBlock = some k → w'.heap[k]? = w.heap[k]?) : RowIs E w' v n g := by
  obtain ⟨xs, ⟨h0, h1⟩, h2⟩ := h
  refine ⟨xs, ⟨h0, ?_⟩, h2⟩
  rcases h1 with h1 | ⟨b', cap', cur, rfl, q, hg, r⟩
  · exact .inl h1
  · exact .inr ⟨b', cap', cur, rfl, q, (hb b' rfl).trans hg, r⟩
theorem RowIs.pop (h : RowIs E w (.slice (some ⟨b, 0, none⟩) (n + 1) cap) (n + 1) g) : RowIs E w (.slice (some ⟨b, 0, none⟩) n cap) n g := by
  obtain ⟨xs, ⟨h0, h1⟩, h2⟩ := h
  refine ⟨xs.take (n * 2), ⟨by rw [List.length_take, h0]; omega, ?_⟩, fun j hj => ?_⟩
  · rcases h1 with ⟨e, _⟩ | ⟨b', cap', cur, e, q, hg, hnc, hm, hs, ht⟩
    · simp at e
    · simp only [Value.slice.injEq, Option.some.injEq, Addr.mk.injEq, and_true, true_and] at e
      obtain ⟨rfl, rfl⟩ := e
      exact .inr ⟨b, cap, cur, rfl, q, hg, by omega, hm, hs, by rw [← ht, List.take_take]; congr 1; omega⟩
  · rw [List.getElem?_take_of_lt (by omega), List.getElem?_take_of_lt (by omega)]
    exact h2 j (by omega)
theorem RowIs.lt (h : RowIs E w v n g) {k : Nat} (hk : v.ownBlock = some k) : k < w.heap.size := by
  obtain ⟨xs, h1, _⟩ := h
  exact (h1.lt k hk).2
end

/-! ### a map of whole numbers -/
section
variable {P : Program} {K : TypeId} {w w' : World} {b : Nat} {m : Int → Option Int} {s : Nat}
def bump (m : Int → Option Int) (k : Int) (s : Nat) : Nat := if (m k).isSome then s else s + 1
def less1 (m : Int → Option Int) (k : Int) (s : Nat) : Nat := if (m k).isSome then s - 1 else s
theorem new_cell {w : World} {k : Nat} (hk : k = w.heap.size) (cs : Array Value) (t : TypeId) (fr : Nat × Nat) (i : Nat) : (w.alloc (.cells cs t fr)).cell? ⟨k, i, none⟩ = cs[i]? := by
  subst hk
  exact blk_cell (heap_alloc_new w _) i
theorem size_set (w : World) (p : Addr) (u : Value) : (w.setCell p u).heap.size = w.heap.size := by simp [World.setCell]
def Small (k : Int) : Prop := (Lit.int .i64 k).wf = true
/-- block b is a map of just s keys that answers as m does -/
def MapIs (P : Program) (K : TypeId) (w : World) (b : Nat) (m : Int → Option Int) (s : Nat) : Prop :=
  ∃ D : DataW Unit, w.ownsMap P K (plainElem P K) b s D ∧ size D = s ∧ ∀ k, Maps.has D (.int .i64 k) = (m k).isSome ∧ ∀ v, m k = some v → D.atKey (.int .i64 k) (.lit (.int .i64 0)) = .lit (.int .i64 v)

theorem MapIs.lt (h : MapIs P K w b m s) : b < w.heap.size := by
  obtain ⟨D, h1, _⟩ := h
  exact h1.lt
theorem MapIs.keep (h : MapIs P K w b m s) (e : w'.heap[b]? = w.heap[b]?) : MapIs P K w' b m s := by
  obtain ⟨D, ⟨es, clock, hb, r⟩, h2⟩ := h
  exact ⟨D, ⟨es, clock, e.trans hb, r⟩, h2⟩
theorem MapIs.ne_cells {g : Nat} {cs : Array Value} {t : TypeId} {fr : Nat × Nat} (h : MapIs P K w b m s) (hg : w.heap[g]? = some (.cells cs t fr)) : g ≠ b := by
  obtain ⟨D, ⟨es, clock, hb, r⟩, h2⟩ := h
  rintro rfl
  rw [hb] at hg; simp at hg
theorem MapIs.drew (h : MapIs P K w b m s) : MapIs P K w.drew b m s := h.keep rfl
theorem MapIs.new (P : Program) (K : TypeId) (w : World) : MapIs P K (w.alloc (.map #[] 0)) w.heap.size (fun _ => none) 0 :=
  ⟨.map [], World.ownsMap_made _ _ _ _, rfl, fun k => ⟨rfl, fun v hv => by simp at hv⟩⟩

theorem lit_ne {k q : Int} (h : q ≠ k) : (Lit.int .i64 q) ≠ .int .i64 k := by
  intro e; injection e with _ e; exact h e
theorem iskey (k : Int) : WideAt.IsKeyLit (.int .i64 k) := by simp [WideAt.IsKeyLit]
theorem MapIs.of_put {m : Int → Option Int} {s : Nat} {D : DataW Unit} {w : World} {n : Nat} {k v : Int} (hK : P.underlying K = some (.int .i64)) (h1 : w.ownsMap P K (plainElem P K) b s D) (h2 : size D = s)
    (h3 : ∀ k, Maps.has D (.int .i64 k) = (m k).isSome ∧ ∀ v, m k = some v → D.atKey (.int .i64 k) (.lit (.int .i64 0)) = .lit (.int .i64 v)) (hw : w'.ownsMap P K (plainElem P K) b n (D.put (.int .i64 k) (.lit (.int .i64 v)))) :
    MapIs P K w' b (upd m k (some v)) (if (m k).isSome then s else s + 1) := by
  have T := h1.tidy (int_keyed hK)
  have hsz : size (D.put (.int .i64 k) (.lit (.int .i64 v))) = if (m k).isSome then s else s + 1 := by
    rw [size_put T, (h3 k).1, h2]
  refine ⟨_, ?_, hsz, fun q => ?_⟩
  · obtain ⟨es, clock, hb, F, hs, e⟩ := hw
    refine ⟨es, clock, hb, F, ?_, e⟩
    rw [← hsz, e]
    simp [size, length_sorted]
  · by_cases e : q = k
    · subst e
      rw [upd_same, has_put_same h1.isMap (iskey _)]
      refine ⟨rfl, fun v' hv' => ?_⟩
      injection hv' with hv'
      subst hv'
      exact atKey_put_same h1.isMap (iskey _) _ _
    · rw [upd_ne e, has_put_other (lit_ne e)]
      refine ⟨(h3 q).1, fun v' hv' => ?_⟩
      rw [atKey_put_other (lit_ne e)]
      exact (h3 q).2 v' hv'

theorem MapIs.of_del {m : Int → Option Int} {s : Nat} {D : DataW Unit} {w : World} {n : Nat} {k : Int} (hK : P.underlying K = some (.int .i64)) (h1 : w.ownsMap P K (plainElem P K) b s D) (h2 : size D = s)
    (h3 : ∀ k, Maps.has D (.int .i64 k) = (m k).isSome ∧ ∀ v, m k = some v → D.atKey (.int .i64 k) (.lit (.int .i64 0)) = .lit (.int .i64 v)) (hw : w'.ownsMap P K (plainElem P K) b n (D.del (.int .i64 k))) :
    MapIs P K w' b (upd m k none) (if (m k).isSome then s - 1 else s) := by
  have T := h1.tidy (int_keyed hK)
  have hsz : size (D.del (.int .i64 k)) = if (m k).isSome then s - 1 else s := by
    have := size_del T (k := .int .i64 k)
    rw [(h3 k).1, h2] at this
    split <;> rename_i hh <;> simp [hh] at this <;> omega
  refine ⟨_, ?_, hsz, fun q => ?_⟩
  · obtain ⟨es, clock, hb, F, hs, e⟩ := hw
    refine ⟨es, clock, hb, F, ?_, e⟩
    rw [← hsz, e]
    simp [size, length_sorted]
  · by_cases e : q = k
    · subst e
      rw [upd_same, has_del_same]
      exact ⟨rfl, fun v' hv' => by simp at hv'⟩
    · rw [upd_ne e, has_del_other (lit_ne e)]
      refine ⟨(h3 q).1, fun v' hv' => ?_⟩
      rw [atKey_del_other (lit_ne e)]
      exact (h3 q).2 v' hv'
end

section
variable {P : Program} {K : TypeId} (w : World) {ops : Array Oper} {rest : List Oper} {o : Oper} {a : Act} {Q : Exit → Act → World → Prop}
theorem wpList_put (hg : o.guard = none) (mo xo vo : Operand) (t : TypeId) (hop : o.op = Op.mapUpdate t mo xo vo) (hK : P.underlying K = some (.int .i64)) (ht : P.underlying t = some (.map K K)) (b s : Nat) (m : Int → Option Int)
    (hm : a.eval mo = .map (some b)) (h : MapIs P K w b m s) (hs : s < maxLen) (k v : Int) (hx : a.eval xo = .int .i64 k) (hv : a.eval vo = .int .i64 v) (wk : Small k) (wv : Small v)
    (hQ : ∀ w', MapIs P K w' b (upd m k (some v)) (bump m k s) → w.mapTurned w' b → wpList P ops Q rest (a.put o.dst undef) w') : wpList P ops Q (o :: rest) a w := by
  obtain ⟨D, h1, h2, h3⟩ := h
  refine wpList_mapUpdate_in w hg mo xo vo t hop K K (int_keyed hK) ht _ b s D hm h1 hs _ _ _ hx hv (keyOf_int_mk hK wk) _ [] (plainElem_int hK wv) (fun w' hw ht' => hQ w' ?_ ht')
  exact MapIs.of_put hK h1 h2 h3 hw

theorem wpList_get (hg : o.guard = none) (mo xo : Operand) (t : TypeId) (hop : o.op = Op.lookup t mo xo true) (hK : P.underlying K = some (.int .i64)) (ht : P.underlying t = some (.map K K)) (hz : (zeroValue K).run P w = .ok (.int .i64 0) w) (b s : Nat) (m : Int → Option Int)
    (hm : a.eval mo = .map (some b)) (h : MapIs P K w b m s) (k : Int) (hx : a.eval xo = .int .i64 k) (wk : Small k)
    (hQ : wpList P ops Q rest (a.put o.dst (.tuple #[.int .i64 ((m k).getD 0), .bool (m k).isSome])) w) : wpList P ops Q (o :: rest) a w := by
  obtain ⟨D, h1, h2, h3⟩ := h
  refine wpList_lookup_own_ok_int w hg mo xo t hop K K .i64 (int_keyed hK) ht hK hz b s D hm h1 _ _ hx (keyOf_int_mk hK wk) (fun c hc wc => ?_)
  have e1 : c = (m k).getD 0 := by
    cases hm' : m k with
    | none =>
      have := (h3 k).1
      rw [hm'] at this
      rw [atKey_of_not_has this] at hc
      injection hc with hc; injection hc with _ hc; exact hc.symm
    | some v =>
      rw [(h3 k).2 v hm'] at hc
      injection hc with hc; injection hc with _ hc; exact hc.symm
  rw [(h3 k).1, e1]
  exact hQ

theorem wpList_strike (hg : o.guard = none) (mo xo : Operand) (t : TypeId) (hop : o.op = Op.call { callee := Callee.builtin Builtin.delete, args := #[mo, xo], argTypes := #[t, K] }) (hK : P.underlying K = some (.int .i64)) (ht : P.underlying t = some (.map K K)) (b s : Nat) (m : Int → Option Int)
    (hm : a.eval mo = .map (some b)) (h : MapIs P K w b m s) (k : Int) (hx : a.eval xo = .int .i64 k) (wk : Small k)
    (hQ : ∀ w', MapIs P K w' b (upd m k none) (less1 m k s) → w.mapTurned w' b → wpList P ops Q rest (a.put o.dst (.tuple #[])) w') : wpList P ops Q (o :: rest) a w := by
  obtain ⟨D, h1, h2, h3⟩ := h
  exact wpList_delete_own w hg mo xo t K hop K (int_keyed hK) ht _ b s D hm h1 _ _ hx (keyOf_int_mk hK wk) (fun w' hw ht' => hQ w' (MapIs.of_del hK h1 h2 h3 hw) ht')

theorem wpList_clear (hg : o.guard = none) (mo : Operand) (t : TypeId) (hop : o.op = Op.call { callee := Callee.builtin Builtin.clear, args := #[mo], argTypes := #[t] }) (ht : P.underlying t = some (.map K K)) (b s : Nat) (m : Int → Option Int)
    (hm : a.eval mo = .map (some b)) (h : MapIs P K w b m s)
    (hQ : ∀ w', MapIs P K w' b (fun _ => none) 0 → w.mapTurned w' b → wpList P ops Q rest (a.put o.dst (.tuple #[])) w') : wpList P ops Q (o :: rest) a w := by
  obtain ⟨D, ⟨es, clock, hb, F, hs, e⟩, h2, h3⟩ := h
  have hb' : (ChangeMaps.setBlock w b (.map #[] clock)).heap[b]? = some (.map #[] clock) := ChangeMaps.heap_setBlock_same hb _
  have hrun : (Builtin.clear_ #[t] o.type #[.map (some b)]).run P w = .ok (.tuple #[]) (ChangeMaps.setBlock w b (.map #[] clock)) := by
    simp [Builtin.clear_, run_underlying ht, MapKept.run_getObj_map hb, MapKept.run_setObj_map _ hb, Result.andThen, ChangeMaps.setBlock]
  refine wpList_plain hg fun K' hK' => ?_
  unfold Oper.wp
  simp [execOp, hop, resolve, invoke, builtin, hm, hrun, Result.andThen]
  refine hK' _ _ (hQ _ ⟨.map [], ?_, rfl, fun k => ⟨rfl, fun v hv => by simp at hv⟩⟩ ⟨es, clock, #[], clock, hb, rfl⟩)
  exact ⟨#[], clock, hb', ⟨by simp, by simp [MapKept.Stamped], by simp⟩, by simp, rfl⟩
end

/-- an item appended -/
theorem wpList_grow {P : Program} {E : TypeId} {w : World} {ops : Array Oper} {rest : List Oper} {o : Oper} {a : Act} {Q : Exit → Act → World → Prop} (hgd : o.guard = none) (s x : Operand) (t : TypeId)
    (ho : o.op = .call { callee := .builtin .append, args := #[s, x], argTypes := #[t, t] }) (ht : P.underlying t = some (.slice E)) (hinfo : (P.info? E).map (fun i => (i.zero, i.size, i.bytes)) = some (some (.agg #[.int .i64 0, .int .i64 0]), 2, 16))
    (v : Value) (n : Nat) (g : Nat → It) (hs : a.eval s = v) (h : RowIs E w v n g) (ad : Addr) (c : Nat) (k r : Int) (hx : a.eval x = .slice (some ad) 1 c) (h0 : w.cell? (ad.add 0) = some (.int .i64 k)) (h1 : w.cell? (ad.add 1) = some (.int .i64 r)) (hn : n ≤ 100000)
    (hQ : ∀ b' c' w', RowIs E w' (.slice (some ⟨b', 0, none⟩) (n + 1) c') (n + 1) (upd g n (k, r)) → w.grownBy w' v.ownBlock → (some b' = v.ownBlock ∨ b' = w.heap.size) → wpList P ops Q rest (a.put o.dst (.slice (some ⟨b', 0, none⟩) (n + 1) c')) w') :
    wpList P ops Q (o :: rest) a w := by
  obtain ⟨i0, hi, hz0, hz1, hz2⟩ := info_parts hinfo
  obtain ⟨xs, hown, hxs⟩ := h
  have hl : xs.length = n * 2 := hown.1
  refine wpList_append_own_at w hgd s x t ho 0 E i0 _ 2 16 ht hi hz0 hz1 hz2 rfl (by omega) v n xs hs hown ad 1 c [.int .i64 k, .int .i64 r] hx rfl ?_ (by simp [Value.oneCell']) (by unfold maxLen; omega) (by omega) (Nat.zero_le _) (fun v' w' h2 h3 _ h5 => ?_)
  rotate_left
  · have hrow : RowIs E w' v' (n + 1) (upd g n (k, r)) := ⟨_, h2, fun j hj => ?_⟩
    · obtain ⟨b', c', rfl, _⟩ := hrow.form (by omega)
      refine hQ b' c' w' hrow h3 ?_
      simpa [Value.ownBlock, eq_comm] using h5
    by_cases e : j = n
    · subst e
      rw [upd_same, List.getElem?_append_right (by omega), List.getElem?_append_right (by omega)]
      rw [show j * 2 - xs.length = 0 from by omega, show j * 2 + 1 - xs.length = 1 from by omega]
      exact ⟨rfl, rfl⟩
    · rw [upd_ne e, List.getElem?_append_left (by omega), List.getElem?_append_left (by omega)]
      exact hxs j (by omega)
  · intro j u hu
    match j, hu with
    | 0, hu => simp at hu; subst hu; exact h0
    | 1, hu => simp at hu; subst hu; exact h1
    | j + 2, hu => simp at hu

/-! ### the heap object -/
structure Raw (P : Program) (K E T : TypeId) (w : World) (g : Nat) (v : Value) (bm n : Nat) (G : Nat → It) (m : Int → Option Int) (s : Nat) : Prop where
  hg : w.heap[g]? = some (.cells #[v, .map (some bm)] T (0, 0))
  row : RowIs E w v n G
  map : MapIs P K w bm m s
  ne : E ≠ T
def Foot (g bm : Nat) (v : Value) : Nat → Prop := fun k => k = g ∨ k = bm ∨ v.ownBlock = some k

section
variable {P : Program} {K E T : TypeId} {w w' : World} {g : Nat} {v : Value} {bm n s b cap : Nat} {G : Nat → It} {m : Int → Option Int}
theorem Raw.c0 (h : Raw P K E T w g v bm n G m s) : w.cell? ⟨g, 0, none⟩ = some v := (blk_cell h.hg 0).trans rfl
theorem Raw.c1 (h : Raw P K E T w g v bm n G m s) : w.cell? ⟨g, 1, none⟩ = some (.map (some bm)) := (blk_cell h.hg 1).trans rfl
theorem Raw.f (h : Raw P K E T w g v bm n G m s) (i : Nat) : w.frozen? ⟨g, i, none⟩ = false := blk_frozen h.hg i
theorem Raw.glt (h : Raw P K E T w g v bm n G m s) : g < w.heap.size := blk_lt h.hg
theorem Raw.gm (h : Raw P K E T w g v bm n G m s) : g ≠ bm := h.map.ne_cells h.hg
theorem Raw.gv (h : Raw P K E T w g v bm n G m s) : v.ownBlock ≠ some g := by
  intro e
  obtain ⟨cur, hc⟩ := h.row.own_blk e
  have := h.hg
  rw [hc] at this
  injection this with this
  injection this with _ h2
  exact h.ne h2
theorem Raw.mv (h : Raw P K E T w g v bm n G m s) : v.ownBlock ≠ some bm := by
  intro e
  obtain ⟨cur, hc⟩ := h.row.own_blk e
  exact h.map.ne_cells hc rfl
theorem Raw.keep (h : Raw P K E T w g v bm n G m s) (hk : ∀ k, Foot g bm v k → w'.heap[k]? = w.heap[k]?) : Raw P K E T w' g v bm n G m s :=
  ⟨(hk g (.inl rfl)).trans h.hg, h.row.keep fun k e => hk k (.inr (.inr e)), h.map.keep (hk bm (.inr (.inl rfl))), h.ne⟩
theorem Raw.foot_lt (h : Raw P K E T w g v bm n G m s) {k : Nat} (hk : Foot g bm v k) : k < w.heap.size := by
  rcases hk with rfl | rfl | hk
  · exact h.glt
  · exact h.map.lt
  · exact h.row.lt hk
theorem Raw.turn (h : Raw P K E T w g v bm n G m s) {F : Nat → Prop} (ht : Turn F w w') (hd : ∀ k, Foot g bm v k → ¬ F k) : Raw P K E T w' g v bm n G m s :=
  h.keep fun k hk => ht.block k (h.foot_lt hk) (hd k hk)
theorem Raw.below (h : Raw P K E T w g v bm n G m s) (hb : Below w.heap.size w w') : Raw P K E T w' g v bm n G m s := h.keep fun k hk => hb.block k (h.foot_lt hk)
theorem Raw.alloc (h : Raw P K E T w g v bm n G m s) (o : Obj) : Raw P K E T (w.alloc o) g v bm n G m s := h.keep fun k hk => Below.heap_alloc w o k (h.foot_lt hk)
theorem Raw.drew (h : Raw P K E T w g v bm n G m s) : Raw P K E T w.drew g v bm n G m s := h.keep fun k hk => rfl
theorem Raw.drewN (h : Raw P K E T w g v bm n G m s) (j : Nat) : Raw P K E T (w.drewN j) g v bm n G m s := h.keep fun k hk => rfl
theorem Raw.store (h : Raw P K E T w g (.slice (some ⟨b, 0, none⟩) n cap) bm n G m s) {i : Nat} (hi : i < n) (x : It) :
    Raw P K E T ((w.setCell ⟨b, i * 2, none⟩ (.int .i64 x.1)).setCell ⟨b, i * 2 + 1, none⟩ (.int .i64 x.2)) g (.slice (some ⟨b, 0, none⟩) n cap) bm n (upd G i x) m s := by
  have gb : g ≠ b := fun e => h.gv (by rw [e]; rfl)
  have mb : bm ≠ b := fun e => h.mv (by rw [e]; rfl)
  refine ⟨blk_far (blk_far h.hg gb _) gb _, h.row.set hi x, h.map.keep ?_, h.ne⟩
  rw [Below.heap_setCell _ _ _ _ mb, Below.heap_setCell _ _ _ _ mb]
theorem Raw.grow (h : Raw P K E T w g v bm n G m s) (hg1 : w.grownBy w' v.ownBlock) {G' : Nat → It} (hrow : RowIs E w' (.slice (some ⟨b, 0, none⟩) (n + 1) cap) (n + 1) G') :
    Raw P K E T (w'.setCell ⟨g, 0, none⟩ (.slice (some ⟨b, 0, none⟩) (n + 1) cap)) g (.slice (some ⟨b, 0, none⟩) (n + 1) cap) bm (n + 1) G' m s := by
  have hb : w'.heap[g]? = some (.cells #[v, .map (some bm)] T (0, 0)) := (hg1.block g h.glt (fun e => h.gv e.symm)).trans h.hg
  have gb : b ≠ g := by
    rintro rfl
    obtain ⟨cur, hc, _⟩ := hrow.blk
    rw [hb] at hc
    injection hc with hc
    injection hc with _ h2
    exact h.ne h2.symm
  refine ⟨by simpa using blk_set hb 0 _, hrow.keep fun k hk => ?_, h.map.keep ?_, h.ne⟩
  · simp [Value.ownBlock] at hk; subst hk; exact Below.heap_setCell _ _ _ _ gb
  · rw [Below.heap_setCell _ _ _ _ (Ne.symm h.gm)]
    exact hg1.block bm h.map.lt (fun e => h.mv e.symm)
theorem Raw.pop (h : Raw P K E T w g (.slice (some ⟨b, 0, none⟩) (n + 1) cap) bm (n + 1) G m s) :
    Raw P K E T (w.setCell ⟨g, 0, none⟩ (.slice (some ⟨b, 0, none⟩) n cap)) g (.slice (some ⟨b, 0, none⟩) n cap) bm n G m s := by
  have gb : b ≠ g := fun e => h.gv (by rw [← e]; rfl)
  refine ⟨by simpa using blk_set h.hg 0 _, h.row.pop.keep fun k hk => ?_, h.map.keep ?_, h.ne⟩
  · simp [Value.ownBlock] at hk; subst hk; exact Below.heap_setCell _ _ _ _ gb
  · exact Below.heap_setCell _ _ _ _ (Ne.symm h.gm)
theorem Raw.put (h : Raw P K E T w g v bm n G m s) {m' : Int → Option Int} {s' : Nat} (hm : MapIs P K w' bm m' s') (ht : w.mapTurned w' bm) : Raw P K E T w' g v bm n G m' s' := by
  have hg := ht.grown
  refine ⟨(hg.block g h.glt (by intro e; injection e with e; exact h.gm e)).trans h.hg, h.row.keep fun k hk => hg.block k (h.row.lt hk) ?_, hm, h.ne⟩
  intro e; injection e with e; exact h.mv (by rw [hk, e])
end
end Go.Proofs.Ytcdlnohnkdalbaa.Hp
namespace Go.Proofs.Ytcdlnohnkdalbaa.Hp
open Go.RowKit Go.Maps Go.Proofs
set_option linter.unusedVariables false
set_option maxRecDepth 100000
set_option linter.unusedSimpArgs false

theorem still_tail {P : Program} {id : Nat} {Q : Exit → Act → World → Prop} {a : Act} {w : World} {l : List Oper} (n : Nat) (hm : P.follows .mixedOrders = true) (hB : Region.lexTailB .any l.toArray n = true)
    (h : wpStill P l.toArray w.drew (fun a' => wpList P l.toArray Q (l.drop n) a' w.drew) (l.take n) a) : (Code.region id l.toArray true).wp P Q a w := wp_region_still_tail n hm hB h

theorem still_on {P : Program} {ops : Array Oper} {w : World} {Q : Act → Prop} {a : Act} {o : Oper} {rest : List Oper} (hw : Region.wanted o (yielded ops a.tmps) = true)
    (h : ∀ K : Act → Prop, (∀ a, wpStill P ops w Q rest a → K a) → o.still P a w K) : wpStill P ops w Q (o :: rest) a := by
  unfold wpStill
  rw [if_pos hw]
  exact h _ fun _ h => h
theorem still_off {P : Program} {ops : Array Oper} {w : World} {Q : Act → Prop} {a a' : Act} {o : Oper} {rest : List Oper} (hw : Region.wanted o (yielded ops a.tmps) = false) (ha : a.put o.dst undef = a')
    (h : wpStill P ops w Q rest a') : wpStill P ops w Q (o :: rest) a := by
  unfold wpStill
  rw [if_neg (by rw [hw]; exact Bool.false_ne_true), ha]
  exact h

theorem less_any (a b : It) (w : World) :
    Calls Try.prog 83 #[.agg #[.int .i64 a.1, .int .i64 a.2], .agg #[.int .i64 b.1, .int .i64 b.2]] w
      fun e w' => e = .returned (.bool (lessB a b)) ∧ Below w.heap.size w w' := by
  obtain ⟨ak, ar⟩ := a
  obtain ⟨bk, br⟩ := b
  by_cases h : ar = br
  · have hd : (ar != br) = false := by simp [h]
    have hl : lessB (ak, ar) (bk, br) = decide (ak < bk) := by unfold lessB; rw [if_pos h]
    have HL := Lib.hid hl
    clear hl h
    go_enter Try.func83, Try.ntmps83
    go_wp2
    go_ret
    exact ⟨by rw [HL.out]; rfl, ((Below.refl _ _).alloc (Nat.le_refl _) _).alloc (by simp) _⟩
  · have hd : (ar != br) = true := by simp [h]
    have hl : lessB (ak, ar) (bk, br) = decide (ar < br) := by unfold lessB; rw [if_neg h]
    have HL := Lib.hid hl
    clear hl h
    go_enter Try.func83, Try.ntmps83
    go_wp2
    go_ret
    exact ⟨by rw [HL.out]; rfl, ((Below.refl _ _).alloc (Nat.le_refl _) _).alloc (by simp) _⟩

abbrev RawH := Raw Try.prog 3 87 104
theorem small_key {k : Int} (h : 0 ≤ k ∧ k < 300) : Small k := WalkArith.wf_i64 (by omega)
theorem small_nat {k : Nat} (h : k ≤ 1000) : Small (k : Int) := WalkArith.wf_i64 (by omega)

set_option maxHeartbeats 800000 in
theorem lay_any (w : World) (g : Nat) (v : Value) (bm n : Nat) (G : Nat → It) (m : Int → Option Int) (s : Nat) (at_ : Nat) (x : It) (z : Int) (hz : z = (at_ : Int)) (h : RawH w g v bm n G m s) (ha : at_ < n) (hx : 0 ≤ x.1 ∧ x.1 < 300) (hs : s ≤ 1000) (hn : n ≤ 1000) :
    Calls Try.prog 84 #[.pointer (some ⟨g, 0, none⟩), .int .i64 z, .agg #[.int .i64 x.1, .int .i64 x.2]] w
      fun e w' => e = .returned (.tuple #[]) ∧ RawH w' g v bm n (upd G at_ x) (upd m x.1 (some (at_ : Int))) (bump m x.1 s) ∧ Turn (Foot g bm v) w w' := by
  subst hz
  obtain ⟨b, cap, rfl, hb⟩ := h.row.form (by omega)
  obtain ⟨xk, xr⟩ := x
  have c0 : w.cell? ⟨g, 0, none⟩ = some (.slice (some ⟨b, 0, none⟩) n cap) := (blk_cell h.hg 0).trans rfl
  have c1 : w.cell? ⟨g, 1, none⟩ = some (.map (some bm)) := (blk_cell h.hg 1).trans rfl
  have k0 := h.row.key ha
  have k1 := h.row.rank ha
  have f0 := h.row.frozen (at_ * 2)
  have f1 := h.row.frozen (at_ * 2 + 1)
  have hi : (at_ : Int) < (n : Int) := by omega
  have hgl : g < w.heap.size := blk_lt h.hg
  go_enter Try.func84, Try.ntmps84
  go_wp2
  refine still_tail 7 (by kernel_rfl) (by kernel_rfl) ?_
  simp only [List.take_succ_cons, List.take_zero, List.drop_succ_cons, List.drop_zero]
  repeat still_step
  with_reducible refine wpStill_nil ?_
  go_wp2
  obtain ⟨W, hW⟩ : ∃ W, W = (((w.setCell ⟨b, at_ * 2, none⟩ (.int .i64 xk)).setCell ⟨b, at_ * 2 + 1, none⟩ (.int .i64 xr)).alloc (.cells #[.int .i64 xk, .int .i64 xr] 87)).drew := ⟨_, rfl⟩
  have R2 : RawH W g (.slice (some ⟨b, 0, none⟩) n cap) bm n (upd G at_ (xk, xr)) m s := by rw [hW]; exact ((h.store ha (xk, xr)).alloc _).drew
  have T2 : Turn (Foot g bm (.slice (some ⟨b, 0, none⟩) n cap)) w W := by
    rw [hW]; exact (((((Turn.refl _ _).setCell (.inl (.inr (.inr rfl))) _).setCell (.inl (.inr (.inr rfl))) _).alloc _).drew)
  have x2 : W.cell? ⟨w.heap.size, 0, none⟩ = some (.int .i64 xk) := by
    rw [hW]; exact new_cell (by rw [size_set, size_set]) _ _ _ 0
  rw [← hW]
  have n0 := w.heap.size
  generalize w.heap.size = y at *
  clear hW k0 k1 f0 f1 c0 c1
  have c1 := R2.c1
  refine still_tail 7 (by kernel_rfl) (by kernel_rfl) ?_
  simp only [List.take_succ_cons, List.take_zero, List.drop_succ_cons, List.drop_zero]
  repeat still_step
  with_reducible refine wpStill_nil ?_
  refine wpList_put (P := Try.prog) (K := 3) _ rfl _ _ _ 101 rfl Try.underlying3 Try.underlying101 bm s m rfl R2.map.drew (by unfold maxLen; omega) xk at_ rfl rfl (small_key hx) (small_nat (by omega)) ?_
  intro w1 hm1 ht1
  go_wp2
  go_end0
  exact ⟨rfl, R2.drew.put hm1 ht1, T2.drew.map ht1 (.inl (.inr (.inl rfl)))⟩

end Go.Proofs.Ytcdlnohnkdalbaa.Hp
namespace Go.Proofs.Ytcdlnohnkdalbaa.Hp
open Go.RowKit Go.Maps Go.Proofs
set_option linter.unusedVariables false
set_option maxRecDepth 100000
set_option linter.unusedSimpArgs false

structure UpRel (w : World) (g : Nat) (v : Value) (bm n : Nat) (f : Int → Option Int) (x : It) (y : Nat) (u : Value) (wr : World) (i : Nat) (G : Nat → It) (m : Int → Option Int) (s : Nat) : Prop where
  at_ : u = .int .i64 (i : Int)
  raw : RawH wr g v bm n G m s
  hole : HoleUp n G i
  rep : Rep n (upd G i x) f
  whr : WhrH m n G i x
  cnt : cnt m x n s
  turn : Turn (Foot g bm v) w wr
  x0 : wr.cell? ⟨y, 0, none⟩ = some (.int .i64 x.1)
  x1 : wr.cell? ⟨y, 1, none⟩ = some (.int .i64 x.2)
  ylt : y < wr.heap.size
  yfar : ¬ Foot g bm v y

def UpPost (w : World) (g : Nat) (v : Value) (bm n : Nat) (f : Int → Option Int) (e : Ending) (w' : World) : Prop :=
  ∃ (i : Nat) (G : Nat → It) (m : Int → Option Int), e = .returned (.int .i64 (i : Int)) ∧ RawH w' g v bm n G m n ∧ DownIn n G i ∧ Rep n G f ∧ Whr m n G ∧ Turn (Foot g bm v) w w'

theorem cell_turn {F : Nat → Prop} {w w' : World} {y i : Nat} (h : Turn F w w') (hy : y < w.heap.size) (hn : ¬ F y) : w'.cell? ⟨y, i, none⟩ = w.cell? ⟨y, i, none⟩ := World.cell?_of_block (h.block y hy hn)

theorem bump_all {m : Int → Option Int} {x : It} {n s : Nat} (h : cnt m x n s) : bump m x.1 s = n := by
  unfold cnt at h
  unfold bump
  split <;> rename_i q <;> simp [q] at h <;> omega
theorem bump_has {m : Int → Option Int} {k : Int} {s : Nat} (h : (m k).isSome = true) : bump m k s = s := if_pos h

set_option maxHeartbeats 800000 in
theorem up_any (w : World) (g : Nat) (v : Value) (bm n : Nat) (G : Nat → It) (m : Int → Option Int) (s : Nat) (at_ : Nat) (f : Int → Option Int) (h : RawH w g v bm n G m s) (hu : HoleUp n G at_) (hr : Rep n G f) (hw : WhrH m n G at_ (G at_)) (hc : cnt m (G at_) n s) (hd : Dom f) :
    Calls Try.prog 76 #[.pointer (some ⟨g, 0, none⟩), .int .i64 (at_ : Int)] w (UpPost w g v bm n f) := by
  have ha := hu.lt
  have hn := hr.le hd
  obtain ⟨b, cap, rfl, hb⟩ := h.row.form (by omega)
  have c0 := h.c0
  have k0 := h.row.key ha
  have k1 := h.row.rank ha
  have hi : (at_ : Int) < (n : Int) := by omega
  have hgl : g < w.heap.size := h.glt
  go_enter Try.func76, Try.ntmps76
  go_wp2
  obtain ⟨x, hx⟩ : ∃ x, x = G at_ := ⟨_, rfl⟩
  obtain ⟨W0, hW0⟩ : ∃ W, W = w.alloc (.cells #[.int .i64 x.1, .int .i64 x.2] 87) := ⟨_, rfl⟩
  rw [← hx] at hw hc ⊢
  have R0 : RawH W0 g (.slice (some ⟨b, 0, none⟩) n cap) bm n G m s := by rw [hW0]; exact h.alloc _
  have T0 : Turn (Foot g bm (.slice (some ⟨b, 0, none⟩) n cap)) w W0 := by rw [hW0]; exact (Turn.refl _ _).alloc _
  have x0 : W0.cell? ⟨w.heap.size, 0, none⟩ = some (.int .i64 x.1) := by rw [hW0]; exact new_cell rfl _ _ _ 0
  have x1 : W0.cell? ⟨w.heap.size, 1, none⟩ = some (.int .i64 x.2) := by rw [hW0]; exact new_cell rfl _ _ _ 1
  have yl : w.heap.size < W0.heap.size := by rw [hW0]; simp
  have yf : ¬ Foot g bm (.slice (some ⟨b, 0, none⟩) n cap) w.heap.size := fun q => by have := h.foot_lt q; omega
  rw [← hW0]
  have hrx : Rep n (upd G at_ x) f := by rw [hx, upd_self]; exact hr
  clear hW0 c0 k0 k1 hgl h hr hx
  generalize w.heap.size = y at *
  go_loopw [1] (fun u wr => ∃ i Gi mi si, UpRel w g (.slice (some ⟨b, 0, none⟩) n cap) bm n f x y u wr i Gi mi si) (fun u _ => (intOf u).toNat)
  case atStart => exact ⟨at_, G, m, s, rfl, R0, hu, hrx, hw, hc, T0, x0, x1, yl, yf⟩
  case round =>
    obtain ⟨i, Gi, mi, si, rfl, R1, hu1, hr1, hw1, hc1, T1, z0, z1, yl1, yf1⟩ := hrel
    clear R0 T0 x0 x1 yl yf hrx hw hc hu ha hi hb
    have hil := hu1.lt
    have hx0 : f x.1 = some x.2 := by have := hr1.there i hil; rwa [upd_same] at this
    have hs0 : si ≤ n := by have := hc1; unfold cnt at this; omega
    have c0 := R1.c0
    by_cases h0 : i = 0
    · subst h0
      go_wp2_with fail
      go_quiet (fail)
      go_wp2_with fail
      refine (lay_any _ g _ bm n Gi mi si 0 x 0 rfl (R1.drewN _) hil (hd _ _ hx0) (by omega) (by omega)).mono ?_
      rintro e w2 ⟨rfl, R2, T2⟩
      rw [bump_all hc1] at R2
      go_wp2
      go_ret
      exact ⟨0, _, _, rfl, R2, hu1.done (.inl rfl), hr1, hw1.done hr1 hil, (T1.drewN _).trans T2 fun _ _ q => q⟩
    · obtain ⟨j, rfl⟩ : ∃ j, i = j + 1 := ⟨i - 1, by omega⟩
      have hj : j / 2 < n := by omega
      have k0 := R1.row.key hj
      have k1 := R1.row.rank hj
      have hd0 : (0 : Int) < ((j + 1 : Nat) : Int) := by omega
      have g0 : g < wr.heap.size := R1.glt
      have b0 : b < wr.heap.size := R1.foot_lt (.inr (.inr rfl))
      have hp0 : f (Gi (j / 2)).1 = some (Gi (j / 2)).2 := by have := hr1.there (j / 2) hj; rwa [upd_ne (by omega)] at this
      have w2 : IntKind.i64.wrap (j : Int) = (j : Int) := IntWalk.i64_in _ (by omega)
      have w3 : Int.tdiv (j : Int) 2 = (j : Int) / 2 := by rw [Int.tdiv_eq_ediv_of_nonneg (by omega)]
      have w4 : IntKind.i64.wrap ((j : Int) / 2) = (j : Int) / 2 := IntWalk.i64_in _ (by omega)
      have w5 : (0 : Int) ≤ (j : Int) / 2 := by omega
      have w6 : (j : Int) / 2 < (n : Int) := by omega
      have w7 : ((j : Int) / 2).toNat = j / 2 := by omega
      go_wp2_with fail
      refine still_tail 13 (by kernel_rfl) (by kernel_rfl) ?_
      simp only [List.take_succ_cons, List.take_zero, List.drop_succ_cons, List.drop_zero]
      repeat (with_reducible refine still_on (by with_unfolding_all rfl) ?_; intro K hK; go_simp; with_reducible refine hK _ ?_; clear hK K)
      with_reducible refine wpStill_nil ?_
      go_wp2_with fail
      refine (less_any x (Gi (j / 2)) _).mono ?_
      rintro e w1 ⟨rfl, hb1⟩
      have R2 := R1.drew.below hb1
      have T2 := T1.drew.trans (Turn.of_below (F := fun _ => False) hb1 (fun k hk _ => hk)) (fun _ _ q => q.elim)
      have y0 : w1.cell? ⟨y, 0, none⟩ = some (.int .i64 x.1) := (hb1.cell (p := ⟨y, 0, none⟩) yl1).trans z0
      have y1 : w1.cell? ⟨y, 1, none⟩ = some (.int .i64 x.2) := (hb1.cell (p := ⟨y, 1, none⟩) yl1).trans z1
      have yl2 : y < w1.heap.size := Nat.lt_of_lt_of_le yl1 hb1.size
      clear k0 k1 c0 g0 b0 hb1
      have c0 := R2.c0
      have k0 := R2.row.key hj
      have k1 := R2.row.rank hj
      cases hl : lessB x (Gi (j / 2)) with
      | false =>
        have HL := Lib.hid hl
        clear hl
        go_wp2_with fail
        refine (lay_any _ g _ bm n Gi mi si (j + 1) x _ rfl R2 hil (hd _ _ hx0) (by omega) (by omega)).mono ?_
        rintro e w2 ⟨rfl, R3, T3⟩
        rw [bump_all hc1] at R3
        go_wp2
        go_ret
        exact ⟨j + 1, _, _, rfl, R3, hu1.done (.inr (lessB_false.1 HL.out)), hr1, hw1.done hr1 hil, T2.trans T3 fun _ _ q => q⟩
      | true =>
        have HL := Lib.hid hl
        clear hl
        go_wp2_with fail
        refine (lay_any _ g _ bm n Gi mi si (j + 1) (Gi (j / 2)) _ rfl R2 hil (hd _ _ hp0) (by omega) (by omega)).mono ?_
        rintro e w2 ⟨rfl, R3, T3⟩
        rw [bump_has (hw1.has hj (by omega))] at R3
        have S3 := hu1.step (by omega)
        have P3 := hr1.move hil hj (by omega)
        have W3 := hw1.step hr1 hil hj (by omega)
        have C3 := hw1.cnt hr1 hil hj (by omega) hc1
        have y3 := (cell_turn (i := 0) T3 yl2 yf1).trans y0
        have y4 := (cell_turn (i := 1) T3 yl2 yf1).trans y1
        have yl3 := Nat.lt_of_lt_of_le yl2 T3.size
        have T4 := T2.trans T3 fun _ _ q => q
        clear y0 y1 yl2 k0 k1 c0 T2 R2 T3
        go_wp2
        go_roundw
        case rel => exact ⟨j / 2, _, _, _, by simp, R3, S3, P3, W3, C3, T4, y3, y4, yl3, yf1⟩
        case measure => simp [intOf]; omega

def DownPost (w : World) (g : Nat) (v : Value) (bm n : Nat) (f : Int → Option Int) (e : Ending) (w' : World) : Prop :=
  ∃ (G : Nat → It) (m : Int → Option Int), e = .returned (.tuple #[]) ∧ RawH w' g v bm n G m n ∧ Ord n G ∧ Rep n G f ∧ Whr m n G ∧ Turn (Foot g bm v) w w'

structure DownRel (w : World) (g : Nat) (v : Value) (bm n : Nat) (f : Int → Option Int) (x : It) (y : Nat) (u : Value) (wr : World) (i : Nat) (G : Nat → It) (m : Int → Option Int) : Prop where
  at_ : u = .int .i64 (i : Int)
  raw : RawH wr g v bm n G m n
  hole : DownH n G i x
  rep : Rep n (upd G i x) f
  whr : WhrH m n G i x
  cnt : cnt m x n n
  turn : Turn (Foot g bm v) w wr
  x0 : wr.cell? ⟨y, 0, none⟩ = some (.int .i64 x.1)
  x1 : wr.cell? ⟨y, 1, none⟩ = some (.int .i64 x.2)
  ylt : y < wr.heap.size
  yfar : ¬ Foot g bm v y

/-- the one of i's children that is ahead -/
def Child (n : Nat) (G : Nat → It) (i k : Nat) : Prop := 1 ≤ k ∧ k < n ∧ (k - 1) / 2 = i ∧ ∀ c, 1 ≤ c → c < n → (c - 1) / 2 = i → le (G k) (G c)

structure DownTest (w : World) (g : Nat) (v : Value) (bm n : Nat) (i : Nat) (G : Nat → It) (m : Int → Option Int) (u : Value) (wr : World) (t : Bool) : Prop where
  at_ : u = .bool t
  raw : RawH wr g v bm n G m n
  child : Child n G i (if t then 2 * i + 2 else 2 * i + 1)
  turn : Turn (fun _ => False) w wr
structure DownCut (w : World) (g : Nat) (v : Value) (bm n : Nat) (x : It) (y i : Nat) (G : Nat → It) (m : Int → Option Int) (u : Value) (wr : World) (k : Nat) : Prop where
  at_ : u = .int .i64 (k : Int)
  raw : RawH wr g v bm n G m n
  child : Child n G i k
  turn : Turn (fun _ => False) w wr

set_option maxHeartbeats 1600000 in
theorem down_any (w : World) (g : Nat) (v : Value) (bm n : Nat) (G : Nat → It) (m : Int → Option Int) (at_ : Nat) (f : Int → Option Int) (h : RawH w g v bm n G m n) (hu : DownIn n G at_) (hr : Rep n G f) (hw0 : Whr m n G) (hd : Dom f) :
    Calls Try.prog 75 #[.pointer (some ⟨g, 0, none⟩), .int .i64 (at_ : Int)] w (DownPost w g v bm n f) := by
  have ha := hu.lt
  have hn := hr.le hd
  obtain ⟨b, cap, rfl, hb⟩ := h.row.form (by omega)
  have c0 := h.c0
  have k0 := h.row.key ha
  have k1 := h.row.rank ha
  have hi : (at_ : Int) < (n : Int) := by omega
  have hgl : g < w.heap.size := h.glt
  have hc : cnt m (G at_) n n := by unfold cnt; rw [hw0.at_ at_ ha]; rfl
  have hw : WhrH m n G at_ (G at_) := hw0.hole
  have hu2 := hu.open
  go_enter Try.func75, Try.ntmps75
  go_wp2
  go_step3
  go_wp2
  obtain ⟨x, hx⟩ : ∃ x, x = G at_ := ⟨_, rfl⟩
  obtain ⟨W0, hW0⟩ : ∃ W, W = w.alloc (.cells #[.int .i64 x.1, .int .i64 x.2] 87) := ⟨_, rfl⟩
  rw [← hx] at hw hc hu2 ⊢
  have R0 : RawH W0 g (.slice (some ⟨b, 0, none⟩) n cap) bm n G m n := by rw [hW0]; exact h.alloc _
  have T0 : Turn (Foot g bm (.slice (some ⟨b, 0, none⟩) n cap)) w W0 := by rw [hW0]; exact (Turn.refl _ _).alloc _
  have x0 : W0.cell? ⟨w.heap.size, 0, none⟩ = some (.int .i64 x.1) := by rw [hW0]; exact new_cell rfl _ _ _ 0
  have x1 : W0.cell? ⟨w.heap.size, 1, none⟩ = some (.int .i64 x.2) := by rw [hW0]; exact new_cell rfl _ _ _ 1
  have yl : w.heap.size < W0.heap.size := by rw [hW0]; simp
  have yf : ¬ Foot g bm (.slice (some ⟨b, 0, none⟩) n cap) w.heap.size := fun q => by have := h.foot_lt q; omega
  rw [← hW0]
  have hrx : Rep n (upd G at_ x) f := by rw [hx, upd_self]; exact hr
  clear hW0 c0 k0 k1 hgl h hr hx hw0 hu
  generalize w.heap.size = y at *
  go_step3
  go_wp2
  go_loopw [1] (fun u wr => ∃ i Gi mi, DownRel w g (.slice (some ⟨b, 0, none⟩) n cap) bm n f x y u wr i Gi mi) (fun u _ => n - (intOf u).toNat)
  case atStart => exact ⟨at_, G, m, rfl, R0, hu2, hrx, hw, hc, T0, x0, x1, yl, yf⟩
  case round =>
    obtain ⟨i, Gi, mi, rfl, R1, hu1, hr1, hw1, hc1, T1, z0, z1, yl1, yf1⟩ := hrel
    clear R0 T0 x0 x1 yl yf hrx hw hc hu2 ha hi hb
    have hil := hu1.lt
    have hx0 : f x.1 = some x.2 := by have := hr1.there i hil; rwa [upd_same] at this
    have c0 := R1.c0
    by_cases h0 : n ≤ 2 * i + 1
    · have hd0 : decide ((n : Int) ≤ 2 * (i : Int) + 1) = true := by simp; omega
      go_wp2_with fail
      refine (lay_any _ g _ bm n Gi mi n i x _ rfl R1 hil (hd _ _ hx0) (by omega) (by omega)).mono ?_
      rintro e w2 ⟨rfl, R2, T2⟩
      rw [bump_all hc1] at R2
      go_wp2
      go_end0
      exact ⟨_, _, rfl, R2, hu1.done (fun c h1 h2 h3 => by omega), hr1, hw1.done hr1 hil, T1.trans T2 fun _ _ q => q⟩
    · have hd0 : decide ((n : Int) ≤ 2 * (i : Int) + 1) = false := by simp; omega
      go_upto_if 48 with fail
      go_cut [48] (fun u48 wc => ∃ t, DownTest wr g (.slice (some ⟨b, 0, none⟩) n cap) bm n i Gi mi u48 wc t)
      case first =>
        have g0 : g < wr.heap.size := R1.glt
        have b0 : b < wr.heap.size := R1.foot_lt (.inr (.inr rfl))
        by_cases h2 : 2 * i + 2 < n
        · have k0 := R1.row.key (j := 2 * i + 1) (by omega)
          have k1 := R1.row.rank (j := 2 * i + 1) (by omega)
          have k2 := R1.row.key h2
          have k3 := R1.row.rank h2
          have e1 : IntKind.i64.wrap (2 * (i : Int) + 1 + 1) = 2 * (i : Int) + 2 := by rw [show 2 * (i : Int) + 1 + 1 = 2 * (i : Int) + 2 from by omega]; exact IntWalk.i64_in _ (by omega)
          have e2 : (2 * (i : Int) + 2).toNat = 2 * i + 2 := by omega
          have e3 : (2 * (i : Int) + 1).toNat = 2 * i + 1 := by omega
          have e4 : 2 * (i : Int) + 2 < (n : Int) := by omega
          have e5 : 0 ≤ 2 * (i : Int) + 2 := by omega
          have e6 : 2 * (i : Int) + 1 < (n : Int) := by omega
          have e7 : 0 ≤ 2 * (i : Int) + 1 := by omega
          refine still_tail 24 (by kernel_rfl) (by kernel_rfl) ?_
          simp only [List.take_succ_cons, List.take_zero, List.drop_succ_cons, List.drop_zero]
          repeat (with_reducible refine still_on (by with_unfolding_all rfl) ?_; intro K hK; go_simp; with_reducible refine hK _ ?_; clear hK K)
          with_reducible refine wpStill_nil ?_
          go_wp2_with fail
          refine (less_any (Gi (2 * i + 2)) (Gi (2 * i + 1)) _).mono ?_
          rintro e w1 ⟨rfl, hb1⟩
          have R2 := R1.drew.below hb1
          have T2 : Turn (fun _ => False) wr w1 := ((Turn.refl _ wr).drew).trans (Turn.of_below (F := fun _ => False) hb1 (fun k hk _ => hk)) (fun _ _ q => q.elim)
          clear k0 k1 k2 k3 c0
          cases hl : lessB (Gi (2 * i + 2)) (Gi (2 * i + 1)) with
          | false =>
            have HL := Lib.hid hl
            clear hl
            go_wp2_with fail
            go_meet
            refine ⟨false, rfl, R2, ⟨by simp, by simp <;> omega, by simp <;> omega, fun c h3 h4 h5 => ?_⟩, T2⟩
            rcases (show c = 2 * i + 1 ∨ c = 2 * i + 2 by omega) with rfl | rfl
            · exact le_refl _
            · exact lessB_false.1 HL.out
          | true =>
            have HL := Lib.hid hl
            clear hl
            go_wp2_with fail
            go_meet
            refine ⟨true, rfl, R2, ⟨by simp, by simp <;> omega, by simp <;> omega, fun c h3 h4 h5 => ?_⟩, T2⟩
            rcases (show c = 2 * i + 1 ∨ c = 2 * i + 2 by omega) with rfl | rfl
            · exact le_of_less HL.out
            · exact le_refl _
        · have hd1 : decide (2 * (i : Int) + 1 + 1 < (n : Int)) = false := by simp; omega
          go_quiet (fail)
          go_wp2_with fail
          go_meet
          refine ⟨false, rfl, R1.drewN _, ⟨by simp, by simp <;> omega, by simp <;> omega, fun c h3 h4 h5 => ?_⟩, (Turn.refl _ wr).drewN _⟩
          obtain rfl : c = 2 * i + 1 := by omega
          exact le_refl _
      case rest =>
        obtain ⟨t, rfl, R2, hch, T2⟩ := hcut
        go_upto_if 48 with fail
        go_cut [5] (fun u5 wd => ∃ k, DownCut wr g (.slice (some ⟨b, 0, none⟩) n cap) bm n x y i Gi mi u5 wd k)
        case first =>
          cases t
          · go_wp2_with fail
            go_meet
            exact ⟨2 * i + 1, by simp, R2, hch, T2⟩
          · go_wp2_with fail
            go_meet
            exact ⟨2 * i + 2, by simp; omega, R2, hch, T2⟩
        clear R2 hch T2
        obtain ⟨k, rfl, R2, hch, T2⟩ := hcut
        obtain ⟨q1, q2, q3, q4⟩ := hch
        have y0 := (cell_turn (i := 0) T2 yl1 (fun q => q)).trans z0
        have y1 := (cell_turn (i := 1) T2 yl1 (fun q => q)).trans z1
        have yl2 := Nat.lt_of_lt_of_le yl1 T2.size
        have T3 := T1.trans T2 fun _ _ q => q.elim
        have hp0 : f (Gi k).1 = some (Gi k).2 := by have := hr1.there k q2; rwa [upd_ne (by omega)] at this
        clear T2 T1 R1 z0 z1 yl1 c0
        have c0 := R2.c0
        have k0 := R2.row.key q2
        have k1 := R2.row.rank q2
        have g0 : g < wc.heap.size := R2.glt
        have e1 : (k : Int) < (n : Int) := by omega
        go_wp2_with fail
        refine still_tail 8 (by kernel_rfl) (by kernel_rfl) ?_
        simp only [List.take_succ_cons, List.take_zero, List.drop_succ_cons, List.drop_zero]
        repeat (with_reducible refine still_on (by with_unfolding_all rfl) ?_; intro K hK; go_simp; with_reducible refine hK _ ?_; clear hK K)
        with_reducible refine wpStill_nil ?_
        go_wp2_with fail
        refine (less_any (Gi k) x _).mono ?_
        rintro e w1 ⟨rfl, hb1⟩
        have R3 := R2.drew.below hb1
        have T4 := T3.drew.trans (Turn.of_below (F := fun _ => False) hb1 (fun k hk _ => hk)) (fun _ _ q => q.elim)
        have y3 : w1.cell? ⟨y, 0, none⟩ = some (.int .i64 x.1) := (hb1.cell (p := ⟨y, 0, none⟩) yl2).trans y0
        have y4 : w1.cell? ⟨y, 1, none⟩ = some (.int .i64 x.2) := (hb1.cell (p := ⟨y, 1, none⟩) yl2).trans y1
        have yl3 : y < w1.heap.size := Nat.lt_of_lt_of_le yl2 hb1.size
        clear k0 k1 c0 g0 hb1 y0 y1 yl2 R2 T3
        have c0 := R3.c0
        have k0 := R3.row.key q2
        have k1 := R3.row.rank q2
        cases hl : lessB (Gi k) x with
        | false =>
          have HL := Lib.hid hl
          clear hl
          go_wp2_with fail
          refine (lay_any _ g _ bm n Gi mi n i x _ rfl R3 hil (hd _ _ hx0) (by omega) (by omega)).mono ?_
          rintro e w2 ⟨rfl, R4, T5⟩
          rw [bump_all hc1] at R4
          go_wp2
          go_end0
          exact ⟨_, _, rfl, R4, hu1.done (fun c h1 h2 h3 => le_trans (lessB_false.1 HL.out) (q4 c h1 h2 h3)), hr1, hw1.done hr1 hil, T4.trans T5 fun _ _ q => q⟩
        | true =>
          have HL := Lib.hid hl
          clear hl
          go_wp2_with fail
          refine (lay_any _ g _ bm n Gi mi n i (Gi k) _ rfl R3 hil (hd _ _ hp0) (by omega) (by omega)).mono ?_
          rintro e w2 ⟨rfl, R4, T5⟩
          rw [bump_has (hw1.has q2 (by omega))] at R4
          have S3 := hu1.step q2 q1 q3 (le_of_less HL.out) q4
          have P3 := hr1.move hil q2 (by omega)
          have W3 := hw1.step hr1 hil q2 (by omega)
          have C3 := hw1.cnt hr1 hil q2 (by omega) hc1
          have y5 := (cell_turn (i := 0) T5 yl3 yf1).trans y3
          have y6 := (cell_turn (i := 1) T5 yl3 yf1).trans y4
          have yl4 := Nat.lt_of_lt_of_le yl3 T5.size
          have T6 := T4.trans T5 fun _ _ q => q
          clear y3 y4 yl3 k0 k1 c0 T4 R3 T5
          go_wp2
          go_roundw
          case rel => exact ⟨k, _, _, rfl, R4, S3, P3, W3, C3, T6, y5, y6, yl4, yf1⟩
          case measure => simp [intOf]; omega
end Go.Proofs.Ytcdlnohnkdalbaa.Hp
namespace Go.Proofs.Ytcdlnohnkdalbaa.Hp
open Go.RowKit Go.Maps Go.Proofs
set_option linter.unusedVariables false
set_option maxRecDepth 100000
set_option linter.unusedSimpArgs false

/-- block g is a heap of n keys that f tells; its own blocks are those of F -/
def HeapIs (w : World) (g : Nat) (F : Nat → Prop) (f : Int → Option Int) (n : Nat) : Prop :=
  ∃ v bm G m, RawH w g v bm n G m n ∧ Ord n G ∧ Rep n G f ∧ Whr m n G ∧ Dom f ∧ F = Foot g bm v
/-- behind a call it is one again; only its own blocks, and what is new, have turned -/
def Next (w : World) (g : Nat) (F : Nat → Prop) (f : Int → Option Int) (n : Nat) (w' : World) : Prop :=
  ∃ F', HeapIs w' g F' f n ∧ (∀ k, F' k → F k ∨ w.heap.size ≤ k) ∧ Turn F w w'

theorem HeapIs.keep {w w' : World} {g n : Nat} {F : Nat → Prop} {f : Int → Option Int} (h : HeapIs w g F f n) (hk : ∀ k, F k → w'.heap[k]? = w.heap[k]?) : HeapIs w' g F f n := by
  obtain ⟨v, bm, G, m, h1, h2, h3, h4, h5, rfl⟩ := h
  exact ⟨v, bm, G, m, h1.keep hk, h2, h3, h4, h5, rfl⟩
theorem HeapIs.lt {w : World} {g n : Nat} {F : Nat → Prop} {f : Int → Option Int} (h : HeapIs w g F f n) {k : Nat} (hk : F k) : k < w.heap.size := by
  obtain ⟨v, bm, G, m, h1, h2, h3, h4, h5, rfl⟩ := h
  exact h1.foot_lt hk
theorem HeapIs.turn {w w' : World} {g n : Nat} {F F2 : Nat → Prop} {f : Int → Option Int} (h : HeapIs w g F f n) (ht : Turn F2 w w') (hd : ∀ k, F k → ¬ F2 k) : HeapIs w' g F f n :=
  h.keep fun k hk => ht.block k (h.lt hk) (hd k hk)
theorem HeapIs.below {w w' : World} {g n : Nat} {F : Nat → Prop} {f : Int → Option Int} (h : HeapIs w g F f n) (hb : Below w.heap.size w w') : HeapIs w' g F f n :=
  h.keep fun k hk => hb.block k (h.lt hk)
theorem HeapIs.le {w : World} {g n : Nat} {F : Nat → Prop} {f : Int → Option Int} (h : HeapIs w g F f n) : n ≤ 300 := by
  obtain ⟨v, bm, G, m, h1, h2, h3, h4, h5, rfl⟩ := h
  exact h3.le h5

def Key (k : Int) : Prop := 0 ≤ k ∧ k < 300

theorem place_out (w : World) (g : Nat) (key : Int) (hk : ¬ Key key) :
    Calls Try.prog 74 #[.pointer (some ⟨g, 0, none⟩), .int .i64 key] w fun e w' => e = .returned (.int .i64 (-1)) ∧ w = w' := by
  unfold Key at hk
  by_cases h0 : key < 0
  · have d0 : decide (key < 0) = true := by simpa using h0
    go_enter Try.func74, Try.ntmps74
    go_wp2
    go_ret
    exact ⟨rfl, rfl⟩
  · have d0 : decide (key < 0) = false := by simpa using h0
    have d1 : 300 ≤ key := by omega
    go_enter Try.func74, Try.ntmps74
    go_wp2
    go_ret
    exact ⟨rfl, rfl⟩

theorem place_in (w : World) (g : Nat) (v : Value) (bm n : Nat) (G : Nat → It) (m : Int → Option Int) (s : Nat) (key : Int) (h : RawH w g v bm n G m s) (hk : Key key) :
    Calls Try.prog 74 #[.pointer (some ⟨g, 0, none⟩), .int .i64 key] w fun e w' => e = .returned (.int .i64 ((m key).getD (-1))) ∧ w = w' := by
  have d0 : decide (key < 0) = false := by have := hk.1; simp; omega
  have d1 : decide (300 ≤ key) = false := by have := hk.2; simp; omega
  have c1 := h.c1
  have hz : (zeroValue 3).run Try.prog w = .ok (.int .i64 0) w := by kernel_rfl
  cases hm : m key with
  | none =>
    have HM := Lib.hid hm
    clear hm
    go_enter Try.func74, Try.ntmps74
    go_wp2_with (first | (at_lookup; refine wpList_get (P := Try.prog) (K := 3) _ rfl _ _ 101 rfl Try.underlying3 Try.underlying101 hz bm s m rfl h.map key rfl (small_key hk) ?_; rw [HM.out]))
    go_ret
    exact ⟨rfl, rfl⟩
  | some u =>
    have HM := Lib.hid hm
    clear hm
    go_enter Try.func74, Try.ntmps74
    go_wp2_with (first | (at_lookup; refine wpList_get (P := Try.prog) (K := 3) _ rfl _ _ 101 rfl Try.underlying3 Try.underlying101 hz bm s m rfl h.map key rfl (small_key hk) ?_; rw [HM.out]))
    go_ret
    exact ⟨rfl, rfl⟩

theorem put_out (w : World) (g : Nat) (key rank : Int) (hk : ¬ Key key) :
    Calls Try.prog 62 #[.pointer (some ⟨g, 0, none⟩), .int .i64 key, .int .i64 rank] w fun e w' => e = .returned (.bool false) ∧ w = w' := by
  unfold Key at hk
  by_cases h0 : key < 0
  · have d0 : decide (key < 0) = true := by simpa using h0
    go_enter Try.func62, Try.ntmps62
    go_wp2
    go_ret
    exact ⟨rfl, rfl⟩
  · have d0 : decide (key < 0) = false := by simpa using h0
    have d1 : 300 ≤ key := by omega
    go_enter Try.func62, Try.ntmps62
    go_wp2
    go_ret
    exact ⟨rfl, rfl⟩

def PutPost (w : World) (g : Nat) (F : Nat → Prop) (f : Int → Option Int) (n : Nat) (e : Ending) (w' : World) : Prop := e = .returned (.bool true) ∧ Next w g F f n w'

theorem put_old (w : World) (g : Nat) (v : Value) (bm n : Nat) (G : Nat → It) (m : Int → Option Int) (f : Int → Option Int) (j : Nat) (key rank : Int) (h : RawH w g v bm n G m n) (ho : Ord n G) (hr : Rep n G f) (hw : Whr m n G) (hd : Dom f)
    (hk : Key key) (hj : j < n) (hm : m key = some (j : Int)) (hg : (G j).1 = key) :
    Calls Try.prog 62 #[.pointer (some ⟨g, 0, none⟩), .int .i64 key, .int .i64 rank] w (PutPost w g (Foot g bm v) (upd f key (some rank)) n) := by
  have d0 : decide (key < 0) = false := by have := hk.1; simp; omega
  have d1 : decide (300 ≤ key) = false := by have := hk.2; simp; omega
  obtain ⟨b, cap, rfl, hb⟩ := h.row.form (by omega)
  have hn := hr.le hd
  have c0 := h.c0
  have k0 := h.row.key hj
  have k1 := h.row.rank hj
  have f0 := h.row.frozen (j * 2)
  have f1 := h.row.frozen (j * 2 + 1)
  have hi : (j : Int) < (n : Int) := by omega
  have HM := Lib.hid hm
  have HG := Lib.hid hg
  clear hm hg
  go_enter Try.func62, Try.ntmps62
  go_wp2_with fail
  refine (place_in _ g _ bm n G m n key h hk).mono ?_
  rintro e w1 ⟨rfl, rfl⟩
  rw [HM.out]
  simp only [Option.getD_some]
  go_wp2_with fail
  obtain ⟨W, hW⟩ : ∃ W, W = (w.setCell ⟨b, j * 2, none⟩ (.int .i64 key)).setCell ⟨b, j * 2 + 1, none⟩ (.int .i64 rank) := ⟨_, rfl⟩
  have R2 : RawH W g (.slice (some ⟨b, 0, none⟩) n cap) bm n (upd G j (key, rank)) m n := by rw [hW]; exact h.store hj (key, rank)
  have T2 : Turn (Foot g bm (.slice (some ⟨b, 0, none⟩) n cap)) w W := by
    rw [hW]; exact ((Turn.refl _ _).setCell (.inl (.inr (.inr rfl))) _).setCell (.inl (.inr (.inr rfl))) _
  rw [← hW]
  clear hW k0 k1 f0 f1 c0
  have hr2 : Rep n (upd G j (key, rank)) (upd f key (some rank)) := by have := hr.anew hj rank; rw [HG.out] at this; exact this
  have hw2 : WhrH m n (upd G j (key, rank)) j (key, rank) := by have := hw.anew hj rank; rw [HG.out] at this; exact this
  have hd2 : Dom (upd f key (some rank)) := hd.put hk rank
  refine (up_any W g _ bm n _ m n j _ R2 (ho.hole hj _) hr2 (by rw [upd_same]; exact hw2) (by rw [upd_same]; unfold cnt; rw [HM.out]; rfl) hd2).mono ?_
  rintro e w2 ⟨i, G3, m3, rfl, R3, D3, P3, W3, T3⟩
  go_wp2_with fail
  refine (down_any w2 g _ bm n G3 m3 i _ R3 D3 P3 W3 hd2).mono ?_
  rintro e w3 ⟨G4, m4, rfl, R4, D4, P4, W4, T4⟩
  go_wp2
  go_ret
  exact ⟨rfl, _, ⟨_, _, _, _, R4, D4, P4, W4, hd2, rfl⟩, fun k q => .inl q, (T2.trans T3 fun _ _ q => q).trans T4 fun _ _ q => q⟩

theorem put_new (w : World) (g : Nat) (v : Value) (bm n : Nat) (G : Nat → It) (m : Int → Option Int) (f : Int → Option Int) (key rank : Int) (h : RawH w g v bm n G m n) (ho : Ord n G) (hr : Rep n G f) (hw : Whr m n G) (hd : Dom f)
    (hk : Key key) (hm : m key = none) (hf : f key = none) :
    Calls Try.prog 62 #[.pointer (some ⟨g, 0, none⟩), .int .i64 key, .int .i64 rank] w (PutPost w g (Foot g bm v) (upd f key (some rank)) (n + 1)) := by
  have d0 : decide (key < 0) = false := by have := hk.1; simp; omega
  have d1 : decide (300 ≤ key) = false := by have := hk.2; simp; omega
  have hn := hr.le hd
  have c0 := h.c0
  have hgl := h.glt
  have HM := Lib.hid hm
  clear hm
  have hinfo : (Try.prog.info? 87).map (fun i => (i.zero, i.size, i.bytes)) = some (some (.agg #[.int .i64 0, .int .i64 0]), 2, 16) := by kernel_rfl
  obtain ⟨v, rfl⟩ : ∃ u, u = v := ⟨_, rfl⟩
  obtain ⟨len, cap, ad, hv, hlen⟩ : ∃ (len cap : Nat) (ad : Option Addr), v = .slice ad len cap ∧ len = n := by
    obtain ⟨xs, ⟨_, h1⟩, _⟩ := h.row
    rcases h1 with ⟨rfl, rfl⟩ | ⟨b', cap', cur, rfl, _⟩
    · exact ⟨_, _, _, rfl, rfl⟩
    · exact ⟨_, _, _, rfl, rfl⟩
  subst hlen
  have hrow := h.row
  subst hv
  go_enter Try.func62, Try.ntmps62
  go_wp2_with fail
  refine (place_in _ g _ bm _ G m _ key h hk).mono ?_
  rintro e w1 ⟨rfl, rfl⟩
  rw [HM.out]
  simp only [Option.getD_none]
  have hrow2 : RowIs 87 (w.alloc (.cells #[.int .i64 0, .int .i64 0] 87)) (.slice ad len cap) len G := hrow.keep (fun k hk => Below.heap_alloc _ _ k (hrow.lt hk))
  have n0 : (w.alloc (.cells #[.int .i64 0, .int .i64 0] 87)).cell? ⟨w.heap.size, 0, none⟩ = some (.int .i64 0) := new_cell rfl _ _ _ 0
  have n1 : (w.alloc (.cells #[.int .i64 0, .int .i64 0] 87)).cell? ⟨w.heap.size, 1, none⟩ = some (.int .i64 0) := new_cell rfl _ _ _ 1
  have R1 := h.alloc (.cells #[.int .i64 0, .int .i64 0] 87)
  have T1 := (Turn.refl (Foot g bm (.slice ad len cap)) w).alloc (.cells #[.int .i64 0, .int .i64 0] 87)
  have nz : (w.alloc (.cells #[.int .i64 0, .int .i64 0] 87)).heap.size = w.heap.size + 1 := by simp
  have NZ := Lib.hid nz
  clear nz
  go_upto_region 7 with (at_builtin; go_must (refine wpList_grow (P := Try.prog) (E := 87) rfl _ _ 102 rfl Try.underlying102 hinfo (.slice ad len cap) len G rfl hrow2 ⟨w.heap.size, 0, none⟩ 1 0 0 rfl n0 n1 (by omega) ?_); intro b' c' w1 hrow1 hg1 hloc; clear n0 n1 c0; have c0 := hg1.cell_far ⟨g, 0, none⟩ R1.glt (fun e => R1.gv e.symm); rw [R1.c0] at c0; have f0 := hg1.frozen_far ⟨g, 0, none⟩ R1.glt (fun e => R1.gv e.symm); rw [R1.f 0] at f0; have R2 := R1.grow hg1 hrow1)
  have T2 : Turn (Foot g bm (.slice ad len cap)) w (w1.setCell ⟨g, 0, none⟩ (.slice (some ⟨b', 0, none⟩) (len + 1) c')) :=
    (T1.grown hg1 (fun k hk => .inl (.inr (.inr hk)))).setCell (.inl (.inl rfl)) _
  have hb2 : Foot g bm (.slice ad len cap) b' ∨ w.heap.size ≤ b' := by
    rcases hloc with e | e
    · exact .inl (.inr (.inr e.symm))
    · rw [NZ.out] at e; omega
  obtain ⟨W2, hW2⟩ : ∃ W, W = w1.setCell ⟨g, 0, none⟩ (.slice (some ⟨b', 0, none⟩) (len + 1) c') := ⟨_, rfl⟩
  rw [← hW2] at R2 T2 ⊢
  clear hW2 hg1 hloc hrow1 c0 f0 R1 T1 hrow hrow2 h NZ
  have c0 := R2.c0
  have k0 := R2.row.key (j := len) (by omega)
  have k1 := R2.row.rank (j := len) (by omega)
  have f0 := R2.row.frozen (len * 2)
  have f1 := R2.row.frozen (len * 2 + 1)
  have hi : (len : Int) < (len + 1 : Nat) := by omega
  go_wp2_with fail
  obtain ⟨W3, hW3⟩ : ∃ W, W = (W2.setCell ⟨b', len * 2, none⟩ (.int .i64 key)).setCell ⟨b', len * 2 + 1, none⟩ (.int .i64 rank) := ⟨_, rfl⟩
  have R3 : RawH W3 g (.slice (some ⟨b', 0, none⟩) (len + 1) c') bm (len + 1) (upd (upd G len (0, 0)) len (key, rank)) m len := by rw [hW3]; exact R2.store (by omega) (key, rank)
  have T3 : Turn (Foot g bm (.slice ad len cap)) w W3 := by
    rw [hW3]; exact (T2.setCell (by simpa using hb2) _).setCell (by simpa using hb2) _
  rw [← hW3]
  clear hW3 k0 k1 f0 f1 c0
  have eg : upd (upd G len (0, 0)) len (key, rank) = upd G len (key, rank) := by funext j; unfold upd; split <;> rfl
  rw [eg] at R3
  have hd2 : Dom (upd f key (some rank)) := hd.put hk rank
  refine (up_any W3 g _ bm (len + 1) _ m len len _ R3 (ho.grow _) (hr.grow hf rank) (by rw [upd_same]; exact hw.grow key rank) (by rw [upd_same]; unfold cnt; rw [HM.out]; rfl) hd2).mono ?_
  rintro e w2 ⟨i, G3, m3, rfl, R4, D4, P4, W4, T4⟩
  go_wp2_with fail
  refine (down_any w2 g _ bm (len + 1) G3 m3 i _ R4 D4 P4 W4 hd2).mono ?_
  rintro e w3 ⟨G5, m5, rfl, R5, D5, P5, W5, T5⟩
  go_wp2
  go_ret
  have hF : ∀ k, k < w.heap.size → Foot g bm (.slice (some ⟨b', 0, none⟩) (len + 1) c') k → Foot g bm (.slice ad len cap) k := by
    rintro k hk (q | q | q)
    · exact .inl q
    · exact .inr (.inl q)
    · simp [Value.ownBlock] at q; subst q
      rcases hb2 with hb2 | hb2
      · exact hb2
      · omega
  refine ⟨rfl, _, ⟨_, _, _, _, R5, D5, P5, W5, hd2, rfl⟩, fun k q => ?_, (T3.trans T4 hF).trans T5 hF⟩
  rcases Nat.lt_or_ge k w.heap.size with hk | hk
  · exact .inl (hF k hk q)
  · exact .inr hk
end Go.Proofs.Ytcdlnohnkdalbaa.Hp
namespace Go.Proofs.Ytcdlnohnkdalbaa.Hp
open Go.RowKit Go.Maps Go.Proofs
set_option linter.unusedVariables false
set_option maxRecDepth 100000
set_option linter.unusedSimpArgs false

theorem put_any (w : World) (g : Nat) (F : Nat → Prop) (f : Int → Option Int) (n : Nat) (key rank : Int) (h : HeapIs w g F f n) (hk : Key key) :
    Calls Try.prog 62 #[.pointer (some ⟨g, 0, none⟩), .int .i64 key, .int .i64 rank] w (PutPost w g F (upd f key (some rank)) (bump f key n)) := by
  obtain ⟨v, bm, G, m, h1, h2, h3, h4, h5, rfl⟩ := h
  rcases h4.find h3 key with ⟨hm, hf⟩ | ⟨j, hj, hm, hg, hf⟩
  · have e : bump f key n = n + 1 := by unfold bump; rw [hf]; rfl
    rw [e]
    exact put_new w g v bm n G m f key rank h1 h2 h3 h4 h5 hk hm hf
  · have e : bump f key n = n := by unfold bump; rw [hf]; rfl
    rw [e]
    exact put_old w g v bm n G m f j key rank h1 h2 h3 h4 h5 hk hj hm hg

def LeastIs (f : Int → Option Int) (n : Nat) (x : It) (is : Bool) : Prop := (0 < n ∧ is = true ∧ Least f x) ∨ (n = 0 ∧ is = false ∧ x = (0, 0))
def agg2 (x : It) : Value := .agg #[.int .i64 x.1, .int .i64 x.2]
def LeastPost (w : World) (f : Int → Option Int) (n : Nat) (e : Ending) (w' : World) : Prop :=
  ∃ x is, e = .returned (.tuple #[.agg #[.int .i64 x.1, .int .i64 x.2], .bool is]) ∧ LeastIs f n x is ∧ Below w.heap.size w w'

theorem least_any (w : World) (g : Nat) (F : Nat → Prop) (f : Int → Option Int) (n : Nat) (h : HeapIs w g F f n) :
    Calls Try.prog 77 #[.pointer (some ⟨g, 0, none⟩)] w (LeastPost w f n) := by
  obtain ⟨v, bm, G, m, h1, h2, h3, h4, h5, rfl⟩ := h
  have hn := h3.le h5
  have c0 := h1.c0
  have hgl := h1.glt
  by_cases h0 : n = 0
  · subst h0
    obtain ⟨cap, ad, hv⟩ : ∃ (cap : Nat) (ad : Option Addr), v = .slice ad 0 cap := by
      obtain ⟨xs, ⟨_, h1⟩, _⟩ := h1.row
      rcases h1 with ⟨rfl, _⟩ | ⟨b', cap', cur, rfl, _⟩
      · exact ⟨_, _, rfl⟩
      · exact ⟨_, _, rfl⟩
    subst hv
    go_enter Try.func77, Try.ntmps77
    go_wp2
    exact bodyPost_ret (v := .tuple #[.agg #[.int .i64 0, .int .i64 0], .bool false]) (by simp [results, Try.results77, go_sem]) rfl ⟨(0, 0), false, rfl, .inr ⟨rfl, rfl, rfl⟩, (Below.refl _ _).alloc (Nat.le_refl _) _⟩
  · obtain ⟨b, cap, rfl, hb⟩ := h1.row.form (by omega)
    have k0 := h1.row.key (j := 0) (by omega)
    have k1 := h1.row.rank (j := 0) (by omega)
    have d0 : ((n : Int) == 0) = false := by simp; omega
    have hi : (0 : Int) < (n : Int) := by omega
    simp only [Nat.zero_mul] at k0 k1
    have hL := h3.least h2 (by omega)
    obtain ⟨x, hx⟩ : ∃ x, x = G 0 := ⟨_, rfl⟩
    rw [← hx] at k0 k1 hL
    clear hx
    go_enter Try.func77, Try.ntmps77
    go_wp2
    exact bodyPost_ret (v := .tuple #[.agg #[.int .i64 x.1, .int .i64 x.2], .bool true]) (by simp [results, Try.results77, go_sem]) rfl ⟨x, true, rfl, .inl ⟨by omega, rfl, hL⟩, (Below.refl _ _).alloc (Nat.le_refl _) _⟩

def NewPost (w : World) (e : Ending) (w' : World) : Prop := ∃ g F, e = .returned (.pointer (some ⟨g, 0, none⟩)) ∧ HeapIs w' g F (fun _ => none) 0 ∧ (∀ k, F k → w.heap.size ≤ k) ∧ Below w.heap.size w w'
theorem new_any (w : World) : Calls Try.prog 61 #[] w (NewPost w) := by
  have hmm := @run_makeMap Try.prog
  go_enter Try.func61, Try.ntmps61
  go_wp2
  go_ret
  refine ⟨_, _, rfl, ⟨.slice none 0 0, w.heap.size, fun _ => (0, 0), fun _ => none, ⟨?_, RowIs.nil _ _ _, ?_, by decide⟩, fun c h1 h2 => by omega, Rep.empty, ⟨fun j hj => by omega, fun k v h => by simp at h⟩, fun k r h => by simp at h, rfl⟩, ?_, ?_⟩
  · rw [show w.heap.size + 1 = (w.alloc (.map #[] 0)).heap.size from by simp]; exact heap_alloc_new _ _
  · exact (MapIs.new _ _ w).keep (Below.heap_alloc _ _ _ (by simp))
  · rintro k (rfl | rfl | q)
    · simp
    · exact Nat.le_refl _
    · simp [Value.ownBlock] at q
  · exact ((Below.refl _ _).alloc (Nat.le_refl _) _).alloc (by simp) _

end Go.Proofs.Ytcdlnohnkdalbaa.Hp
namespace Go.Proofs.Ytcdlnohnkdalbaa.Hp
open Go.RowKit Go.Maps Go.Proofs
set_option linter.unusedVariables false
set_option maxRecDepth 100000
set_option linter.unusedSimpArgs false

theorem drop_no (w : World) (g : Nat) (F : Nat → Prop) (f : Int → Option Int) (n : Nat) (key : Int) (h : HeapIs w g F f n) (hf : f key = none) :
    Calls Try.prog 78 #[.pointer (some ⟨g, 0, none⟩), .int .i64 key] w fun e w' => e = .returned (.bool false) ∧ w = w' := by
  obtain ⟨v, bm, G, m, h1, h2, h3, h4, h5, rfl⟩ := h
  by_cases hk : Key key
  · rcases h4.find h3 key with ⟨hm, _⟩ | ⟨j, hj, hm, hg, hf2⟩
    · have HM := Lib.hid hm
      clear hm hf
      go_enter Try.func78, Try.ntmps78
      go_wp2_with fail
      refine (place_in _ g _ bm _ G m _ key h1 hk).mono ?_
      rintro e w1 ⟨rfl, rfl⟩
      rw [HM.out]
      simp only [Option.getD_none]
      go_wp2
      go_ret
      exact ⟨rfl, rfl⟩
    · rw [hf] at hf2; simp at hf2
  · clear hf
    go_enter Try.func78, Try.ntmps78
    go_wp2_with fail
    refine (place_out _ g key hk).mono ?_
    rintro e w1 ⟨rfl, rfl⟩
    go_wp2
    go_ret
    exact ⟨rfl, rfl⟩

set_option maxHeartbeats 800000 in
theorem drop_yes (w : World) (g : Nat) (v : Value) (bm n : Nat) (G : Nat → It) (m : Int → Option Int) (f : Int → Option Int) (j : Nat) (key : Int) (h : RawH w g v bm (n + 1) G m (n + 1)) (ho : Ord (n + 1) G) (hr : Rep (n + 1) G f) (hw : Whr m (n + 1) G) (hd : Dom f)
    (hk : Key key) (hj : j < n + 1) (hm : m key = some (j : Int)) (hg : (G j).1 = key) :
    Calls Try.prog 78 #[.pointer (some ⟨g, 0, none⟩), .int .i64 key] w (PutPost w g (Foot g bm v) (upd f key none) n) := by
  obtain ⟨b, cap, rfl, hb⟩ := h.row.form (by omega)
  have hn := hr.le hd
  have c0 := h.c0
  have hgl := h.glt
  have k0 := h.row.key (j := n) (by omega)
  have k1 := h.row.rank (j := n) (by omega)
  have HM := Lib.hid hm
  have HG := Lib.hid hg
  have e1 : (((n + 1 : Nat) : Int) - 1) = (n : Int) := by omega
  have e2 : IntKind.i64.wrap (((n + 1 : Nat) : Int) - 1) = (n : Int) := by rw [e1]; exact IntWalk.i64_in _ (by omega)
  have e3 : (n : Int) < ((n + 1 : Nat) : Int) := by omega
  clear hm hg
  go_enter Try.func78, Try.ntmps78
  go_wp2_with fail
  refine (place_in _ g _ bm _ G m _ key h hk).mono ?_
  rintro e w1 ⟨rfl, rfl⟩
  rw [HM.out]
  simp only [Option.getD_some]
  go_wp2_with fail
  go_region
  go_wp2_with fail
  obtain ⟨x, hx⟩ : ∃ x, x = G n := ⟨_, rfl⟩
  obtain ⟨W1, hW1⟩ : ∃ W, W = (w.alloc (.cells #[.int .i64 x.1, .int .i64 x.2] 87)).drew := ⟨_, rfl⟩
  rw [← hx]
  rw [← hW1]
  have R1 : RawH W1 g (.slice (some ⟨b, 0, none⟩) (n + 1) cap) bm (n + 1) G m (n + 1) := by rw [hW1]; exact (h.alloc _).drew
  have T1 : Turn (Foot g bm (.slice (some ⟨b, 0, none⟩) (n + 1) cap)) w W1 := by rw [hW1]; exact ((Turn.refl _ _).alloc _).drew
  have x0 : W1.cell? ⟨w.heap.size, 0, none⟩ = some (.int .i64 x.1) := by rw [hW1]; exact new_cell rfl _ _ _ 0
  have x1 : W1.cell? ⟨w.heap.size, 1, none⟩ = some (.int .i64 x.2) := by rw [hW1]; exact new_cell rfl _ _ _ 1
  have yl : w.heap.size < W1.heap.size := by rw [hW1]; simp
  have yf : ¬ Foot g bm (.slice (some ⟨b, 0, none⟩) (n + 1) cap) w.heap.size := fun q => by have := h.foot_lt q; omega
  clear hW1 c0 k0 k1 hgl h hb e1
  generalize w.heap.size = y at *
  have HX := Lib.hid hx
  clear hx
  have c0 := R1.c0
  have f0 := R1.f 0
  have hgl := R1.glt
  obtain ⟨_, _, hcap⟩ := R1.row.blk
  have e4 : IntKind.i64.wrap (n : Int) = (n : Int) := IntWalk.i64_in _ (by omega)
  have e5 : (n : Int) ≤ (cap : Int) := by omega
  go_region
  go_upto_region 6 with fail
  obtain ⟨W2, hW2⟩ : ∃ W, W = (W1.setCell ⟨g, 0, none⟩ (.slice (some ⟨b, 0, none⟩) n cap)).drew := ⟨_, rfl⟩
  rw [← hW2]
  have R2 : RawH W2 g (.slice (some ⟨b, 0, none⟩) n cap) bm n G m (n + 1) := by rw [hW2]; exact R1.pop.drew
  have T2 : Turn (Foot g bm (.slice (some ⟨b, 0, none⟩) (n + 1) cap)) w W2 := by rw [hW2]; exact (T1.setCell (.inl (.inl rfl)) _).drew
  have gy : y ≠ g := fun e => yf (.inl e)
  have x2 : W2.cell? ⟨y, 0, none⟩ = some (.int .i64 x.1) := by rw [hW2]; exact (World.cell?_of_block (w := W1) (Below.heap_setCell _ _ _ _ gy)).trans x0
  have x3 : W2.cell? ⟨y, 1, none⟩ = some (.int .i64 x.2) := by rw [hW2]; exact (World.cell?_of_block (w := W1) (Below.heap_setCell _ _ _ _ gy)).trans x1
  have yl2 : y < W2.heap.size := by rw [hW2]; simpa [World.setCell] using yl
  clear hW2 c0 f0 hgl e4 e5 e2 e3 R1 T1 x0 x1 yl
  have hd2 : Dom (upd f key none) := hd.drop key
  have hF : ∀ k, Foot g bm (.slice (some ⟨b, 0, none⟩) n cap) k → Foot g bm (.slice (some ⟨b, 0, none⟩) (n + 1) cap) k := fun k q => q
  have c0 := R2.c0
  have c1 := R2.c1
  by_cases h0 : n = 0
  · subst h0
    go_wp2_with (refine wpList_clear (P := Try.prog) (K := 3) _ rfl _ 101 rfl Try.underlying101 bm 1 m rfl R2.map ?_; intro w1 hm1 ht1)
    go_ret
    have r2 := (hr.drop hj).zero (g' := G)
    rw [HG.out] at r2
    exact ⟨rfl, _, ⟨_, _, _, _, R2.put hm1 ht1, fun c h1 h2 => by omega, r2, ⟨fun j hj => by omega, fun k v h => by simp at h⟩, hd2, rfl⟩, fun k q => .inl (hF k q), T2.map ht1 (.inl (.inr (.inl rfl)))⟩
  · have d0 : ((n : Int) == 0) = false := by simp; omega
    have hsome : less1 m key (n + 1) = n := by unfold less1; rw [HM.out]; rfl
    by_cases hl : j = n
    · subst hl
      have d1 : decide ((j : Int) < (j : Int)) = false := by simp
      go_wp2_with (at_delete; refine wpList_strike (P := Try.prog) (K := 3) _ rfl _ _ 101 rfl Try.underlying3 Try.underlying101 bm (j + 1) m rfl R2.map key rfl (small_key hk) ?_; intro w1 hm1 ht1; rw [hsome] at hm1; have c2 := (R2.put hm1 ht1).c0)
      go_ret
      have r2 := hr.drop_last
      rw [HG.out] at r2
      have w2 := hw.drop_last hr
      rw [HG.out] at w2
      exact ⟨rfl, _, ⟨_, _, _, _, R2.put hm1 ht1, ho.less (by omega), r2, w2, hd2, rfl⟩, fun k q => .inl (hF k q), T2.map ht1 (.inl (.inr (.inl rfl)))⟩
    · have hjn : j < n := by omega
      have d1 : decide ((j : Int) < (n : Int)) = true := by simp; omega
      go_upto_region 11 with (at_delete; refine wpList_strike (P := Try.prog) (K := 3) _ rfl _ _ 101 rfl Try.underlying3 Try.underlying101 bm (n + 1) m rfl R2.map key rfl (small_key hk) ?_; intro w1 hm1 ht1; rw [hsome] at hm1; have c2 := (R2.put hm1 ht1).c0)
      have R3 := R2.put hm1 ht1
      have T3 := T2.map ht1 (.inl (.inr (.inl rfl)))
      have yb : y ≠ bm := fun e => yf (.inr (.inl e))
      have hg1 := ht1.grown
      have x4 : w1.cell? ⟨y, 0, none⟩ = some (.int .i64 x.1) := (hg1.cell_far ⟨y, 0, none⟩ yl2 (by intro e; injection e with e; exact yb e)).trans x2
      have x5 : w1.cell? ⟨y, 1, none⟩ = some (.int .i64 x.2) := (hg1.cell_far ⟨y, 1, none⟩ yl2 (by intro e; injection e with e; exact yb e)).trans x3
      clear x2 x3 hg1 ht1 hm1 R2 T2 c0 c1 yl2
      have k0 := R3.row.key hjn
      have k1 := R3.row.rank hjn
      have f0 := R3.row.frozen (j * 2)
      have f1 := R3.row.frozen (j * 2 + 1)
      have e6 : (j : Int) < (n : Int) := by omega
      refine still_tail 7 (by kernel_rfl) (by kernel_rfl) ?_
      simp only [List.take_succ_cons, List.take_zero, List.drop_succ_cons, List.drop_zero]
      repeat (with_reducible refine still_on (by with_unfolding_all rfl) ?_; intro K hK; go_simp; with_reducible refine hK _ ?_; clear hK K)
      with_reducible refine wpStill_nil ?_
      go_wp2_with fail
      obtain ⟨W3, hW3⟩ : ∃ W, W = ((w1.setCell ⟨b, j * 2, none⟩ (.int .i64 x.1)).setCell ⟨b, j * 2 + 1, none⟩ (.int .i64 x.2)).drew := ⟨_, rfl⟩
      have R4 : RawH W3 g (.slice (some ⟨b, 0, none⟩) n cap) bm n (upd G j x) (upd m key none) n := by rw [hW3]; exact (R3.store hjn x).drew
      have T4 : Turn (Foot g bm (.slice (some ⟨b, 0, none⟩) (n + 1) cap)) w W3 := by
        rw [hW3]; exact ((T3.setCell (p := ⟨b, j * 2, none⟩) (.inl (.inr (.inr rfl))) _).setCell (p := ⟨b, j * 2 + 1, none⟩) (.inl (.inr (.inr rfl))) _).drew
      rw [← hW3]
      clear hW3 k0 k1 f0 f1 c2 x4 x5
      have r2 := hr.drop hj
      have w2 := hw.drop hr hjn
      rw [HG.out, ← HX.out] at r2 w2
      have o2 : HoleUp n (upd G j x) j := (ho.less (m := n) (by omega)).hole hjn x
      have ce : cnt (upd m key none) (upd G j x j) n n := by
        rw [upd_same]
        unfold cnt
        have hn0 := hw.at_ n (by omega)
        have hne : x.1 ≠ key := by
          rw [HX.out, ← HG.out]
          intro e
          have := hr.apart n j (by omega) hj e
          omega
        rw [upd_ne hne, HX.out, hn0]; rfl
      refine (up_any W3 g _ bm n _ _ n j _ R4 o2 r2 (by rw [upd_same]; exact w2) ce hd2).mono ?_
      rintro e w2 ⟨i, G3, m3, rfl, R5, D5, P5, W5, T5⟩
      go_wp2_with fail
      refine (down_any w2 g _ bm n G3 m3 i _ R5 D5 P5 W5 hd2).mono ?_
      rintro e w3 ⟨G6, m6, rfl, R6, D6, P6, W6, T6⟩
      go_wp2
      go_ret
      exact ⟨rfl, _, ⟨_, _, _, _, R6, D6, P6, W6, hd2, rfl⟩, fun k q => .inl (hF k q), (T4.trans T5 fun k _ q => hF k q).trans T6 fun k _ q => hF k q⟩

theorem drop_any (w : World) (g : Nat) (F : Nat → Prop) (f : Int → Option Int) (n : Nat) (key r : Int) (h : HeapIs w g F f n) (hf : f key = some r) :
    Calls Try.prog 78 #[.pointer (some ⟨g, 0, none⟩), .int .i64 key] w (PutPost w g F (upd f key none) (n - 1)) := by
  obtain ⟨v, bm, G, m, h1, h2, h3, h4, h5, rfl⟩ := h
  rcases h4.find h3 key with ⟨_, hf2⟩ | ⟨j, hj, hm, hg, _⟩
  · rw [hf] at hf2; simp at hf2
  · obtain ⟨n, rfl⟩ : ∃ k, n = k + 1 := ⟨n - 1, by omega⟩
    exact drop_yes w g v bm n G m f j key h1 h2 h3 h4 h5 (h5 _ _ hf) hj hm hg

end Go.Proofs.Ytcdlnohnkdalbaa.Hp
namespace Go.Proofs.Ytcdlnohnkdalbaa.Hp
open Go.RowKit Go.Maps Go.Proofs
set_option linter.unusedVariables false
set_option maxRecDepth 100000
set_option linter.unusedSimpArgs false

def TakePost (w : World) (g : Nat) (F : Nat → Prop) (f : Int → Option Int) (n : Nat) (e : Ending) (w' : World) : Prop :=
  ∃ x is, e = .returned (.tuple #[.agg #[.int .i64 x.1, .int .i64 x.2], .bool is]) ∧ LeastIs f n x is ∧ Next w g F (if is then upd f x.1 none else f) (n - 1) w'

theorem take_any (w : World) (g : Nat) (F : Nat → Prop) (f : Int → Option Int) (n : Nat) (h : HeapIs w g F f n) :
    Calls Try.prog 63 #[.pointer (some ⟨g, 0, none⟩)] w (TakePost w g F f n) := by
  go_enter Try.func63, Try.ntmps63
  go_wp2_with fail
  have hB0 : Below w.heap.size w (w.alloc (.cells #[.int .i64 0, .int .i64 0] 87)) := (Below.refl _ _).alloc (Nat.le_refl _) _
  have hz0 : (w.alloc (.cells #[.int .i64 0, .int .i64 0] 87)).heap.size = w.heap.size + 1 := by simp
  have HZ0 := Lib.hid hz0
  clear hz0
  have h0 := h.below hB0
  refine (least_any _ g F f n h0).mono ?_
  rintro e w1 ⟨x, is, rfl, hL, hb1⟩
  have h1 := h0.below hb1
  have r0 := hb1.cell (p := ⟨w.heap.size, 0, none⟩) (by rw [HZ0.out]; exact Nat.lt_succ_self _)
  have r1 := hb1.cell (p := ⟨w.heap.size, 1, none⟩) (by rw [HZ0.out]; exact Nat.lt_succ_self _)
  have r2 := hb1.frozen (p := ⟨w.heap.size, 0, none⟩) (by rw [HZ0.out]; exact Nat.lt_succ_self _)
  have r3 := hb1.frozen (p := ⟨w.heap.size, 1, none⟩) (by rw [HZ0.out]; exact Nat.lt_succ_self _)
  have r4 : w.heap.size < w1.heap.size := Nat.lt_of_lt_of_le (by rw [HZ0.out]; exact Nat.lt_succ_self _) hb1.size
  have T1 : Turn F w w1 := (Turn.of_below hB0 (fun k hk _ => hk)).trans (Turn.of_below (F := fun _ => False) hb1 (fun k hk _ => hk)) (fun _ _ q => q.elim)
  rcases hL with ⟨hn, rfl, hl⟩ | ⟨rfl, rfl, rfl⟩
  · have q0 : w1.cell? ⟨w.heap.size, 0, none⟩ = some (.int .i64 0) := r0.trans (new_cell rfl _ _ _ 0)
    have q1 : w1.cell? ⟨w.heap.size, 1, none⟩ = some (.int .i64 0) := r1.trans (new_cell rfl _ _ _ 1)
    have q2 : w1.frozen? ⟨w.heap.size, 0, none⟩ = false := r2.trans (blk_frozen (heap_alloc_new w _) 0)
    have q3 : w1.frozen? ⟨w.heap.size, 1, none⟩ = false := r3.trans (blk_frozen (heap_alloc_new w _) 1)
    clear r0 r1 r2 r3 hb1 hB0 HZ0 h0
    obtain ⟨y, hy⟩ : ∃ y, y = w.heap.size := ⟨_, rfl⟩
    have yF : ¬ F y := fun q => by have := h.lt q; omega
    rw [← hy] at q0 q1 q2 q3 r4 ⊢
    have hyle : w.heap.size ≤ y := by omega
    clear hy
    go_wp2_with fail
    have h2 := h1.below ((Below.refl _ w1).alloc (Nat.le_refl _) (.cells #[.int .i64 x.1, .int .i64 x.2] 87))
    have T2 := T1.alloc (.cells #[.int .i64 x.1, .int .i64 x.2] 87)
    have s0 : (w1.alloc (.cells #[.int .i64 x.1, .int .i64 x.2] 87)).cell? ⟨y, 0, none⟩ = some (.int .i64 0) := (World.cell?_of_block (w := w1) (Below.heap_alloc _ _ y r4)).trans q0
    have s1 : (w1.alloc (.cells #[.int .i64 x.1, .int .i64 x.2] 87)).cell? ⟨y, 1, none⟩ = some (.int .i64 0) := (World.cell?_of_block (w := w1) (Below.heap_alloc _ _ y r4)).trans q1
    have s2 : (w1.alloc (.cells #[.int .i64 x.1, .int .i64 x.2] 87)).frozen? ⟨y, 0, none⟩ = false := (World.frozen?_of_block (w := w1) (Below.heap_alloc _ _ y r4)).trans q2
    have s3 : (w1.alloc (.cells #[.int .i64 x.1, .int .i64 x.2] 87)).frozen? ⟨y, 1, none⟩ = false := (World.frozen?_of_block (w := w1) (Below.heap_alloc _ _ y r4)).trans q3
    have z0 : (w1.alloc (.cells #[.int .i64 x.1, .int .i64 x.2] 87)).cell? ⟨w1.heap.size, 0, none⟩ = some (.int .i64 x.1) := new_cell rfl _ _ _ 0
    have z1 : (w1.alloc (.cells #[.int .i64 x.1, .int .i64 x.2] 87)).cell? ⟨w1.heap.size, 1, none⟩ = some (.int .i64 x.2) := new_cell rfl _ _ _ 1
    have zl : w1.heap.size < (w1.alloc (.cells #[.int .i64 x.1, .int .i64 x.2] 87)).heap.size := by simp
    have zF : ¬ F w1.heap.size := fun q => by have := h1.lt q; omega
    have yz : y ≠ w1.heap.size := by omega
    have ylt : y < (w1.alloc (.cells #[.int .i64 x.1, .int .i64 x.2] 87)).heap.size := Nat.lt_trans r4 zl
    clear q0 q1 q2 q3
    generalize (w1.alloc (.cells #[.int .i64 x.1, .int .i64 x.2] 87)) = w2 at *
    generalize w1.heap.size = z at *
    refine (drop_any w2 g F f n x.1 x.2 h2 hl.1).mono ?_
    rintro e w3 ⟨rfl, F', h3, hF, T3⟩
    have s4 := (cell_turn (i := 0) T3 ylt yF).trans s0
    have s5 := (cell_turn (i := 1) T3 ylt yF).trans s1
    have s6 : w3.frozen? ⟨y, 0, none⟩ = false := (World.frozen?_of_block (w := w2) (T3.block y ylt yF)).trans s2
    have s7 : w3.frozen? ⟨y, 1, none⟩ = false := (World.frozen?_of_block (w := w2) (T3.block y ylt yF)).trans s3
    have z2 := (cell_turn (i := 0) T3 zl zF).trans z0
    have z3 := (cell_turn (i := 1) T3 zl zF).trans z1
    clear s0 s1 s2 s3 z0 z1
    have T4 := T2.trans T3 fun k _ q => q
    have yF' : ∀ k, F' k → k ≠ y := by
      rintro k q rfl
      rcases hF _ q with q | q
      · exact yF q
      · omega
    go_wp2_with fail
    refine bodyPost_ret (v := .tuple #[.agg #[.int .i64 x.1, .int .i64 x.2], .bool true]) ?_ rfl ?_
    · simp [results, Try.results63, go_sem, s4, s5]
    refine ⟨x, true, rfl, .inl ⟨hn, rfl, hl⟩, F', ?_, fun k q => ?_, ?_⟩
    · exact h3.keep fun k hk => by rw [Below.heap_setCell _ _ _ _ (yF' k hk), Below.heap_setCell _ _ _ _ (yF' k hk)]
    · rcases hF k q with q | q
      · exact .inl q
      · exact .inr (Nat.le_trans T2.size q)
    · exact (T4.setCell (p := ⟨y, 0, none⟩) (.inr hyle) _).setCell (p := ⟨y, 1, none⟩) (.inr hyle) _
  · have q0 : w1.cell? ⟨w.heap.size, 0, none⟩ = some (.int .i64 0) := r0.trans (new_cell rfl _ _ _ 0)
    have q1 : w1.cell? ⟨w.heap.size, 1, none⟩ = some (.int .i64 0) := r1.trans (new_cell rfl _ _ _ 1)
    have q2 : w1.frozen? ⟨w.heap.size, 0, none⟩ = false := r2.trans (blk_frozen (heap_alloc_new w _) 0)
    have q3 : w1.frozen? ⟨w.heap.size, 1, none⟩ = false := r3.trans (blk_frozen (heap_alloc_new w _) 1)
    clear r0 r1 r2 r3 hb1 hB0 HZ0 h0
    obtain ⟨y, hy⟩ : ∃ y, y = w.heap.size := ⟨_, rfl⟩
    have yF : ¬ F y := fun q => by have := h.lt q; omega
    rw [← hy] at q0 q1 q2 q3 r4 ⊢
    have hyle : w.heap.size ≤ y := by omega
    clear hy
    go_wp2_with fail
    refine bodyPost_ret (v := .tuple #[.agg #[.int .i64 0, .int .i64 0], .bool false]) ?_ rfl ?_
    · simp [results, Try.results63, go_sem, q0, q1, r4]
    have hFy : ∀ k, F k → k ≠ y := by rintro k q rfl; exact yF q
    refine ⟨(0, 0), false, rfl, .inr ⟨rfl, rfl, rfl⟩, F, ?_, fun k q => .inl q, ?_⟩
    · exact (h1.keep fun k hk => by rw [Below.heap_setCell _ _ _ _ (hFy k hk), Below.heap_setCell _ _ _ _ (hFy k hk)]).below ((Below.refl _ _).alloc (Nat.le_refl _) _)
    · exact ((T1.setCell (p := ⟨y, 0, none⟩) (.inr hyle) _).setCell (p := ⟨y, 1, none⟩) (.inr hyle) _).alloc _
end Go.Proofs.Ytcdlnohnkdalbaa.Hp
