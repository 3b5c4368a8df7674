/- Walks: what the reference's heap, a plain row, does, said of what is there. -/
import Derived.Test.YtnbemaijhmgooaaHpC
namespace Go.Proofs.Ytnbemaijhmgooaa.Hp
open Go.RowKit Go.Maps Go.Proofs
set_option linter.unusedVariables false
set_option linter.unusedSimpArgs false

/-- block g is a row of n keys that f tells; its own blocks are those of F -/
def RowFoot (g : Nat) (v : Value) : Nat → Prop := fun k => k = g ∨ v.ownBlock = some k
structure RawR (w : World) (g : Nat) (v : Value) (n : Nat) (G : Nat → It) : Prop where
  hg : w.heap[g]? = some (.cells #[v] 55 (0, 0))
  row : RowIs 31 w v n G
def RefIs (w : World) (g : Nat) (F : Nat → Prop) (f : Int → Option Int) (n : Nat) : Prop :=
  ∃ v G, RawR w g v n G ∧ Rep n G f ∧ Dom f ∧ F = RowFoot g v
def NextR (w : World) (g : Nat) (F : Nat → Prop) (f : Int → Option Int) (n : Nat) (w' : World) : Prop :=
  ∃ F', RefIs w' g F' f n ∧ (∀ k, F' k → F k ∨ w.heap.size ≤ k) ∧ Turn F w w'

section
variable {w w' : World} {g n b cap : Nat} {v : Value} {G : Nat → It}
theorem RawR.c0 (h : RawR w g v n G) : w.cell? ⟨g, 0, none⟩ = some v := (blk_cell h.hg 0).trans rfl
theorem RawR.f (h : RawR w g v n G) (i : Nat) : w.frozen? ⟨g, i, none⟩ = false := blk_frozen h.hg i
theorem RawR.glt (h : RawR w g v n G) : g < w.heap.size := blk_lt h.hg
theorem RawR.gv (h : RawR w g v n G) : v.ownBlock ≠ some g := by
  intro e
  obtain ⟨cur, hc⟩ := h.row.own_blk e
  have := h.hg
  rw [hc] at this
  injection this with this
  injection this with _ h2
  exact absurd h2 (by decide)
theorem RawR.keep (h : RawR w g v n G) (hk : ∀ k, RowFoot g v k → w'.heap[k]? = w.heap[k]?) : RawR w' g v n G :=
  ⟨(hk g (.inl rfl)).trans h.hg, h.row.keep fun k e => hk k (.inr e)⟩
theorem RawR.foot_lt (h : RawR w g v n G) {k : Nat} (hk : RowFoot g v k) : k < w.heap.size := by
  rcases hk with rfl | hk
  · exact h.glt
  · exact h.row.lt hk
theorem RawR.alloc (h : RawR w g v n G) (o : Obj) : RawR (w.alloc o) g v n G := h.keep fun k hk => Below.heap_alloc w o k (h.foot_lt hk)
theorem RawR.store (h : RawR w g (.slice (some ⟨b, 0, none⟩) n cap) n G) {i : Nat} (hi : i < n) (r : Int) :
    RawR (w.setCell ⟨b, i * 2 + 1, none⟩ (.int .i64 r)) g (.slice (some ⟨b, 0, none⟩) n cap) n (upd G i ((G i).1, r)) := by
  have gb : g ≠ b := fun e => h.gv (by rw [e]; rfl)
  refine ⟨blk_far h.hg gb _, ?_⟩
  have hs := h.row.set hi ((G i).1, r)
  obtain ⟨xs, h1, h2⟩ := h.row
  refine ⟨_, (h1.stored (i * 2 + 1) _).1, fun j hj => ?_⟩
  have hl : xs.length = n * 2 := h1.1
  by_cases e : j = i
  · subst e; rw [upd_same]
    exact ⟨by rw [List.getElem?_set_ne (by omega)]; exact (h2 j hj).1, by rw [List.getElem?_set_self (by omega)]⟩
  · rw [upd_ne e, List.getElem?_set_ne (by omega), List.getElem?_set_ne (by omega)]
    exact h2 j hj
theorem RawR.grow (h : RawR w g v n G) (hg1 : w.grownBy w' v.ownBlock) {n' : Nat} {G' : Nat → It} (hrow : RowIs 31 w' (.slice (some ⟨b, 0, none⟩) n' cap) n' G') :
    RawR (w'.setCell ⟨g, 0, none⟩ (.slice (some ⟨b, 0, none⟩) n' cap)) g (.slice (some ⟨b, 0, none⟩) n' cap) n' G' := by
  have hb : w'.heap[g]? = some (.cells #[v] 55 (0, 0)) := (hg1.block g h.glt (fun e => h.gv e.symm)).trans h.hg
  have gb : b ≠ g := by
    rintro rfl
    obtain ⟨cur, hc, _⟩ := hrow.blk
    rw [hb] at hc
    injection hc with hc
    injection hc with _ h2
    exact absurd h2 (by decide)
  refine ⟨by simpa using blk_set hb 0 _, hrow.keep fun k hk => ?_⟩
  simp [Value.ownBlock] at hk; subst hk; exact Below.heap_setCell _ _ _ _ gb
end

theorem RefIs.keep {w w' : World} {g n : Nat} {F : Nat → Prop} {f : Int → Option Int} (h : RefIs w g F f n) (hk : ∀ k, F k → w'.heap[k]? = w.heap[k]?) : RefIs w' g F f n := by
  obtain ⟨v, G, h1, h2, h3, rfl⟩ := h
  exact ⟨v, G, h1.keep hk, h2, h3, rfl⟩
theorem RefIs.lt {w : World} {g n : Nat} {F : Nat → Prop} {f : Int → Option Int} (h : RefIs w g F f n) {k : Nat} (hk : F k) : k < w.heap.size := by
  obtain ⟨v, G, h1, h2, h3, rfl⟩ := h
  exact h1.foot_lt hk
theorem RefIs.turn {w w' : World} {g n : Nat} {F F2 : Nat → Prop} {f : Int → Option Int} (h : RefIs w g F f n) (ht : Turn F2 w w') (hd : ∀ k, F k → ¬ F2 k) : RefIs w' g F f n :=
  h.keep fun k hk => ht.block k (h.lt hk) (hd k hk)
theorem RefIs.below {w w' : World} {g n : Nat} {F : Nat → Prop} {f : Int → Option Int} (h : RefIs w g F f n) (hb : Below w.heap.size w w') : RefIs w' g F f n :=
  h.keep fun k hk => hb.block k (h.lt hk)
theorem RefIs.le {w : World} {g n : Nat} {F : Nat → Prop} {f : Int → Option Int} (h : RefIs w g F f n) : n ≤ 300 := by
  obtain ⟨v, G, h1, h2, h3, rfl⟩ := h
  exact h2.le h3

def NewRPost (w : World) (e : Ending) (w' : World) : Prop := ∃ g F, e = .returned (.pointer (some ⟨g, 0, none⟩)) ∧ RefIs w' g F (fun _ => none) 0 ∧ (∀ k, F k → w.heap.size ≤ k) ∧ Below w.heap.size w w'
theorem newR_any (w : World) : Calls Try.prog 19 #[] w (NewRPost w) := by
  go_enter Try.func19, Try.ntmps19
  go_wp2
  go_ret
  refine ⟨_, _, rfl, ⟨.slice none 0 0, fun _ => (0, 0), ⟨heap_alloc_new _ _, RowIs.nil _ _ _⟩, Rep.empty, fun k r h => by simp at h, rfl⟩, ?_, ?_⟩
  · rintro k (rfl | q)
    · exact Nat.le_refl _
    · simp [Value.ownBlock] at q
  · exact (Below.refl _ _).alloc (Nat.le_refl _) _

theorem row_form {E : TypeId} {w : World} {v : Value} {n : Nat} {G : Nat → It} (h : RowIs E w v n G) : ∃ (cap : Nat) (ad : Option Addr), v = .slice ad n cap := by
  obtain ⟨xs, ⟨_, h1⟩, _⟩ := h
  rcases h1 with ⟨rfl, rfl⟩ | ⟨b', cap', cur, rfl, _⟩
  · exact ⟨_, _, rfl⟩
  · exact ⟨_, _, rfl⟩

theorem lenR_any (w : World) (g : Nat) (F : Nat → Prop) (f : Int → Option Int) (n : Nat) (h : RefIs w g F f n) :
    Calls Try.prog 23 #[.pointer (some ⟨g, 0, none⟩)] w fun e w' => e = .returned (.int .i64 (n : Int)) ∧ w = w' := by
  obtain ⟨v, G, h1, h2, h3, rfl⟩ := h
  have hn := h2.le h3
  have c0 := h1.c0
  obtain ⟨cap, ad, rfl⟩ := row_form h1.row
  go_enter Try.func23, Try.ntmps23
  go_wp2
  go_ret
  exact ⟨rfl, rfl⟩

/-- where a key stands -/
theorem find_any (w : World) (g : Nat) (v : Value) (n : Nat) (G : Nat → It) (key : Int) (z : Int) (h : RawR w g v n G) (hn : n ≤ 300)
    (hz : (∃ j, j < n ∧ (G j).1 = key ∧ (∀ i, i < j → (G i).1 ≠ key) ∧ z = (j : Int)) ∨ (∀ j, j < n → (G j).1 ≠ key) ∧ z = -1) :
    Calls Try.prog 31 #[.pointer (some ⟨g, 0, none⟩), .int .i64 key] w fun e w' => e = .returned (.int .i64 z) ∧ w = w' := by
  have c0 := h.c0
  obtain ⟨cap, ad, rfl⟩ := row_form h.row
  go_enter Try.func31, Try.ntmps31
  go_wp2_with fail
  go_loop [5] (fun u => ∃ i : Nat, u = .int .i64 (i : Int) ∧ i ≤ n ∧ ∀ c, c < i → (G c).1 ≠ key) (fun u => n - (intOf u).toNat)
  case atStart => exact ⟨0, rfl, Nat.zero_le _, fun c hc => by omega⟩
  case round =>
    obtain ⟨i, rfl, hi, hno⟩ := hrel
    by_cases hlt : i < n
    · obtain ⟨b, cap', e, hb⟩ := h.row.form (by omega)
      simp only [Value.slice.injEq] at e
      obtain ⟨rfl, _, rfl⟩ := e
      have k0 := h.row.key hlt
      have d1 : (i : Int) < (n : Int) := by omega
      by_cases hk : (G i).1 = key
      · have hzi : z = (i : Int) := by
          rcases hz with ⟨j, hj, hjk, hmin, rfl⟩ | ⟨hz, _⟩
          · have : j = i := by
              rcases Nat.lt_trichotomy j i with q | q | q
              · exact absurd hjk (hno j q)
              · exact q
              · exact absurd hk (hmin i q)
            rw [this]
          · exact absurd hk (hz i hlt)
        have HZ := Lib.hid hzi
        have d2 : ((G i).1 == key) = true := by simp [hk]
        clear hzi hk hz
        go_wp2
        go_ret
        exact ⟨by rw [HZ.out]; rfl, rfl⟩
      · have d2 : ((G i).1 == key) = false := by simp [hk]
        go_wp2
        go_round
        case rel => exact ⟨i + 1, by simp, by omega, fun c hc => by
          rcases Nat.lt_or_ge c i with q | q
          · exact hno c q
          · obtain rfl : c = i := by omega
            exact hk⟩
        case measure => simp [intOf]; omega
    · have hzi : z = -1 := by
        rcases hz with ⟨j, hj, hjk, _⟩ | ⟨_, q⟩
        · exact absurd hjk (hno j (by omega))
        · exact q
      have HZ := Lib.hid hzi
      clear hzi hz
      have d1 : ¬ (i : Int) < (n : Int) := by omega
      go_wp2
      go_ret
      exact ⟨by rw [HZ.out]; rfl, rfl⟩
end Go.Proofs.Ytnbemaijhmgooaa.Hp
