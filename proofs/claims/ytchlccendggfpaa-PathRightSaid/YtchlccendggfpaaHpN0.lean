/- Walks: put, least and new of a heap. -/
import Derived.Test.YtchlccendggfpaaHpM
namespace Go.Proofs.Ytchlccendggfpaa.Hp
open Go.RowKit Go.Maps Go.Proofs
set_option linter.unusedVariables false
set_option linter.unusedSimpArgs false

theorem put_any (w : World) (g : Nat) (F : Nat → Prop) (f : Int → Option Int) (n : Nat) (key rank : Int) (h : HeapIs w g F f n) (hk : Key key) :
    Calls Try.prog 29 #[.pointer (some ⟨g, 0, none⟩), .int .i64 key, .int .i64 rank] w (PutPost w g F (upd f key (some rank)) (bump f key n)) := by
  obtain ⟨v, bm, G, m, h1, h2, h3, h4, h5, rfl⟩ := h
  rcases h4.find h3 key with ⟨hm, hf⟩ | ⟨j, hj, hm, hg, hf⟩
  · have e : bump f key n = n + 1 := by unfold bump; rw [hf]; rfl
    rw [e]
    exact put_new w g v bm n G m f key rank h1 h2 h3 h4 h5 hk hm hf
  · have e : bump f key n = n := by unfold bump; rw [hf]; rfl
    rw [e]
    exact put_old w g v bm n G m f j key rank h1 h2 h3 h4 h5 hk hj hm hg

def LeastIs (f : Int → Option Int) (n : Nat) (x : It) (is : Bool) : Prop := (0 < n ∧ is = true ∧ Least f x) ∨ (n = 0 ∧ is = false ∧ x = (0, 0))
def agg2 (x : It) : Value := .agg #[.int .i64 x.1, .int .i64 x.2]
def LeastPost (w : World) (f : Int → Option Int) (n : Nat) (e : Ending) (w' : World) : Prop :=
  ∃ x is, e = .returned (.tuple #[.agg #[.int .i64 x.1, .int .i64 x.2], .bool is]) ∧ LeastIs f n x is ∧ Below w.heap.size w w'

theorem least_any (w : World) (g : Nat) (F : Nat → Prop) (f : Int → Option Int) (n : Nat) (h : HeapIs w g F f n) :
    Calls Try.prog 46 #[.pointer (some ⟨g, 0, none⟩)] w (LeastPost w f n) := by
  obtain ⟨v, bm, G, m, h1, h2, h3, h4, h5, rfl⟩ := h
  have hn := h3.le h5
  have c0 := h1.c0
  have hgl := h1.glt
  by_cases h0 : n = 0
  · subst h0
    obtain ⟨cap, ad, hv⟩ : ∃ (cap : Nat) (ad : Option Addr), v = .slice ad 0 cap := by
      obtain ⟨xs, ⟨_, h1⟩, _⟩ := h1.row
      rcases h1 with ⟨rfl, _⟩ | ⟨b', cap', cur, rfl, _⟩
      · exact ⟨_, _, rfl⟩
      · exact ⟨_, _, rfl⟩
    subst hv
    go_enter Try.func46, Try.ntmps46
    go_wp2
    exact bodyPost_ret (v := .tuple #[.agg #[.int .i64 0, .int .i64 0], .bool false]) (by simp [results, Try.results46, go_sem]) rfl ⟨(0, 0), false, rfl, .inr ⟨rfl, rfl, rfl⟩, (Below.refl _ _).alloc (Nat.le_refl _) _⟩
  · obtain ⟨b, cap, rfl, hb⟩ := h1.row.form (by omega)
    have k0 := h1.row.key (j := 0) (by omega)
    have k1 := h1.row.rank (j := 0) (by omega)
    have d0 : ((n : Int) == 0) = false := by simp; omega
    have hi : (0 : Int) < (n : Int) := by omega
    simp only [Nat.zero_mul] at k0 k1
    have hL := h3.least h2 (by omega)
    obtain ⟨x, hx⟩ : ∃ x, x = G 0 := ⟨_, rfl⟩
    rw [← hx] at k0 k1 hL
    clear hx
    go_enter Try.func46, Try.ntmps46
    go_wp2
    exact bodyPost_ret (v := .tuple #[.agg #[.int .i64 x.1, .int .i64 x.2], .bool true]) (by simp [results, Try.results46, go_sem]) rfl ⟨x, true, rfl, .inl ⟨by omega, rfl, hL⟩, (Below.refl _ _).alloc (Nat.le_refl _) _⟩

def NewPost (w : World) (e : Ending) (w' : World) : Prop := ∃ g F, e = .returned (.pointer (some ⟨g, 0, none⟩)) ∧ HeapIs w' g F (fun _ => none) 0 ∧ (∀ k, F k → w.heap.size ≤ k) ∧ Below w.heap.size w w'
theorem new_any (w : World) : Calls Try.prog 28 #[] w (NewPost w) := by
  have hmm := @run_makeMap Try.prog
  go_enter Try.func28, Try.ntmps28
  go_wp2
  go_ret
  refine ⟨_, _, rfl, ⟨.slice none 0 0, w.heap.size, fun _ => (0, 0), fun _ => none, ⟨?_, RowIs.nil _ _ _, ?_, by decide⟩, fun c h1 h2 => by omega, Rep.empty, ⟨fun j hj => by omega, fun k v h => by simp at h⟩, fun k r h => by simp at h, rfl⟩, ?_, ?_⟩
  · rw [show w.heap.size + 1 = (w.alloc (.map #[] 0)).heap.size from by simp]; exact heap_alloc_new _ _
  · exact (MapIs.new _ _ w).keep (Below.heap_alloc _ _ _ (by simp))
  · rintro k (rfl | rfl | q)
    · simp
    · exact Nat.le_refl _
    · simp [Value.ownBlock] at q
  · exact ((Below.refl _ _).alloc (Nat.le_refl _) _).alloc (by simp) _

end Go.Proofs.Ytchlccendggfpaa.Hp
