/- Walks: the reference's heap: a key dropped; the least one taken. -/
import Derived.Deep.RegionLaw
import Derived.Test.YtnbemaijhmgooaaHpRL
namespace Go.Proofs.Ytnbemaijhmgooaa.Hp
open Go.RowKit Go.Maps Go.Proofs
set_option linter.unusedVariables false
set_option linter.unusedSimpArgs false

theorem step_app {P : Program} {E : TypeId} {w : World} {ops : Array Oper} {o : Oper} {a : Act} {K : Act → World → Prop} {Q : Exit → Act → World → Prop} {E' : Prop} (hgd : o.guard = none) (s x : Operand) (t : TypeId)
    (ho : o.op = .call { callee := .builtin .append, args := #[s, x], argTypes := #[t, t] }) (ht : P.underlying t = some (.slice E)) (hinfo : (P.info? E).map (fun i => (i.zero, i.size, i.bytes)) = some (some (.agg #[.int .i64 0, .int .i64 0]), 2, 16))
    (vb vc n : Nat) (xs : List Value) (hs : a.eval s = .slice (some ⟨vb, 0, none⟩) n vc) (hown : w.ownsRow 0 E 2 (.slice (some ⟨vb, 0, none⟩) n vc) n xs) (ad : Addr) (m c : Nat) (news : List Value) (hx : a.eval x = .slice (some ad) m c) (hl : news.length = m * 2)
    (hnews : ∀ j u, news[j]? = some u → w.cell? (ad.add j) = some u) (h1 : ∀ u ∈ news, u.oneCell' = true) (hn : n + m ≤ 100000)
    (hQ : ∀ b' c' w', w'.ownsRow 0 E 2 (.slice (some ⟨b', 0, none⟩) (n + m) c') (n + m) (xs ++ news) → w.grownBy w' (some vb) → (b' = vb ∨ b' = w.heap.size) → K (a.put o.dst (.slice (some ⟨b', 0, none⟩) (n + m) c')) w') :
    if Region.wanted o (yielded ops a.tmps) = true then Oper.wp P o a w K Q else E' := by
  obtain ⟨i0, hi, hz0, hz1, hz2⟩ := info_parts hinfo
  rw [if_pos (by simp [Region.wanted, hgd])]
  obtain ⟨v', w', hr, h2, h3, h4, h5⟩ := run_append_own_at (P := P) w 0 t o.type E i0 _ 2 16 ht hi hz0 hz1 hz2 rfl (by omega) _ n xs hown ad m c news hl hnews h1 (by unfold maxLen; omega) (by omega) (Nat.zero_le _)
  unfold Oper.wp execOp
  simp only [ho, resolve, invoke, builtin, Sem.run_bind, Sem.run_pure, Result.andThen_ok, List.map_toArray, List.map_cons, List.map_nil, hs, hx, hr]
  rcases h2.2 with ⟨q, _⟩ | ⟨b', c', cur, rfl, _⟩
  · exact absurd (h4.1 q).1 (by simp)
  · exact hQ b' c' w' h2 (by simpa [Value.ownBlock] using h3) (by simpa [Value.ownBlock] using h5)

theorem row_ints {xs : List Value} {n : Nat} {G : Nat → It} (hl : xs.length = n * 2) (hx : ∀ j, j < n → xs[j * 2]? = some (.int .i64 (G j).1) ∧ xs[j * 2 + 1]? = some (.int .i64 (G j).2)) : ∀ u ∈ xs, u.oneCell' = true := by
  intro u hu
  obtain ⟨k, hk, rfl⟩ := List.getElem_of_mem hu
  have a := (hx (k / 2) (by omega)).1
  have b := (hx (k / 2) (by omega)).2
  rcases (show k = k / 2 * 2 ∨ k = k / 2 * 2 + 1 by omega) with e | e
  · rw [← e, List.getElem?_eq_getElem hk] at a
    injection a with a; rw [a]; rfl
  · rw [← e, List.getElem?_eq_getElem hk] at b
    injection b with b; rw [b]; rfl

def cutAt (G : Nat → It) (j : Nat) : Nat → It := fun i => if i < j then G i else G (i + 1)
theorem Rep.cut {n : Nat} {G : Nat → It} {f : Int → Option Int} (h : Rep n G f) {j : Nat} (hj : j < n) : Rep (n - 1) (cutAt G j) (upd f (G j).1 none) := by
  have low : ∀ i, i < n - 1 → (if i < j then i else i + 1) < n := by intro i hi; split <;> omega
  have key : ∀ i, cutAt G j i = G (if i < j then i else i + 1) := by intro i; unfold cutAt; split <;> rfl
  have nej : ∀ i, (if i < j then i else i + 1) ≠ j := by intro i; split <;> omega
  refine ⟨fun i hi => ?_, fun k r hk => ?_, fun a b ha hb hab => ?_⟩
  · rw [key, upd_ne (fun e => nej i (h.apart _ _ (low i hi) hj e))]; exact h.there _ (low i hi)
  · by_cases e : k = (G j).1
    · subst e; rw [upd_same] at hk; simp at hk
    · rw [upd_ne e] at hk
      obtain ⟨i, hi, ei⟩ := h.all k r hk
      have ij : i ≠ j := fun q => e (by rw [← q, ei])
      rcases Nat.lt_or_ge i j with q | q
      · exact ⟨i, by omega, by rw [key, if_pos q, ei]⟩
      · exact ⟨i - 1, by omega, by rw [key, if_neg (by omega), show i - 1 + 1 = i from by omega, ei]⟩
  · rw [key, key] at hab
    have e := h.apart _ _ (low a ha) (low b hb) hab
    split at e <;> split at e <;> omega

theorem dropR_close {w w2 : World} {g b cap n j b2 c2 n2 : Nat} {G : Nat → It} {f : Int → Option Int} {xs : List Value} (h : RawR w g (.slice (some ⟨b, 0, none⟩) n cap) n G) (hr : Rep n G f) (hd : Dom f) (hj : j < n) (hn2 : n2 = n - 1) (hl : xs.length = n * 2)
    (hx : ∀ j, j < n → xs[j * 2]? = some (.int .i64 (G j).1) ∧ xs[j * 2 + 1]? = some (.int .i64 (G j).2)) (B3 : Below w.heap.size w w2) (N2 : w.heap.size ≤ b2)
    (ho : w2.ownsRow 0 31 2 (.slice (some ⟨b2, 0, none⟩) n2 c2) n2 (xs.take (j * 2) ++ xs.drop ((j + 1) * 2))) :
    NextR w g (RowFoot g (.slice (some ⟨b, 0, none⟩) n cap)) (upd f (G j).1 none) (n - 1) (w2.setCell ⟨g, 0, none⟩ (.slice (some ⟨b2, 0, none⟩) n2 c2)) := by
  subst hn2
  have hrow : RowIs 31 w2 (.slice (some ⟨b2, 0, none⟩) (n - 1) c2) (n - 1) (cutAt G j) := by
    refine ⟨_, ho, fun i hi => ?_⟩
    have l1 : (xs.take (j * 2)).length = j * 2 := by rw [List.length_take]; omega
    unfold cutAt
    by_cases q : i < j
    · rw [if_pos q, List.getElem?_append_left (by omega), List.getElem?_append_left (by omega), List.getElem?_take_of_lt (by omega), List.getElem?_take_of_lt (by omega)]
      exact hx i (by omega)
    · rw [if_neg q, List.getElem?_append_right (by omega), List.getElem?_append_right (by omega), List.getElem?_drop, List.getElem?_drop, l1]
      rw [show (j + 1) * 2 + (i * 2 - j * 2) = (i + 1) * 2 from by omega, show (j + 1) * 2 + (i * 2 + 1 - j * 2) = (i + 1) * 2 + 1 from by omega]
      exact hx (i + 1) (by omega)
  have hg1 : w.grownBy w2 (Value.slice (some ⟨b, 0, none⟩) n cap).ownBlock := ⟨B3.os, B3.tape, B3.output, B3.size, fun k hk _ => B3.block k hk⟩
  refine ⟨_, ⟨_, _, h.grow hg1 hrow, hr.cut hj, hd.drop _, rfl⟩, ?_, ((Turn.refl _ _).grown (w' := w2) hg1 (fun k hk => .inl (.inr hk))).setCell (.inl (.inl rfl)) _⟩
  rintro k (q | q)
  · exact .inl (.inl q)
  · simp [Value.ownBlock] at q; subst q; exact .inr N2

set_option maxHeartbeats 1600000 in
theorem dropR_yes (w : World) (g : Nat) (v : Value) (n : Nat) (G : Nat → It) (f : Int → Option Int) (j : Nat) (key : Int) (h : RawR w g v n G) (hr : Rep n G f) (hd : Dom f) (hj : j < n) (hg : (G j).1 = key) (hmin : ∀ i, i < j → (G i).1 ≠ key) (hne0 : ∀ b cap, v = .slice (some ⟨b, 0, none⟩) n cap → ¬ cap = j + 1) :
    Calls Try.prog 27 #[.pointer (some ⟨g, 0, none⟩), .int .i64 key] w (PutRPost w g (RowFoot g v) (upd f key none) (n - 1)) := by
  have hn := hr.le hd
  obtain ⟨b, cap, rfl, hb⟩ := h.row.form (by omega)
  have fa := find_any w g _ n G key j h hn (.inl ⟨j, hj, hg, hmin, rfl⟩)
  have HG := Lib.hid hg
  clear hg hmin
  have c0 := h.c0
  have hgl := h.glt
  obtain ⟨_, _, hcap⟩ := h.row.blk
  have e1 : IntKind.i64.wrap ((j : Int) + 1) = (j : Int) + 1 := IntWalk.i64_in _ (by omega)
  have e2 : (0 : Int) ≤ (j : Int) + 1 := by omega
  have e3 : ((j : Int) + 1).toNat = j + 1 := by omega
  have e4 : (j : Int) + 1 ≤ (n : Int) := by omega
  have e5 : (j : Int) ≤ (cap : Int) := by omega
  have e6 : (n : Int) ≤ (cap : Int) := by omega
  go_enter Try.func27, Try.ntmps27
  go_wp2_with fail
  refine fa.mono ?_
  rintro e w1 ⟨rfl, rfl⟩
  clear fa
  go_upto_region 4 with fail
  obtain ⟨xs, hown, hxs⟩ := h.row
  have hinfo : (Try.prog.info? 31).map (fun i => (i.zero, i.size, i.bytes)) = some (some (.agg #[.int .i64 0, .int .i64 0]), 2, 16) := by kernel_rfl
  have hxl : xs.length = n * 2 := hown.1
  have hcb := hown.cells (g := b) rfl
  have B1 : Below w.heap.size w (w.alloc (.cells #[] 31)).drew := ((Below.refl _ _).alloc (Nat.le_refl _) _).drew
  have own1 : (w.alloc (.cells #[] 31)).drew.ownsRow 0 31 2 (.slice (some ⟨w.heap.size, 0, none⟩) 0 0) 0 [] := World.ownsRow_lit (base := 0) w #[] 0 (Nat.zero_le _) (Nat.zero_le _) rfl
  have hne := hne0 b cap rfl
  clear hne0
  have n1 : ∀ i u, (xs.take (j * 2))[i]? = some u → (w.alloc (.cells #[] 31)).drew.cell? ((⟨b, 0, none⟩ : Addr).add i) = some u := fun i u hu => by
    rw [B1.cell (by rw [block_add]; exact hb)]
    exact hcb i u (by rw [List.getElem?_take] at hu; split at hu <;> simp_all)
  have o1 : ∀ u ∈ xs, u.oneCell' = true := row_ints hxl hxs
  have L1 : (xs.take (j * 2)).length = j * 2 := by rw [List.length_take]; omega
  have o2 : ∀ u ∈ xs.take (j * 2), u.oneCell' = true := fun u hu => o1 u (List.mem_of_mem_take hu)
  have L2 : (xs.drop ((j + 1) * 2)).length = (n - (j + 1)) * 2 := by rw [List.length_drop]; omega
  have o3 : ∀ u ∈ xs.drop ((j + 1) * 2), u.oneCell' = true := fun u hu => o1 u (List.mem_of_mem_drop hu)
  have n2 : ∀ W, Below w.heap.size w W → ∀ i u, (xs.drop ((j + 1) * 2))[i]? = some u → W.cell? ((⟨b, (j + 1) * 2, none⟩ : Addr).add i) = some u := fun W hW i u hu => by
    rw [hW.cell (by rw [block_add]; exact hb)]
    have := hcb ((j + 1) * 2 + i) u (by rw [← List.getElem?_drop]; exact hu)
    rw [← this]
    simp [Addr.add]
    by_cases h0 : i = 0 <;> simp [h0]
  go_region_law
    (first
      | ((refine step_app (P := Try.prog) (E := 31) rfl (.tmp 12) (.tmp 18) 49 rfl Try.underlying49 hinfo w.heap.size 0 0 [] rfl own1 ⟨b, 0, none⟩ j cap (xs.take (j * 2)) rfl L1 n1 o2 (by omega) ?_); intro b1 c1 w1 hown1 hg1 hloc1; simp only [Nat.zero_add, List.nil_append] at hown1; have B2 : Below w.heap.size w w1 := B1.grown hg1 B1.size (by rintro k ⟨⟩; exact Nat.le_refl _); have N1 : w.heap.size ≤ b1 := (by have := B1.size; omega); have cw1 := (B2.cell (p := ⟨g, 0, none⟩) hgl).trans c0)
      | ((refine step_app (P := Try.prog) (E := 31) rfl (.tmp 19) (.tmp 26) 49 rfl Try.underlying49 hinfo b1 c1 j (xs.take (j * 2)) rfl hown1 ⟨b, (j + 1) * 2, none⟩ (n - (j + 1)) (cap - (j + 1)) (xs.drop ((j + 1) * 2)) rfl L2 (n2 _ B2) o3 (by omega) ?_); intro b2 c2 w2 hown2 hg2 hloc2; have B3 : Below w.heap.size w w2 := B2.grown hg2 B2.size (by rintro k ⟨⟩; exact N1); have N2 : w.heap.size ≤ b2 := (by have := B2.size; omega); have cw2 := (B3.cell (p := ⟨g, 0, none⟩) hgl).trans c0; have f2 : w2.frozen? ⟨g, 0, none⟩ = false := (B3.frozen (p := ⟨g, 0, none⟩) hgl).trans (h.f 0)))
  all_goals
    go_wp2_with fail
    go_ret
    refine ⟨rfl, ?_⟩
    rw [← HG.out]
    exact dropR_close h hr hd hj (by omega) hxl hxs B3 N2 hown2
set_option maxHeartbeats 1600000 in
theorem dropR_full (w : World) (g b : Nat) (G : Nat → It) (f : Int → Option Int) (j : Nat) (key : Int) (h : RawR w g (.slice (some ⟨b, 0, none⟩) (j + 1) (j + 1)) (j + 1) G) (hr : Rep (j + 1) G f) (hd : Dom f) (hg : (G j).1 = key) (hmin : ∀ i, i < j → (G i).1 ≠ key) :
    Calls Try.prog 27 #[.pointer (some ⟨g, 0, none⟩), .int .i64 key] w (PutRPost w g (RowFoot g (.slice (some ⟨b, 0, none⟩) (j + 1) (j + 1))) (upd f key none) (j + 1 - 1)) := by
  have hn := hr.le hd
  have hj : j < j + 1 := by omega
  have hb : b < w.heap.size := h.foot_lt (.inr rfl)
  have fa := find_any w g _ (j + 1) G key j h hn (.inl ⟨j, hj, hg, hmin, rfl⟩)
  have HG := Lib.hid hg
  clear hg hmin
  have c0 := h.c0
  have hgl := h.glt
  have e1 : IntKind.i64.wrap ((j : Int) + 1) = (j : Int) + 1 := IntWalk.i64_in _ (by omega)
  have e2 : (0 : Int) ≤ (j : Int) + 1 := by omega
  have e3 : ((j : Int) + 1).toNat = j + 1 := by omega
  have e5 : (j : Int) ≤ (j : Int) + 1 := by omega
  go_enter Try.func27, Try.ntmps27
  go_wp2_with fail
  refine fa.mono ?_
  rintro e w1 ⟨rfl, rfl⟩
  clear fa
  go_upto_region 4 with fail
  obtain ⟨xs, hown, hxs⟩ := h.row
  have hinfo : (Try.prog.info? 31).map (fun i => (i.zero, i.size, i.bytes)) = some (some (.agg #[.int .i64 0, .int .i64 0]), 2, 16) := by kernel_rfl
  have hxl : xs.length = (j + 1) * 2 := hown.1
  have hcb := hown.cells (g := b) rfl
  have B1 : Below w.heap.size w (w.alloc (.cells #[] 31)).drew := ((Below.refl _ _).alloc (Nat.le_refl _) _).drew
  have own1 : (w.alloc (.cells #[] 31)).drew.ownsRow 0 31 2 (.slice (some ⟨w.heap.size, 0, none⟩) 0 0) 0 [] := World.ownsRow_lit (base := 0) w #[] 0 (Nat.zero_le _) (Nat.zero_le _) rfl
  have n1 : ∀ i u, (xs.take (j * 2))[i]? = some u → (w.alloc (.cells #[] 31)).drew.cell? ((⟨b, 0, none⟩ : Addr).add i) = some u := fun i u hu => by
    rw [B1.cell (by rw [block_add]; exact hb)]
    exact hcb i u (by rw [List.getElem?_take] at hu; split at hu <;> simp_all)
  have o1 : ∀ u ∈ xs, u.oneCell' = true := row_ints hxl hxs
  have L1 : (xs.take (j * 2)).length = j * 2 := by rw [List.length_take]; omega
  have o2 : ∀ u ∈ xs.take (j * 2), u.oneCell' = true := fun u hu => o1 u (List.mem_of_mem_take hu)
  have L2 : (xs.drop ((j + 1) * 2)).length = 0 * 2 := by rw [List.length_drop]; omega
  have o3 : ∀ u ∈ xs.drop ((j + 1) * 2), u.oneCell' = true := fun u hu => o1 u (List.mem_of_mem_drop hu)
  have n2 : ∀ W : World, ∀ i u, (xs.drop ((j + 1) * 2))[i]? = some u → W.cell? ((⟨b, 0, none⟩ : Addr).add i) = some u := fun W i u hu => by
    rw [List.eq_nil_of_length_eq_zero (show (xs.drop ((j + 1) * 2)).length = 0 by omega)] at hu
    simp at hu
  go_region_law
    (first
      | ((refine step_app (P := Try.prog) (E := 31) rfl (.tmp 12) (.tmp 18) 49 rfl Try.underlying49 hinfo w.heap.size 0 0 [] rfl own1 ⟨b, 0, none⟩ j (j + 1) (xs.take (j * 2)) rfl L1 n1 o2 (by omega) ?_); intro b1 c1 w1 hown1 hg1 hloc1; simp only [Nat.zero_add, List.nil_append] at hown1; have B2 : Below w.heap.size w w1 := B1.grown hg1 B1.size (by rintro k ⟨⟩; exact Nat.le_refl _); have N1 : w.heap.size ≤ b1 := (by have := B1.size; omega); have cw1 := (B2.cell (p := ⟨g, 0, none⟩) hgl).trans c0)
      | ((refine step_app (P := Try.prog) (E := 31) rfl (.tmp 19) (.tmp 26) 49 rfl Try.underlying49 hinfo b1 c1 j (xs.take (j * 2)) rfl hown1 ⟨b, 0, none⟩ 0 0 (xs.drop ((j + 1) * 2)) rfl L2 (n2 _) o3 (by omega) ?_); intro b2 c2 w2 hown2 hg2 hloc2; have B3 : Below w.heap.size w w2 := B2.grown hg2 B2.size (by rintro k ⟨⟩; exact N1); have N2 : w.heap.size ≤ b2 := (by have := B2.size; omega); have cw2 := (B3.cell (p := ⟨g, 0, none⟩) hgl).trans c0; have f2 : w2.frozen? ⟨g, 0, none⟩ = false := (B3.frozen (p := ⟨g, 0, none⟩) hgl).trans (h.f 0)))
  all_goals
    go_wp2_with fail
    go_ret
    refine ⟨rfl, ?_⟩
    rw [← HG.out]
    exact dropR_close h hr hd hj (by omega) hxl hxs B3 N2 hown2

theorem dropR_any (w : World) (g : Nat) (F : Nat → Prop) (f : Int → Option Int) (n : Nat) (key r : Int) (h : RefIs w g F f n) (hf : f key = some r) :
    Calls Try.prog 27 #[.pointer (some ⟨g, 0, none⟩), .int .i64 key] w (PutRPost w g F (upd f key none) (n - 1)) := by
  obtain ⟨v, G, h1, h2, h3, rfl⟩ := h
  rcases find_cases h2 key with ⟨hf2, _⟩ | ⟨j, hj, hg, hmin, _⟩
  · rw [hf] at hf2; simp at hf2
  · obtain ⟨b, cap, rfl, hb⟩ := h1.row.form (by omega)
    obtain ⟨_, _, hc⟩ := h1.row.blk
    by_cases he : cap = j + 1
    · subst he
      obtain rfl : n = j + 1 := by omega
      exact dropR_full w g b G f j key h1 h2 h3 hg hmin
    · exact dropR_yes w g _ n G f j key h1 h2 h3 hj hg hmin (fun b' c' e => by simp only [Value.slice.injEq] at e; omega)

theorem dropR_no (w : World) (g : Nat) (F : Nat → Prop) (f : Int → Option Int) (n : Nat) (key : Int) (h : RefIs w g F f n) (hf : f key = none) :
    Calls Try.prog 27 #[.pointer (some ⟨g, 0, none⟩), .int .i64 key] w fun e w' => e = .returned (.bool false) ∧ w = w' := by
  obtain ⟨v, G, h1, h2, h3, rfl⟩ := h
  have hn := h2.le h3
  have fa := find_any w g _ n G key (-1) h1 hn (.inr ⟨(h2.none_iff key).1 hf, rfl⟩)
  clear hf
  go_enter Try.func27, Try.ntmps27
  go_wp2_with fail
  refine fa.mono ?_
  rintro e w1 ⟨rfl, rfl⟩
  clear fa
  go_wp2
  go_ret
  exact ⟨rfl, rfl⟩
end Go.Proofs.Ytnbemaijhmgooaa.Hp
