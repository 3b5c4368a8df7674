/- Walks: the law RotOnes. -/
import Derived.Test.YtcejjcopchkmeaaRoLc
namespace Go.Proofs.Ytcejjcopchkmeaa.Ro
open Go.RowKit Go.Proofs Go.Maps
set_option linter.unusedVariables false
set_option linter.unusedSimpArgs false

/-- how many numbers have been met so far -/
def Tops (o : Nat → Int) (i tp : Nat) : Prop := ∀ e : Nat, e < tp ↔ ∃ y, y < i ∧ o y = e
theorem Tops.start (o : Nat → Int) : Tops o 0 0 := fun e => ⟨fun h => by omega, fun ⟨y, h, _⟩ => by omega⟩
section
variable {f : Nat → Nat} {m c i tp : Nat} {o : Nat → Int}
theorem Tops.le (h : Tops o i tp) (O : Orb f m o c) (hi : i < m) : o i ≤ tp := by
  rcases Int.lt_or_le (tp : Int) (o i) with q | q
  · exact absurd ((h tp).2 (O.first i hi tp q)) (Nat.lt_irrefl _)
  · exact q
theorem Tops.yes (h : Tops o i tp) (e : o i = tp) : Tops o (i + 1) (tp + 1) := fun n => ⟨fun hn => by
    rcases Nat.lt_or_ge n tp with q | q
    · obtain ⟨y, h1, h2⟩ := (h n).1 q
      exact ⟨y, by omega, h2⟩
    · exact ⟨i, by omega, by omega⟩, fun ⟨y, h1, h2⟩ => by
    rcases Nat.lt_or_ge y i with q | q
    · have := (h n).2 ⟨y, q, h2⟩; omega
    · have : y = i := by omega
      subst this; omega⟩
theorem Tops.no (h : Tops o i tp) (O : Orb f m o c) (hi : i < m) (e : o i ≠ tp) : Tops o (i + 1) tp := fun n => ⟨fun hn => by
    obtain ⟨y, h1, h2⟩ := (h n).1 hn
    exact ⟨y, by omega, h2⟩, fun ⟨y, h1, h2⟩ => by
    rcases Nat.lt_or_ge y i with q | q
    · exact (h n).2 ⟨y, q, h2⟩
    · have : y = i := by omega
      subst this
      have := h.le O hi
      omega⟩
theorem Tops.all (h : Tops o m tp) (O : Orb f m o c) : tp = c := by
  rcases Nat.lt_trichotomy tp c with q | q | q
  · obtain ⟨y, h1, h2⟩ := O.each tp q
    exact absurd ((h tp).2 ⟨y, h1, h2⟩) (Nat.lt_irrefl _)
  · exact q
  · obtain ⟨y, h1, h2⟩ := (h c).1 q
    have := (O.lo y h1).2
    omega
theorem Tops.some (h : Tops o i tp) (hi : tp ≤ i) (hn : ∀ y, y < i → 0 ≤ o y) : tp ≤ i := hi
end
/-- from its last one a round goes on with the first -/
theorem face_last {f : Nat → Nat} {d q i : Nat} (R : Rnd f d (1 + q)) (hi : i < 1 + q) : it f i (it f q d) = if i = 0 then it f q d else it f (i - 1) d := by
  cases i with
  | zero => rfl
  | succ i =>
    rw [if_neg (by omega), it_in]
    have e : f (it f q d) = d := by
      have := R.back
      rw [Nat.add_comm] at this
      exact this
    rw [e, Nat.add_sub_cancel]

/-- as step_app, where the append stands behind a guard that is met -/
theorem step_app_g {w : World} {ops : Array Oper} {o : Oper} {a : Act} {K : Act → World → Prop} {Q : Exit → Act → World → Prop} {E : Prop} (hw : Region.wanted o (yielded ops a.tmps) = true) (s x : Operand)
    (ho : o.op = .call { callee := .builtin .append, args := #[s, x], argTypes := #[22, 22] })
    (v : Value) (n : Nat) (g : Nat → Int) (hs : a.eval s = v) (h : Ow w v n g) (ad : Addr) (k c : Nat) (y : Nat → Int) (hx : a.eval x = .slice (some ad) k c) (h0 : ∀ i, i < k → w.cell? (ad.add i) = some (.int .i64 (y i))) (hn : n + k ≤ 100000) (hk : 0 < k)
    (hQ : ∀ b' c' w', Ow w' (.slice (some ⟨b', 0, none⟩) (n + k) c') (n + k) (cat g n y) → w.grownBy w' v.ownBlock → b' < w'.heap.size → K (a.put o.dst (.slice (some ⟨b', 0, none⟩) (n + k) c')) w') :
    if Region.wanted o (yielded ops a.tmps) = true then Oper.wp Try.prog o a w K Q else E := by
  rw [if_pos hw]
  have st := step_app (w := w) (ops := ops) (o := { o with guard := none }) (a := a) (K := K) (Q := Q) (E := True) rfl s x ho v n g hs h ad k c y hx h0 hn hk w.heap.size rfl (fun b' c' w' O g1 _ z => hQ b' c' w' O g1 z)
  rw [if_pos (by rfl)] at st
  exact st

set_option maxRecDepth 100000 in
set_option maxHeartbeats 12800000 in
theorem ones_walk (A : Option Addr) (len cap : Nat) (zs : List Int) (d : Int) (w : World) (hV : Rd w (.slice A len cap) len (fun i => zs.getD i 0)) (hz : ∀ i, i < len → Small (zs.getD i 0)) (hl : len ≤ 9223372036854775807) (hd : Small d) :
    Calls Try.prog 12 #[.slice A len cap, .int .i64 d] w fun e w' => e = .returned (.bool true) ∧ Below w.heap.size w w' := by
  have hok := plane_ok (fun i => zs.getD i 0) len
  go_enter Try.func12, Try.ntmps12
  go_wp2_with fail
  refine (known_ok _).mono ?_
  rintro e w1 ⟨rfl, B1⟩
  go_wp2_with fail
  refine (plane_any _ _ len _ (hV.below B1 (Nat.le_refl _)) hz hl).mono ?_
  rintro e w2 ⟨T, X, C, rfl, R2, b2⟩
  have B2 := B1.trans (b2.mono B1.size)
  clear b2 B1 hz
  generalize planeOf (fun i => zs.getD i 0) len = s at *
  obtain ⟨N, m, t, x, c⟩ := s
  dsimp only at *
  obtain ⟨gr, hN, hM⟩ := hok
  have gr : Grown N m t x c := gr
  have GR := Lib.hid gr
  have gd := gr.good
  have pa := gr.turns.perm
  have pb := pa.bh gd.even
  obtain ⟨TA, tp, rfl, -⟩ := id R2.ot.rd
  obtain ⟨XA, xp, rfl, -⟩ := id R2.ox.rd
  obtain ⟨CA, cp, rfl, -⟩ := id R2.oc.rd
  go_upto_region 4 with fail
  have X3 : Box (w2.alloc (.cells #[.int .i64 (N : Int), .slice TA m tp, .slice XA m xp, .slice CA m cp] 25)) w2.heap.size N (.slice TA m tp) (.slice XA m xp) (.slice CA m cp) := heap_alloc_new _ _
  have b3 : Below w2.heap.size w2 (w2.alloc (.cells #[.int .i64 (N : Int), .slice TA m tp, .slice XA m xp, .slice CA m cp] 25)) := (Below.refl _ _).alloc (Nat.le_refl _) _
  have R3 := R2.below b3 (Nat.le_refl _)
  have B3 := B2.trans (b3.mono B2.size)
  clear b3 R2 B2
  generalize w2.alloc (.cells #[.int .i64 (N : Int), .slice TA m tp, .slice XA m xp, .slice CA m cp] 25) = w3 at *
  generalize w2.heap.size = p at *
  have pl := blk_lt X3
  have c0 : w3.cell? ⟨p, 0, none⟩ = some (.int .i64 (N : Int)) := blk_cell X3 0
  have c1 : w3.cell? ⟨p, 1, none⟩ = some (.slice TA m tp) := blk_cell X3 1
  have c2 : w3.cell? ⟨p, 2, none⟩ = some (.slice XA m xp) := blk_cell X3 2
  have c3 : w3.cell? ⟨p, 3, none⟩ = some (.slice CA m cp) := blk_cell X3 3
  go_wp2_with fail
  refine (faces_ok _ N _ _ _ m t x c R3.ot.rd R3.ox.rd R3.oc.rd gd pb).mono ?_
  rintro e w4 ⟨fv, o, k, rfl, F4, -, O, b4⟩
  obtain ⟨FA, fc, rfl, -⟩ := id F4.rd
  have R4 := R3.below b4 (Nat.le_refl _)
  have X4 := X3.below b4 (Nat.le_refl _)
  have B4 := B3.trans (b4.mono B3.size)
  clear b4 R3 X3 B3 pl c0 c1 c2 c3
  have pl := blk_lt X4
  have c0 : w4.cell? ⟨p, 0, none⟩ = some (.int .i64 (N : Int)) := blk_cell X4 0
  have c1 : w4.cell? ⟨p, 1, none⟩ = some (.slice TA m tp) := blk_cell X4 1
  have c2 : w4.cell? ⟨p, 2, none⟩ = some (.slice XA m xp) := blk_cell X4 2
  have c3 : w4.cell? ⟨p, 3, none⟩ = some (.slice CA m cp) := blk_cell X4 3
  have n1 : ((m : Int) != (m : Int)) = false := by simp
  go_wp2_with fail
  go_loopw [8, 9] (fun u v wr => ∃ i tq : Nat, v = .int .i64 (i : Int) ∧ i ≤ m ∧ u = .int .i64 (tq : Int) ∧ tq ≤ i ∧ Tops o i tq ∧ w4 = wr) (fun _ v _ => m - (intOf v).toNat)
  case atStart => exact ⟨0, 0, rfl, Nat.zero_le _, rfl, Nat.le_refl _, Tops.start o, rfl⟩
  case round =>
    obtain ⟨i, tq, rfl, hi, rfl, hti, Tp, rfl⟩ := hrel
    by_cases him : i < m
    · have i1 : (i : Int) < (m : Int) := by omega
      obtain ⟨fb, fc2, fe, -⟩ := F4.form (by omega)
      injection fe with fe1 fe2 fe3
      subst fe1 fe3
      have cf := F4.cell him
      have le := Tp.le O him
      have lo := (O.lo i him).1
      have z1 : decide (o i > (tq : Int)) = false := by simp; omega
      have z1' : decide ((tq : Int) < o i) = false := by simp; omega
      have z2 : decide (o i < 0) = false := by simp; omega
      have z3 : ¬ ((tq : Int) < o i) := by omega
      have z4 : ¬ (o i < 0) := by omega
      by_cases hq : o i = tq
      · have q1 : (o i == (tq : Int)) = true := by simp [hq]
        have T2 := Lib.hid (Tp.yes hq)
        clear Tp hq le
        go_wp2_with fail
        go_roundw
        case rel => exact ⟨i + 1, tq + 1, by simp, by omega, by simp, by omega, T2.out, trivial⟩
        case measure => simp [intOf]; omega
      · have q1 : (o i == (tq : Int)) = false := by simp [hq]
        have T2 := Lib.hid (Tp.no O him hq)
        clear Tp hq le
        go_wp2_with fail
        go_roundw
        case rel => exact ⟨i + 1, tq, by simp, by omega, rfl, by omega, T2.out, trivial⟩
        case measure => simp [intOf]; omega
    · have i1 : ¬ ((i : Int) < (m : Int)) := by omega
      obtain rfl : m = i := by omega
      obtain rfl := Tp.all O
      clear Tp i1 him hi
      by_cases hm0 : m = 0
      · subst hm0
        obtain rfl : tq = 0 := by omega
        go_wp2_with fail
        go_ret
        exact ⟨by simp, B4⟩
      · have hb : ((m : Int) == 0) = false := by simp; omega
        have hm1 : (0 : Int) < (m : Int) := by omega
        have hk1 : 0 < tq := by have := (O.lo 0 (by omega)); omega
        have mx : ((max tq 1 : Nat) : Int) = (tq : Int) := by omega
        obtain ⟨j, hj, hjm⟩ := small_within (d := d) (m := m) (by omega)
        have HJ := Lib.hid hj
        have HM := Lib.hid mx
        clear hj mx hm0
        go_upto_region 17 with fail
        have D4 : Below w4.heap.size w4 w4.drew := (Below.refl _ w4).drew
        have R5 := R4.below D4 (Nat.le_refl _)
        have KK : Hid (∀ W, Below w4.heap.size w4 W → W.cell? ⟨p, 0, none⟩ = some (.int .i64 (N : Int)) ∧ W.cell? ⟨p, 1, none⟩ = some (.slice TA m tp) ∧ W.cell? ⟨p, 2, none⟩ = some (.slice XA m xp) ∧ W.cell? ⟨p, 3, none⟩ = some (.slice CA m cp)) :=
          Lib.hid fun W B => ⟨(B.cell (p := ⟨p, 0, none⟩) pl).trans c0, (B.cell (p := ⟨p, 1, none⟩) pl).trans c1, (B.cell (p := ⟨p, 2, none⟩) pl).trans c2, (B.cell (p := ⟨p, 3, none⟩) pl).trans c3⟩
        go_region_held3 (fun w' => w'.cell? ⟨p, 0, none⟩ = some (.int .i64 (N : Int)) ∧ w'.cell? ⟨p, 1, none⟩ = some (.slice TA m tp) ∧ w'.cell? ⟨p, 2, none⟩ = some (.slice XA m xp) ∧ w'.cell? ⟨p, 3, none⟩ = some (.slice CA m cp))
          (first | with_reducible exact k1 | go_keep)
          (first
            | (go_at_call 20; refine (within2_any _ d (m : Int) hd hm1 (by omega)).mono ?_; rintro e w5 ⟨rfl, rfl⟩; rw [HJ.out])
            | (go_at_call 33; refine (face_ok w4.drew N _ _ _ m t x c R5.ot.rd R5.ox.rd R5.oc.rd gd pb j hjm).mono ?_; rintro e w6 r6; obtain ⟨lb, kl, rfl, -, ll, ha, Ra, b6⟩ := r6.row; have E6 : Below w4.heap.size w4 w6 := D4.trans (b6.mono (Nat.le_refl _)); have k1 := KK.out w6 E6; have HA := Lib.hid ha; clear b6 ha r6))
        obtain ⟨q, rfl⟩ : ∃ q, kl = 1 + q := ⟨kl - 1, by have := Ra.pos; omega⟩
        have R6 := R4.below E6 (Nat.le_refl _)
        have B6 := B4.trans (E6.mono B4.size)
        have al := pb.it_lt hjm q
        have cq : w6.cell? ⟨lb, q, none⟩ = some (.int .i64 (it (bh x) q j : Int)) := HA.out q (by omega)
        have hqm : 1 + q ≤ m := apart_le (1 + q) (fun i => it (bh x) i j) (fun i _ => pb.it_lt hjm i) Ra.apart
        obtain ⟨v, hv⟩ : ∃ v, it (bh x) q j = v := ⟨_, rfl⟩
        rw [hv] at cq al
        have HV := Lib.hid hv
        clear hv
        have z0 : (((1 + q : Nat) : Int) == 0) = false := by simp; omega
        have z0' : ((1 + (q : Int)) == 0) = false := by simp; omega
        have z1 : decide ((v : Int) < 0) = false := by simp
        have z2 : decide ((v : Int) ≥ (m : Int)) = false := by simp; omega
        have z5 : decide (m ≤ v) = false := by simp; omega
        have z6 : decide ((m : Int) ≤ (v : Int)) = false := by simp; omega
        have l1 : (q : Int) < 1 + (q : Int) := by omega
        have l2 : (0 : Int) ≤ (q : Int) := by omega
        have s1 : (1 : Int) + (q : Int) - 1 = (q : Int) := by omega
        have s2 : IntKind.i64.wrap ((1 : Int) + (q : Int) - 1) = (q : Int) := by rw [IntKind.wrap_i64]; omega
        have s3 : IntKind.i64.wrap (((1 + q : Nat) : Int) - 1) = (q : Int) := by rw [IntKind.wrap_i64]; omega
        have s4 : IntKind.i64.wrap (q : Int) = (q : Int) := by rw [IntKind.wrap_i64]; omega
        have l3 : (q : Int) < ((1 + q : Nat) : Int) := by omega
        have d0 := blk_cell (X4.below E6 (Nat.le_refl _)) 0
        have d1 := blk_cell (X4.below E6 (Nat.le_refl _)) 1
        have d2 := blk_cell (X4.below E6 (Nat.le_refl _)) 2
        have d3 := blk_cell (X4.below E6 (Nat.le_refl _)) 3
        have pl6 := blk_lt (X4.below E6 (Nat.le_refl _))
        have D6 : Below w6.heap.size w6 w6.drew := (Below.refl _ w6).drew
        have R7 := R6.below D6 (Nat.le_refl _)
        clear k1 KK c0 c1 c2 c3 pl R5 D4
        go_upto_region 20 with fail
        go_region_held3 (fun w' => w'.cell? ⟨p, 0, none⟩ = some (.int .i64 (N : Int)) ∧ w'.cell? ⟨p, 1, none⟩ = some (.slice TA m tp) ∧ w'.cell? ⟨p, 2, none⟩ = some (.slice XA m xp) ∧ w'.cell? ⟨p, 3, none⟩ = some (.slice CA m cp) ∧ w'.cell? ⟨lb, q, none⟩ = some (.int .i64 (v : Int)))
          (first | with_reducible exact k1 | go_keep)
          (first
            | (go_at_call 33; refine (face_ok w6.drew N _ _ _ m t x c R7.ot.rd R7.ox.rd R7.oc.rd gd pb v al).mono ?_; rintro e w8 r8; obtain ⟨mb, km, rfl, -, lm, hmm, Rm, b8⟩ := r8.row; have E8 : Below w6.heap.size w6 w8 := D6.trans (b8.mono (Nat.le_refl _)); have k1 := And.intro ((E8.cell (p := ⟨p, 0, none⟩) pl6).trans d0) (And.intro ((E8.cell (p := ⟨p, 1, none⟩) pl6).trans d1) (And.intro ((E8.cell (p := ⟨p, 2, none⟩) pl6).trans d2) (And.intro ((E8.cell (p := ⟨p, 3, none⟩) pl6).trans d3) ((E8.cell (p := ⟨lb, q, none⟩) ll).trans cq)))); have HB := Lib.hid hmm; clear b8 hmm r8))
        have vo : o v = o j := by rw [← HV.out]; exact O.it pb hjm q
        have kk : km = 1 + q := by
          have h1 := Ra.count pb hjm O.fwd O.one
          have h2 := Rm.count pb al O.fwd O.one
          rw [vo] at h2
          exact h2.symm.trans h1
        subst kk
        clear vo
        have B8 := B6.trans (E8.mono B6.size)
        go_upto_region 21 with fail
        have e1 : ((tq : Int) == ((max tq 1 : Nat) : Int)) = true := by rw [HM.out]; simp
        have e2 : (((1 + q : Nat) : Int) == ((1 + q : Nat) : Int)) = true := by simp
        have RM : Rd w8 (.slice (some ⟨mb, 0, none⟩) (1 + q) (1 + q)) (1 + q) (fun i => (it (bh x) i v : Int)) := ⟨_, _, rfl, fun _ => ⟨_, rfl, lm, fun i hi => by rw [add_head]; exact HB.out i hi⟩⟩
        have cl8 : w8.cell? ⟨lb, q, none⟩ = some (.int .i64 (v : Int)) := (E8.cell (p := ⟨lb, q, none⟩) ll).trans cq
        have ll8 : lb < w8.heap.size := Nat.lt_of_lt_of_le ll E8.size
        have bV : Below w8.heap.size w8 (w8.alloc (.cells #[.int .i64 (v : Int)] 3)) := (Below.refl _ _).alloc (Nat.le_refl _) _
        have OV : Ow (w8.alloc (.cells #[.int .i64 (v : Int)] 3)).drew (.slice (some ⟨w8.heap.size, 0, none⟩) 1 1) 1 (fun _ => (v : Int)) := Ow.lit1 w8 _ _ rfl
        have hs : (w8.alloc (.cells #[.int .i64 (v : Int)] 3)).heap.size = w8.heap.size + 1 := by simp
        have HS := Lib.hid hs
        have HC : Hid (∀ i, i < q → (w8.alloc (.cells #[.int .i64 (v : Int)] 3)).drew.cell? ((⟨lb, 0, none⟩ : Addr).add i) = some (.int .i64 (it (bh x) i j : Int))) := Lib.hid fun i hi => by
          rw [add_head]
          exact ((E8.trans (bV.mono E8.size)).cell (p := ⟨lb, i, none⟩) ll).trans (HA.out i (by omega))
        have HE : Hid (∀ i, i < 1 + q → (it (bh x) i v : Int) = cat (fun _ => (v : Int)) 1 (fun i => (it (bh x) i j : Int)) i) := Lib.hid fun i hi => by
          rw [← HV.out, face_last Ra hi]
          rcases Nat.eq_zero_or_pos i with h | h
          · subst h; rw [if_pos rfl, cat_lo (by omega)]
          · rw [if_neg (by omega), cat_hi (by omega)]
        clear hs k1 d0 d1 d2 d3 cq R7 D6
        have l4 : (q : Int) ≤ 1 + (q : Int) := by omega
        have l5 : (q : Int) ≤ ((1 + q : Nat) : Int) := by omega
        rcases Nat.eq_zero_or_pos q with hq | hq
        · subst hq
          have w0 : IntKind.i64.wrap 0 = 0 := by decide +kernel
          have w1 : IntKind.i64.wrap ((1 : Int) - 1) = 0 := by decide +kernel
          have w2 : IntKind.i64.wrap (((1 + 0 : Nat) : Int) - 1) = 0 := by decide +kernel
          have u0 : (0 : Int) < (1 : Int) := by omega
          clear s1 s2 s3 s4 l1 l2 l3 l4 l5
          have EV : Hid (∀ i, i < 1 → (it (bh x) i v : Int) = (v : Int)) := Lib.hid fun i hi => by rw [show i = 0 by omega]; rfl
          go_region_held3 (fun w' => w'.cell? ⟨lb, 0, none⟩ = some (.int .i64 (v : Int)))
            (first | with_reducible exact k1 | go_keep)
            (first
              | (go_at_call 25; refine (ints_same _ _ _ 1 (fun i => (it (bh x) i v : Int)) (fun _ => (v : Int)) (by omega) (RM.below bV.drew (Nat.le_refl _)) OV.rd EV.out).mono ?_; rintro e w10 ⟨rfl, b10⟩; have B10 : Below w8.heap.size w8 w10 := bV.drew.trans (b10.mono (by simp)); have k1 := (B10.cell (p := ⟨lb, 0, none⟩) ll8).trans cl8))
          go_wp2_with fail
          go_ret
          exact ⟨rfl, B8.trans (B10.mono B8.size)⟩
        · go_region_held3 (fun w' => w'.cell? ⟨lb, q, none⟩ = some (.int .i64 (v : Int)))
            (first | with_reducible exact k1 | go_keep)
            (first
              | (refine step_app_g (o := ⟨some 120, _, _, _, _, _⟩) (by rfl) _ _ (by rfl) (.slice (some ⟨w8.heap.size, 0, none⟩) 1 1) 1 (fun _ => (v : Int)) (by rfl) OV ⟨lb, 0, none⟩ q (1 + q) (fun i => (it (bh x) i j : Int)) (by rfl) HC.out (by omega) (by omega) ?_; intro b9 c9 w9 O9 g9 z9; have B9 : Below w8.heap.size w8 w9 := Below.grown bV.drew g9 (by have := HS.out; simp) (fun k hk => by simp [Value.ownBlock] at hk; omega); have k1 := (B9.cell (p := ⟨lb, q, none⟩) ll8).trans cl8)
              | (go_at_call 25; refine (ints_same w9 _ _ (1 + q) (fun i => (it (bh x) i v : Int)) (cat (fun _ => (v : Int)) 1 (fun i => (it (bh x) i j : Int))) (by omega) (RM.below B9 (Nat.le_refl _)) O9.rd HE.out).mono ?_; rintro e w10 ⟨rfl, b10⟩; have B10 : Below w8.heap.size w8 w10 := B9.trans (b10.mono B9.size); have k1 := (B10.cell (p := ⟨lb, q, none⟩) ll8).trans cl8))
          go_wp2_with fail
          go_ret
          exact ⟨rfl, B8.trans (B10.mono B8.size)⟩
end Go.Proofs.Ytcejjcopchkmeaa.Ro
