/- Plain: a round of k vertices: it is a plane net; how much runs in it. -/
import Derived.Test.YtcdlnohnkdalbaaMxRiBk
import Derived.Test.YtcdlnohnkdalbaaMxRoPu
import Derived.Test.YtcdlnohnkdalbaaMxRxM
namespace Go.Proofs.Ytcdlnohnkdalbaa.Ro
open Go.RowKit Go.Proofs Go.Maps
set_option linter.unusedVariables false
set_option maxRecDepth 100000
set_option linter.unusedSimpArgs false

/-- the next one about, and the one before -/
def nx (k e : Nat) : Nat := if e + 1 = k then 0 else e + 1
def pv (k e : Nat) : Nat := if e = 0 then k - 1 else e - 1
/-- the place j behind s -/
def cyc (k s j : Nat) : Nat := if s + j < k then s + j else s + j - k
/-- how far e lies behind s -/
def pos (k s e : Nat) : Nat := if s ≤ e then e - s else e + k - s
def rgT (k : Nat) : Nat → Int := fun d => if d % 2 = 0 then ((d / 2 : Nat) : Int) else ((nx k (d / 2) : Nat) : Int)
def rgX (k : Nat) : Nat → Int := fun d => if d % 2 = 0 then ((2 * pv k (d / 2) + 1 : Nat) : Int) else ((2 * nx k (d / 2) : Nat) : Int)
def rgC (ce : Nat → Int) : Nat → Int := fun d => ce (d / 2)
section
variable {k : Nat} {ce : Nat → Int}
theorem rg_even (k e : Nat) : rgT k (2 * e) = (e : Int) ∧ rgX k (2 * e) = ((2 * pv k e + 1 : Nat) : Int) ∧ rgC ce (2 * e) = ce e := by
  unfold rgT rgX rgC
  rw [if_pos (by omega), if_pos (by omega), show 2 * e / 2 = e by omega]
  exact ⟨rfl, rfl, rfl⟩
theorem rg_odd (k e : Nat) : rgT k (2 * e + 1) = (nx k e : Int) ∧ rgX k (2 * e + 1) = ((2 * nx k e : Nat) : Int) ∧ rgC ce (2 * e + 1) = ce e := by
  unfold rgT rgX rgC
  rw [if_neg (by omega), if_neg (by omega), show (2 * e + 1) / 2 = e by omega]
  exact ⟨rfl, rfl, rfl⟩
theorem oth_2 (e : Nat) : oth (2 * e) = 2 * e + 1 ∧ oth (2 * e + 1) = 2 * e := by unfold oth; rw [if_pos (by omega), if_neg (by omega)]; exact ⟨rfl, by omega⟩
theorem half_cases {P : Nat → Prop} (h0 : ∀ e, e < k → P (2 * e)) (h1 : ∀ e, e < k → P (2 * e + 1)) : ∀ d, d < 2 * k → P d := fun d hd => by
  rcases (show d % 2 = 0 ∨ d % 2 = 1 by omega) with q | q
  · have := h0 (d / 2) (by omega)
    rwa [show 2 * (d / 2) = d by omega] at this
  · have := h1 (d / 2) (by omega)
    rwa [show 2 * (d / 2) + 1 = d by omega] at this
theorem half_cases2 {P : Nat → Nat → Prop} (h00 : ∀ a, a < k → ∀ b, b < k → P (2 * a) (2 * b)) (h01 : ∀ a, a < k → ∀ b, b < k → P (2 * a) (2 * b + 1)) (h10 : ∀ a, a < k → ∀ b, b < k → P (2 * a + 1) (2 * b)) (h11 : ∀ a, a < k → ∀ b, b < k → P (2 * a + 1) (2 * b + 1)) : ∀ d e, d < 2 * k → e < 2 * k → P d e := fun d e hd he =>
  half_cases (P := fun d => P d e) (fun a ha => half_cases (P := fun e => P (2 * a) e) (h00 a ha) (h01 a ha) e he) (fun a ha => half_cases (P := fun e => P (2 * a + 1) e) (h10 a ha) (h11 a ha) e he) d hd
theorem ab_even (k e : Nat) : ab (rgX k) (2 * e) = 2 * pv k e + 1 := by unfold ab; rw [(rg_even (ce := fun _ => 0) k e).2.1]; rfl
theorem ab_odd (k e : Nat) : ab (rgX k) (2 * e + 1) = 2 * nx k e := by unfold ab; rw [(rg_odd (ce := fun _ => 0) k e).2.1]; rfl
theorem bh_even (k e : Nat) : bh (rgX k) (2 * e) = 2 * nx k e := by
  have : bh (rgX k) (2 * e) = ab (rgX k) (oth (2 * e)) := by unfold bh ab; rfl
  rw [this, (oth_2 e).1, ab_odd]
theorem bh_odd (k e : Nat) : bh (rgX k) (2 * e + 1) = 2 * pv k e + 1 := by
  have : bh (rgX k) (2 * e + 1) = ab (rgX k) (oth (2 * e + 1)) := by unfold bh ab; rfl
  rw [this, (oth_2 e).2, ab_even]
theorem tl_even (k e : Nat) : tlOf (rgT k) (2 * e) = e := by unfold tlOf; rw [(rg_even (ce := fun _ => 0) k e).1]; rfl
theorem tl_odd (k e : Nat) : tlOf (rgT k) (2 * e + 1) = nx k e := by unfold tlOf; rw [(rg_odd (ce := fun _ => 0) k e).1]; rfl
theorem nx_lt {e : Nat} (hk : 0 < k) (h : e < k) : nx k e < k := by unfold nx; split <;> omega
theorem pv_lt {e : Nat} (hk : 0 < k) (h : e < k) : pv k e < k := by unfold pv; split <;> omega
theorem nx_pv {e : Nat} (hk : 0 < k) (h : e < k) : nx k (pv k e) = e := by unfold nx pv; split <;> split <;> omega
theorem pv_nx {e : Nat} (h : e < k) : pv k (nx k e) = e := by unfold nx pv; split <;> split <;> omega
theorem it_even (k : Nat) {e : Nat} (h : e < k) : ∀ j, j < k → it (bh (rgX k)) j (2 * e) = 2 * cyc k e j
  | 0, _ => by show 2 * e = 2 * cyc k e 0; unfold cyc; rw [if_pos (by omega)]; rfl
  | j + 1, hj => by
    show bh (rgX k) (it (bh (rgX k)) j (2 * e)) = _
    rw [it_even k h j (by omega), bh_even]
    congr 1
    unfold nx cyc
    split <;> split <;> split <;> omega
theorem it_odd (k : Nat) {e : Nat} (h : e < k) : ∀ j, j < k → it (bh (rgX k)) j (2 * cyc k e j + 1) = 2 * e + 1
  | 0, _ => by show 2 * cyc k e 0 + 1 = _; unfold cyc; rw [if_pos (by omega)]; rfl
  | j + 1, hj => by
    rw [it_in, bh_odd]
    have : pv k (cyc k e (j + 1)) = cyc k e j := by
      unfold pv cyc
      split <;> split <;> (try split) <;> omega
    rw [this]
    exact it_odd k h j (by omega)
theorem cyc_pos {s e : Nat} (hs : s < k) (he : e < k) : cyc k s (pos k s e) = e ∧ pos k s e < k := by
  unfold cyc pos
  split <;> split <;> omega
theorem ring_grown (hk : 3 ≤ k) (hk2 : k ≤ 11) (hc : ∀ e, e < k → 0 ≤ ce e ∧ ce e ≤ 2147483648) : Grown k (2 * k) (rgT k) (rgX k) (rgC ce) := by
  have k0 : 0 < k := by omega
  have pm : Perm (ab (rgX k)) (2 * k) := by
    have inv : ∀ d, d < 2 * k → ab (rgX k) (ab (rgX k) d) = d := half_cases (fun e he => by rw [ab_even, ab_odd, nx_pv k0 he]) (fun e he => by rw [ab_odd, ab_even, pv_nx he])
    refine ⟨half_cases (fun e he => by rw [ab_even]; have := pv_lt k0 he; omega) (fun e he => by rw [ab_odd]; have := nx_lt k0 he; omega), fun a b ha hb e => ?_⟩
    rw [← inv a ha, ← inv b hb, e]
  refine ⟨⟨by omega, by omega, by omega, by omega, half_cases (fun e he => ?_) (fun e he => ?_), half_cases (fun e he => ?_) (fun e he => ?_)⟩, ⟨pm, half_cases (fun e he => ?_) (fun e he => ?_), ?_⟩, half_cases (fun e he => ?_) (fun e he => ?_), ?_, ?_⟩
  · rw [(rg_even (ce := ce) k e).2.1]; have := pv_lt k0 he; omega
  · rw [(rg_odd (ce := ce) k e).2.1]; have := nx_lt k0 he; omega
  · rw [(rg_even (ce := ce) k e).1]; omega
  · rw [(rg_odd (ce := ce) k e).1]; have := nx_lt k0 he; omega
  · rw [ab_even, tl_odd, tl_even, nx_pv k0 he]
  · rw [ab_odd, tl_odd, tl_even]
  · refine half_cases2 (fun e he e' he' q => ?_) (fun e he e' he' q => ?_) (fun e he e' he' q => ?_) (fun e he e' he' q => ?_)
    · rw [tl_even, tl_even] at q; subst q; exact ⟨0, rfl⟩
    · rw [tl_even, tl_odd] at q; exact ⟨1, by show ab (rgX k) (2 * e) = _; rw [ab_even, q, pv_nx he']⟩
    · rw [tl_odd, tl_even] at q; exact ⟨1, by show ab (rgX k) (2 * e + 1) = _; rw [ab_odd, q]⟩
    · rw [tl_odd, tl_odd] at q
      have := congrArg (pv k) q
      rw [pv_nx he, pv_nx he'] at this
      subst this; exact ⟨0, rfl⟩
  · rw [(rg_even (ce := ce) k e).2.2]; exact hc e he
  · rw [(rg_odd (ce := ce) k e).2.2]; exact hc e he
  · intro u v hu hv
    have step : ∀ j, j < k → Conn (2 * k) (tlOf (rgT k)) u (cyc k u j) := fun j => by
      induction j with
      | zero => intro _; rw [show cyc k u 0 = u by unfold cyc; rw [if_pos (by omega)]; rfl]; exact .refl
      | succ j ih =>
        intro hj
        have h1 := ih (by omega)
        have hl : cyc k u j < k := by unfold cyc; split <;> omega
        rw [← tl_even k (cyc k u j)] at h1
        have h2 := Conn.step (show 2 * cyc k u j < 2 * k by omega) h1
        rw [(oth_2 (cyc k u j)).1, tl_odd] at h2
        rw [show cyc k u (j + 1) = nx k (cyc k u j) by unfold nx cyc; split <;> split <;> split <;> omega]
        exact h2
    obtain ⟨h1, h2⟩ := cyc_pos hu hv
    have := step _ h2
    rwa [h1] at this
  · refine ⟨fun d => d % 2, 2, ⟨⟨half_cases (fun e he => ?_) (fun e he => ?_), half_cases2 (fun e he e' he' q => ?_) (fun e he e' he' q => ?_) (fun e he e' he' q => ?_) (fun e he e' he' q => ?_)⟩, fun d hd => by omega, fun e he => ?_⟩, by omega⟩
    · rw [bh_even]; omega
    · rw [bh_odd]; omega
    · obtain ⟨h1, h2⟩ := cyc_pos he he'
      exact ⟨pos k e e', by rw [it_even k he _ h2, h1]⟩
    · omega
    · omega
    · obtain ⟨h1, h2⟩ := cyc_pos he' he
      exact ⟨pos k e' e, by have := it_odd k he' _ h2; rwa [h1] at this⟩
    · rcases (show e = 0 ∨ e = 1 by omega) with rfl | rfl
      · exact ⟨0, by omega, rfl⟩
      · exact ⟨1, by omega, rfl⟩
/-- at a vertex of the round two darts begin -/
theorem ring_val (hk : 3 ≤ k) (g : Nat → Int) {u : Nat} (hu : u < k) : val (2 * k) (rgT k) g (u : Int) = g (2 * u) + g (2 * pv k u + 1) := by
  have k0 : 0 < k := by omega
  have hp := pv_lt k0 hu
  unfold val
  rw [sm_congr (g := fun d => (if d = 2 * u then g d else 0) + (if d = 2 * pv k u + 1 then g d else 0)) (2 * k) (half_cases (fun e he => ?_) (fun e he => ?_)), sm_add, sm_one _ _ _ (by omega), sm_one _ _ _ (by omega)]
  · rw [(rg_even (ce := fun _ => 0) k e).1]
    have i1 : ((e : Int) = (u : Int)) ↔ 2 * e = 2 * u := by omega
    rw [if_neg (show ¬ 2 * e = 2 * pv k u + 1 by omega)]
    simp only [i1]; omega
  · rw [(rg_odd (ce := fun _ => 0) k e).1, if_neg (show ¬ 2 * e + 1 = 2 * u by omega)]
    have i1 : ((nx k e : Nat) : Int) = (u : Int) ↔ 2 * e + 1 = 2 * pv k u + 1 := by
      constructor
      · intro h
        have h : nx k e = u := by omega
        have := congrArg (pv k) h
        rw [pv_nx he] at this
        omega
      · intro h
        have h : e = pv k u := by omega
        rw [h, nx_pv k0 hu]
    simp only [i1]; omega
theorem ring_pots (hk : 3 ≤ k) : Pots (2 * k) (rgT k) (rgX k) := fun g C => by
  have k0 : 0 < k := by omega
  have a : ∀ e, e < k → g (2 * e + 1) = - g (2 * e) := fun e he => by
    have := C.anti (2 * e) (by omega)
    rwa [(oth_2 e).1] at this
  have st : ∀ e, e < k → g (2 * e) = g (2 * pv k e) := fun e he => by
    have h1 := C.kept (e : Int)
    rw [ring_val hk g he, a _ (pv_lt k0 he)] at h1
    omega
  have al : ∀ e, e < k → g (2 * e) = g 0 := fun e => by
    induction e with
    | zero => intro _; rfl
    | succ e ih =>
      intro he
      rw [st (e + 1) he, show pv k (e + 1) = e by unfold pv; rw [if_neg (by omega)]; rfl]
      exact ih (by omega)
  refine ⟨fun d => if d % 2 = 0 then 0 else g 0, half_cases (fun e he => ?_) (fun e he => ?_), half_cases (fun e he => ?_) (fun e he => ?_)⟩
  · rw [bh_even]
    show (if 2 * nx k e % 2 = 0 then 0 else g 0) = (if 2 * e % 2 = 0 then 0 else g 0)
    rw [if_pos (by omega), if_pos (by omega)]
  · rw [bh_odd]
    show (if (2 * pv k e + 1) % 2 = 0 then 0 else g 0) = (if (2 * e + 1) % 2 = 0 then 0 else g 0)
    rw [if_neg (by omega), if_neg (by omega)]
  · rw [(oth_2 e).1]
    show g (2 * e) = (if (2 * e + 1) % 2 = 0 then 0 else g 0) - (if 2 * e % 2 = 0 then 0 else g 0)
    rw [if_neg (by omega), if_pos (by omega), al e he]; omega
  · rw [(oth_2 e).2]
    show g (2 * e + 1) = (if 2 * e % 2 = 0 then 0 else g 0) - (if (2 * e + 1) % 2 = 0 then 0 else g 0)
    rw [if_pos (by omega), if_neg (by omega), a e he, al e he]; omega
/-- the least of what j edges behind s hold -/
def minUp (k : Nat) (ce : Nat → Int) (s : Nat) : Nat → Int
  | 0 => 1152921504606846976
  | j + 1 => min (minUp k ce s j) (ce (cyc k s j))
theorem minUp_le (s : Nat) : ∀ n j, j < n → minUp k ce s n ≤ ce (cyc k s j)
  | n + 1, j, h => by
    have e : minUp k ce s (n + 1) = min (minUp k ce s n) (ce (cyc k s n)) := rfl
    rcases Nat.lt_or_ge j n with q | q
    · have := minUp_le s n j q; omega
    · rw [show j = n by omega]; omega
theorem le_minUp (s : Nat) {b : Int} (hb : b ≤ 1152921504606846976) : ∀ n, (∀ j, j < n → b ≤ ce (cyc k s j)) → b ≤ minUp k ce s n
  | 0, _ => hb
  | n + 1, h => by
    have e : minUp k ce s (n + 1) = min (minUp k ce s n) (ce (cyc k s n)) := rfl
    have := le_minUp s hb n fun j hj => h j (by omega)
    have := h n (by omega)
    omega
/-- how much runs in a round -/
theorem ring_runs (hk : 3 ≤ k) (hk2 : k ≤ 11) (hc : ∀ e, e < k → 0 ≤ ce e ∧ ce e ≤ 2147483648) {s z : Nat} (hs : s < k) (hz : z < k) (hne : s ≠ z) {n : Nat} {y : Nat → Int} {u code : Int} (h : FlowIs k (2 * k) (rgX k) (rgT k) (rgC ce) (s : Int) (z : Int) n y u code) :
    code = 0 ∧ u = minUp k ce s (pos k s z) + minUp k ce z (pos k z s) := by
  have k0 : 0 < k := by omega
  have gr := ring_grown hk hk2 hc
  have gd := gr.good
  have tu := gr.turns
  have ps := ring_pots hk
  have ev := gd.even
  have p := tu.perm.bh ev
  have hin : InNet k (s : Int) (z : Int) := ⟨by omega, by omega, by omega, by omega⟩
  obtain ⟨c1, c2⟩ := cyc_pos hs hz
  obtain ⟨c3, c4⟩ := cyc_pos hz hs
  have J0 : 0 < pos k s z := by unfold pos; split <;> omega
  have J1 : 0 < pos k z s := by unfold pos; split <;> omega
  have JJ : pos k s z + pos k z s = k := by unfold pos; split <;> split <;> omega
  rcases h with ⟨-, -, h⟩ | ⟨o, K, f, D, -, rfl, rfl, -, h⟩
  · exfalso
    refine h.apart hin (by omega) p ⟨2 * s, 2 * z, by omega, by omega, ⟨pos k s z, by rw [it_even k hs _ c2, c1]⟩, (rg_even (ce := ce) k s).1, (rg_even (ce := ce) k z).1⟩
  · refine ⟨rfl, Int.le_antisymm ?_ ?_⟩
    · -- no more than both ways hold
      obtain ⟨F, hF⟩ := h.flows gd tu (by omega) gr.caps
      generalize fallOf o D = φ at *
      have a : ∀ e, e < k → φ (2 * e + 1) = - φ (2 * e) := fun e he => by
        have := F.anti (2 * e) (by omega)
        rwa [(oth_2 e).1] at this
      have st : ∀ e, e < k → φ (2 * e) - φ (2 * pv k e) = (if (e : Int) = (s : Int) then D K else 0) + (if (e : Int) = (z : Int) then - D K else 0) := fun e he => by
        have h1 := F.kept (e : Int)
        rw [ring_val hk φ he, a _ (pv_lt k0 he)] at h1
        omega
      have cl : ∀ b j, b < k → j < k → cyc k b j < k := fun b j hb hj => by unfold cyc; split <;> omega
      have pc : ∀ b j, b < k → j + 1 < k → pv k (cyc k b (j + 1)) = cyc k b j := fun b j hb hj => by unfold pv cyc; split <;> split <;> (try split) <;> omega
      have w1 : ∀ j, j < pos k s z → φ (2 * cyc k s j) = φ (2 * s) := fun j => by
        induction j with
        | zero => intro _; rw [show cyc k s 0 = s by unfold cyc; rw [if_pos (by omega)]; rfl]
        | succ j ih =>
          intro hj
          have h1 := st (cyc k s (j + 1)) (cl s _ hs (by omega))
          rw [pc s j hs (by omega), if_neg, if_neg, ih (by omega)] at h1
          · omega
          · intro q
            have : cyc k s (j + 1) = z := by omega
            unfold cyc pos at *
            split at this <;> split at hj <;> omega
          · intro q
            have : cyc k s (j + 1) = s := by omega
            unfold cyc at this
            split at this <;> omega
      have w2 : ∀ j, j < pos k z s → φ (2 * cyc k z j) = φ (2 * z) := fun j => by
        induction j with
        | zero => intro _; rw [show cyc k z 0 = z by unfold cyc; rw [if_pos (by omega)]; rfl]
        | succ j ih =>
          intro hj
          have h1 := st (cyc k z (j + 1)) (cl z _ hz (by omega))
          rw [pc z j hz (by omega), if_neg, if_neg, ih (by omega)] at h1
          · omega
          · intro q
            have : cyc k z (j + 1) = z := by omega
            unfold cyc at this
            split at this <;> omega
          · intro q
            have : cyc k z (j + 1) = s := by omega
            unfold cyc pos at *
            split at this <;> split at hj <;> omega
      have hV := st s hs
      rw [if_pos rfl, if_neg (by omega)] at hV
      have pz : pv k s = cyc k z (pos k z s - 1) := by unfold pv cyc pos; split <;> split <;> (try split) <;> omega
      rw [pz, w2 _ (by omega)] at hV
      have b1 : φ (2 * s) ≤ minUp k ce s (pos k s z) := by
        have h0 := hF (2 * s) (by omega)
        rw [(rg_even (ce := ce) k s).2.2] at h0
        have := hc s hs
        refine le_minUp s (by omega) _ fun j hj => ?_
        rw [← w1 j hj]
        have := hF (2 * cyc k s j) (by have := cl s j hs (by omega); omega)
        rwa [(rg_even (ce := ce) k (cyc k s j)).2.2] at this
      have b2 : - φ (2 * z) ≤ minUp k ce z (pos k z s) := by
        have h0 := hF (2 * z + 1) (by omega)
        rw [(rg_odd (ce := ce) k z).2.2, a z hz] at h0
        have := hc z hz
        refine le_minUp z (by omega) _ fun j hj => ?_
        have hl := cl z j hz (by omega)
        rw [← w2 j hj, ← a _ hl]
        have := hF (2 * cyc k z j + 1) (by omega)
        rwa [(rg_odd (ce := ce) k (cyc k z j)).2.2] at this
      omega
    · -- as much as both ways hold
      obtain ⟨m1, hm1⟩ : ∃ m1, m1 = minUp k ce s (pos k s z) := ⟨_, rfl⟩
      obtain ⟨m2, hm2⟩ : ∃ m2, m2 = minUp k ce z (pos k z s) := ⟨_, rfl⟩
      have n1 : 0 ≤ m1 := by rw [hm1]; exact le_minUp s (by omega) _ fun j hj => (hc _ (by unfold cyc; split <;> omega)).1
      have n2 : 0 ≤ m2 := by rw [hm2]; exact le_minUp z (by omega) _ fun j hj => (hc _ (by unfold cyc; split <;> omega)).1
      rw [← hm1, ← hm2]
      refine h.most ps gd tu (by omega) gr.caps (g := fun d => if d % 2 = 0 then (if pos k s (d / 2) < pos k s z then m1 else -m2) else (if pos k s (d / 2) < pos k s z then -m1 else m2)) ⟨half_cases (fun e he => ?_) (fun e he => ?_), fun w => ?_⟩ (half_cases (fun e he => ?_) (fun e he => ?_))
      · rw [(oth_2 e).1]
        show (if (2 * e + 1) % 2 = 0 then _ else (if pos k s ((2 * e + 1) / 2) < pos k s z then -m1 else m2)) = - (if 2 * e % 2 = 0 then (if pos k s (2 * e / 2) < pos k s z then m1 else -m2) else _)
        rw [if_neg (show ¬ (2 * e + 1) % 2 = 0 by omega), if_pos (show 2 * e % 2 = 0 by omega), show (2 * e + 1) / 2 = e by omega, show 2 * e / 2 = e by omega]
        split <;> omega
      · rw [(oth_2 e).2]
        show (if 2 * e % 2 = 0 then (if pos k s (2 * e / 2) < pos k s z then m1 else -m2) else _) = - (if (2 * e + 1) % 2 = 0 then _ else (if pos k s ((2 * e + 1) / 2) < pos k s z then -m1 else m2))
        rw [if_neg (show ¬ (2 * e + 1) % 2 = 0 by omega), if_pos (by omega), show (2 * e + 1) / 2 = e by omega, show 2 * e / 2 = e by omega]
        split <;> omega
      · by_cases hw : 0 ≤ w ∧ w < k
        · obtain ⟨e, rfl⟩ : ∃ e : Nat, w = (e : Int) := ⟨w.toNat, by omega⟩
          have he : e < k := by omega
          rw [ring_val hk _ he]
          show (if 2 * e % 2 = 0 then (if pos k s (2 * e / 2) < pos k s z then m1 else -m2) else _) + (if (2 * pv k e + 1) % 2 = 0 then _ else (if pos k s ((2 * pv k e + 1) / 2) < pos k s z then -m1 else m2)) = _
          rw [if_pos (by omega), if_neg (show ¬ (2 * pv k e + 1) % 2 = 0 by omega), show 2 * e / 2 = e by omega, show (2 * pv k e + 1) / 2 = pv k e by omega]
          by_cases q1 : e = s
          · subst q1
            have g1 : pos k e e = 0 := by unfold pos; rw [if_pos (by omega)]; omega
            have g2 : pos k e (pv k e) = k - 1 := by unfold pos pv; split <;> split <;> omega
            rw [if_pos rfl, if_neg (show ¬ (e : Int) = (z : Int) by omega), if_pos (by omega), if_neg (by omega)]; omega
          · rw [if_neg (show ¬ (e : Int) = (s : Int) by omega)]
            have g2 : pos k s (pv k e) + 1 = pos k s e := by unfold pos pv; split <;> split <;> (try split) <;> omega
            by_cases q2 : e = z
            · subst q2
              rw [if_pos rfl, if_neg (by omega), if_pos (by omega)]; omega
            · rw [if_neg (show ¬ (e : Int) = (z : Int) by omega)]
              have g3 : pos k s e ≠ pos k s z := by
                intro q
                have h1 := (cyc_pos hs he).1
                rw [q, c1] at h1
                omega
              by_cases q3 : pos k s e < pos k s z
              · rw [if_pos q3, if_pos (by omega)]; omega
              · rw [if_neg q3, if_neg (by omega)]; omega
        · rw [val_none, if_neg (by omega), if_neg (by omega)]
          · rfl
          · intro d hd q
            have := gd.tail d hd
            omega
      · rw [(rg_even (ce := ce) k e).2.2]
        show (if 2 * e % 2 = 0 then (if pos k s (2 * e / 2) < pos k s z then m1 else -m2) else _) ≤ ce e
        rw [if_pos (by omega), show 2 * e / 2 = e by omega]
        split
        · rename_i q
          have := minUp_le (ce := ce) (k := k) s (pos k s z) _ q
          rw [(cyc_pos hs he).1] at this
          omega
        · have := hc e he; omega
      · rw [(rg_odd (ce := ce) k e).2.2]
        show (if (2 * e + 1) % 2 = 0 then _ else (if pos k s ((2 * e + 1) / 2) < pos k s z then -m1 else m2)) ≤ ce e
        rw [if_neg (by omega), show (2 * e + 1) / 2 = e by omega]
        split
        · have := hc e he; omega
        · rename_i q
          have g4 : pos k z e < pos k z s := by
            unfold pos at q ⊢
            split at q <;> split at q <;> split <;> split <;> omega
          have := minUp_le (ce := ce) (k := k) z (pos k z s) _ g4
          rw [(cyc_pos hz he).1] at this
          omega
end
end Go.Proofs.Ytcdlnohnkdalbaa.Ro
