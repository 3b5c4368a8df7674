/- Plain: what Check tells of the nets of a law. -/
import Derived.Test.YtcejjcopchkmeaaRoPx
namespace Go.Proofs.Ytcejjcopchkmeaa.Ro
open Go.RowKit Go.Proofs
set_option linter.unusedVariables false
set_option maxRecDepth 100000
set_option linter.unusedSimpArgs false

def rowL (l : List Int) : Nat → Int := fun i => l.getD i 0
theorem tells_shape {N : Int} {m mx mc : Nat} {t x c : Nat → Int} {r : Int} (h : shapeF N m mx mc t x = r) (h0 : r ≠ 0) : TellsAny N m mx mc t x c r := .inl ⟨by rw [h]; exact h0, h.symm⟩
theorem pcs_one (m : Nat) (tl : Nat → Nat) : Pcs 1 m tl (fun _ => 0) 1 :=
  ⟨fun v h => ⟨Int.le_refl _, by show (0 : Int) < 1; omega⟩, fun d h => rfl, fun u v hu hv _ => by rw [show u = 0 by omega, show v = 0 by omega]; exact .refl, fun e he => ⟨0, by omega, by show (0 : Int) = (e : Int); omega⟩, fun v hv e he => by
    have he : (e : Int) < 0 := he
    omega⟩
theorem turns_none (t x : Nat → Int) : Turns 0 t x := ⟨⟨fun x h => by omega, fun x y h => by omega⟩, fun d h => by omega, fun d e h => by omega⟩
theorem turns4 : Turns 2 (rowL [0, 0]) (rowL [1, 0]) :=
  ⟨⟨fun d h => by
    rcases (show d = 0 ∨ d = 1 by omega) with rfl | rfl <;> decide, fun d e hd he q => by
    rcases (show d = 0 ∨ d = 1 by omega) with rfl | rfl <;> rcases (show e = 0 ∨ e = 1 by omega) with rfl | rfl <;> first | rfl | exact absurd q (by decide)⟩, fun d h => by
    rcases (show d = 0 ∨ d = 1 by omega) with rfl | rfl <;> decide, fun d e hd he q => by
    rcases (show d = 0 ∨ d = 1 by omega) with rfl | rfl
    · rcases (show e = 0 ∨ e = 1 by omega) with rfl | rfl
      · exact ⟨0, rfl⟩
      · exact ⟨1, rfl⟩
    · rcases (show e = 0 ∨ e = 1 by omega) with rfl | rfl
      · exact ⟨1, rfl⟩
      · exact ⟨0, rfl⟩⟩
theorem turns10 : Turns 4 (rowL [0, 0, 0, 0]) (rowL [2, 3, 1, 0]) :=
  ⟨⟨fun d h => by
    rcases (show d = 0 ∨ d = 1 ∨ d = 2 ∨ d = 3 by omega) with rfl | rfl | rfl | rfl <;> decide, fun d e hd he q => by
    rcases (show d = 0 ∨ d = 1 ∨ d = 2 ∨ d = 3 by omega) with rfl | rfl | rfl | rfl <;> rcases (show e = 0 ∨ e = 1 ∨ e = 2 ∨ e = 3 by omega) with rfl | rfl | rfl | rfl <;> first | rfl | exact absurd q (by decide)⟩, fun d h => by
    rcases (show d = 0 ∨ d = 1 ∨ d = 2 ∨ d = 3 by omega) with rfl | rfl | rfl | rfl <;> decide, fun d e hd he q => by
    rcases (show d = 0 ∨ d = 1 ∨ d = 2 ∨ d = 3 by omega) with rfl | rfl | rfl | rfl
    · rcases (show e = 0 ∨ e = 1 ∨ e = 2 ∨ e = 3 by omega) with rfl | rfl | rfl | rfl
      · exact ⟨0, rfl⟩
      · exact ⟨2, rfl⟩
      · exact ⟨1, rfl⟩
      · exact ⟨3, rfl⟩
    · rcases (show e = 0 ∨ e = 1 ∨ e = 2 ∨ e = 3 by omega) with rfl | rfl | rfl | rfl
      · exact ⟨2, rfl⟩
      · exact ⟨0, rfl⟩
      · exact ⟨3, rfl⟩
      · exact ⟨1, rfl⟩
    · rcases (show e = 0 ∨ e = 1 ∨ e = 2 ∨ e = 3 by omega) with rfl | rfl | rfl | rfl
      · exact ⟨3, rfl⟩
      · exact ⟨1, rfl⟩
      · exact ⟨0, rfl⟩
      · exact ⟨2, rfl⟩
    · rcases (show e = 0 ∨ e = 1 ∨ e = 2 ∨ e = 3 by omega) with rfl | rfl | rfl | rfl
      · exact ⟨1, rfl⟩
      · exact ⟨3, rfl⟩
      · exact ⟨2, rfl⟩
      · exact ⟨0, rfl⟩⟩
theorem turns11 : Turns 4 (rowL [0, 0, 0, 0]) (rowL [1, 2, 3, 0]) :=
  ⟨⟨fun d h => by
    rcases (show d = 0 ∨ d = 1 ∨ d = 2 ∨ d = 3 by omega) with rfl | rfl | rfl | rfl <;> decide, fun d e hd he q => by
    rcases (show d = 0 ∨ d = 1 ∨ d = 2 ∨ d = 3 by omega) with rfl | rfl | rfl | rfl <;> rcases (show e = 0 ∨ e = 1 ∨ e = 2 ∨ e = 3 by omega) with rfl | rfl | rfl | rfl <;> first | rfl | exact absurd q (by decide)⟩, fun d h => by
    rcases (show d = 0 ∨ d = 1 ∨ d = 2 ∨ d = 3 by omega) with rfl | rfl | rfl | rfl <;> decide, fun d e hd he q => by
    rcases (show d = 0 ∨ d = 1 ∨ d = 2 ∨ d = 3 by omega) with rfl | rfl | rfl | rfl
    · rcases (show e = 0 ∨ e = 1 ∨ e = 2 ∨ e = 3 by omega) with rfl | rfl | rfl | rfl
      · exact ⟨0, rfl⟩
      · exact ⟨1, rfl⟩
      · exact ⟨2, rfl⟩
      · exact ⟨3, rfl⟩
    · rcases (show e = 0 ∨ e = 1 ∨ e = 2 ∨ e = 3 by omega) with rfl | rfl | rfl | rfl
      · exact ⟨3, rfl⟩
      · exact ⟨0, rfl⟩
      · exact ⟨1, rfl⟩
      · exact ⟨2, rfl⟩
    · rcases (show e = 0 ∨ e = 1 ∨ e = 2 ∨ e = 3 by omega) with rfl | rfl | rfl | rfl
      · exact ⟨2, rfl⟩
      · exact ⟨3, rfl⟩
      · exact ⟨0, rfl⟩
      · exact ⟨1, rfl⟩
    · rcases (show e = 0 ∨ e = 1 ∨ e = 2 ∨ e = 3 by omega) with rfl | rfl | rfl | rfl
      · exact ⟨1, rfl⟩
      · exact ⟨2, rfl⟩
      · exact ⟨3, rfl⟩
      · exact ⟨0, rfl⟩⟩
theorem orb4 : Orb (bh (rowL [1, 0])) 2 (rowL [0, 1]) 2 :=
  ⟨fun d h => by
    rcases (show d = 0 ∨ d = 1 by omega) with rfl | rfl <;> decide, fun d h => by
    rcases (show d = 0 ∨ d = 1 by omega) with rfl | rfl <;> rfl, fun d e hd he q => by
    rcases (show d = 0 ∨ d = 1 by omega) with rfl | rfl
    · rcases (show e = 0 ∨ e = 1 by omega) with rfl | rfl
      · exact ⟨0, rfl⟩
      · exact absurd q (by decide)
    · rcases (show e = 0 ∨ e = 1 by omega) with rfl | rfl
      · exact absurd q (by decide)
      · exact ⟨0, rfl⟩, fun e he => by
    rcases (show e = 0 ∨ e = 1 by omega) with rfl | rfl
    · exact ⟨0, by omega, rfl⟩
    · exact ⟨1, by omega, rfl⟩, fun d hd e he => by
    rcases (show d = 0 ∨ d = 1 by omega) with rfl | rfl
    · have q : (e : Int) < 0 := he
      omega
    · have q : (e : Int) < 1 := he
      rcases (show e = 0 by omega) with rfl
      · exact ⟨0, by omega, rfl⟩⟩
theorem orb10 : Orb (bh (rowL [2, 3, 1, 0])) 4 (rowL [0, 0, 0, 0]) 1 :=
  ⟨fun d h => by
    rcases (show d = 0 ∨ d = 1 ∨ d = 2 ∨ d = 3 by omega) with rfl | rfl | rfl | rfl <;> decide, fun d h => by
    rcases (show d = 0 ∨ d = 1 ∨ d = 2 ∨ d = 3 by omega) with rfl | rfl | rfl | rfl <;> rfl, fun d e hd he q => by
    rcases (show d = 0 ∨ d = 1 ∨ d = 2 ∨ d = 3 by omega) with rfl | rfl | rfl | rfl
    · rcases (show e = 0 ∨ e = 1 ∨ e = 2 ∨ e = 3 by omega) with rfl | rfl | rfl | rfl
      · exact ⟨0, rfl⟩
      · exact ⟨2, rfl⟩
      · exact ⟨3, rfl⟩
      · exact ⟨1, rfl⟩
    · rcases (show e = 0 ∨ e = 1 ∨ e = 2 ∨ e = 3 by omega) with rfl | rfl | rfl | rfl
      · exact ⟨2, rfl⟩
      · exact ⟨0, rfl⟩
      · exact ⟨1, rfl⟩
      · exact ⟨3, rfl⟩
    · rcases (show e = 0 ∨ e = 1 ∨ e = 2 ∨ e = 3 by omega) with rfl | rfl | rfl | rfl
      · exact ⟨1, rfl⟩
      · exact ⟨3, rfl⟩
      · exact ⟨0, rfl⟩
      · exact ⟨2, rfl⟩
    · rcases (show e = 0 ∨ e = 1 ∨ e = 2 ∨ e = 3 by omega) with rfl | rfl | rfl | rfl
      · exact ⟨3, rfl⟩
      · exact ⟨1, rfl⟩
      · exact ⟨2, rfl⟩
      · exact ⟨0, rfl⟩, fun e he => by
    rcases (show e = 0 by omega) with rfl
    · exact ⟨0, by omega, rfl⟩, fun d hd e he => by
    rcases (show d = 0 ∨ d = 1 ∨ d = 2 ∨ d = 3 by omega) with rfl | rfl | rfl | rfl
    · have q : (e : Int) < 0 := he
      omega
    · have q : (e : Int) < 0 := he
      omega
    · have q : (e : Int) < 0 := he
      omega
    · have q : (e : Int) < 0 := he
      omega⟩
theorem orb11 : Orb (bh (rowL [1, 2, 3, 0])) 4 (rowL [0, 1, 0, 2]) 3 :=
  ⟨fun d h => by
    rcases (show d = 0 ∨ d = 1 ∨ d = 2 ∨ d = 3 by omega) with rfl | rfl | rfl | rfl <;> decide, fun d h => by
    rcases (show d = 0 ∨ d = 1 ∨ d = 2 ∨ d = 3 by omega) with rfl | rfl | rfl | rfl <;> rfl, fun d e hd he q => by
    rcases (show d = 0 ∨ d = 1 ∨ d = 2 ∨ d = 3 by omega) with rfl | rfl | rfl | rfl
    · rcases (show e = 0 ∨ e = 1 ∨ e = 2 ∨ e = 3 by omega) with rfl | rfl | rfl | rfl
      · exact ⟨0, rfl⟩
      · exact absurd q (by decide)
      · exact ⟨1, rfl⟩
      · exact absurd q (by decide)
    · rcases (show e = 0 ∨ e = 1 ∨ e = 2 ∨ e = 3 by omega) with rfl | rfl | rfl | rfl
      · exact absurd q (by decide)
      · exact ⟨0, rfl⟩
      · exact absurd q (by decide)
      · exact absurd q (by decide)
    · rcases (show e = 0 ∨ e = 1 ∨ e = 2 ∨ e = 3 by omega) with rfl | rfl | rfl | rfl
      · exact ⟨1, rfl⟩
      · exact absurd q (by decide)
      · exact ⟨0, rfl⟩
      · exact absurd q (by decide)
    · rcases (show e = 0 ∨ e = 1 ∨ e = 2 ∨ e = 3 by omega) with rfl | rfl | rfl | rfl
      · exact absurd q (by decide)
      · exact absurd q (by decide)
      · exact absurd q (by decide)
      · exact ⟨0, rfl⟩, fun e he => by
    rcases (show e = 0 ∨ e = 1 ∨ e = 2 by omega) with rfl | rfl | rfl
    · exact ⟨0, by omega, rfl⟩
    · exact ⟨1, by omega, rfl⟩
    · exact ⟨3, by omega, rfl⟩, fun d hd e he => by
    rcases (show d = 0 ∨ d = 1 ∨ d = 2 ∨ d = 3 by omega) with rfl | rfl | rfl | rfl
    · have q : (e : Int) < 0 := he
      omega
    · have q : (e : Int) < 1 := he
      rcases (show e = 0 by omega) with rfl
      · exact ⟨0, by omega, rfl⟩
    · have q : (e : Int) < 0 := he
      omega
    · have q : (e : Int) < 2 := he
      rcases (show e = 0 ∨ e = 1 by omega) with rfl | rfl
      · exact ⟨0, by omega, rfl⟩
      · exact ⟨1, by omega, rfl⟩⟩
theorem rk0 : TellsAny 1 0 0 0 (rowL []) (rowL []) (rowL []) 0 := .inr ⟨by decide, .inr (.inr ⟨turns_none _ _, fun d h => by omega, .inr ⟨turns_none _ _, _, 1, pcs_one _ _, .inr ⟨rfl, fun _ => 0, 0, ⟨fun x h => by omega, fun x h => by omega, fun x y h => by omega, fun e h => by omega, fun x h => by omega⟩, .inr ⟨rfl, rfl⟩⟩⟩⟩)⟩
theorem rk1 : TellsAny 0 0 0 0 (rowL []) (rowL []) (rowL []) 3 := tells_shape (by decide) (by decide)
theorem rk2 : TellsAny 2 0 0 0 (rowL []) (rowL []) (rowL []) 7 := .inr ⟨by decide, .inr (.inr ⟨turns_none _ _, fun d h => by omega, .inr ⟨turns_none _ _, fun v => (v : Int), 2, ⟨fun v h => ⟨by show (0 : Int) ≤ (v : Int); omega, by show (v : Int) < 2; omega⟩, fun d h => by omega, fun u v hu hv e => by
    have e : (u : Int) = v := e
    rw [show u = v by omega]; exact .refl, fun e he => ⟨e, he, rfl⟩, fun v hv e he => ⟨e, by have he : (e : Int) < v := he; omega, rfl⟩⟩, .inl ⟨by omega, rfl⟩⟩⟩)⟩
theorem rk3 : TellsAny 61 0 0 0 (rowL []) (rowL []) (rowL []) 2 := tells_shape (by decide) (by decide)
theorem rk4 : TellsAny 1 2 2 2 (rowL [0, 0]) (rowL [1, 0]) (rowL [1, 1]) 0 := .inr ⟨by decide, .inr (.inr ⟨turns4, fun d h => by
    rcases (show d = 0 ∨ d = 1 by omega) with rfl | rfl <;> decide, .inr ⟨turns4, _, 1, pcs_one _ _, .inr ⟨rfl, _, _, orb4, .inr ⟨by decide, rfl⟩⟩⟩⟩)⟩
theorem rk5 : TellsAny 1 2 2 2 (rowL [0, 0]) (rowL [0, 1]) (rowL [1, 1]) 6 := .inr ⟨by decide, .inl ⟨fun T => by
    obtain ⟨j, hj⟩ := T.one 0 1 (by omega) (by omega) rfl
    have st : ∀ j, it (ab (rowL [0, 1])) j 0 = 0 := fun j => by
      induction j with
      | zero => rfl
      | succ j ih => show ab (rowL [0, 1]) (it (ab (rowL [0, 1])) j 0) = 0; rw [ih]; rfl
    rw [st] at hj; omega, rfl⟩⟩
theorem rk6 : TellsAny 1 2 2 2 (rowL [0, 0]) (rowL [1, 0]) (rowL [1, -1]) 4 := .inr ⟨by decide, .inr (.inl ⟨turns4, fun h => absurd (h 1 (by omega)).1 (by decide), rfl⟩)⟩
theorem rk7 : TellsAny 1 2 2 2 (rowL [0, 0]) (rowL [1, 2]) (rowL [1, 1]) 5 := tells_shape (by decide) (by decide)
theorem rk8 : TellsAny 1 2 1 2 (rowL [0, 0]) (rowL [1]) (rowL [1, 1]) 5 := tells_shape (by decide) (by decide)
theorem rk9 : TellsAny 1 2 2 2 (rowL [0, 1]) (rowL [1, 0]) (rowL [1, 1]) 3 := tells_shape (by decide) (by decide)
theorem rk10 : TellsAny 1 4 4 4 (rowL [0, 0, 0, 0]) (rowL [2, 3, 1, 0]) (rowL [1, 1, 1, 1]) 8 := .inr ⟨by decide, .inr (.inr ⟨turns10, fun d h => by
    rcases (show d = 0 ∨ d = 1 ∨ d = 2 ∨ d = 3 by omega) with rfl | rfl | rfl | rfl <;> decide, .inr ⟨turns10, _, 1, pcs_one _ _, .inr ⟨rfl, _, _, orb10, .inl ⟨by decide, rfl⟩⟩⟩⟩)⟩
theorem rk11 : TellsAny 1 4 4 4 (rowL [0, 0, 0, 0]) (rowL [1, 2, 3, 0]) (rowL [1, 1, 1, 1]) 0 := .inr ⟨by decide, .inr (.inr ⟨turns11, fun d h => by
    rcases (show d = 0 ∨ d = 1 ∨ d = 2 ∨ d = 3 by omega) with rfl | rfl | rfl | rfl <;> decide, .inr ⟨turns11, _, 1, pcs_one _ _, .inr ⟨rfl, _, _, orb11, .inr ⟨by decide, rfl⟩⟩⟩⟩)⟩
theorem rk12 : TellsAny 2 2 2 2 (rowL [0, 1]) (rowL [1, 0]) (rowL [1, 1]) 6 := .inr ⟨by decide, .inl ⟨fun T => absurd (T.keep 0 (by omega)) (by decide), rfl⟩⟩
theorem rk13 : TellsAny 1 1 1 1 (rowL [0]) (rowL [0]) (rowL [1]) 5 := tells_shape (by decide) (by decide)
end Go.Proofs.Ytcejjcopchkmeaa.Ro
