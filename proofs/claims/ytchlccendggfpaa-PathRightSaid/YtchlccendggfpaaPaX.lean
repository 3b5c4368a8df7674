/- Walks: the last region of Round, of the document's chapter 6. -/
import Derived.Test.YtchlccendggfpaaPaP
import Derived.Test.YtchlccendggfpaaRoTk
namespace Go.Proofs.Ytchlccendggfpaa.Ro
open Go.RowKit Go.Proofs
set_option linter.unusedVariables false
set_option linter.unusedSimpArgs false

/-- a function's region of a number -/
def regionOf (n : Nat) : Code → Option Code
  | .region id ops d => if id = n then some (.region id ops d) else none
  | .loop c => regionOf n c
  | .seq a b => match regionOf n a with
    | some c => some c
    | none => regionOf n b
  | .block _ c => regionOf n c
  | .scope c => regionOf n c
  | .cond _ a b => match regionOf n a with
    | some c => some c
    | none => regionOf n b
  | _ => none
noncomputable def codeRound18 : Code := (Try.f22.body.bind (regionOf 18)).getD .skip
theorem below_drew (w : World) : Below w.heap.size w w.drew := (Below.refl _ w).drew

set_option maxRecDepth 100000 in
set_option maxHeartbeats 12800000 in
theorem regRound18 (w : World) (n k s b m c vb vc r0 fr : Nat) (sm : Int) (S : ArcsF) (K : Act → World → Prop) (Q' : Exit → Act → World → Prop) (v4 v5 v6 v7 v8 v10 v11 v12 v13 v14 v15 v16 v17 v18 v19 v20 v21 v22 v23 v24 v25 v26 v27 v28 v29 v30 v31 v32 v33 v34 v35 v36 v37 v38 v39 v40 v41 v42 v43 v44 v45 v46 v47 v48 v49 v50 v51 v52 v53 v54 v55 v56 v57 v58 v59 v60 v61 v62 v63 v64 v65 v66 v67 v68 v69 v70 v71 v72 v73 v74 v75 v76 v77 v78 v79 v80 v81 v82 v83 v84 v85 v86 v87 v88 v89 v90 v91 v92 v93 v94 v95 v96 v97 v98 v99 v100 v101 v102 v103 v104 v105 v106 : Value)
    (hV : RdA w (.slice (some ⟨vb, 0, none⟩) k vc) k S) (A : ArcsIn S k n 4294967296) (hs : s < n) (hn : n ≤ 100) (hk : k ≤ 200)
    (q4 : decide (sm < 0) = true) (c1 : w.cell? ⟨b, 0, none⟩ = some (.int .i64 (r0 : Int))) (lb : b < w.heap.size) (y1 : w.cell? ⟨vb, r0 * 3, none⟩ = some (.int .i64 (fr : Int))) (lv : vb < w.heap.size)
    (ia : (fr : Int) < (n : Int)) (ir : (r0 : Int) < (k : Int)) (im : 0 < m) (RC : Hid (∃ c q, Way S k s fr c q))
    (hK : ∀ (u90 u91 u92 u93 u94 u95 u96 u97 u98 u99 u100 u101 u102 u103 u104 u105 u106 : Value) (w2 : World), Below w.heap.size w w2 → K ⟨#[.int .i64 (n : Int), .slice (some ⟨vb, 0, none⟩) k vc, .int .i64 (s : Int), .slice (some ⟨b, 0, none⟩) m c, v4, v5, v6, v7, .bool true, .int .i64 sm, v10, v11, v12, v13, v14, v15, v16, v17, v18, v19, v20, v21, v22, v23, v24, v25, v26, v27, v28, v29, v30, v31, v32, v33, v34, v35, v36, v37, v38, v39, v40, v41, v42, v43, v44, v45, v46, v47, v48, v49, v50, v51, v52, v53, v54, v55, v56, v57, v58, v59, v60, v61, v62, v63, v64, v65, v66, v67, v68, v69, v70, v71, v72, v73, v74, v75, v76, v77, v78, v79, v80, v81, v82, v83, v84, v85, v86, v87, v88, v89, u90, u91, u92, u93, u94, u95, u96, u97, u98, u99, u100, u101, u102, u103, u104, u105, u106], []⟩ w2) :
    Code.wp Try.prog codeRound18 (NoPanic (Exit.then K Q')) ⟨#[.int .i64 (n : Int), .slice (some ⟨vb, 0, none⟩) k vc, .int .i64 (s : Int), .slice (some ⟨b, 0, none⟩) m c, v4, v5, v6, v7, v8, .int .i64 sm, v10, v11, v12, v13, v14, v15, v16, v17, v18, v19, v20, v21, v22, v23, v24, v25, v26, v27, v28, v29, v30, v31, v32, v33, v34, v35, v36, v37, v38, v39, v40, v41, v42, v43, v44, v45, v46, v47, v48, v49, v50, v51, v52, v53, v54, v55, v56, v57, v58, v59, v60, v61, v62, v63, v64, v65, v66, v67, v68, v69, v70, v71, v72, v73, v74, v75, v76, v77, v78, v79, v80, v81, v82, v83, v84, v85, v86, v87, v88, v89, v90, v91, v92, v93, v94, v95, v96, v97, v98, v99, v100, v101, v102, v103, v104, v105, v106], []⟩ w := by
  have hKK := Lib.hid hK
  have hf : fr < n := by omega
  clear hK
  have CT := Lib.hid (reached_any w.drew n k s _ S (hV.below (below_drew w) (Nat.le_refl _)) A hs hn hk)
  clear hV A
  conv => arg 2; whnf
  refine wp_region_held_drew (S := fun w' => w'.cell? ⟨b, 0, none⟩ = some (.int .i64 (r0 : Int)) ∧ w'.cell? ⟨vb, r0 * 3, none⟩ = some (.int .i64 (fr : Int))) (by kernel_rfl) ⟨c1, y1⟩ (fun hHeld => ?_)
  refine held_takes (by kernel_rfl) (fun _ _ _ _ _ h => h) [0, 1, 2, 3, 4, 5, 7, 8, 9, 10, 11, 12, 13] _ 5 _ _ _ rfl (by kernel_rfl) (by kernel_rfl) hHeld ?_
  simp only [pick, List.drop_succ_cons, List.drop_zero]
  iterate 13 (refine wpTakes_cons (v := ?_) (Or.inl ⟨by rfl, ?_⟩) ?_; rotate_left; (intro w hSw; (try dsimp only at hSw); go_simp <;> with_reducible rfl); (try simp only [Act.put, List.setIfInBounds_toArray, List.set_cons_zero, List.set_cons_succ]))
  refine wpTakes_nil ?_
  refine held_one 6 (fuel := 4) rfl (by kernel_rfl) ?_
  simp only [List.drop_succ_cons, List.drop_zero]
  refine wpOne_cons (fun KK hK => ?_)
  go_simp
  refine CT.out.mono ?_
  rintro e w5 ⟨mb, mo, rfl, OB, hmb, hs0, hw, hcl, b5⟩
  have k1 : w5.cell? ⟨b, 0, none⟩ = some (.int .i64 (r0 : Int)) := (b5.cell (p := ⟨b, 0, none⟩) lb).trans c1
  have k2 : w5.cell? ⟨vb, r0 * 3, none⟩ = some (.int .i64 (fr : Int)) := (b5.cell (p := ⟨vb, r0 * 3, none⟩) lv).trans y1
  have co := OB.cell hf
  rw [show mo fr = true by obtain ⟨c, q, wy⟩ := RC.out; exact closed_way hs0 hcl wy] at co
  have B5 : Below w.heap.size w w5 := (below_drew w).trans b5
  clear OB hw hcl hs0
  refine hK.out _ _ ⟨k1, k2⟩ ?_
  clear hK KK
  refine held_more (S' := fun w' => w' = w5) (fun w' e => by subst e; exact ⟨k1, k2⟩) _ _ _ _ ?_
  try simp only [Act.put, List.setIfInBounds_toArray, List.set_cons_zero, List.set_cons_succ]
  refine held_takes (by kernel_rfl) (fun _ _ _ _ _ h => h) [14, 15, 16, 17] _ 0 _ _ _ rfl (by kernel_rfl) (by kernel_rfl) rfl ?_
  simp only [pick, List.drop_succ_cons, List.drop_zero]
  iterate 4 (refine wpTakes_cons (v := ?_) (Or.inl ⟨by rfl, ?_⟩) ?_; rotate_left; (intro w hSw; subst hSw; go_simp <;> with_reducible rfl); (try simp only [Act.put, List.setIfInBounds_toArray, List.set_cons_zero, List.set_cons_succ]))
  refine wpTakes_nil ?_
  refine wpAnyH_done (by kernel_rfl) ?_ _
  exact hKK.out _ _ _ _ _ _ _ _ _ _ _ _ _ _ _ _ _ _ B5
end Go.Proofs.Ytchlccendggfpaa.Ro
