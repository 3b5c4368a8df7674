/- Walks: the drawn region of Plane: a row copied, two values laid behind, stored. -/
import Derived.Test.YtcejjcopchkmeaaRoM
import Derived.Deep.AppendLies
import Derived.Deep.DeepCutAuto
import Derived.Deep.RegionLaw
import Derived.Deep.RegionHeld3
namespace Go.Proofs.Ytcejjcopchkmeaa.Ro
open Go.RowKit Go.Proofs Go.Maps
set_option linter.unusedVariables false
set_option maxRecDepth 100000
set_option linter.unusedSimpArgs false

/-- a function's region of a number -/
def regionOf (n : Nat) : Code → Option Code
  | .region id ops d => if id = n then some (.region id ops d) else none
  | .loop c => regionOf n c
  | .seq a b => match regionOf n a with
    | some c => some c
    | none => regionOf n b
  | .block _ c => regionOf n c
  | .scope c => regionOf n c
  | .cond _ a b => match regionOf n a with
    | some c => some c
    | none => regionOf n b
  | _ => none
noncomputable def code25 : Code := (Try.f16.body.bind (regionOf 25)).getD .skip

set_option maxRecDepth 100000 in
set_option maxHeartbeats 12800000 in
theorem reg25 (w8 : World) (q e j tb cap1 : Nat) (wv : Int) (t : Nat → Int) (K : Act → World → Prop) (Q' : Exit → Act → World → Prop) (v0 v1 v2 v4 v5 v6 v7 v8 v10 v11 v12 v13 v14 v16 v17 v18 v19 v20 v21 v22 v23 v24 v25 v26 v27 v28 v29 v30 v31 v32 v33 v34 v35 v36 v37 v38 v39 v40 v41 v42 v43 v44 v45 v46 v47 v48 v49 v50 v51 v52 v53 v54 v55 v56 v57 v58 v59 v60 v61 v62 v63 v64 v65 v66 v67 v68 v69 v70 v71 v72 v73 v74 v75 v76 v77 v78 v79 v80 v81 v82 v83 v84 v85 v86 v87 v88 v89 v90 v91 v92 v93 v94 v95 v96 v97 v98 v99 v100 v101 v102 v103 v104 v105 v106 v107 v108 v109 v110 v111 v112 v113 v114 v115 v116 v117 v118 v119 v120 v121 v122 v123 v124 v125 v126 v127 v128 v129 v130 v131 v132 v133 v134 v135 v136 v137 v138 v139 v140 v141 v142 v143 v144 v145 v146 v147 v148 v149 v150 v151 v152 v153 v154 v155 v156 v157 v158 v159 v160 v161 v162 v163 v164 v165 : Value)
    (c1 : w8.cell? ⟨q + 1, 1, none⟩ = some (.slice (some ⟨tb, 0, none⟩) j cap1)) (f1 : w8.frozen? ⟨q + 1, 1, none⟩ = false) (OT : Ow w8 (.slice (some ⟨tb, 0, none⟩) j cap1) j t) (e1 : e < j) (hm0 : 0 < j) (gm : j ≤ 48) (pl : q + 1 < w8.heap.size) (gtb : q + 2 ≤ tb)
    (hK : ∀ (u115 u116 u117 u118 u119 u120 u121 u122 u123 u124 u125 u126 u127 : Value) (b2 c2 : Nat) (w2 : World), Below w8.heap.size w8 w2 → w8.heap.size ≤ b2 → Ow w2 (.slice (some ⟨b2, 0, none⟩) (j + 2) c2) (j + 2) (cat t j (two (t e) wv)) →
      K ⟨#[v0, v1, v2, .pointer (some ⟨q + 1, 0, none⟩), v4, v5, v6, v7, v8, .int .i64 (e : Int), v10, v11, v12, v13, v14, .int .i64 wv, v16, v17, v18, v19, v20, v21, v22, v23, v24, v25, v26, v27, v28, v29, v30, v31, v32, v33, v34, v35, v36, v37, v38, v39, v40, v41, v42, v43, v44, v45, v46, v47, v48, v49, v50, v51, v52, v53, v54, v55, v56, v57, v58, v59, v60, v61, v62, v63, v64, v65, v66, v67, v68, v69, v70, v71, v72, v73, v74, v75, v76, v77, v78, v79, v80, v81, v82, v83, v84, v85, v86, v87, v88, v89, v90, v91, v92, v93, v94, v95, v96, v97, v98, v99, v100, v101, v102, v103, v104, v105, v106, v107, v108, v109, v110, v111, v112, v113, v114, u115, u116, u117, u118, u119, u120, u121, u122, u123, u124, u125, u126, u127, v128, v129, v130, v131, v132, v133, v134, v135, v136, v137, v138, v139, v140, v141, v142, v143, v144, v145, v146, v147, v148, v149, v150, v151, v152, v153, v154, v155, v156, v157, v158, v159, v160, v161, v162, v163, v164, v165], []⟩ (w2.setCell ⟨q + 1, 1, none⟩ (.slice (some ⟨b2, 0, none⟩) (j + 2) c2))) :
    Code.wp Try.prog code25 (NoPanic (Exit.then K Q')) ⟨#[v0, v1, v2, .pointer (some ⟨q + 1, 0, none⟩), v4, v5, v6, v7, v8, .int .i64 (e : Int), v10, v11, v12, v13, v14, .int .i64 wv, v16, v17, v18, v19, v20, v21, v22, v23, v24, v25, v26, v27, v28, v29, v30, v31, v32, v33, v34, v35, v36, v37, v38, v39, v40, v41, v42, v43, v44, v45, v46, v47, v48, v49, v50, v51, v52, v53, v54, v55, v56, v57, v58, v59, v60, v61, v62, v63, v64, v65, v66, v67, v68, v69, v70, v71, v72, v73, v74, v75, v76, v77, v78, v79, v80, v81, v82, v83, v84, v85, v86, v87, v88, v89, v90, v91, v92, v93, v94, v95, v96, v97, v98, v99, v100, v101, v102, v103, v104, v105, v106, v107, v108, v109, v110, v111, v112, v113, v114, v115, v116, v117, v118, v119, v120, v121, v122, v123, v124, v125, v126, v127, v128, v129, v130, v131, v132, v133, v134, v135, v136, v137, v138, v139, v140, v141, v142, v143, v144, v145, v146, v147, v148, v149, v150, v151, v152, v153, v154, v155, v156, v157, v158, v159, v160, v161, v162, v163, v164, v165], []⟩ w8 := by
  have hKK := Lib.hid hK
  clear hK
  have lte := OT.lt (k := tb) rfl
  have cte := OT.cell e1
  conv => arg 2; whnf
  have pl1 : q + 1 < w8.heap.size + 1 := by omega
  have ei : (e : Int) < (j : Int) := by omega
  have OE1 : Ow (w8.alloc (.cells #[] 3)).drew (.slice (some ⟨w8.heap.size, 0, none⟩) 0 0) 0 (fun _ => 0) := Ow.empty w8 _
  have bD : Below w8.heap.size w8 (w8.alloc (.cells #[.int .i64 (t e), .int .i64 wv] 3)) := (Below.refl _ _).alloc (Nat.le_refl _) _
  have OE2 : Ow ((w8.alloc (.cells #[.int .i64 (t e), .int .i64 wv] 3)).alloc (.cells #[] 3)).drew (.slice (some ⟨w8.heap.size + 1, 0, none⟩) 0 0) 0 (fun _ => 0) := by
    have := Ow.empty (w8.alloc (.cells #[.int .i64 (t e), .int .i64 wv] 3)) (fun _ => 0)
    rw [show (w8.alloc (.cells #[.int .i64 (t e), .int .i64 wv] 3)).heap.size = w8.heap.size + 1 by simp] at this
    exact this
  have OE3 : Ow ((w8.alloc (.cells #[] 3)).alloc (.cells #[.int .i64 (t e), .int .i64 wv] 3)).drew (.slice (some ⟨w8.heap.size, 0, none⟩) 0 0) 0 (fun _ => 0) := by
    have := (Ow.empty w8 (fun _ => 0)).below ((Below.refl _ (w8.alloc (.cells #[] 3))).alloc (Nat.le_refl _) (.cells #[.int .i64 (t e), .int .i64 wv] 3)) (Nat.le_refl _)
    exact this
  have bE : Below w8.heap.size w8 (w8.alloc (.cells #[] 3)) := (Below.refl _ _).alloc (Nat.le_refl _) _
  have bDE : Below w8.heap.size w8 ((w8.alloc (.cells #[.int .i64 (t e), .int .i64 wv] 3)).alloc (.cells #[] 3)) := bD.alloc (by simp) _
  have bED : Below w8.heap.size w8 ((w8.alloc (.cells #[] 3)).alloc (.cells #[.int .i64 (t e), .int .i64 wv] 3)) := bE.alloc (by simp) _
  have CT1 : ∀ i, i < j → (w8.alloc (.cells #[] 3)).drew.cell? ((⟨tb, 0, none⟩ : Addr).add i) = some (.int .i64 (t i)) := fun i hi => by rw [add_head]; exact (OT.below bE (Nat.le_refl _)).cell hi
  have CT2 : ∀ i, i < j → ((w8.alloc (.cells #[.int .i64 (t e), .int .i64 wv] 3)).alloc (.cells #[] 3)).drew.cell? ((⟨tb, 0, none⟩ : Addr).add i) = some (.int .i64 (t i)) := fun i hi => by rw [add_head]; exact (OT.below bDE (Nat.le_refl _)).cell hi
  have CT3 : ∀ i, i < j → ((w8.alloc (.cells #[] 3)).alloc (.cells #[.int .i64 (t e), .int .i64 wv] 3)).drew.cell? ((⟨tb, 0, none⟩ : Addr).add i) = some (.int .i64 (t i)) := fun i hi => by rw [add_head]; exact (OT.below bED (Nat.le_refl _)).cell hi
  have nD : ∀ w1 : World, ∀ i, i < 2 → (w1.alloc (.cells #[.int .i64 (t e), .int .i64 wv] 3)).cell? ((⟨w1.heap.size, 0, none⟩ : Addr).add i) = some (.int .i64 (two (t e) wv i)) := fun w1 i hi => by
    rw [add_head]; exact (Ow.lit2 w1 (two (t e) wv) _ _ rfl rfl).cell hi
  have ND := Lib.hid nD
  have oD1 : ∀ w1 : World, ((w8.alloc (.cells #[] 3)).alloc (.cells #[.int .i64 (t e), .int .i64 wv] 3)).drew.grownBy w1 (some w8.heap.size) → ∀ i, i < 2 → w1.cell? ((⟨w8.heap.size + 1, 0, none⟩ : Addr).add i) = some (.int .i64 (two (t e) wv i)) := fun w1 g i hi => by
    have h := nD (w8.alloc (.cells #[] 3)) i hi
    rw [show (w8.alloc (.cells #[] 3)).heap.size = w8.heap.size + 1 by simp, add_head] at h
    rw [add_head]
    exact (g.cell_far ⟨w8.heap.size + 1, i, none⟩ (by simp) (by simp)).trans h
  have oD2 : ∀ w1 : World, ((w8.alloc (.cells #[.int .i64 (t e), .int .i64 wv] 3)).alloc (.cells #[] 3)).drew.grownBy w1 (some (w8.heap.size + 1)) → ∀ i, i < 2 → w1.cell? ((⟨w8.heap.size, 0, none⟩ : Addr).add i) = some (.int .i64 (two (t e) wv i)) := fun w1 g i hi => by
    have h := nD w8 i hi
    rw [add_head] at h ⊢
    exact (g.cell_far ⟨w8.heap.size, i, none⟩ (by simp; omega) (by simp)).trans ((World.cell?_alloc_old _ _ _ (by simp)).trans h)
  have OD1 := Lib.hid oD1
  have OD2 := Lib.hid oD2
  have HS := Lib.hid (And.intro bE.drew (And.intro bDE.drew bED.drew))
  have HC := Lib.hid (And.intro CT1 (And.intro CT2 CT3))
  have cf : w8.frozen? ⟨q + 1, 1, none⟩ = false := f1
  clear nD oD1 oD2 bE bDE bED bD f1 CT1 CT2 CT3
  have hne2 : ¬ (q + 1 = tb) := by omega
  have hne3 : ¬ (tb = q + 1) := by omega
  go_region_law
    (first
      | (refine step_cop (o := ⟨some 118, _, _, _, _, _⟩) (by rfl) _ _ (by rfl) (.slice (some ⟨w8.heap.size, 0, none⟩) 0 0) (fun _ => 0) (by rfl) (by first | exact OE1 | exact OE3) ⟨tb, 0, none⟩ j cap1 t (by rfl) (by first | exact HC.out.1 | exact HC.out.2.2) (by omega) (by omega) _ rfl ?_; intro b1 c1' w1 O1 g1 l1 z1; have hb1 : w8.heap.size ≤ b1 := (by simp [Value.ownBlock] at l1; omega); have B1 : Below w8.heap.size w8 w1 := (by first | exact Below.grown HS.out.1 g1 (by simp) (fun k hk => by simp [Value.ownBlock] at hk; omega) | exact Below.grown HS.out.2.2 g1 (by simp; omega) (fun k hk => by simp [Value.ownBlock] at hk; omega)); have k1 := (B1.cell (p := ⟨q + 1, 1, none⟩) pl).trans c1; have k2 := (B1.cell (p := ⟨tb, e, none⟩) lte).trans cte; have p1 := Nat.lt_of_lt_of_le pl B1.size)
      | (refine step_cop (o := ⟨some 118, _, _, _, _, _⟩) (by rfl) _ _ (by rfl) (.slice (some ⟨w8.heap.size + 1, 0, none⟩) 0 0) (fun _ => 0) (by rfl) OE2 ⟨tb, 0, none⟩ j cap1 t (by rfl) HC.out.2.1 (by omega) (by omega) _ rfl ?_; intro b1 c1' w1 O1 g1 l1 z1; have hb1 : w8.heap.size ≤ b1 := (by simp [Value.ownBlock] at l1; omega); have B1 : Below w8.heap.size w8 w1 := (Below.grown HS.out.2.1 g1 (by simp; omega) (fun k hk => by simp [Value.ownBlock] at hk; omega)); have k1 := (B1.cell (p := ⟨q + 1, 1, none⟩) pl).trans c1; have k2 := (B1.cell (p := ⟨tb, e, none⟩) lte).trans cte; have p1 := Nat.lt_of_lt_of_le pl B1.size)
      | (refine step_app (o := ⟨some 126, _, _, _, _, _⟩) (by rfl) _ _ (by rfl) (.slice (some ⟨b1, 0, none⟩) j c1') j t ?_ ?_ ⟨w1.heap.size, 0, none⟩ 2 2 (two (t e) wv) ?_ ?_ ?_ ?_ _ rfl ?_; (case refine_1 => rfl); (case refine_2 => exact O1.below ((Below.refl _ _).alloc (Nat.le_refl _) _) (Nat.le_refl _)); (case refine_3 => rfl); (case refine_4 => exact ND.out _); (case refine_5 => omega); (case refine_6 => omega); intro b2 c2' w2 O2 g2 l2 z2; have B2 : Below w8.heap.size w8 w2 := (Below.grown (B1.alloc B1.size _) g2 (by have := B1.size; simp; omega) (fun k hk => by simp [Value.ownBlock] at hk; omega)); have hb2 : w8.heap.size ≤ b2 := (by have := B1.size; simp [Value.ownBlock] at l2; omega); have k1 := (B2.cell (p := ⟨q + 1, 1, none⟩) pl).trans c1; have k2 := (B2.cell (p := ⟨tb, e, none⟩) lte).trans cte; have k3 := (B2.frozen (p := ⟨q + 1, 1, none⟩) pl).trans cf; clear g2 l2 O1 g1 l1)
      | (refine step_app (o := ⟨some 126, _, _, _, _, _⟩) (by rfl) _ _ (by rfl) (.slice (some ⟨b1, 0, none⟩) j c1') j t ?_ ?_ ⟨w8.heap.size, 0, none⟩ 2 2 (two (t e) wv) ?_ ?_ ?_ ?_ _ rfl ?_; (case refine_1 => rfl); (case refine_2 => exact O1); (case refine_3 => rfl); (case refine_4 => exact OD2.out _ g1); (case refine_5 => omega); (case refine_6 => omega); intro b2 c2' w2 O2 g2 l2 z2; have B2 : Below w8.heap.size w8 w2 := (Below.grown B1 g2 B1.size (fun k hk => by simp [Value.ownBlock] at hk; omega)); have hb2 : w8.heap.size ≤ b2 := (by have := B1.size; simp [Value.ownBlock] at l2; omega); have k1 := (B2.cell (p := ⟨q + 1, 1, none⟩) pl).trans c1; have k2 := (B2.cell (p := ⟨tb, e, none⟩) lte).trans cte; have k3 := (B2.frozen (p := ⟨q + 1, 1, none⟩) pl).trans cf; clear g2 l2 O1 g1 l1)
      | (refine step_app (o := ⟨some 126, _, _, _, _, _⟩) (by rfl) _ _ (by rfl) (.slice (some ⟨b1, 0, none⟩) j c1') j t ?_ ?_ ⟨w8.heap.size + 1, 0, none⟩ 2 2 (two (t e) wv) ?_ ?_ ?_ ?_ _ rfl ?_; (case refine_1 => rfl); (case refine_2 => exact O1); (case refine_3 => rfl); (case refine_4 => exact OD1.out _ g1); (case refine_5 => omega); (case refine_6 => omega); intro b2 c2' w2 O2 g2 l2 z2; have B2 : Below w8.heap.size w8 w2 := (Below.grown B1 g2 B1.size (fun k hk => by simp [Value.ownBlock] at hk; omega)); have hb2 : w8.heap.size ≤ b2 := (by have := B1.size; simp [Value.ownBlock] at l2; omega); have k1 := (B2.cell (p := ⟨q + 1, 1, none⟩) pl).trans c1; have k2 := (B2.cell (p := ⟨tb, e, none⟩) lte).trans cte; have k3 := (B2.frozen (p := ⟨q + 1, 1, none⟩) pl).trans cf; clear g2 l2 O1 g1 l1))
  all_goals exact hKK.out _ _ _ _ _ _ _ _ _ _ _ _ _ b2 c2' w2 B2 hb2 O2
end Go.Proofs.Ytcejjcopchkmeaa.Ro
