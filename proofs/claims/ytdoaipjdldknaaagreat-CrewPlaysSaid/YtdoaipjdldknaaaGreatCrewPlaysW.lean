/-
  CrewPlays, the walk.
-/
import Derived.Test.YtdoaipjdldknaaaGreatKP3
import Derived.Test.YtdoaipjdldknaaaGreatKAlive
import Derived.Test.YtdoaipjdldknaaaGreatKRef20
import Derived.Test.YtdoaipjdldknaaaGreatLastG2
import Derived.Deep.RegionHeld3
import Derived.Deep.DeepCutAuto
import Derived.StillTailTactics
namespace Go.Proofs.YtdoaipjdldknaaaGreat
open Go.RowKit
set_option linter.unusedVariables false

theorem kmake_refs (w : World) : (Instr.makeSlice 47 (.int .i64 5) (.int .i64 5)).run Tryz.prog w = .ok (.slice (some ⟨w.heap.size, 0, none⟩) 5 5) (w.alloc (.cells (refsC 5 fun _ => ⟨0, 0, 0, .slice none 0 0⟩) 59)) := by kernel_rfl
theorem kmake_ops (w : World) : (Instr.makeSlice 46 (.int .i64 5) (.int .i64 5)).run Tryz.prog w = .ok (.slice (some ⟨w.heap.size, 0, none⟩) 5 5) (w.alloc (.cells (optrs 5 (fun _ => false) fun _ => 0) 50)) := by kernel_rfl
theorem atc_of {w : World} {gat : Nat} {F : CLay} (h : Blk w gat 34 #[.int .i64 F.base, .int .i64 F.n, .int .i64 F.slots, .int .i64 F.actors]) :
    w.cell? ⟨gat, 0, none⟩ = some (.int .i64 F.base) ∧ w.cell? ⟨gat, 1, none⟩ = some (.int .i64 F.n) ∧ w.cell? ⟨gat, 2, none⟩ = some (.int .i64 F.slots) ∧ w.cell? ⟨gat, 3, none⟩ = some (.int .i64 F.actors) :=
  ⟨h.cellv rfl, h.cellv rfl, h.cellv rfl, h.cellv rfl⟩
theorem k33 {X : KFix} {w w' : World} {t : Nat} {kx yx Vx : Int} {lv : Value} (h : Blk w X.gat 34 #[.int .i64 X.F.base, .int .i64 X.F.n, .int .i64 X.F.slots, .int .i64 X.F.actors]) (hr : w.cell? ⟨X.gr, t * 4, none⟩ = some (.int .i64 kx) ∧ w.cell? ⟨X.gr, t * 4 + 1, none⟩ = some (.int .i64 yx) ∧ w.cell? ⟨X.gr, t * 4 + 2, none⟩ = some (.int .u64 Vx) ∧ w.cell? ⟨X.gr, t * 4 + 3, none⟩ = some lv) (hl : X.gr < w.heap.size) (ho : Only S0 w w') :
    (w'.cell? ⟨X.gat, 0, none⟩ = some (.int .i64 X.F.base) ∧ w'.cell? ⟨X.gat, 1, none⟩ = some (.int .i64 X.F.n) ∧ w'.cell? ⟨X.gat, 2, none⟩ = some (.int .i64 X.F.slots) ∧ w'.cell? ⟨X.gat, 3, none⟩ = some (.int .i64 X.F.actors)) ∧ w'.cell? ⟨X.gr, t * 4, none⟩ = some (.int .i64 kx) ∧ w'.cell? ⟨X.gr, t * 4 + 1, none⟩ = some (.int .i64 yx) ∧ w'.cell? ⟨X.gr, t * 4 + 2, none⟩ = some (.int .u64 Vx) ∧ w'.cell? ⟨X.gr, t * 4 + 3, none⟩ = some lv := by
  have h' := h.only ho (fun h => h)
  exact ⟨⟨h'.cellv rfl, h'.cellv rfl, h'.cellv rfl, h'.cellv rfl⟩, (ho.cell (p := ⟨X.gr, t * 4, none⟩) hl (fun h => h)).trans hr.1, (ho.cell (p := ⟨X.gr, t * 4 + 1, none⟩) hl (fun h => h)).trans hr.2.1, (ho.cell (p := ⟨X.gr, t * 4 + 2, none⟩) hl (fun h => h)).trans hr.2.2.1, (ho.cell (p := ⟨X.gr, t * 4 + 3, none⟩) hl (fun h => h)).trans hr.2.2.2⟩
theorem KSt.seen {X : KFix} {w0 w : World} {own : Nat → Nat} {act : Nat → Bool} {bo : Nat → Nat} {o : Nat → CSt} {r : Nat → RefC} {l : Nat → List Int} {L : List Int} {tc tcr : Int} {i t : Nat} (h : KSt X w0 w own act bo o r l L tc tcr i) (ht : t < 5) (ha : act t = true) :
    ∃ (bx : Nat) (ox : CSt) (kx yx Vx : Int) (lx : List Int) (ax : Option Addr) (cx : Nat), w.cell? ⟨X.go, t, none⟩ = some (.pointer (some ⟨bx, 0, none⟩)) ∧ w.cell? ⟨X.gr, t * 4, none⟩ = some (.int .i64 kx) ∧ w.cell? ⟨X.gr, t * 4 + 1, none⟩ = some (.int .i64 yx) ∧ w.cell? ⟨X.gr, t * 4 + 2, none⟩ = some (.int .u64 Vx) ∧
      w.cell? ⟨X.gr, t * 4 + 3, none⟩ = some (.slice ax lx.length cx) ∧ CIs w X.cb X.bb X.bg X.bc X.bd (OwnK own X.B0 w.heap.size t) bx ox ∧ CThr X.F ox kx yx Vx lx ∧ LogIs w X.B0 (.slice ax lx.length cx) lx ∧ lx.length ≤ i ∧ CStOk X.F L.length ox ∧ bo t = bx ∧ o t = ox ∧ r t = ⟨kx, yx, Vx, .slice ax lx.length cx⟩ ∧ l t = lx := by
  obtain ⟨hl, hn⟩ := h.logs t ht
  obtain ⟨a, ca, hv, -⟩ := hl.at_.form
  have hb := h.thr t ht ha
  have c0 := h.ops.cellv (optrs_get act bo ht)
  rw [show optr act bo t = .pointer (some ⟨bo t, 0, none⟩) from by unfold optr; rw [ha]; rfl] at c0
  have c1 := h.refs.cellv (refsC_get (j := 0) r ht (by decide))
  have c2 := h.refs.cellv (refsC_get (j := 1) r ht (by decide))
  have c3 := h.refs.cellv (refsC_get (j := 2) r ht (by decide))
  have c4 := h.refs.cellv (refsC_get (j := 3) r ht (by decide))
  have hr : r t = ⟨(r t).kind, (r t).X, (r t).Y, .slice a (l t).length ca⟩ := by rw [← hv]
  rw [hv] at hl
  rw [show rfldC (r t) 3 = .slice a (l t).length ca from by simp [rfldC, hv]] at c4
  exact ⟨_, _, _, _, _, _, _, _, c0, c1, c2, c3, c4, h.fam t ht ha, hb, hl, hn, h.ok t ht ha, rfl, rfl, hr, rfl⟩
def findReg (n : Nat) : Code → Option Code
  | .region m ops b => if m = n then some (.region m ops b) else none
  | .seq a b => match findReg n a with
    | some c => some c
    | none => findReg n b
  | .loop c => findReg n c
  | .block _ c => findReg n c
  | .scope c => findReg n c
  | .cond _ a b => match findReg n a with
    | some c => some c
    | none => findReg n b
  | _ => none
noncomputable def reg33 : Code := (Tryz.f4.body.bind (findReg 33)).getD .skip
set_option maxRecDepth 1000000 in
set_option maxHeartbeats 4000000 in
theorem r33 {X : KFix} {t : Nat} {wd : World} {kx yx Vx : Int} {lx : List Int} {ax : Option Addr} {cx : Nat} {ov : Bool} {what cell aa bb out value : Int} {v0 v1 v2 v3 v4 v5 v6 v7 v8 v10 v11 v12 v13 v14 v15 v17 v18 v20 v21 v22 v23 v24 v25 v26 v27 v28 v29 v30 v31 v32 v33 v34 v35 v36 v37 v38 v39 v40 v41 v42 v43 v44 v45 v46 v47 v48 v49 v50 v51 v52 v53 v54 v55 v56 v57 v58 v59 v60 v61 v62 v63 v64 v65 v66 v67 v68 v69 v70 v71 v72 v73 v74 v75 v76 v77 v78 v79 v80 v81 v82 v83 v84 v85 v86 v87 v88 v89 v90 v91 v92 v93 v94 v95 v96 v97 v98 v99 v100 v101 v102 v103 v104 v105 v106 v107 v108 v109 v110 v111 v112 v113 v114 v115 v116 v117 v118 v119 v120 v121 v122 v123 v124 v125 v126 v127 v128 v129 v130 v131 v132 v133 v134 v135 v136 v137 v138 v139 v140 v141 v142 v143 v144 v145 v146 v147 v148 v149 v150 v151 v152 v153 v154 v155 v156 v157 v158 v159 v160 v161 v162 v163 v164 v165 v166 v167 v168 v169 v170 v171 v172 v173 v174 v175 v176 v177 v178 v179 v180 v181 v182 v183 v184 v185 v186 v187 v188 v189 v190 v191 v192 v193 v194 v195 v196 v197 v198 v199 v200 v201 v202 v203 v204 v205 v206 v207 v208 v209 v210 v211 v212 v213 v214 v215 v216 v217 v218 v219 v220 v221 v222 v223 v224 v225 v226 v227 v228 v229 v230 v231 v232 v233 v234 v235 v236 v237 v238 v239 v240 v241 v242 v243 v244 v245 v246 v247 v248 v249 v250 v251 v252 v253 v254 v255 v256 v257 v258 v259 v260 v261 v262 v263 v264 v265 v266 : Value} (ht5 : t < 5)
   (HAT : Hid (Blk wd X.gat 34 #[.int .i64 X.F.base, .int .i64 X.F.n, .int .i64 X.F.slots, .int .i64 X.F.actors]))
   (HRF : Hid ((wd.cell? ⟨X.gr, t * 4, none⟩ = some (.int .i64 kx) ∧ wd.cell? ⟨X.gr, t * 4 + 1, none⟩ = some (.int .i64 yx) ∧ wd.cell? ⟨X.gr, t * 4 + 2, none⟩ = some (.int .u64 Vx) ∧ wd.cell? ⟨X.gr, t * 4 + 3, none⟩ = some (.slice ax lx.length cx)) ∧ X.gr < wd.heap.size))
   (HNX : Hid (∀ wx, Only S0 wd wx → Calls Tryz.prog 21 #[.agg #[.int .i64 X.F.base, .int .i64 X.F.n, .int .i64 X.F.slots, .int .i64 X.F.actors], .agg #[.int .i64 kx, .int .i64 yx, .int .u64 Vx, .slice ax lx.length cx]] wx fun e w' => e = .returned (gwV ⟨ov, what, cell, aa, bb, out, value⟩) ∧ Only S0 wx w')) 
   {Q : Exit → Act → World → Prop} (hP : ∀ (c : _) (a : Act) (d : Option Tmp) (v : Value) (w : World), Q (.panic c) (a.put d v) w → Q (.panic c) a w) (hQ : ∀ (u219 u220 u221 u222 u223 u224 : Value) (xq : Nat) (w' : World), Only S0 wd w' → Blk w' xq 62 #[.bool ov, .int .i64 what, .int .i64 cell, .int .u64 aa, .int .u64 bb, .int .i64 out, .int .u64 value, .int .u64 0] → Q .normal ⟨#[v0, v1, v2, v3, v4, v5, v6, v7, v8, .pointer (some ⟨X.gat, 0, none⟩), v10, v11, v12, v13, v14, v15, .slice (some ⟨X.gr, 0, none⟩) 5 5, v17, v18, .int .i64 t, v20, v21, v22, v23, .pointer (some ⟨xq, 0, none⟩), v25, v26, v27, v28, v29, v30, v31, v32, v33, v34, v35, v36, v37, v38, v39, v40, v41, v42, v43, v44, v45, v46, v47, v48, v49, v50, v51, v52, v53, v54, v55, v56, v57, v58, v59, v60, v61, v62, v63, v64, v65, v66, v67, v68, v69, v70, v71, v72, v73, v74, v75, v76, v77, v78, v79, v80, v81, v82, v83, v84, v85, v86, v87, v88, v89, v90, v91, v92, v93, v94, v95, v96, v97, v98, v99, v100, v101, v102, v103, v104, v105, v106, v107, v108, v109, v110, v111, v112, v113, v114, v115, v116, v117, v118, v119, v120, v121, v122, v123, v124, v125, v126, v127, v128, v129, v130, v131, v132, v133, v134, v135, v136, v137, v138, v139, v140, v141, v142, v143, v144, v145, v146, v147, v148, v149, v150, v151, v152, v153, v154, v155, v156, v157, v158, v159, v160, v161, v162, v163, v164, v165, v166, v167, v168, v169, v170, v171, v172, v173, v174, v175, v176, v177, v178, v179, v180, v181, v182, v183, v184, v185, v186, v187, v188, v189, v190, v191, v192, v193, v194, v195, v196, v197, v198, v199, v200, v201, v202, v203, v204, v205, v206, v207, v208, v209, v210, v211, v212, v213, v214, v215, v216, v217, v218, u219, u220, u221, u222, u223, u224, v225, v226, v227, v228, v229, v230, v231, v232, v233, v234, v235, v236, v237, v238, v239, v240, v241, v242, v243, v244, v245, v246, v247, v248, v249, v250, v251, v252, v253, v254, v255, v256, v257, v258, v259, v260, v261, v262, v263, v264, v265, v266], []⟩ w') :
   Code.wp Tryz.prog reg33 Q ⟨#[v0, v1, v2, v3, v4, v5, v6, v7, v8, .pointer (some ⟨X.gat, 0, none⟩), v10, v11, v12, v13, v14, v15, .slice (some ⟨X.gr, 0, none⟩) 5 5, v17, v18, .int .i64 t, v20, v21, v22, v23, v24, v25, v26, v27, v28, v29, v30, v31, v32, v33, v34, v35, v36, v37, v38, v39, v40, v41, v42, v43, v44, v45, v46, v47, v48, v49, v50, v51, v52, v53, v54, v55, v56, v57, v58, v59, v60, v61, v62, v63, v64, v65, v66, v67, v68, v69, v70, v71, v72, v73, v74, v75, v76, v77, v78, v79, v80, v81, v82, v83, v84, v85, v86, v87, v88, v89, v90, v91, v92, v93, v94, v95, v96, v97, v98, v99, v100, v101, v102, v103, v104, v105, v106, v107, v108, v109, v110, v111, v112, v113, v114, v115, v116, v117, v118, v119, v120, v121, v122, v123, v124, v125, v126, v127, v128, v129, v130, v131, v132, v133, v134, v135, v136, v137, v138, v139, v140, v141, v142, v143, v144, v145, v146, v147, v148, v149, v150, v151, v152, v153, v154, v155, v156, v157, v158, v159, v160, v161, v162, v163, v164, v165, v166, v167, v168, v169, v170, v171, v172, v173, v174, v175, v176, v177, v178, v179, v180, v181, v182, v183, v184, v185, v186, v187, v188, v189, v190, v191, v192, v193, v194, v195, v196, v197, v198, v199, v200, v201, v202, v203, v204, v205, v206, v207, v208, v209, v210, v211, v212, v213, v214, v215, v216, v217, v218, v219, v220, v221, v222, v223, v224, v225, v226, v227, v228, v229, v230, v231, v232, v233, v234, v235, v236, v237, v238, v239, v240, v241, v242, v243, v244, v245, v246, v247, v248, v249, v250, v251, v252, v253, v254, v255, v256, v257, v258, v259, v260, v261, v262, v263, v264, v265, v266], []⟩ wd := by
  conv => arg 2; whnf
  have ht5a : (t : Int) < 5 := by omega
  have ht5b : (0 : Int) ≤ t := by omega
  have z := k33 HAT.out HRF.out.1 HRF.out.2 (Only.refl S0 wd).drew
  have z2 := k33 HAT.out HRF.out.1 HRF.out.2 ((Only.refl S0 wd).alloc (.cells #[.bool false, .int .i64 0, .int .i64 0, .int .u64 0, .int .u64 0, .int .i64 0, .int .u64 0, .int .u64 0] 62)).drew
  have HOA := hide (((Only.refl S0 wd).alloc (.cells #[.bool false, .int .i64 0, .int .i64 0, .int .u64 0, .int .u64 0, .int .i64 0, .int .u64 0, .int .u64 0] 62)).drew)
  have HBA := hide (show Blk ((wd.alloc (.cells #[.bool false, .int .i64 0, .int .i64 0, .int .u64 0, .int .u64 0, .int .i64 0, .int .u64 0, .int .u64 0] 62)).drew) wd.heap.size 62 #[.bool false, .int .i64 0, .int .i64 0, .int .u64 0, .int .u64 0, .int .i64 0, .int .u64 0, .int .u64 0] from (Blk.new wd _ _).drew)
  have kk : (fun w' : World => (w'.cell? ⟨X.gat, 0, none⟩ = some (.int .i64 X.F.base) ∧ w'.cell? ⟨X.gat, 1, none⟩ = some (.int .i64 X.F.n) ∧ w'.cell? ⟨X.gat, 2, none⟩ = some (.int .i64 X.F.slots) ∧ w'.cell? ⟨X.gat, 3, none⟩ = some (.int .i64 X.F.actors)) ∧ w'.cell? ⟨X.gr, t * 4, none⟩ = some (.int .i64 kx) ∧ w'.cell? ⟨X.gr, t * 4 + 1, none⟩ = some (.int .i64 yx) ∧ w'.cell? ⟨X.gr, t * 4 + 2, none⟩ = some (.int .u64 Vx) ∧ w'.cell? ⟨X.gr, t * 4 + 3, none⟩ = some (.slice ax lx.length cx)) wd.drew := z
  refine wp_region_last 7 (fun w' : World => (w'.cell? ⟨X.gat, 0, none⟩ = some (.int .i64 X.F.base) ∧ w'.cell? ⟨X.gat, 1, none⟩ = some (.int .i64 X.F.n) ∧ w'.cell? ⟨X.gat, 2, none⟩ = some (.int .i64 X.F.slots) ∧ w'.cell? ⟨X.gat, 3, none⟩ = some (.int .i64 X.F.actors)) ∧ w'.cell? ⟨X.gr, t * 4, none⟩ = some (.int .i64 kx) ∧ w'.cell? ⟨X.gr, t * 4 + 1, none⟩ = some (.int .i64 yx) ∧ w'.cell? ⟨X.gr, t * 4 + 2, none⟩ = some (.int .u64 Vx) ∧ w'.cell? ⟨X.gr, t * 4 + 3, none⟩ = some (.slice ax lx.length cx)) (by kernel_rfl) ?_
  refine wpLast_take (i := 0) (oi := ⟨some 219, _, _, _, _, _⟩) (v := ?vv0) rfl (by kernel_rfl) (by kernel_rfl) (by kernel_rfl) (by kernel_rfl) (by decide) (fun c a w h => hP c a _ _ w h) (Or.inl ⟨by rfl, ?hy0⟩) (by assumption) ?rest0
  case hy0 => intro wq hSw; (try dsimp only at hSw); go_simp; (try with_reducible rfl)
  (try simp only [Act.put, List.setIfInBounds_toArray, List.set_cons_zero, List.set_cons_succ])
  refine wpLast_take (i := 1) (oi := ⟨some 220, _, _, _, _, _⟩) (v := ?vv1) rfl (by kernel_rfl) (by kernel_rfl) (by kernel_rfl) (by kernel_rfl) (by decide) (fun c a w h => hP c a _ _ w h) (Or.inl ⟨by rfl, ?hy1⟩) (by assumption) ?rest1
  case hy1 => intro wq hSw; (try dsimp only at hSw); go_simp; (try with_reducible rfl)
  (try simp only [Act.put, List.setIfInBounds_toArray, List.set_cons_zero, List.set_cons_succ])
  refine wpLast_take (i := 2) (oi := ⟨some 221, _, _, _, _, _⟩) (v := ?vv2) rfl (by kernel_rfl) (by kernel_rfl) (by kernel_rfl) (by kernel_rfl) (by decide) (fun c a w h => hP c a _ _ w h) (Or.inl ⟨by rfl, ?hy2⟩) (by assumption) ?rest2
  case hy2 => intro wq hSw; (try dsimp only at hSw); go_simp; (try with_reducible rfl)
  (try simp only [Act.put, List.setIfInBounds_toArray, List.set_cons_zero, List.set_cons_succ])
  refine wpLast_take (i := 3) (oi := ⟨some 222, _, _, _, _, _⟩) (v := ?vv3) rfl (by kernel_rfl) (by kernel_rfl) (by kernel_rfl) (by kernel_rfl) (by decide) (fun c a w h => hP c a _ _ w h) (Or.inl ⟨by rfl, ?hy3⟩) (by assumption) ?rest3
  case hy3 => intro wq hSw; (try dsimp only at hSw); go_simp; (try with_reducible rfl)
  (try simp only [Act.put, List.setIfInBounds_toArray, List.set_cons_zero, List.set_cons_succ])
  refine wpLast_take (i := 4) (oi := ⟨some 223, _, _, _, _, _⟩) (v := ?vv4) rfl (by kernel_rfl) (by kernel_rfl) (by kernel_rfl) (by kernel_rfl) (by decide) (fun c a w h => hP c a _ _ w h) (Or.inl ⟨by rfl, ?hy4⟩) (by assumption) ?rest4
  case hy4 => intro wq hSw; (try dsimp only at hSw); go_simp; (try with_reducible rfl)
  (try simp only [Act.put, List.setIfInBounds_toArray, List.set_cons_zero, List.set_cons_succ])
  refine wpLast_two (i := 5) (j := 6) (o := ⟨some 224, _, _, _, _, _⟩) (o2 := ⟨some 24, _, _, _, _, _⟩) (by kernel_rfl) rfl rfl (fun K hK => ?wayA) (fun K hK => ?wayB)
  case wayA =>
    go_simp
    refine (HNX.out _ (Only.refl S0 wd).drew).mono ?_
    rintro e w2 ⟨rfl, o1⟩
    unfold gwV
    have O1 := hide ((Only.refl S0 wd).drew.trans o1)
    clear o1
    have kkA : (fun w' : World => (w'.cell? ⟨X.gat, 0, none⟩ = some (.int .i64 X.F.base) ∧ w'.cell? ⟨X.gat, 1, none⟩ = some (.int .i64 X.F.n) ∧ w'.cell? ⟨X.gat, 2, none⟩ = some (.int .i64 X.F.slots) ∧ w'.cell? ⟨X.gat, 3, none⟩ = some (.int .i64 X.F.actors)) ∧ w'.cell? ⟨X.gr, t * 4, none⟩ = some (.int .i64 kx) ∧ w'.cell? ⟨X.gr, t * 4 + 1, none⟩ = some (.int .i64 yx) ∧ w'.cell? ⟨X.gr, t * 4 + 2, none⟩ = some (.int .u64 Vx) ∧ w'.cell? ⟨X.gr, t * 4 + 3, none⟩ = some (.slice ax lx.length cx)) w2 := k33 HAT.out HRF.out.1 HRF.out.2 O1.out
    refine hK.out _ _ (fun _ => kkA) ?_
    clear hK K kk
    refine wpLast_one (i := 6) (o := ⟨some 24, _, _, _, _, _⟩) (by kernel_rfl) rfl (fun K hK => ?_)
    go_simp
    refine hK.out _ _ (fun _ => (k33 HAT.out HRF.out.1 HRF.out.2 (O1.out.alloc _))) ?_
    clear hK K
    (try simp only [Act.put, List.setIfInBounds_toArray, List.set_cons_zero, List.set_cons_succ])
    refine wpLast_one (i := 7) (o := ⟨none, _, _, _, _, _⟩) (by kernel_rfl) rfl (fun K hK => ?_)
    go_simp
    refine hK.out _ _ (fun h => absurd rfl h) ?_
    clear hK K
    refine wpLast_done (by kernel_rfl) ?_ _
    refine hQ _ _ _ _ _ _ w2.heap.size _ ?_ ?_
    · with_reducible exact O1.out.alloc _
    · with_reducible exact Blk.new w2 _ _
  case wayB =>
    go_simp
    refine hK.out _ _ (fun _ => z2) ?_
    clear hK K kk
    (try simp only [Act.put, List.setIfInBounds_toArray, List.set_cons_zero, List.set_cons_succ])
    refine wpLast_one (i := 5) (o := ⟨some 224, _, _, _, _, _⟩) (by kernel_rfl) rfl (fun K hK => ?_)
    go_simp
    refine (HNX.out _ HOA.out).mono ?_
    rintro e w2 ⟨rfl, o1⟩
    unfold gwV
    have O1 := hide (HOA.out.trans o1)
    have R1 := hide (HBA.out.only o1 (fun h => h))
    have z0 := R1.out.cellv (i := 0) rfl
    have z1 := R1.out.cellv (i := 1) rfl
    have z2 := R1.out.cellv (i := 2) rfl
    have z3 := R1.out.cellv (i := 3) rfl
    have z4 := R1.out.cellv (i := 4) rfl
    have z5 := R1.out.cellv (i := 5) rfl
    have z6 := R1.out.cellv (i := 6) rfl
    have z7 := R1.out.cellv (i := 7) rfl
    have x0 := R1.out.frozen 0
    have x1 := R1.out.frozen 1
    have x2 := R1.out.frozen 2
    have x3 := R1.out.frozen 3
    have x4 := R1.out.frozen 4
    have x5 := R1.out.frozen 5
    have x6 := R1.out.frozen 6
    have x7 := R1.out.frozen 7
    clear o1
    refine hK.out _ _ (fun _ => (k33 HAT.out HRF.out.1 HRF.out.2 O1.out)) ?_
    clear hK K
    refine wpLast_one (i := 7) (o := ⟨none, _, _, _, _, _⟩) (by kernel_rfl) rfl (fun K hK => ?_)
    go_simp
    refine hK.out _ _ (fun h => absurd rfl h) ?_
    clear hK K
    refine wpLast_done (by kernel_rfl) ?_ _
    refine hQ _ _ _ _ _ _ wd.heap.size _ ?_ ?_
    · with_reducible exact O1.out.then (want_only w2 wd.heap.size ov what cell aa bb out value) (fun j hj h => absurd h (by unfold S1; omega))
    · with_reducible exact want_set R1.out ov what cell aa bb out value
set_option maxRecDepth 100000 in
set_option maxHeartbeats 200000000 in
theorem crewPlays_walk (a0 a1 a2 : Int) (a3 : Option Addr) (len cap : Nat) (xs : Nat → Nat → Int) (w : World) (w0 : (Lit.int .u8 a0).wf = true) (w1 : (Lit.int .u8 a1).wf = true) (w2 : (Lit.int .u8 a2).wf = true) (w3 : InRows [.u8, .u8, .i64, .u64] w a3 len xs) :
    Calls Tryz.prog 4 #[.int .u8 a0, .int .u8 a1, .int .u8 a2, .slice a3 len cap] w fun e w' => e = .returned (.bool true) ∧ Below w.heap.size w w' := by
  have hbig := w3.big
  have k1 := (bounds_u8 w0).1
  have k2 := (bounds_u8 w0).2
  have k3 := (bounds_u8 w1).1
  have k4 := (bounds_u8 w1).2
  have k5 := (bounds_u8 w2).1
  have k6 := (bounds_u8 w2).2
  have HC := hide w3.cells
  have HK := hide fun (i : Nat) (hi : i < len) => bounds_u8 (w3.wf i 0 hi (by decide))
  have HT := hide fun (i : Nat) (hi : i < len) => bounds_u8 (w3.wf i 1 hi (by decide))
  have HWK := hide fun (i : Nat) (hi : i < len) => bounds_i64 (w3.wf i 2 hi (by decide))
  have HW := hide fun (i : Nat) (hi : i < len) => bounds_u64 (w3.wf i 3 hi (by decide))
  clear w0 w1 w2 w3
  obtain ⟨F, hb, hn, hs, ha⟩ : ∃ F : CLay, a2 % 3 = (F.base : Int) ∧ 1 + a0 % 4 = (F.n : Int) ∧ 1 + a1 % 3 = (F.slots : Int) ∧ 1 + a2 % 4 = (F.actors : Int) :=
    ⟨⟨(a2 % 3).toNat, (1 + a0 % 4).toNat, (1 + a1 % 3).toNat, (1 + a2 % 4).toNat⟩, by simp only; omega, by simp only; omega, by simp only; omega, by simp only; omega⟩
  have hFo : F.Ok := ⟨by omega, by omega, by omega, by omega, by omega, by omega⟩
  have hF4 : F.base ≤ 2 ∧ F.n ≤ 4 ∧ F.slots ≤ 3 ∧ F.actors ≤ 4 := by omega
  have hsz : F.size ≤ 40 := by
    unfold CLay.size
    have : F.n * (2 + F.slots) ≤ 4 * 5 := Nat.mul_le_mul (by omega) (by omega)
    omega
  have hsz2 : 2 ≤ F.size := by unfold CLay.size; omega
  have HFO := hide hFo
  have HF4 := hide hF4
  clear hFo
  go_enter Tryz.func4, Tryz.ntmps4
  go_wp2_with fail
  refine (alive20_any w).mono ?_
  rintro e wa ⟨rfl, p1⟩
  have P1 := hide p1
  clear p1
  go_upto_region 4 with fail
  (try rw [hb])
  (try rw [hn])
  (try rw [hs])
  (try rw [ha])
  clear hb hn hs ha k1 k2 k3 k4 k5 k6
  have HAT := hide (Blk.new wa 34 #[.int .i64 F.base, .int .i64 F.n, .int .i64 F.slots, .int .i64 F.actors])
  have P2 := hide (P1.out.alloc (.cells #[.int .i64 F.base, .int .i64 F.n, .int .i64 F.slots, .int .i64 F.actors] 34))
  have cat : w.heap.size ≤ wa.heap.size := P1.out.size
  generalize hga : wa.heap.size = gat at *
  generalize wa.alloc (.cells #[.int .i64 F.base, .int .i64 F.n, .int .i64 F.slots, .int .i64 F.actors] 34) = wb at *
  clear P1 hga
  go_cut [10] (fun v10 wx => v10 = .int .i64 (F.base + F.size + 1 : Nat) ∧ Only S0 wb wx)
  case first =>
    as_aux_lemma =>
      have hw1 : IntKind.i64.wrap ((F.base : Int) + F.size) = F.base + F.size := IntWalk.i64_in _ (by omega)
      have hw2 : IntKind.i64.wrap ((F.base : Int) + F.size + 1) = F.base + F.size + 1 := IntWalk.i64_in _ (by omega)
      have HS := hide (fun (wx : World) => RSize_any (w := wx) (F.base : Int) HFO.out)
      have z := atc_of HAT.out.drew
      go_region_held3 (fun w' : World => w'.cell? ⟨gat, 0, none⟩ = some (.int .i64 F.base) ∧ w'.cell? ⟨gat, 1, none⟩ = some (.int .i64 F.n) ∧ w'.cell? ⟨gat, 2, none⟩ = some (.int .i64 F.slots) ∧ w'.cell? ⟨gat, 3, none⟩ = some (.int .i64 F.actors)) (first | with_reducible exact z | with_reducible exact y) (first | (go_at_call 10; (with_reducible refine (HS.out _).mono ?_); rintro e w2 ⟨rfl, o1⟩; have O1 := hide ((Only.refl S0 wb).drew.trans o1); have y := atc_of (HAT.out.drew.only o1 (fun h => h)); clear o1))
      all_goals (go_wp2_with fail; go_meet)
      all_goals exact ⟨by simp, O1.out⟩
  case rest =>
  obtain ⟨rfl, o0⟩ := hcut
  have HAT0 := hide (HAT.out.only o0 (fun h => h))
  have P3 := hide (P2.out.trans o0)
  have hgl := Blk.lt HAT0.out
  clear o0 HAT P2
  go_wp2_with fail
  have hco : countOf ((F.base + F.size + 1 : Nat) : Int) = F.base + F.size + 1 := by unfold countOf; omega
  refine (New_any ((F.base + F.size + 1 : Nat) : Int)).mono ?_
  rintro e w1 ⟨bm, bc, rfl, q1, p1, b1, b2⟩
  rw [hco] at q1
  have HQ := hide q1
  have P4 := hide (P3.out.trans p1)
  have HAT1 := hide (HAT0.out.only p1 (fun h => h))
  have c2 : w.heap.size ≤ bm := Nat.le_trans P3.out.size b1
  have c3 : w.heap.size ≤ bc := Nat.le_trans P3.out.size b2
  have hgm : gat < bm := Nat.lt_of_lt_of_le hgl b1
  have hgc : gat < bc := Nat.lt_of_lt_of_le hgl b2
  clear q1 p1 P3 HAT0 hgl
  have z0 := HAT1.out.cellv (i := 0) rfl
  have z1 := HAT1.out.cellv (i := 1) rfl
  have z2 := HAT1.out.cellv (i := 2) rfl
  have z3 := HAT1.out.cellv (i := 3) rfl
  go_wp2_with fail
  refine (CMake_good F HFO.out HQ.out (few_of _ (by omega)) (allU_zero _) (by simp <;> omega)).mono ?_
  rintro e w2 ⟨cb, bb, bg, dv, bd, rfl, he, p2, d1, -, -, -⟩
  have HE := hide he
  have P5 := hide (S0.then2 P4.out p2 c2 c3)
  have HAT2 := hide (HAT1.out.only p2 (fun h => by unfold S2 at h; omega))
  clear he p2 HQ P4 HAT1 z0 z1 z2 z3
  go_upto_region 7 with fail
  go_cut [81] (fun v81 wx => v81 = .bool false ∧ Only S0 w2 wx)
  case first =>
    as_aux_lemma =>
      have HS := hide (fun (wx : World) => RSize_any (w := wx) (F.base : Int) HFO.out)
      have hcs := HFO.out.csize
      have HCS := hide (fun (wx : World) => CSize_any (F.n : Int) F.slots F.actors wx)
      rw [hcs] at HCS
      clear hcs
      have z := atc_of HAT2.out.drew
      have O0 := hide ((Only.refl S0 w2).drew)
      have A0 := hide (HAT2.out.drew)
      go_region_held3 (fun w' : World => w'.cell? ⟨gat, 0, none⟩ = some (.int .i64 F.base) ∧ w'.cell? ⟨gat, 1, none⟩ = some (.int .i64 F.n) ∧ w'.cell? ⟨gat, 2, none⟩ = some (.int .i64 F.slots) ∧ w'.cell? ⟨gat, 3, none⟩ = some (.int .i64 F.actors)) (first | with_reducible exact z | with_reducible exact y) (first | (go_at_call 11; (with_reducible refine (HCS.out _).mono ?_); rintro e w3 ⟨rfl, rfl⟩) | (go_at_call 10; (with_reducible refine (HS.out _).mono ?_); rintro e w3 ⟨rfl, o1⟩; have O1 := hide (O0.out.trans o1); have y := atc_of (A0.out.only o1 (fun h => h)); clear o1))
      all_goals (go_wp2_with fail; go_meet)
      all_goals exact ⟨by simp, O1.out⟩
  case rest =>
  obtain ⟨rfl, o0⟩ := hcut
  have HAT3 := hide (HAT2.out.only o0 (fun h => h))
  have HE3 := hide (HE.out.only0 o0)
  have P6 := hide (P5.out.trans o0)
  clear o0 HAT2 HE P5
  go_wp2_with fail
  refine (RefNew_any ((F.base + F.size + 1 : Nat) : Int)).mono ?_
  rintro e w3 ⟨rm, rc, rfl, q3, p3, b4, b5'⟩
  rw [hco] at q3
  have HR := hide q3
  have hlt1 := Blk.lt HE3.out.mem.mem
  have hlt2 := Blk.lt HE3.out.mem.cells
  have hlt4 := Blk.lt HAT3.out
  have HE4 := hide (HE3.out.only0 p3)
  have HAT4 := hide (HAT3.out.only p3 (fun h => h))
  have P7 := hide (P6.out.trans p3)
  have c5 : w.heap.size ≤ rm := Nat.le_trans P6.out.size b4
  have c6 : w.heap.size ≤ rc := Nat.le_trans P6.out.size b5'
  have hne : bc ≠ rc := by omega
  have hlt5 := Blk.lt HR.out.mem
  have hlt6 := Blk.lt HR.out.cells
  have z0 := HAT4.out.cellv (i := 0) rfl
  have z1 := HAT4.out.cellv (i := 1) rfl
  have z2 := HAT4.out.cellv (i := 2) rfl
  have z3 := HAT4.out.cellv (i := 3) rfl
  clear q3 p3 HE3 HAT3 P6
  go_wp2_with fail
  have hlay := RLay_any (w := w3) HFO.out (by omega) (by simp <;> omega) HR.out
  unfold crewV at hlay
  refine hlay.mono ?_
  rintro e w4 ⟨rfl, h4, p4⟩
  have HR4 := hide h4
  have hl2 : (layC (List.replicate (F.base + F.size + 1) 0) F).length = F.base + F.size + 1 := by rw [layC_len]; simp
  have hT3 : Tabs w3 (S2 rm rc) := fun k hk => by
    rcases hk with rfl | rfl
    · exact ⟨_, _, HR.out.mem, .inr (.inl rfl)⟩
    · exact ⟨_, _, HR.out.cells, .inr (.inr ⟨.inr rfl, by simp; omega⟩)⟩
  have hS4 : ∀ g, g < rm → g < rc → ¬ S2 rm rc g := fun g h1 h2 h3 => by unfold S2 at h3; omega
  have HE5 := hide (HE4.out.tab p4 hT3 (hS4 _ (by omega) (by omega)) (hS4 _ (by omega) (by omega)))
  have HAT5 := hide (HAT4.out.only p4 (hS4 _ (by omega) (by omega)))
  have P8 := hide (S0.then2 P7.out p4 c5 c6)
  have hs4 := p4.size
  have HL2 := hide hl2
  clear h4 p4 HE4 HAT4 P7 HR z0 z1 z2 z3 hS4 hT3 hl2 hlay
  have hm1 := kmake_ops
  have hm2 := kmake_refs
  go_wp2_with fail
  clear hm1 hm2
  have o1 := (Only.refl S0 w4).alloc (.cells (optrs 5 (fun _ => false) fun _ => 0) 50)
  have o2 := o1.alloc (.cells (refsC 5 fun _ => ⟨0, 0, 0, .slice none 0 0⟩) 59)
  have HST := hide (show KSt ⟨w4.heap.size + 2, gat, cb, bb, bg, bm, bc, dv, bd, rm, rc, w4.heap.size, w4.heap.size + 1, F⟩ w ((w4.alloc (.cells (optrs 5 (fun _ => false) fun _ => 0) 50)).alloc (.cells (refsC 5 fun _ => ⟨0, 0, 0, .slice none 0 0⟩) 59))
      (fun _ => 0) (fun _ => false) (fun _ => 0) (fun _ => .over 1 0) (fun _ => ⟨0, 0, 0, .slice none 0 0⟩) (fun _ => []) (layC (List.replicate (F.base + F.size + 1) 0) F) (0 + (F.size : Nat)) 0 0 from
    ⟨fun t ht h => absurd h (by decide), (Blk.new w4 _ _).alloc _, by simpa using Blk.new (w4.alloc (.cells (optrs 5 (fun _ => false) fun _ => 0) 50)) 59 (refsC 5 fun _ => ⟨0, 0, 0, .slice none 0 0⟩),
      HE5.out.only0 o2, HR4.out.only0 o2, HAT5.out.only o2 (fun h => h), fun t ht => ⟨⟨LogAt.nil _ _, fun _ => rfl⟩, Nat.zero_le _⟩, fun t ht h => absurd h (by decide), fun t ht h => absurd h (by decide), P8.out.trans o2, by simp, by omega, by omega, by rw [HL2.out]; omega⟩)
  have HOK := hide (show KFix.Ok ⟨w4.heap.size + 2, gat, cb, bb, bg, bm, bc, dv, bd, rm, rc, w4.heap.size, w4.heap.size + 1, F⟩ w.heap.size from
    ⟨by show bm < w4.heap.size + 2; omega, by show bc < w4.heap.size + 2; omega, by show rm < w4.heap.size + 2; omega, by show rc < w4.heap.size + 2; omega, by show w4.heap.size < w4.heap.size + 2; omega, by show w4.heap.size + 1 < w4.heap.size + 2; omega, by show gat < w4.heap.size + 2; omega, hne, c2, c3, c5, c6, P8.out.size, by have := P8.out.size; show w.heap.size ≤ w4.heap.size + 1; omega, by have := P8.out.size; show w.heap.size ≤ w4.heap.size + 2; omega, HFO.out, by show F.base ≤ 10; omega⟩)
  have hLb : F.base + F.size ≤ (layC (List.replicate (F.base + F.size + 1) 0) F).length ∧ (layC (List.replicate (F.base + F.size + 1) 0) F).length ≤ 1000 := by rw [HL2.out]; omega
  clear o1 o2 HE5 HR4 HAT5 P8
  have HST' := HST
  clear HST
  generalize (w4.alloc (.cells (optrs 5 (fun _ => false) fun _ => 0) 50)).alloc (.cells (refsC 5 fun _ => ⟨0, 0, 0, .slice none 0 0⟩) 59) = wS at HST' ⊢
  generalize w4.heap.size + 2 = B0 at HST' HOK
  generalize hgr : w4.heap.size + 1 = gr at HST' HOK ⊢
  generalize hgo : w4.heap.size = go at HST' HOK ⊢
  generalize layC (List.replicate (F.base + F.size + 1) 0) F = L0 at HST' hLb
  generalize (0 + ((F.size : Nat) : Int)) = tc0 at HST'
  obtain ⟨X, rfl, rfl, rfl, rfl, rfl, rfl, rfl, hok, hst⟩ : ∃ X : KFix, X.gat = gat ∧ X.cb = cb ∧ X.bm = bm ∧ X.rm = rm ∧ X.go = go ∧ X.gr = gr ∧ X.F = F ∧ X.Ok w.heap.size ∧
      KSt X w wS (fun _ => 0) (fun _ => false) (fun _ => 0) (fun _ => .over 1 0) (fun _ => ⟨0, 0, 0, .slice none 0 0⟩) (fun _ => []) L0 tc0 0 0 :=
    ⟨⟨B0, gat, cb, bb, bg, bm, bc, dv, bd, rm, rc, go, gr, F⟩, rfl, rfl, rfl, rfl, rfl, rfl, rfl, HOK.out, HST'.out⟩
  have HF := hide hok
  have HST := hide hst
  have HLB := hide hLb
  clear hok hst hLb HST' HOK hgr hgo hs4 hne hlt1 hlt2 hlt4 hlt5 hlt6 b4 b5' c2 c3 c5 c6 b1 b2 d1 cat hgm hgc hco HL2 hsz hsz2 hF4
  clear HF4 HFO
  go_loopg [17, 18, 19, 20, 21, 22, 23, 24] 300 (fun q iv v18 v19 v20 v21 v22 v23 v24 wr => ∃ (i : Nat) (own : Nat → Nat) (act : Nat → Bool) (bo : Nat → Nat) (o : Nat → CSt) (r : Nat → RefC) (l : Nat → List Int) (L : List Int) (tc tcr : Int), q = 300 - i ∧ i ≤ 300 ∧ i ≤ len ∧ iv = .int .i64 i ∧ KSt X w wr own act bo o r l L tc tcr i ∧ (X.F.base + X.F.size ≤ L.length ∧ L.length ≤ 1000))
  case atStart => exact ⟨0, _, _, _, _, _, _, _, _, _, rfl, by omega, by omega, rfl, HST.out, HLB.out⟩
  case round =>
  as_aux_lemma =>
    clear HST HLB
    obtain ⟨i, own, act, bo, o, r, l, L, tc, tcr, rfl, hi, hil, rfl, hst, hlb⟩ := hrel
    have HST := hide hst
    have HLB := hide hlb
    clear hst hlb
    by_cases hlt : i < len
    · by_cases hlt4 : i < 300
      · obtain ⟨g, off, rfl, hg, hc⟩ := HC.out (by omega)
        have e0 : wr.cell? ⟨g, off + i * 4, none⟩ = _ := (HST.out.only.cell (p := ⟨g, off + i * 4, none⟩) hg (fun h => h)).trans (hc i 0 hlt (by decide))
        have e1 : wr.cell? ⟨g, off + i * 4 + 1, none⟩ = _ := (HST.out.only.cell (p := ⟨g, off + i * 4 + 1, none⟩) hg (fun h => h)).trans (hc i 1 hlt (by decide))
        have e2 : wr.cell? ⟨g, off + i * 4 + 2, none⟩ = _ := (HST.out.only.cell (p := ⟨g, off + i * 4 + 2, none⟩) hg (fun h => h)).trans (hc i 2 hlt (by decide))
        have e3 : wr.cell? ⟨g, off + i * 4 + 3, none⟩ = _ := (HST.out.only.cell (p := ⟨g, off + i * 4 + 3, none⟩) hg (fun h => h)).trans (hc i 3 hlt (by decide))
        obtain ⟨u1, u2⟩ := HK.out i hlt
        obtain ⟨u3, u4⟩ := HT.out i hlt
        obtain ⟨u5, u6⟩ := HW.out i hlt
        have HCC := hide hc
        clear hc
        simp only [show [IntKind.u8, IntKind.u8, IntKind.i64, IntKind.u64].getD 0 .i64 = .u8 from rfl, show [IntKind.u8, IntKind.u8, IntKind.i64, IntKind.u64].getD 1 .i64 = .u8 from rfl, show [IntKind.u8, IntKind.u8, IntKind.i64, IntKind.u64].getD 2 .i64 = .i64 from rfl, show [IntKind.u8, IntKind.u8, IntKind.i64, IntKind.u64].getD 3 .i64 = .u64 from rfl] at e0 e1 e2 e3
        generalize xs i 0 = kd0 at e0 u1 u2
        generalize xs i 1 = th0 at e1 u3 u4
        generalize xs i 2 = yw at e2
        generalize xs i 3 = xw at e3 u5 u6
        obtain ⟨t, ht⟩ : ∃ t : Nat, th0 % 5 = (t : Int) := ⟨(th0 % 5).toNat, by omega⟩
        have ht5 : t < 5 := by omega
        obtain ⟨kd, hkd⟩ : ∃ kd : Int, kd0 % 6 = kd := ⟨_, rfl⟩
        have hkd0 : 0 ≤ kd := by omega
        have hkd6 : kd < 6 := by omega
        go_upto_region 19 with fail
        (try rw [ht])
        (try rw [hkd])
        clear ht hkd u1 u2 u3 u4
        have hbx := (Only.refl S0 wr).alloc (.cells #[.int .u8 kd0, .int .u8 th0, .int .i64 yw, .int .u64 xw] 49)
        have HST1 := hide (HST.out.only0 hbx)
        have op0 := HST1.out.ops.cellv (optrs_get act bo ht5)
        have HBX := hide (Blk.new wr 49 #[.int .u8 kd0, .int .u8 th0, .int .i64 yw, .int .u64 xw])
        clear hbx e0 e1
        have hB0 := HST.out.le
        obtain ⟨bbx, hbbx⟩ : ∃ bbx, wr.heap.size = bbx := ⟨_, rfl⟩
        obtain ⟨wz, hwz⟩ : ∃ wz, wr.alloc (.cells #[.int .u8 kd0, .int .u8 th0, .int .i64 yw, .int .u64 xw] 49) = wz := ⟨_, rfl⟩
        rw [hbbx] at HBX hB0
        rw [hwz] at HST1 op0 HBX
        rw [hwz, hbbx]
        clear hwz hbbx HST e2 e3
        obtain ⟨idle, hidle⟩ : ∃ idle : Bool, idle = (!act t || ((o t).out != 0)) := ⟨_, rfl⟩
        have HID := hide hidle
        clear hidle
        go_cut [21] (fun v21 wx => v21 = .bool idle ∧ wz = wx)
        case first =>
          as_aux_lemma =>
            cases hact : act t with
            | false =>
              rw [show optr act bo t = .pointer none from by unfold optr; rw [hact]; rfl] at op0
              have hid := HID.out
              rw [hact] at hid
              have HID2 := hide (show idle = true from by rw [hid]; rfl)
              clear hact hid
              go_wp2_with fail
              go_meet
              exact ⟨by rw [HID2.out], rfl⟩
            | true =>
              rw [show optr act bo t = .pointer (some ⟨bo t, 0, none⟩) from by unfold optr; rw [hact]; rfl] at op0
              have hid := HID.out
              rw [hact] at hid
              have HID2 := hide (show idle = ((o t).out != 0) from by rw [hid]; rfl)
              have HBP := hide (HST1.out.fam t ht5 hact)
              clear hact hid
              go_wp2_with fail
              refine (kover_any HBP.out).mono ?_
              rintro e w1 ⟨rfl, rfl⟩
              rw [← HID2.out]
              go_wp2_with fail
              go_meet
              exact ⟨rfl, rfl⟩
        case rest =>
        obtain ⟨rfl, rfl⟩ := hcut
        obtain ⟨kk, hkk⟩ : ∃ kk : Bool, kk = (decide (1 ≤ kd) && decide (kd ≤ 4)) := ⟨_, rfl⟩
        have HKK := hide hkk
        clear hkk
        go_upto_region 20 with fail
        go_cut [130] (fun v130 wx => v130 = .bool kk ∧ wz = wx)
        case first =>
          as_aux_lemma =>
            by_cases h1 : 1 ≤ kd
            · have HK1 := hide (show kk = decide (kd ≤ 4) from by rw [HKK.out, decide_eq_true h1]; rfl)
              go_wp2_with fail
              go_meet
              exact ⟨by rw [HK1.out], rfl⟩
            · have HK1 := hide (show kk = false from by rw [HKK.out, decide_eq_false h1]; rfl)
              go_wp2_with fail
              go_meet
              exact ⟨by rw [HK1.out], rfl⟩
        case rest =>
        obtain ⟨rfl, rfl⟩ := hcut
        go_upto_if 130 with fail
        go_cut [] (fun wx => ∃ (own' : Nat → Nat) (act' : Nat → Bool) (bo' : Nat → Nat) (o' : Nat → CSt) (r' : Nat → RefC) (l' : Nat → List Int) (L' : List Int) (tc' tcr' : Int), KSt X w wx own' act' bo' o' r' l' L' tc' tcr' (i + 1) ∧ (X.F.base + X.F.size ≤ L'.length ∧ L'.length ≤ 1000))
        case first =>
          as_aux_lemma =>
            cases kk with
            | true =>
              cases idle with
              | true =>
                have hkb := HKK.out
                have hk1 : 1 ≤ kd := by simp at hkb; omega
                have hk4 : kd ≤ 4 := by simp at hkb; omega
                clear hkb
                as_aux_lemma =>
                  have bx2 := HBX.out.cellv (i := 2) rfl
                  have bx3 := HBX.out.cellv (i := 3) rfl
                  go_wp2_with fail
                  refine (begun20_any kd yw xw hk1 hk4 ⟨u5, by omega⟩ HST1.out.env).mono ?_
                  rintro e w1 ⟨bn, rfl, hx, -, o1, hbn, hokn⟩
                  have HSB := hide (KSt.begin_ HF.out HST1.out ht5 o1 hx hokn (cthr_new X.F kd yw xw hk1 hk4 ⟨u5, by omega⟩)).more
                  have q0 := (HST1.out.ops.only o1 (fun h => h)).cellv (optrs_get act bo ht5)
                  have q1 := (HST1.out.refs.only o1 (fun h => h)).cellv (refsC_get (j := 0) r ht5 (by decide))
                  have q2 := (HST1.out.refs.only o1 (fun h => h)).cellv (refsC_get (j := 1) r ht5 (by decide))
                  have q3 := (HST1.out.refs.only o1 (fun h => h)).cellv (refsC_get (j := 2) r ht5 (by decide))
                  have q5 := (HST1.out.refs.only o1 (fun h => h)).cellv (refsC_get (j := 3) r ht5 (by decide))
                  have y0 := (HST1.out.ops.only o1 (fun h => h)).frozen t
                  have y1 := (HST1.out.refs.only o1 (fun h => h)).frozen (t * 4)
                  have y2 := (HST1.out.refs.only o1 (fun h => h)).frozen (t * 4 + 1)
                  have y3 := (HST1.out.refs.only o1 (fun h => h)).frozen (t * 4 + 2)
                  have y4 := (HST1.out.refs.only o1 (fun h => h)).frozen (t * 4 + 3)
                  have hne : X.go ≠ X.gr := HST1.out.ops.ne_ HST1.out.refs (by decide)
                  have hne2 : X.go ≠ bbx := by have := HF.out.go; omega
                  have q4 := (HBX.out.only o1 (fun h => h)).cellv (i := 2) rfl
                  have q6 := (HBX.out.only o1 (fun h => h)).cellv (i := 3) rfl
                  clear hx o1 hbn hokn
                  rw [Nat.add_zero] at q1
                  go_upto_region 24 with fail
                  have op1 := HSB.out.ops.cellv (optrs_get (upd act t true) (upd bo t bn) ht5)
                  rw [show optr (upd act t true) (upd bo t bn) t = .pointer (some ⟨bn, 0, none⟩) from by unfold optr; rw [upd_same, upd_same]; rfl] at op1
                  go_wp2_with fail
                  go_meet
                  exact ⟨_, _, _, _, _, _, _, _, _, HSB.out, HLB.out⟩
              | false =>
                have HSZ := hide HST1.out.more
                go_wp2_with fail
                go_roundg (300 - (i + 1))
                case rel => exact ⟨i + 1, _, _, _, _, _, _, _, _, _, rfl, by omega, by omega, by go_num, HSZ.out, HLB.out⟩
                case measure => omega
            | false =>
              cases hact : act t with
              | false =>
                rw [show optr act bo t = .pointer none from by unfold optr; rw [hact]; rfl] at op0
                have HSB := hide HST1.out.more
                clear hact
                go_wp2_with fail
                go_meet
                exact ⟨_, _, _, _, _, _, _, _, _, HSB.out, HLB.out⟩
              | true =>
                rw [show optr act bo t = .pointer (some ⟨bo t, 0, none⟩) from by unfold optr; rw [hact]; rfl] at op0
                have HACT := hide hact
                have hid := HID.out
                rw [hact] at hid
                have HID2 := hide (show idle = ((o t).out != 0) from by rw [hid]; rfl)
                clear hact hid
                obtain ⟨bx, ox, kx, yx, Vx, lx, ax, cx, d0, d1, d2, d3, d4, hcis, hthr, hlog, hlen, hokx, hbo, hox, hrt, hlt'⟩ := HST1.out.seen ht5 HACT.out
                have HLOG := hide hlog
                have HLEN := hide hlen
                have HTHR := hide hthr
                have HBO := hide hbo
                have HOX := hide hox
                have HOKX := hide hokx
                have HCIS := hide hcis
                have HRT := hide hrt
                have HLT := hide hlt'
                rw [hox] at HID2
                rw [hbo] at op0
                clear hcis hthr hlog hlen hokx hbo hox hrt hlt'
                by_cases h60 : lx.length < 60
                · have h60' : (lx.length : Int) < 60 := by omega
                  by_cases hout : ox.out = 0
                  · have HOUT := hide hout
                    obtain rfl : idle = false := by rw [HID2.out, hout]; rfl
                    clear hout
                    as_aux_lemma =>
                      have hgr := HST1.out.refs.lt
                      have y1 := HST1.out.refs.frozen (t * 4)
                      have y2 := HST1.out.refs.frozen (t * 4 + 1)
                      have y3 := HST1.out.refs.frozen (t * 4 + 2)
                      have y4 := HST1.out.refs.frozen (t * 4 + 3)
                      go_wp2_with fail
                      refine (Touched_any HST1.out.env.mem).mono ?_
                      rintro e w1 ⟨rfl, rfl⟩
                      go_wp2_with fail
                      refine (COp_step HST1.out.env HOKX.out HCIS.out (few_of _ (by have := HST1.out.tcb; omega)) HOUT.out).mono ?_
                      rintro e w1 ⟨rfl, h1, h2, S, hoS, hft⟩
                      obtain ⟨L', xv, hg⟩ : ∃ L' xv, gdo L (cask X.F ox) = (L', xv) := ⟨_, _, rfl⟩
                      have hok1 := cstep_ok HST1.out.env.fit HST1.out.env.u HOKX.out
                      have hcs : cstep X.F L ox = (L', cans X.F ox xv) := by rw [cstep_ask X.F L ox HOUT.out HOKX.out, hg]
                      have hll : L'.length = L.length := by have := gdo_len L (cask X.F ox); rw [hg] at this; exact this
                      have hxu : U64 xv := by have := cdo_u HST1.out.env.u (cask X.F ox); rw [hg] at this; exact this
                      rw [hcs] at h1 h2 hok1 ⊢
                      simp only at h1 h2 hok1 ⊢
                      rw [← hll] at hok1
                      have HXU := hide hxu
                      have HLL := hide hll
                      have HOK1 := hide hok1
                      generalize hov : ((cans X.F ox xv).out != 0) = ov
                      have HOV := hide hov
                      have H1 := hide h1
                      have H2 := hide h2
                      have HS := hide hoS
                      have HFT := hide hft
                      have HG := hide hg
                      obtain ⟨m0, m1, m2, m3, m4, m5, m6, m7⟩ := HST1.out.mid HF.out ht5 hoS hft
                      have op1 := m1.cellv (optrs_get act bo ht5)
                      rw [show optr act bo t = .pointer (some ⟨bx, 0, none⟩) from by unfold optr; rw [HACT.out, HBO.out]; rfl] at op1
                      have r1 := m2.cellv (refsC_get (j := 0) r ht5 (by decide))
                      have r2 := m2.cellv (refsC_get (j := 1) r ht5 (by decide))
                      have r3 := m2.cellv (refsC_get (j := 2) r ht5 (by decide))
                      have r4 := m2.cellv (refsC_get (j := 3) r ht5 (by decide))
                      rw [HRT.out] at r1 r2 r3 r4
                      rw [Nat.add_zero] at r1
                      have at0 := m4.cellv (i := 0) rfl
                      have at1 := m4.cellv (i := 1) rfl
                      have at2 := m4.cellv (i := 2) rfl
                      have at3 := m4.cellv (i := 3) rfl
                      have M2 := hide m2
                      have MA := hide m4
                      have M3 := hide m3
                      have ML := hide (m5 t ht5)
                      have M7 := hide m7
                      clear hov h1 h2 hg hoS hft hcs hll hxu hok1 m0 m1 m2 m3 m4 m5 m6 m7
                      have hcb := HST1.out.tcb
                      have hc0 := HST1.out.env.mem.tc0
                      go_wp2_with fail
                      refine (Touched_any H2.out.mem).mono ?_
                      rintro e w1' ⟨rfl, rfl⟩
                      go_wp2_with fail
                      refine (Touched_any H2.out.mem).mono ?_
                      rintro e w1' ⟨rfl, rfl⟩
                      go_wp2_with fail
                      refine (kover_any H1.out).mono ?_
                      rintro e w1' ⟨rfl, rfl⟩
                      rw [HOV.out]
                      go_upto_region 31 with fail
                      clear d0 op0 y1 y2 y3 y4
                      have hin := cask_in (st := ox) (len := L.length) HLB.out.1 HF.out.F HOKX.out HOUT.out
                      have hml := ML.out
                      rw [HRT.out, HLT.out] at hml
                      have HLD := hide (hml.only0 (Only.refl S0 w1).drew)
                      have hgr1 : X.gr ≠ X.rm := M2.out.ne_ M3.out.mem (by decide)
                      have hgr2 : X.gr ≠ X.rc := M2.out.ne_ M3.out.cells (by decide)
                      have hst := cStepR_go (w := w1.drew) HF.out.F (by have := HF.out.base; omega) (cask X.F ox) HTHR.out.pr (by rw [← HTHR.out.eq]) HLD.out M7.out (by have := HLEN.out; omega) HTHR.out.k1 HTHR.out.k4 HTHR.out.uV HTHR.out.u M3.out.drew (few_of _ (by have := HST1.out.tcrb; omega)) HF.out.rm HF.out.rc (cask_go_ HOKX.out HOUT.out).1 hin.1 hin.2.1 hin.2.2
                      unfold crewV at hst
                      have HSTP := hide hst
                      clear hml hin hst
                      have hga1 : X.gat ≠ X.rm := MA.out.ne_ M3.out.mem (by decide)
                      have hga2 : X.gat ≠ X.rc := MA.out.ne_ M3.out.cells (by decide)
                      have kk : (fun w' : World => (w'.cell? ⟨X.gat, 0, none⟩ = some (.int .i64 X.F.base) ∧ w'.cell? ⟨X.gat, 1, none⟩ = some (.int .i64 X.F.n) ∧ w'.cell? ⟨X.gat, 2, none⟩ = some (.int .i64 X.F.slots) ∧ w'.cell? ⟨X.gat, 3, none⟩ = some (.int .i64 X.F.actors)) ∧ w'.cell? ⟨X.gr, t * 4, none⟩ = some (.int .i64 kx) ∧ w'.cell? ⟨X.gr, t * 4 + 1, none⟩ = some (.int .i64 yx) ∧ w'.cell? ⟨X.gr, t * 4 + 2, none⟩ = some (.int .u64 Vx) ∧ w'.cell? ⟨X.gr, t * 4 + 3, none⟩ = some (.slice ax lx.length cx)) w1.drew := ⟨⟨MA.out.cellv rfl, MA.out.cellv rfl, MA.out.cellv rfl, MA.out.cellv rfl⟩, r1, r2, r3, r4⟩
                      clear at0 at1 at2 at3 r1 r2 r3 r4
                      refine wp_region_last 10 (fun w' : World => (w'.cell? ⟨X.gat, 0, none⟩ = some (.int .i64 X.F.base) ∧ w'.cell? ⟨X.gat, 1, none⟩ = some (.int .i64 X.F.n) ∧ w'.cell? ⟨X.gat, 2, none⟩ = some (.int .i64 X.F.slots) ∧ w'.cell? ⟨X.gat, 3, none⟩ = some (.int .i64 X.F.actors)) ∧ w'.cell? ⟨X.gr, t * 4, none⟩ = some (.int .i64 kx) ∧ w'.cell? ⟨X.gr, t * 4 + 1, none⟩ = some (.int .i64 yx) ∧ w'.cell? ⟨X.gr, t * 4 + 2, none⟩ = some (.int .u64 Vx) ∧ w'.cell? ⟨X.gr, t * 4 + 3, none⟩ = some (.slice ax lx.length cx)) (by kernel_rfl) ?_
                      refine wpLast_take (i := 0) (oi := ⟨some 204, _, _, _, _, _⟩) (v := ?vv0) rfl (by kernel_rfl) (by kernel_rfl) (by kernel_rfl) (by kernel_rfl) (by decide) (fun _ _ _ h => h) (Or.inl ⟨by rfl, ?hy0⟩) (by assumption) ?rest0
                      case hy0 => intro wq hSw; (try dsimp only at hSw); go_simp; (try with_reducible rfl)
                      (try simp only [Act.put, List.setIfInBounds_toArray, List.set_cons_zero, List.set_cons_succ])
                      refine wpLast_take (i := 1) (oi := ⟨some 205, _, _, _, _, _⟩) (v := ?vv1) rfl (by kernel_rfl) (by kernel_rfl) (by kernel_rfl) (by kernel_rfl) (by decide) (fun _ _ _ h => h) (Or.inl ⟨by rfl, ?hy1⟩) (by assumption) ?rest1
                      case hy1 => intro wq hSw; (try dsimp only at hSw); go_simp; (try with_reducible rfl)
                      (try simp only [Act.put, List.setIfInBounds_toArray, List.set_cons_zero, List.set_cons_succ])
                      refine wpLast_take (i := 2) (oi := ⟨some 206, _, _, _, _, _⟩) (v := ?vv2) rfl (by kernel_rfl) (by kernel_rfl) (by kernel_rfl) (by kernel_rfl) (by decide) (fun _ _ _ h => h) (Or.inl ⟨by rfl, ?hy2⟩) (by assumption) ?rest2
                      case hy2 => intro wq hSw; (try dsimp only at hSw); go_simp; (try with_reducible rfl)
                      (try simp only [Act.put, List.setIfInBounds_toArray, List.set_cons_zero, List.set_cons_succ])
                      refine wpLast_take (i := 3) (oi := ⟨some 207, _, _, _, _, _⟩) (v := ?vv3) rfl (by kernel_rfl) (by kernel_rfl) (by kernel_rfl) (by kernel_rfl) (by decide) (fun _ _ _ h => h) (Or.inl ⟨by rfl, ?hy3⟩) (by assumption) ?rest3
                      case hy3 => intro wq hSw; (try dsimp only at hSw); go_simp; (try with_reducible rfl)
                      (try simp only [Act.put, List.setIfInBounds_toArray, List.set_cons_zero, List.set_cons_succ])
                      refine wpLast_take (i := 4) (oi := ⟨some 208, _, _, _, _, _⟩) (v := ?vv4) rfl (by kernel_rfl) (by kernel_rfl) (by kernel_rfl) (by kernel_rfl) (by decide) (fun _ _ _ h => h) (Or.inl ⟨by rfl, ?hy4⟩) (by assumption) ?rest4
                      case hy4 => intro wq hSw; (try dsimp only at hSw); go_simp; (try with_reducible rfl)
                      (try simp only [Act.put, List.setIfInBounds_toArray, List.set_cons_zero, List.set_cons_succ])
                      refine wpLast_take (i := 5) (oi := ⟨some 209, _, _, _, _, _⟩) (v := ?vv5) rfl (by kernel_rfl) (by kernel_rfl) (by kernel_rfl) (by kernel_rfl) (by decide) (fun _ _ _ h => h) (Or.inl ⟨by rfl, ?hy5⟩) (by assumption) ?rest5
                      case hy5 => intro wq hSw; (try dsimp only at hSw); go_simp; (try with_reducible rfl)
                      (try simp only [Act.put, List.setIfInBounds_toArray, List.set_cons_zero, List.set_cons_succ])
                      refine wpLast_take (i := 6) (oi := ⟨some 210, _, _, _, _, _⟩) (v := ?vv6) rfl (by kernel_rfl) (by kernel_rfl) (by kernel_rfl) (by kernel_rfl) (by decide) (fun _ _ _ h => h) (Or.inl ⟨by rfl, ?hy6⟩) (by assumption) ?rest6
                      case hy6 => intro wq hSw; (try dsimp only at hSw); go_simp; (try with_reducible rfl)
                      (try simp only [Act.put, List.setIfInBounds_toArray, List.set_cons_zero, List.set_cons_succ])
                      refine wpLast_take (i := 7) (oi := ⟨some 211, _, _, _, _, _⟩) (v := ?vv7) rfl (by kernel_rfl) (by kernel_rfl) (by kernel_rfl) (by kernel_rfl) (by decide) (fun _ _ _ h => h) (Or.inl ⟨by rfl, ?hy7⟩) (by assumption) ?rest7
                      case hy7 => intro wq hSw; (try dsimp only at hSw); go_simp; (try with_reducible rfl)
                      (try simp only [Act.put, List.setIfInBounds_toArray, List.set_cons_zero, List.set_cons_succ])
                      refine wpLast_one (i := 8) (o := ⟨some 212, _, _, _, _, _⟩) (by kernel_rfl) rfl (fun K hK => ?_)
                      go_simp
                      refine HSTP.out.mono ?_
                      rintro e w2 ⟨lv', rfl, hl', hr', o2⟩
                      rw [HG.out] at hl' hr'
                      simp only at hl' hr'
                      obtain ⟨a2, c2, hlv, -⟩ := hl'.at_.form
                      obtain ⟨m2, hm2⟩ : ∃ m2, (lx ++ [xv]).length = m2 := ⟨_, rfl⟩
                      rw [hm2] at hlv
                      subst hlv
                      clear hm2
                      have HSB := hide (KSt.step_ (kind := kx) (wk := yx) (V := Vx) HF.out HST1.out ht5 HACT.out HS.out HFT.out (by rw [HBO.out]; exact H1.out) H2.out HLL.out (((Only.refl (S2 X.rm X.rc) w1).drew).trans o2) hr' hl' (by rw [List.length_append]; have := HLEN.out; simp; omega) HOK1.out (HTHR.out.step HOUT.out HXU.out) (by omega) (by omega))
                      have M4 := hide ((show Blk w1.drew X.gr 59 (refsC 5 r) from M2.out).only o2 (fun h => by unfold S2 at h; omega))
                      have MG := hide ((show Blk w1.drew X.gat 34 #[.int .i64 X.F.base, .int .i64 X.F.n, .int .i64 X.F.slots, .int .i64 X.F.actors] from MA.out).only o2 (fun h => by unfold S2 at h; omega))
                      have r1 := M4.out.cellv (refsC_get (j := 0) r ht5 (by decide))
                      have r2 := M4.out.cellv (refsC_get (j := 1) r ht5 (by decide))
                      have r3 := M4.out.cellv (refsC_get (j := 2) r ht5 (by decide))
                      have r4 := M4.out.cellv (refsC_get (j := 3) r ht5 (by decide))
                      have y1 := M4.out.frozen (t * 4)
                      have y2 := M4.out.frozen (t * 4 + 1)
                      have y3 := M4.out.frozen (t * 4 + 2)
                      have y4 := M4.out.frozen (t * 4 + 3)
                      rw [Nat.add_zero] at r1
                      rw [HRT.out] at r1 r2 r3 r4
                      have kk2 : (fun w' : World => (w'.cell? ⟨X.gat, 0, none⟩ = some (.int .i64 X.F.base) ∧ w'.cell? ⟨X.gat, 1, none⟩ = some (.int .i64 X.F.n) ∧ w'.cell? ⟨X.gat, 2, none⟩ = some (.int .i64 X.F.slots) ∧ w'.cell? ⟨X.gat, 3, none⟩ = some (.int .i64 X.F.actors)) ∧ w'.cell? ⟨X.gr, t * 4, none⟩ = some (.int .i64 kx) ∧ w'.cell? ⟨X.gr, t * 4 + 1, none⟩ = some (.int .i64 yx) ∧ w'.cell? ⟨X.gr, t * 4 + 2, none⟩ = some (.int .u64 Vx) ∧ w'.cell? ⟨X.gr, t * 4 + 3, none⟩ = some (.slice ax lx.length cx)) w2 := ⟨⟨MG.out.cellv rfl, MG.out.cellv rfl, MG.out.cellv rfl, MG.out.cellv rfl⟩, r1, r2, r3, r4⟩
                      clear hr' hl' o2
                      refine hK.out _ _ (fun _ => kk2) ?_
                      clear hK K
                      clear kk
                      refine wpLast_one (i := 9) (o := ⟨some 213, _, _, _, _, _⟩) (by kernel_rfl) rfl (fun K hK => ?_)
                      go_simp
                      refine hK.out _ _ (fun _ => kk2) ?_
                      clear hK K
                      (try simp only [Act.put, List.setIfInBounds_toArray, List.set_cons_zero, List.set_cons_succ])
                      clear kk2
                      refine wpLast_one (i := 10) (o := ⟨none, _, _, _, _, _⟩) (by kernel_rfl) rfl (fun K hK => ?_)
                      go_simp
                      refine hK.out _ _ (fun h => absurd rfl h) ?_
                      clear hK K
                      refine wpLast_done (by kernel_rfl) ?_ _
                      go_wp2_with fail
                      go_meet
                      exact ⟨_, _, _, _, _, _, _, _, _, HSB.out, by have := HLB.out; have := HLL.out; omega⟩
                  · have HOUT := hide hout
                    obtain rfl : idle = true := by rw [HID2.out]; simp [hout]
                    clear hout
                    as_aux_lemma =>
                      have hgr := HST1.out.refs.lt
                      have y1 := HST1.out.refs.frozen (t * 4)
                      have y2 := HST1.out.refs.frozen (t * 4 + 1)
                      have y3 := HST1.out.refs.frozen (t * 4 + 2)
                      have y4 := HST1.out.refs.frozen (t * 4 + 3)
                      have hcb := HST1.out.tcb
                      have hc0 := HST1.out.env.mem.tc0
                      have at0 := HST1.out.atb.cellv (i := 0) rfl
                      have at1 := HST1.out.atb.cellv (i := 1) rfl
                      have at2 := HST1.out.atb.cellv (i := 2) rfl
                      have at3 := HST1.out.atb.cellv (i := 3) rfl
                      go_wp2_with fail
                      refine (Touched_any HST1.out.env.mem).mono ?_
                      rintro e w1 ⟨rfl, rfl⟩
                      go_wp2_with fail
                      refine (COp_idle HCIS.out HOUT.out).mono ?_
                      rintro e w1 ⟨rfl, rfl⟩
                      go_wp2_with fail
                      refine (Touched_any HST1.out.env.mem).mono ?_
                      rintro e w1 ⟨rfl, rfl⟩
                      go_wp2_with fail
                      refine (Touched_any HST1.out.env.mem).mono ?_
                      rintro e w1 ⟨rfl, rfl⟩
                      have hone : (ox.out != 0) = true := by simp [HOUT.out]
                      go_wp2_with fail
                      refine (kover_any HCIS.out).mono ?_
                      rintro e w1 ⟨rfl, rfl⟩
                      rw [hone]
                      clear hone
                      go_upto_region 31 with fail
                      have HLD := hide (HLOG.out.only0 (Only.refl S0 wz).drew)
                      have hst := cStepR_over (rm := X.rm) (w := wz.drew) HF.out.F (by have := HF.out.base; omega) (cask X.F ox) HTHR.out.pr (by rw [← HTHR.out.eq]) HLD.out HST1.out.le (by have := HLEN.out; omega) HTHR.out.k1 HTHR.out.k4 HTHR.out.uV HTHR.out.u (cask_over_ HOUT.out).1
                      unfold crewV at hst
                      have HSTP := hide hst
                      clear y1 y2 y3 y4 hst
                      have kk : (fun w' : World => (w'.cell? ⟨X.gat, 0, none⟩ = some (.int .i64 X.F.base) ∧ w'.cell? ⟨X.gat, 1, none⟩ = some (.int .i64 X.F.n) ∧ w'.cell? ⟨X.gat, 2, none⟩ = some (.int .i64 X.F.slots) ∧ w'.cell? ⟨X.gat, 3, none⟩ = some (.int .i64 X.F.actors)) ∧ w'.cell? ⟨X.gr, t * 4, none⟩ = some (.int .i64 kx) ∧ w'.cell? ⟨X.gr, t * 4 + 1, none⟩ = some (.int .i64 yx) ∧ w'.cell? ⟨X.gr, t * 4 + 2, none⟩ = some (.int .u64 Vx) ∧ w'.cell? ⟨X.gr, t * 4 + 3, none⟩ = some (.slice ax lx.length cx)) wz.drew := ⟨⟨at0, at1, at2, at3⟩, d1, d2, d3, d4⟩
                      clear at0 at1 at2 at3 d0 d1 d2 d3 d4 op0
                      refine wp_region_last 10 (fun w' : World => (w'.cell? ⟨X.gat, 0, none⟩ = some (.int .i64 X.F.base) ∧ w'.cell? ⟨X.gat, 1, none⟩ = some (.int .i64 X.F.n) ∧ w'.cell? ⟨X.gat, 2, none⟩ = some (.int .i64 X.F.slots) ∧ w'.cell? ⟨X.gat, 3, none⟩ = some (.int .i64 X.F.actors)) ∧ w'.cell? ⟨X.gr, t * 4, none⟩ = some (.int .i64 kx) ∧ w'.cell? ⟨X.gr, t * 4 + 1, none⟩ = some (.int .i64 yx) ∧ w'.cell? ⟨X.gr, t * 4 + 2, none⟩ = some (.int .u64 Vx) ∧ w'.cell? ⟨X.gr, t * 4 + 3, none⟩ = some (.slice ax lx.length cx)) (by kernel_rfl) ?_
                      refine wpLast_take (i := 0) (oi := ⟨some 204, _, _, _, _, _⟩) (v := ?vo0) rfl (by kernel_rfl) (by kernel_rfl) (by kernel_rfl) (by kernel_rfl) (by decide) (fun _ _ _ h => h) (Or.inl ⟨by rfl, ?yo0⟩) (by assumption) ?ro0
                      case yo0 => intro wq hSw; (try dsimp only at hSw); go_simp; (try with_reducible rfl)
                      (try simp only [Act.put, List.setIfInBounds_toArray, List.set_cons_zero, List.set_cons_succ])
                      refine wpLast_take (i := 1) (oi := ⟨some 205, _, _, _, _, _⟩) (v := ?vo1) rfl (by kernel_rfl) (by kernel_rfl) (by kernel_rfl) (by kernel_rfl) (by decide) (fun _ _ _ h => h) (Or.inl ⟨by rfl, ?yo1⟩) (by assumption) ?ro1
                      case yo1 => intro wq hSw; (try dsimp only at hSw); go_simp; (try with_reducible rfl)
                      (try simp only [Act.put, List.setIfInBounds_toArray, List.set_cons_zero, List.set_cons_succ])
                      refine wpLast_take (i := 2) (oi := ⟨some 206, _, _, _, _, _⟩) (v := ?vo2) rfl (by kernel_rfl) (by kernel_rfl) (by kernel_rfl) (by kernel_rfl) (by decide) (fun _ _ _ h => h) (Or.inl ⟨by rfl, ?yo2⟩) (by assumption) ?ro2
                      case yo2 => intro wq hSw; (try dsimp only at hSw); go_simp; (try with_reducible rfl)
                      (try simp only [Act.put, List.setIfInBounds_toArray, List.set_cons_zero, List.set_cons_succ])
                      refine wpLast_take (i := 3) (oi := ⟨some 207, _, _, _, _, _⟩) (v := ?vo3) rfl (by kernel_rfl) (by kernel_rfl) (by kernel_rfl) (by kernel_rfl) (by decide) (fun _ _ _ h => h) (Or.inl ⟨by rfl, ?yo3⟩) (by assumption) ?ro3
                      case yo3 => intro wq hSw; (try dsimp only at hSw); go_simp; (try with_reducible rfl)
                      (try simp only [Act.put, List.setIfInBounds_toArray, List.set_cons_zero, List.set_cons_succ])
                      refine wpLast_take (i := 4) (oi := ⟨some 208, _, _, _, _, _⟩) (v := ?vo4) rfl (by kernel_rfl) (by kernel_rfl) (by kernel_rfl) (by kernel_rfl) (by decide) (fun _ _ _ h => h) (Or.inl ⟨by rfl, ?yo4⟩) (by assumption) ?ro4
                      case yo4 => intro wq hSw; (try dsimp only at hSw); go_simp; (try with_reducible rfl)
                      (try simp only [Act.put, List.setIfInBounds_toArray, List.set_cons_zero, List.set_cons_succ])
                      refine wpLast_take (i := 5) (oi := ⟨some 209, _, _, _, _, _⟩) (v := ?vo5) rfl (by kernel_rfl) (by kernel_rfl) (by kernel_rfl) (by kernel_rfl) (by decide) (fun _ _ _ h => h) (Or.inl ⟨by rfl, ?yo5⟩) (by assumption) ?ro5
                      case yo5 => intro wq hSw; (try dsimp only at hSw); go_simp; (try with_reducible rfl)
                      (try simp only [Act.put, List.setIfInBounds_toArray, List.set_cons_zero, List.set_cons_succ])
                      refine wpLast_take (i := 6) (oi := ⟨some 210, _, _, _, _, _⟩) (v := ?vo6) rfl (by kernel_rfl) (by kernel_rfl) (by kernel_rfl) (by kernel_rfl) (by decide) (fun _ _ _ h => h) (Or.inl ⟨by rfl, ?yo6⟩) (by assumption) ?ro6
                      case yo6 => intro wq hSw; (try dsimp only at hSw); go_simp; (try with_reducible rfl)
                      (try simp only [Act.put, List.setIfInBounds_toArray, List.set_cons_zero, List.set_cons_succ])
                      refine wpLast_take (i := 7) (oi := ⟨some 211, _, _, _, _, _⟩) (v := ?vo7) rfl (by kernel_rfl) (by kernel_rfl) (by kernel_rfl) (by kernel_rfl) (by decide) (fun _ _ _ h => h) (Or.inl ⟨by rfl, ?yo7⟩) (by assumption) ?ro7
                      case yo7 => intro wq hSw; (try dsimp only at hSw); go_simp; (try with_reducible rfl)
                      (try simp only [Act.put, List.setIfInBounds_toArray, List.set_cons_zero, List.set_cons_succ])
                      refine wpLast_one (i := 8) (o := ⟨some 212, _, _, _, _, _⟩) (by kernel_rfl) rfl (fun K hK => ?_)
                      go_simp
                      refine HSTP.out.mono ?_
                      rintro e w2 ⟨rfl, o2⟩
                      have HSB := hide (KSt.step_ (kind := kx) (wk := yx) (V := Vx) HF.out HST1.out ht5 HACT.out (Only.refl S0 wz) (fun k hk => hk.elim) (by rw [HBO.out]; exact HCIS.out.more (fun k hk => .inl hk)) HST1.out.env rfl (((Only.refl (S2 X.rm X.rc) wz).drew).trans (o2.mono fun _ h => h.elim)) (HST1.out.ref.drew.only0 o2) (HLD.out.only0 o2) (by have := HLEN.out; omega) HOKX.out HTHR.out (by omega) (by omega))
                      have M4 := hide ((show Blk wz.drew X.gr 59 (refsC 5 r) from HST1.out.refs).only o2 (fun h => h))
                      have MG := hide ((show Blk wz.drew X.gat 34 #[.int .i64 X.F.base, .int .i64 X.F.n, .int .i64 X.F.slots, .int .i64 X.F.actors] from HST1.out.atb).only o2 (fun h => h))
                      have r1 := M4.out.cellv (refsC_get (j := 0) r ht5 (by decide))
                      have r2 := M4.out.cellv (refsC_get (j := 1) r ht5 (by decide))
                      have r3 := M4.out.cellv (refsC_get (j := 2) r ht5 (by decide))
                      have r4 := M4.out.cellv (refsC_get (j := 3) r ht5 (by decide))
                      have y1 := M4.out.frozen (t * 4)
                      have y2 := M4.out.frozen (t * 4 + 1)
                      have y3 := M4.out.frozen (t * 4 + 2)
                      have y4 := M4.out.frozen (t * 4 + 3)
                      rw [Nat.add_zero] at r1
                      rw [HRT.out] at r1 r2 r3 r4
                      have kk2 : (fun w' : World => (w'.cell? ⟨X.gat, 0, none⟩ = some (.int .i64 X.F.base) ∧ w'.cell? ⟨X.gat, 1, none⟩ = some (.int .i64 X.F.n) ∧ w'.cell? ⟨X.gat, 2, none⟩ = some (.int .i64 X.F.slots) ∧ w'.cell? ⟨X.gat, 3, none⟩ = some (.int .i64 X.F.actors)) ∧ w'.cell? ⟨X.gr, t * 4, none⟩ = some (.int .i64 kx) ∧ w'.cell? ⟨X.gr, t * 4 + 1, none⟩ = some (.int .i64 yx) ∧ w'.cell? ⟨X.gr, t * 4 + 2, none⟩ = some (.int .u64 Vx) ∧ w'.cell? ⟨X.gr, t * 4 + 3, none⟩ = some (.slice ax lx.length cx)) w2 := ⟨⟨MG.out.cellv rfl, MG.out.cellv rfl, MG.out.cellv rfl, MG.out.cellv rfl⟩, r1, r2, r3, r4⟩
                      clear o2
                      refine hK.out _ _ (fun _ => kk2) ?_
                      clear hK K
                      clear kk
                      refine wpLast_one (i := 9) (o := ⟨some 213, _, _, _, _, _⟩) (by kernel_rfl) rfl (fun K hK => ?_)
                      go_simp
                      refine hK.out _ _ (fun _ => kk2) ?_
                      clear hK K
                      (try simp only [Act.put, List.setIfInBounds_toArray, List.set_cons_zero, List.set_cons_succ])
                      clear kk2
                      refine wpLast_one (i := 10) (o := ⟨none, _, _, _, _, _⟩) (by kernel_rfl) rfl (fun K hK => ?_)
                      go_simp
                      refine hK.out _ _ (fun h => absurd rfl h) ?_
                      clear hK K
                      refine wpLast_done (by kernel_rfl) ?_ _
                      go_wp2_with fail
                      go_meet
                      exact ⟨_, _, _, _, _, _, _, _, _, HSB.out, HLB.out⟩
                · have h60' : ¬ (lx.length : Int) < 60 := by omega
                  have HSB := hide HST1.out.more
                  go_wp2_with fail
                  go_meet
                  exact ⟨_, _, _, _, _, _, _, _, _, HSB.out, HLB.out⟩
        case rest =>
          obtain ⟨own', act', bo', o', r', l', L', tc', tcr', hst', hlb'⟩ := hcut
          have HSX := hide hst'
          have HLX := hide hlb'
          clear hst' hlb' HST1 op0 HBX HID HKK HLB
          clear own act bo o r l L tc tcr
          have op0 := HSX.out.ops.cellv (optrs_get act' bo' ht5)
          obtain ⟨at', hat'⟩ : ∃ b, act' t = b := ⟨_, rfl⟩
          have HA := hide hat'
          clear hat'
          go_upto_region 32 with fail
          go_cut [218] (fun v218 wx => v218 = .bool at' ∧ wc = wx)
          case first =>
            as_aux_lemma =>
              cases at' with
              | false =>
                rw [show optr act' bo' t = .pointer none from by unfold optr; rw [HA.out]; rfl] at op0
                go_wp2_with fail
                go_meet
                exact ⟨rfl, rfl⟩
              | true =>
                rw [show optr act' bo' t = .pointer (some ⟨bo' t, 0, none⟩) from by unfold optr; rw [HA.out]; rfl] at op0
                go_wp2_with fail
                go_meet
                exact ⟨rfl, rfl⟩
          case rest =>
          obtain ⟨rfl, rfl⟩ := hcut
          go_upto_if 218 with fail
          obtain ⟨wd, hwd⟩ : ∃ wd, wc = wd := ⟨_, rfl⟩
          rw [hwd] at HSX op0 ⊢
          clear hwd
          go_cut [] (fun wx => Only S0 wd wx)
          case first =>
            as_aux_lemma =>
              cases at' with
              | false =>
                go_wp2_with fail
                go_meet
                exact Only.refl S0 wd
              | true =>
                obtain ⟨bx, ox, kx, yx, Vx, lx, ax, cx, d0, d1, d2, d3, d4, hcis, hthr, hlog, hlen, hokx, -, -, -, -⟩ := HSX.out.seen ht5 HA.out
                have HCIS := hide hcis
                have HTHR := hide hthr
                have HLS := hide (hlog.logS rfl)
                have HOKX := hide hokx
                have HLEN := hide hlen
                have HAT := hide HSX.out.atb
                have HRF := hide (show (wd.cell? ⟨X.gr, t * 4, none⟩ = some (.int .i64 kx) ∧ wd.cell? ⟨X.gr, t * 4 + 1, none⟩ = some (.int .i64 yx) ∧ wd.cell? ⟨X.gr, t * 4 + 2, none⟩ = some (.int .u64 Vx) ∧ wd.cell? ⟨X.gr, t * 4 + 3, none⟩ = some (.slice ax lx.length cx)) ∧ X.gr < wd.heap.size from ⟨⟨d1, d2, d3, d4⟩, HSX.out.refs.lt⟩)
                have hlk := cask_like (F := X.F) HOKX.out
                obtain ⟨W, hW⟩ : ∃ W, cask X.F ox = W := ⟨_, rfl⟩
                rw [hW] at hlk
                have hnx := fun (wx : World) (hx : Only S0 wd wx) => rNext_any (w := wx) HF.out.F (by have := HF.out.base; omega) HTHR.out.k1 HTHR.out.k4 HTHR.out.uV (HLS.out.only0 hx) (by have := HLEN.out; omega) HTHR.out.u HTHR.out.pr
                rw [← HTHR.out.eq, hW] at hnx
                unfold crewV at hnx
                have HNX := hide hnx
                have HLK := hide hlk
                clear hcis hthr hlog hlen hokx hW hlk hnx d1 d2 d3 d4
                have ht5a : (t : Int) < 5 := by omega
                have ht5b : (0 : Int) ≤ t := by omega
                go_upto_region 33 with fail
                go_cut [24] (fun v24 wx => Only S0 wd wx ∧ ∃ xq, v24 = .pointer (some ⟨xq, 0, none⟩) ∧ Blk wx xq 62 #[.bool W.over, .int .i64 W.what, .int .i64 W.cell, .int .u64 W.a, .int .u64 W.b, .int .i64 W.out, .int .u64 W.value, .int .u64 0])
                case first =>
                  as_aux_lemma =>
                    obtain ⟨ov, what, cell, aa, bb, out, value⟩ := W
                    refine wp_region_noPanic ?_
                    refine r33 (X := X) (t := t) ht5 HAT HRF HNX (fun _ _ _ _ _ h => h) ?_
                    intro u219 u220 u221 u222 u223 u224 xq w' ho hb
                    refine NoPanic.normal ?_
                    go_wp2_with fail
                    go_meet
                    exact ⟨ho, xq, rfl, hb⟩
                case rest =>
                obtain ⟨ho1, xq, rfl, hx⟩ := hcut
                obtain ⟨ov, what, cell, aa, bb, out, value⟩ := W
                have HO1 := hide ho1
                have HX := hide hx
                clear ho1 hx
                obtain ⟨hk1, hk2, hk3⟩ : ov = (ox.out != 0) ∧ out = ox.out ∧ value = ox.value := HLK.out
                have HC2 := hide ((cis_only0 HCIS.out HO1.out))
                go_upto_region 34 with fail
                obtain ⟨we, hwe⟩ : ∃ we, wc = we := ⟨_, rfl⟩
                rw [hwe] at HX HC2 HO1 ⊢
                clear hwe
                go_cut [258] (fun v258 wx => v258 = .bool false ∧ Only S0 we wx)
                case first =>
                  as_aux_lemma =>
                    have op1 : we.cell? ⟨X.go, t, none⟩ = some (.pointer (some ⟨bx, 0, none⟩)) := (HO1.out.cell (p := ⟨X.go, t, none⟩) HSX.out.ops.lt (fun h => h)).trans d0
                    have x0 := HX.out.cellv (i := 0) rfl
                    have x5 := HX.out.cellv (i := 5) rfl
                    have x6 := HX.out.cellv (i := 6) rfl
                    have HQ1 := hide fun (m : Nat) => kover_any (cis_only0 HC2.out ((Only.refl S0 we).drewN m))
                    have HQ2 := hide fun (m : Nat) => koutcome_any (cis_only0 HC2.out ((Only.refl S0 we).drewN m))
                    have HQ3 := hide fun (m : Nat) => kvalue_any (cis_only0 HC2.out ((Only.refl S0 we).drewN m))
                    rw [← hk1] at HQ1
                    rw [← hk2] at HQ2
                    rw [← hk3] at HQ3
                    clear op0 d0 hk1 hk2 hk3
                    go_wp2_with fail
                    go_quiet ((first | (go_at_call 16; exact quiet_eq (HQ1.out _)) | (go_at_call 22; exact quiet_eq (HQ2.out _)) | (go_at_call 23; exact quiet_eq (HQ3.out _))))
                    go_wp2_with fail
                    go_meet
                    exact ⟨by simp, (Only.refl S0 we).drewN nq⟩
                case rest =>
                obtain ⟨rfl, ho2⟩ := hcut
                have HO2 := hide (HO1.out.trans ho2)
                clear ho2
                go_wp2_with fail
                go_meet
                exact HO2.out
          case rest =>
          have HSY := hide (HSX.out.only0 hcut)
          clear HSX hcut op0
          go_upto_region 36 with fail
          obtain ⟨we, hwe⟩ : ∃ we, wc = we := ⟨_, rfl⟩
          rw [hwe] at HSY ⊢
          clear hwe
          go_cut [266] (fun v266 wx => v266 = .bool false ∧ Only S0 we wx)
          case first =>
            as_aux_lemma =>
              have hbig' : L'.length ≤ 1000000 := by have := HLX.out; omega
              have HBG := hide hbig'
              have HM := hide (show MemAt we.drew X.bm X.bc L' tc' from HSY.out.env.mem.drew)
              have HRD := hide HSY.out.ref.rd
              have cr0 := HSY.out.ref.mem.cellv (i := 0) rfl
              have hnm := HSY.out.ref.mem.lt
              have HD := hide (Only.refl S0 we).drew
              clear hbig'
              go_region_held3 (fun w' => w'.cell? ⟨X.rm, 0, none⟩ = some (.slice (some ⟨X.rc, 0, none⟩) L'.length L'.length)) (first | exact cr0 | exact d0 | exact f0) (first | (go_at_call 14; refine (All_any HM.out).mono ?_; rintro e w4 ⟨v, rfl, hv, o4⟩; have HO4 := hide (HD.out.trans o4); have d0 := (HO4.out.cell (p := ⟨X.rm, 0, none⟩) hnm (fun h => h)).trans cr0; have HV := hide hv; clear hv o4) | (go_at_call 13; refine (Same_yes (A := L') HBG.out HV.out.rd (HRD.out.only0 HO4.out)).mono ?_; rintro e w5 ⟨rfl, o5⟩; have HO5 := hide (HO4.out.trans o5); have f0 := (HO5.out.cell (p := ⟨X.rm, 0, none⟩) hnm (fun h => h)).trans cr0; clear o5))
              all_goals (go_wp2_with fail; go_meet)
              all_goals exact ⟨rfl, HO5.out⟩
          case rest =>
          obtain ⟨rfl, ho3⟩ := hcut
          have HSZ := hide (HSY.out.only0 ho3)
          clear ho3 HSY
          go_wp2_with fail
          go_roundg (300 - (i + 1))
          case rel => exact ⟨i + 1, _, _, _, _, _, _, _, _, _, rfl, by omega, by omega, by go_num, HSZ.out, HLX.out⟩
          case measure => omega
      · go_wp2_with fail
        go_ret
        exact ⟨rfl, S0.below HST.out.only⟩
    · go_wp2_with fail
      go_ret
      exact ⟨rfl, S0.below HST.out.only⟩
end Go.Proofs.YtdoaipjdldknaaaGreat
