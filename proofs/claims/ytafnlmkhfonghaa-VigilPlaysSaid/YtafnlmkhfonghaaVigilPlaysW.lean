/-
  VigilPlays, the walk.
-/
import Derived.Test.YtafnlmkhfonghaaVigilPlaysP
import Derived.Test.YtafnlmkhfonghaaLastG2
import Derived.Deep.RegionHeld3
import Derived.Deep.DeepCutAuto
import Derived.StillTailTactics
namespace Go.Proofs.Ytafnlmkhfonghaa
open Go.RowKit
set_option linter.unusedVariables false

theorem info_vop : (Try.prog.info? 47).map (fun i => (i.zero, i.size, i.bytes)) = some (some (.pointer none), 1, 8) := by kernel_rfl
theorem vmake_refs (w : World) : (Instr.makeSlice 86 (.int .i64 5) (.int .i64 5)).run Try.prog w = .ok (.slice (some ⟨w.heap.size, 0, none⟩) 5 5) (w.alloc (.cells (refs4 5 fun _ => ⟨0, 0, 0, .slice none 0 0⟩) 91)) := by kernel_rfl
theorem vmake_ops (w : World) : (Instr.makeSlice 81 (.int .i64 5) (.int .i64 5)).run Try.prog w = .ok (.slice (some ⟨w.heap.size, 0, none⟩) 5 5) (w.alloc (.cells (optrs 5 (fun _ => false) fun _ => 0) 47)) := by kernel_rfl

theorem VSt.seen {F : VFix} {w0 w : World} {act : Nat → Bool} {bo : Nat → Nat} {o : Nat → Vop} {r : Nat → Ref4} {l : Nat → List Int} {L : List Int} {tc tcr : Int} {i t : Nat} (h : VSt F w0 w act bo o r l L tc tcr i) (ht : t < 5) (ha : act t = true) :
    ∃ (bx : Nat) (ox : Vop) (kx X Y : Int) (lx : List Int) (ax : Option Addr) (cx : Nat), w.cell? ⟨F.go, t, none⟩ = some (.pointer (some ⟨bx, 0, none⟩)) ∧ w.cell? ⟨F.gr, t * 4, none⟩ = some (.int .i64 kx) ∧ w.cell? ⟨F.gr, t * 4 + 1, none⟩ = some (.int .i64 X) ∧ w.cell? ⟨F.gr, t * 4 + 2, none⟩ = some (.int .i64 Y) ∧
      w.cell? ⟨F.gr, t * 4 + 3, none⟩ = some (.slice ax lx.length cx) ∧ VopIs w bx F.bm ox ∧ VThr F.b F.n ox kx X Y lx ∧ LogIs w F.B0 (.slice ax lx.length cx) lx ∧ lx.length ≤ i ∧ bo t = bx ∧ o t = ox ∧ r t = ⟨kx, X, Y, .slice ax lx.length cx⟩ ∧ l t = lx := by
  obtain ⟨hl, hn⟩ := h.logs t ht
  obtain ⟨a, ca, hv, -⟩ := hl.at_.form
  have hb := h.thr t ht ha
  have c0 := h.ops.cellv (optrs_get act bo ht)
  rw [show optr act bo t = .pointer (some ⟨bo t, 0, none⟩) from by unfold optr; rw [ha]; rfl] at c0
  have c1 := h.refs.cellv (refs4_get (j := 0) r ht (by decide))
  have c2 := h.refs.cellv (refs4_get (j := 1) r ht (by decide))
  have c3 := h.refs.cellv (refs4_get (j := 2) r ht (by decide))
  have c4 := h.refs.cellv (refs4_get (j := 3) r ht (by decide))
  have hr : r t = ⟨(r t).kind, (r t).X, (r t).Y, .slice a (l t).length ca⟩ := by rw [← hv]
  rw [hv] at hl
  rw [show rfld4 (r t) 3 = .slice a (l t).length ca from by simp [rfld4, hv]] at c4
  exact ⟨_, _, _, _, _, _, _, _, c0, c1, c2, c3, c4, h.fam.at_ t ht ha, hb, hl, hn, rfl, rfl, hr, rfl⟩
theorem VopIs.over {w : World} {bo bm : Nat} {o : Vop} (h : VopIs w bo bm o) : Calls Try.prog 30 #[.pointer (some ⟨bo, 0, none⟩)] w fun e w' => e = .returned (.bool (o.out != 0)) ∧ w = w' := by
  by_cases h0 : o.out = 0
  · rw [show (o.out != 0) = false from by simp [h0]]; exact h.over0 h0
  · rw [show (o.out != 0) = true from by simp [h0]]; exact h.over1 h0
theorem gw_eta (W : GW) : W = ⟨W.over, W.what, W.cell, W.a, W.b, W.out, W.value⟩ := rfl

def findReg (n : Nat) : Code → Option Code
  | .region m ops b => if m = n then some (.region m ops b) else none
  | .seq a b => match findReg n a with
    | some c => some c
    | none => findReg n b
  | .loop c => findReg n c
  | .block _ c => findReg n c
  | .scope c => findReg n c
  | .cond _ a b => match findReg n a with
    | some c => some c
    | none => findReg n b
  | _ => none
noncomputable def reg32 : Code := (Try.f11.body.bind (findReg 32)).getD .skip
theorem k32 {X : VFix} {w w' : World} {t : Nat} {kx yx Vx : Int} {lv : Value} (h : (w.cell? ⟨X.gat, 0, none⟩ = some (.int .i64 X.b) ∧ w.cell? ⟨X.gat, 1, none⟩ = some (.int .i64 X.n)) ∧ X.gat < w.heap.size)
    (hr : (w.cell? ⟨X.gr, t * 4, none⟩ = some (.int .i64 kx) ∧ w.cell? ⟨X.gr, t * 4 + 1, none⟩ = some (.int .i64 yx) ∧ w.cell? ⟨X.gr, t * 4 + 2, none⟩ = some (.int .i64 Vx) ∧ w.cell? ⟨X.gr, t * 4 + 3, none⟩ = some lv) ∧ X.gr < w.heap.size) (ho : Only S0 w w') :
    (w'.cell? ⟨X.gat, 0, none⟩ = some (.int .i64 X.b) ∧ w'.cell? ⟨X.gat, 1, none⟩ = some (.int .i64 X.n)) ∧ w'.cell? ⟨X.gr, t * 4, none⟩ = some (.int .i64 kx) ∧ w'.cell? ⟨X.gr, t * 4 + 1, none⟩ = some (.int .i64 yx) ∧ w'.cell? ⟨X.gr, t * 4 + 2, none⟩ = some (.int .i64 Vx) ∧ w'.cell? ⟨X.gr, t * 4 + 3, none⟩ = some lv :=
  ⟨⟨(ho.cell (p := ⟨X.gat, 0, none⟩) h.2 (fun h => h)).trans h.1.1, (ho.cell (p := ⟨X.gat, 1, none⟩) h.2 (fun h => h)).trans h.1.2⟩, (ho.cell (p := ⟨X.gr, t * 4, none⟩) hr.2 (fun h => h)).trans hr.1.1, (ho.cell (p := ⟨X.gr, t * 4 + 1, none⟩) hr.2 (fun h => h)).trans hr.1.2.1, (ho.cell (p := ⟨X.gr, t * 4 + 2, none⟩) hr.2 (fun h => h)).trans hr.1.2.2.1, (ho.cell (p := ⟨X.gr, t * 4 + 3, none⟩) hr.2 (fun h => h)).trans hr.1.2.2.2⟩
set_option maxRecDepth 1000000 in
set_option maxHeartbeats 4000000 in
theorem r32 {X : VFix} {t : Nat} {wd : World} {kx yx Vx : Int} {lx : List Int} {ax : Option Addr} {cx : Nat} {ov : Bool} {what cell aa bb out value : Int} {v0 v1 v2 v3 v4 v5 v6 v8 v9 v10 v11 v12 v13 v15 v16 v18 v19 v20 v21 v22 v23 v24 v25 v26 v27 v28 v29 v30 v31 v32 v33 v34 v35 v36 v37 v38 v39 v40 v41 v42 v43 v44 v45 v46 v47 v48 v49 v50 v51 v52 v53 v54 v55 v56 v57 v58 v59 v60 v61 v62 v63 v64 v65 v66 v67 v68 v69 v70 v71 v72 v73 v74 v75 v76 v77 v78 v79 v80 v81 v82 v83 v84 v85 v86 v87 v88 v89 v90 v91 v92 v93 v94 v95 v96 v97 v98 v99 v100 v101 v102 v103 v104 v105 v106 v107 v108 v109 v110 v111 v112 v113 v114 v115 v116 v117 v118 v119 v120 v121 v122 v123 v124 v125 v126 v127 v128 v129 v130 v131 v132 v133 v134 v135 v136 v137 v138 v139 v140 v141 v142 v143 v144 v145 v146 v147 v148 v149 v150 v151 v152 v153 v154 v155 v156 v157 v158 v159 v160 v161 v162 v163 v164 v165 v166 v167 v168 v169 v170 v171 v172 v173 v174 v175 v176 v177 v178 v179 v180 v181 v182 v183 v184 v185 v186 v187 v188 v189 v190 v191 v192 v193 v194 v195 v196 v197 v198 v199 v200 v201 v202 v203 v204 v205 v206 v207 v208 v209 : Value} (ht5 : t < 5)
   (HAT : Hid ((wd.cell? ⟨X.gat, 0, none⟩ = some (.int .i64 X.b) ∧ wd.cell? ⟨X.gat, 1, none⟩ = some (.int .i64 X.n)) ∧ X.gat < wd.heap.size))
   (HRF : Hid ((wd.cell? ⟨X.gr, t * 4, none⟩ = some (.int .i64 kx) ∧ wd.cell? ⟨X.gr, t * 4 + 1, none⟩ = some (.int .i64 yx) ∧ wd.cell? ⟨X.gr, t * 4 + 2, none⟩ = some (.int .i64 Vx) ∧ wd.cell? ⟨X.gr, t * 4 + 3, none⟩ = some (.slice ax lx.length cx)) ∧ X.gr < wd.heap.size))
   (HNX : Hid (∀ wx, Only S0 wd wx → Calls Try.prog 52 #[.agg #[.int .i64 X.b, .int .i64 X.n], .agg #[.int .i64 kx, .int .i64 yx, .int .i64 Vx, .slice ax lx.length cx]] wx fun e w' => e = .returned (gwV ⟨ov, what, cell, aa, bb, out, value⟩) ∧ Only S0 wx w'))
   {Q : Exit → Act → World → Prop} (hP : ∀ (c : _) (a : Act) (d : Option Tmp) (v : Value) (w : World), Q (.panic c) (a.put d v) w → Q (.panic c) a w) (hQ : ∀ (u178 u179 u180 u181 u182 u183 : Value) (xq : Nat) (w' : World), Only S0 wd w' → Blk w' xq 78 #[.bool ov, .int .i64 what, .int .i64 cell, .int .u64 aa, .int .u64 bb, .int .i64 out, .int .u64 value, .int .u64 0] → Q .normal ⟨#[v0, v1, v2, v3, v4, v5, v6, .pointer (some ⟨X.gat, 0, none⟩), v8, v9, v10, v11, v12, v13, .slice (some ⟨X.gr, 0, none⟩) 5 5, v15, v16, .int .i64 t, v18, v19, v20, v21, .pointer (some ⟨xq, 0, none⟩), v23, v24, v25, v26, v27, v28, v29, v30, v31, v32, v33, v34, v35, v36, v37, v38, v39, v40, v41, v42, v43, v44, v45, v46, v47, v48, v49, v50, v51, v52, v53, v54, v55, v56, v57, v58, v59, v60, v61, v62, v63, v64, v65, v66, v67, v68, v69, v70, v71, v72, v73, v74, v75, v76, v77, v78, v79, v80, v81, v82, v83, v84, v85, v86, v87, v88, v89, v90, v91, v92, v93, v94, v95, v96, v97, v98, v99, v100, v101, v102, v103, v104, v105, v106, v107, v108, v109, v110, v111, v112, v113, v114, v115, v116, v117, v118, v119, v120, v121, v122, v123, v124, v125, v126, v127, v128, v129, v130, v131, v132, v133, v134, v135, v136, v137, v138, v139, v140, v141, v142, v143, v144, v145, v146, v147, v148, v149, v150, v151, v152, v153, v154, v155, v156, v157, v158, v159, v160, v161, v162, v163, v164, v165, v166, v167, v168, v169, v170, v171, v172, v173, v174, v175, v176, v177, u178, u179, u180, u181, u182, u183, v184, v185, v186, v187, v188, v189, v190, v191, v192, v193, v194, v195, v196, v197, v198, v199, v200, v201, v202, v203, v204, v205, v206, v207, v208, v209], []⟩ w') :
   Code.wp Try.prog reg32 Q ⟨#[v0, v1, v2, v3, v4, v5, v6, .pointer (some ⟨X.gat, 0, none⟩), v8, v9, v10, v11, v12, v13, .slice (some ⟨X.gr, 0, none⟩) 5 5, v15, v16, .int .i64 t, v18, v19, v20, v21, v22, v23, v24, v25, v26, v27, v28, v29, v30, v31, v32, v33, v34, v35, v36, v37, v38, v39, v40, v41, v42, v43, v44, v45, v46, v47, v48, v49, v50, v51, v52, v53, v54, v55, v56, v57, v58, v59, v60, v61, v62, v63, v64, v65, v66, v67, v68, v69, v70, v71, v72, v73, v74, v75, v76, v77, v78, v79, v80, v81, v82, v83, v84, v85, v86, v87, v88, v89, v90, v91, v92, v93, v94, v95, v96, v97, v98, v99, v100, v101, v102, v103, v104, v105, v106, v107, v108, v109, v110, v111, v112, v113, v114, v115, v116, v117, v118, v119, v120, v121, v122, v123, v124, v125, v126, v127, v128, v129, v130, v131, v132, v133, v134, v135, v136, v137, v138, v139, v140, v141, v142, v143, v144, v145, v146, v147, v148, v149, v150, v151, v152, v153, v154, v155, v156, v157, v158, v159, v160, v161, v162, v163, v164, v165, v166, v167, v168, v169, v170, v171, v172, v173, v174, v175, v176, v177, v178, v179, v180, v181, v182, v183, v184, v185, v186, v187, v188, v189, v190, v191, v192, v193, v194, v195, v196, v197, v198, v199, v200, v201, v202, v203, v204, v205, v206, v207, v208, v209], []⟩ wd := by
  conv => arg 2; whnf
  have ht5a : (t : Int) < 5 := by omega
  have ht5b : (0 : Int) ≤ t := by omega
  have z := k32 HAT.out HRF.out (Only.refl S0 wd).drew
  have z2 := k32 HAT.out HRF.out ((Only.refl S0 wd).alloc (.cells #[.bool false, .int .i64 0, .int .i64 0, .int .u64 0, .int .u64 0, .int .i64 0, .int .u64 0, .int .u64 0] 78)).drew
  have HOA := hide (((Only.refl S0 wd).alloc (.cells #[.bool false, .int .i64 0, .int .i64 0, .int .u64 0, .int .u64 0, .int .i64 0, .int .u64 0, .int .u64 0] 78)).drew)
  have HBA := hide (show Blk ((wd.alloc (.cells #[.bool false, .int .i64 0, .int .i64 0, .int .u64 0, .int .u64 0, .int .i64 0, .int .u64 0, .int .u64 0] 78)).drew) wd.heap.size 78 #[.bool false, .int .i64 0, .int .i64 0, .int .u64 0, .int .u64 0, .int .i64 0, .int .u64 0, .int .u64 0] from (Blk.new wd _ _).drew)
  have kk : (fun w' : World => (w'.cell? ⟨X.gat, 0, none⟩ = some (.int .i64 X.b) ∧ w'.cell? ⟨X.gat, 1, none⟩ = some (.int .i64 X.n)) ∧ w'.cell? ⟨X.gr, t * 4, none⟩ = some (.int .i64 kx) ∧ w'.cell? ⟨X.gr, t * 4 + 1, none⟩ = some (.int .i64 yx) ∧ w'.cell? ⟨X.gr, t * 4 + 2, none⟩ = some (.int .i64 Vx) ∧ w'.cell? ⟨X.gr, t * 4 + 3, none⟩ = some (.slice ax lx.length cx)) wd.drew := z
  refine wp_region_last 7 (fun w' : World => (w'.cell? ⟨X.gat, 0, none⟩ = some (.int .i64 X.b) ∧ w'.cell? ⟨X.gat, 1, none⟩ = some (.int .i64 X.n)) ∧ w'.cell? ⟨X.gr, t * 4, none⟩ = some (.int .i64 kx) ∧ w'.cell? ⟨X.gr, t * 4 + 1, none⟩ = some (.int .i64 yx) ∧ w'.cell? ⟨X.gr, t * 4 + 2, none⟩ = some (.int .i64 Vx) ∧ w'.cell? ⟨X.gr, t * 4 + 3, none⟩ = some (.slice ax lx.length cx)) (by kernel_rfl) ?_
  refine wpLast_take (i := 0) (oi := ⟨some 178, _, _, _, _, _⟩) (v := ?vv0) rfl (by kernel_rfl) (by kernel_rfl) (by kernel_rfl) (by kernel_rfl) (by decide) (fun c a w h => hP c a _ _ w h) (Or.inl ⟨by rfl, ?hy0⟩) (by assumption) ?rest0
  case hy0 => intro wq hSw; (try dsimp only at hSw); go_simp; (try with_reducible rfl)
  (try simp only [Act.put, List.setIfInBounds_toArray, List.set_cons_zero, List.set_cons_succ])
  refine wpLast_take (i := 1) (oi := ⟨some 179, _, _, _, _, _⟩) (v := ?vv1) rfl (by kernel_rfl) (by kernel_rfl) (by kernel_rfl) (by kernel_rfl) (by decide) (fun c a w h => hP c a _ _ w h) (Or.inl ⟨by rfl, ?hy1⟩) (by assumption) ?rest1
  case hy1 => intro wq hSw; (try dsimp only at hSw); go_simp; (try with_reducible rfl)
  (try simp only [Act.put, List.setIfInBounds_toArray, List.set_cons_zero, List.set_cons_succ])
  refine wpLast_take (i := 2) (oi := ⟨some 180, _, _, _, _, _⟩) (v := ?vv2) rfl (by kernel_rfl) (by kernel_rfl) (by kernel_rfl) (by kernel_rfl) (by decide) (fun c a w h => hP c a _ _ w h) (Or.inl ⟨by rfl, ?hy2⟩) (by assumption) ?rest2
  case hy2 => intro wq hSw; (try dsimp only at hSw); go_simp; (try with_reducible rfl)
  (try simp only [Act.put, List.setIfInBounds_toArray, List.set_cons_zero, List.set_cons_succ])
  refine wpLast_take (i := 3) (oi := ⟨some 181, _, _, _, _, _⟩) (v := ?vv3) rfl (by kernel_rfl) (by kernel_rfl) (by kernel_rfl) (by kernel_rfl) (by decide) (fun c a w h => hP c a _ _ w h) (Or.inl ⟨by rfl, ?hy3⟩) (by assumption) ?rest3
  case hy3 => intro wq hSw; (try dsimp only at hSw); go_simp; (try with_reducible rfl)
  (try simp only [Act.put, List.setIfInBounds_toArray, List.set_cons_zero, List.set_cons_succ])
  refine wpLast_take (i := 4) (oi := ⟨some 182, _, _, _, _, _⟩) (v := ?vv4) rfl (by kernel_rfl) (by kernel_rfl) (by kernel_rfl) (by kernel_rfl) (by decide) (fun c a w h => hP c a _ _ w h) (Or.inl ⟨by rfl, ?hy4⟩) (by assumption) ?rest4
  case hy4 => intro wq hSw; (try dsimp only at hSw); go_simp; (try with_reducible rfl)
  (try simp only [Act.put, List.setIfInBounds_toArray, List.set_cons_zero, List.set_cons_succ])
  refine wpLast_two (i := 5) (j := 6) (o := ⟨some 183, _, _, _, _, _⟩) (o2 := ⟨some 22, _, _, _, _, _⟩) (by kernel_rfl) rfl rfl (fun K hK => ?wayA) (fun K hK => ?wayB)
  case wayA =>
    go_simp
    refine (HNX.out _ (Only.refl S0 wd).drew).mono ?_
    rintro e w2 ⟨rfl, o1⟩
    unfold gwV
    have O1 := hide ((Only.refl S0 wd).drew.trans o1)
    clear o1
    have kkA : (fun w' : World => (w'.cell? ⟨X.gat, 0, none⟩ = some (.int .i64 X.b) ∧ w'.cell? ⟨X.gat, 1, none⟩ = some (.int .i64 X.n)) ∧ w'.cell? ⟨X.gr, t * 4, none⟩ = some (.int .i64 kx) ∧ w'.cell? ⟨X.gr, t * 4 + 1, none⟩ = some (.int .i64 yx) ∧ w'.cell? ⟨X.gr, t * 4 + 2, none⟩ = some (.int .i64 Vx) ∧ w'.cell? ⟨X.gr, t * 4 + 3, none⟩ = some (.slice ax lx.length cx)) w2 := k32 HAT.out HRF.out O1.out
    refine hK.out _ _ (fun _ => kkA) ?_
    clear hK K kk
    refine wpLast_one (i := 6) (o := ⟨some 22, _, _, _, _, _⟩) (by kernel_rfl) rfl (fun K hK => ?_)
    go_simp
    refine hK.out _ _ (fun _ => (k32 HAT.out HRF.out (O1.out.alloc _))) ?_
    clear hK K
    (try simp only [Act.put, List.setIfInBounds_toArray, List.set_cons_zero, List.set_cons_succ])
    refine wpLast_one (i := 7) (o := ⟨none, _, _, _, _, _⟩) (by kernel_rfl) rfl (fun K hK => ?_)
    go_simp
    refine hK.out _ _ (fun h => absurd rfl h) ?_
    clear hK K
    refine wpLast_done (by kernel_rfl) ?_ _
    refine hQ _ _ _ _ _ _ w2.heap.size _ ?_ ?_
    · with_reducible exact O1.out.alloc _
    · with_reducible exact Blk.new w2 _ _
  case wayB =>
    go_simp
    refine hK.out _ _ (fun _ => z2) ?_
    clear hK K kk
    (try simp only [Act.put, List.setIfInBounds_toArray, List.set_cons_zero, List.set_cons_succ])
    refine wpLast_one (i := 5) (o := ⟨some 183, _, _, _, _, _⟩) (by kernel_rfl) rfl (fun K hK => ?_)
    go_simp
    refine (HNX.out _ HOA.out).mono ?_
    rintro e w2 ⟨rfl, o1⟩
    unfold gwV
    have O1 := hide (HOA.out.trans o1)
    have R1 := hide (HBA.out.only o1 (fun h => h))
    have z0 := R1.out.cellv (i := 0) rfl
    have x0 := R1.out.frozen 0
    have z1 := R1.out.cellv (i := 1) rfl
    have x1 := R1.out.frozen 1
    have z2 := R1.out.cellv (i := 2) rfl
    have x2 := R1.out.frozen 2
    have z3 := R1.out.cellv (i := 3) rfl
    have x3 := R1.out.frozen 3
    have z4 := R1.out.cellv (i := 4) rfl
    have x4 := R1.out.frozen 4
    have z5 := R1.out.cellv (i := 5) rfl
    have x5 := R1.out.frozen 5
    have z6 := R1.out.cellv (i := 6) rfl
    have x6 := R1.out.frozen 6
    have z7 := R1.out.cellv (i := 7) rfl
    have x7 := R1.out.frozen 7
    clear o1
    refine hK.out _ _ (fun _ => (k32 HAT.out HRF.out O1.out)) ?_
    clear hK K
    refine wpLast_one (i := 7) (o := ⟨none, _, _, _, _, _⟩) (by kernel_rfl) rfl (fun K hK => ?_)
    go_simp
    refine hK.out _ _ (fun h => absurd rfl h) ?_
    clear hK K
    refine wpLast_done (by kernel_rfl) ?_ _
    refine hQ _ _ _ _ _ _ wd.heap.size _ ?_ ?_
    · exact ((((((((O1.out.setNew 0 (Nat.le_refl _) (.bool ov)).setNew 1 (Nat.le_refl _) (.int .i64 what)).setNew 2 (Nat.le_refl _) (.int .i64 cell)).setNew 3 (Nat.le_refl _) (.int .u64 aa)).setNew 4 (Nat.le_refl _) (.int .u64 bb)).setNew 5 (Nat.le_refl _) (.int .i64 out)).setNew 6 (Nat.le_refl _) (.int .u64 value)).setNew 7 (Nat.le_refl _) (.int .u64 0))
    · have hbw := R1.out
      exact by simpa using ((((((((hbw.set_ 0 (.bool ov)).set_ 1 (.int .i64 what)).set_ 2 (.int .i64 cell)).set_ 3 (.int .u64 aa)).set_ 4 (.int .u64 bb)).set_ 5 (.int .i64 out)).set_ 6 (.int .u64 value)).set_ 7 (.int .u64 0))
set_option maxRecDepth 100000 in
set_option maxHeartbeats 200000000 in
theorem vigilPlays_walk (a0 a1 : Int) (a2 : Option Addr) (len cap : Nat) (xs : Nat → Nat → Int) (w : World) (w0 : (Lit.int .u8 a0).wf = true) (w1 : (Lit.int .u8 a1).wf = true) (w2 : InRows [.u8, .u8, .i64, .i64] w a2 len xs) :
    Calls Try.prog 11 #[.int .u8 a0, .int .u8 a1, .slice a2 len cap] w fun e w' => e = .returned (.bool true) ∧ Below w.heap.size w w' := by
  have hbig := w2.big
  have k1 := (bounds_u8 w0).1
  have k2 := (bounds_u8 w0).2
  have k3 := (bounds_u8 w1).1
  have k4 := (bounds_u8 w1).2
  have HC := hide w2.cells
  have HK := hide fun (i : Nat) (hi : i < len) => bounds_u8 (w2.wf i 0 hi (by decide))
  have HT := hide fun (i : Nat) (hi : i < len) => bounds_u8 (w2.wf i 1 hi (by decide))
  clear w0 w1 w2
  obtain ⟨n, hn⟩ : ∃ n : Nat, 1 + a0 % 5 = (n : Int) := ⟨(1 + a0 % 5).toNat, by omega⟩
  have n1 : 1 ≤ n := by omega
  have n5 : n ≤ 5 := by omega
  obtain ⟨b, hb⟩ : ∃ b : Nat, a1 % 5 = (b : Int) := ⟨(a1 % 5).toNat, by omega⟩
  have b5 : b ≤ 4 := by omega
  obtain ⟨sz, hz⟩ : ∃ sz : Nat, n * n = sz := ⟨_, rfl⟩
  have hzz : (n : Int) * (n : Int) = (sz : Int) := by rw [← hz]; exact (Int.natCast_mul n n).symm
  have hsz25 : sz ≤ 25 := by rw [← hz]; exact Nat.le_trans (Nat.mul_le_mul n5 n5) (by decide)
  have hm0 : 0 ≤ (n : Int) * (n : Int) := by omega
  have hm25 : (n : Int) * (n : Int) ≤ 25 := by omega
  have HZ := hide hz
  have HZZ := hide hzz
  clear hz hzz
  go_enter Try.func11, Try.ntmps11
  go_wp2_with fail
  refine (alive19_any w).mono ?_
  rintro e wa ⟨rfl, p1⟩
  have P1 := hide p1
  clear p1
  go_wp2_with fail
  have HN := hide hn
  have HB := hide hb
  clear hn hb k1 k2 k3 k4
  have oat := (Only.refl S0 wa).alloc (.cells #[.int .i64 b, .int .i64 n] 85)
  have HAT := hide (Blk.new wa 85 #[.int .i64 b, .int .i64 n])
  have P2 := hide (P1.out.trans oat)
  clear oat
  refine (New_any _).mono ?_
  rintro e w1 ⟨bm, bc, rfl, q1, p1, b1, b2⟩
  rw [show countOf ((b : Int) + (n : Int) * (n : Int) + 1) = b + sz + 1 by rw [HZZ.out]; unfold countOf; omega] at q1
  have HQ := hide q1
  have HAT1 := hide (HAT.out.only p1 (fun h => h))
  have P3 := hide (P2.out.trans p1)
  have c2 : w.heap.size ≤ bm := Nat.le_trans P2.out.size b1
  have c3 : w.heap.size ≤ bc := Nat.le_trans P2.out.size b2
  have z0 := HAT1.out.cellv (i := 0) rfl
  have z1 := HAT1.out.cellv (i := 1) rfl
  clear q1 p1 HAT P2
  go_wp2_with fail
  refine (VMake_good b n sz HQ.out (few_of _ (by omega)) n1 (by omega) HZ.out (by simp)).mono ?_
  rintro e w2 ⟨bb, rfl, g2, q2, p2, b3⟩
  rw [zeroL_rep] at q2
  have hE : VE w2 bb bm bc b n (0 + (sz : Nat)) (List.replicate (b + sz + 1) 0) := ⟨g2, q2, few_of _ (by omega), by omega, by omega, by omega, by omega, by rw [HZZ.out]; simp; omega⟩
  have HE := hide hE
  have HAT2 := hide (HAT1.out.only p2 (fun h => by unfold S2 at h; have := HAT1.out.ne_ HQ.out.mem (by decide); have := HAT1.out.ne_ HQ.out.cells (by decide); omega))
  have P4 := hide (S0.then2 P3.out p2 c2 c3)
  have c4 : w.heap.size ≤ bb := Nat.le_trans P3.out.size b3
  clear g2 q2 p2 HQ b3 z0 z1 HAT1 P3 hE
  have z0 := HAT2.out.cellv (i := 0) rfl
  have z1 := HAT2.out.cellv (i := 1) rfl
  go_wp2_with fail
  refine (RefNew_any _).mono ?_
  rintro e w3 ⟨rm, rc, rfl, q3, p3, b4, b5'⟩
  rw [show countOf ((b : Int) + (n : Int) * (n : Int) + 1) = b + sz + 1 by rw [HZZ.out]; unfold countOf; omega] at q3
  have HR := hide q3
  have hlt1 := Blk.lt HE.out.mem.mem
  have hlt2 := Blk.lt HE.out.mem.cells
  have hlt3 := Blk.lt HE.out.vig
  have hlt4 := Blk.lt HAT2.out
  have HE3 := hide (HE.out.only0 p3)
  have HAT3 := hide (HAT2.out.only p3 (fun h => h))
  have P5 := hide (P4.out.trans p3)
  have c5 : w.heap.size ≤ rm := Nat.le_trans P4.out.size b4
  have c6 : w.heap.size ≤ rc := Nat.le_trans P4.out.size b5'
  have hs3 := p3.size
  have hne : bc ≠ rc := by omega
  have hlt5 := Blk.lt HR.out.mem
  have hlt6 := Blk.lt HR.out.cells
  clear q3 p3 z0 z1 HE HAT2 P4
  have hm1 := vmake_ops
  have hm2 := vmake_refs
  go_wp2_with fail
  clear hm1 hm2
  have o1 := (Only.refl S0 w3).alloc (.cells (optrs 5 (fun _ => false) fun _ => 0) 47)
  have o2 := o1.alloc (.cells (refs4 5 fun _ => ⟨0, 0, 0, .slice none 0 0⟩) 91)
  have HST := hide (show VSt ⟨w3.heap.size + 2, wa.heap.size, bb, bm, bc, rm, rc, w3.heap.size, w3.heap.size + 1, b, n⟩ w ((w3.alloc (.cells (optrs 5 (fun _ => false) fun _ => 0) 47)).alloc (.cells (refs4 5 fun _ => ⟨0, 0, 0, .slice none 0 0⟩) 91))
      (fun _ => false) (fun _ => 0) (fun _ => ⟨0, 0, 0, 0⟩) (fun _ => ⟨0, 0, 0, .slice none 0 0⟩) (fun _ => []) (List.replicate (b + sz + 1) 0) (0 + (sz : Nat)) 0 0 from
    ⟨OFam.empty _ _ _ _ _ _, (Blk.new w3 _ _).alloc _, by simpa using Blk.new (w3.alloc (.cells (optrs 5 (fun _ => false) fun _ => 0) 47)) 91 (refs4 5 fun _ => ⟨0, 0, 0, .slice none 0 0⟩),
      HE3.out.only0 o2, HR.out.only0 o2, HAT3.out.only o2 (fun h => h), fun t ht => ⟨⟨LogAt.nil _ _, fun _ => rfl⟩, Nat.zero_le _⟩, fun t ht h => absurd h (by decide), P5.out.trans o2, by simp, by omega, by omega⟩)
  have HOK := hide (show VFix.Ok ⟨w3.heap.size + 2, wa.heap.size, bb, bm, bc, rm, rc, w3.heap.size, w3.heap.size + 1, b, n⟩ w.heap.size from
    ⟨by show bm < w3.heap.size + 2; omega, by show bc < w3.heap.size + 2; omega, by show rm < w3.heap.size + 2; omega, by show rc < w3.heap.size + 2; omega, by show w3.heap.size < w3.heap.size + 2; omega, by show w3.heap.size + 1 < w3.heap.size + 2; omega, by show bb < w3.heap.size + 2; omega, by show wa.heap.size < w3.heap.size + 2; omega, hne, c2, c3, c5, c6, P5.out.size, by have := P5.out.size; show w.heap.size ≤ w3.heap.size + 1; omega, by have := P5.out.size; show w.heap.size ≤ w3.heap.size + 2; omega, n1, n5, by show b ≤ 5; omega⟩)
  clear o1 o2 HE3 HR HAT3 P5
  have HST' := HST
  clear HST
  generalize (w3.alloc (.cells (optrs 5 (fun _ => false) fun _ => 0) 47)).alloc (.cells (refs4 5 fun _ => ⟨0, 0, 0, .slice none 0 0⟩) 91) = wS at HST' ⊢
  generalize w3.heap.size + 2 = B0 at HST' HOK
  generalize hgr : w3.heap.size + 1 = gr at HST' HOK ⊢
  generalize hgo : w3.heap.size = go at HST' HOK ⊢
  generalize hga : wa.heap.size = gat at HST' HOK ⊢
  obtain ⟨F, rfl, rfl, rfl, rfl, rfl, rfl, rfl, rfl, rfl, rfl, hok, hst⟩ : ∃ F : VFix, F.gat = gat ∧ F.bb = bb ∧ F.bm = bm ∧ F.bc = bc ∧ F.rm = rm ∧ F.rc = rc ∧ F.go = go ∧ F.gr = gr ∧ F.b = b ∧ F.n = n ∧ F.Ok w.heap.size ∧
      VSt F w wS (fun _ => false) (fun _ => 0) (fun _ => ⟨0, 0, 0, 0⟩) (fun _ => ⟨0, 0, 0, .slice none 0 0⟩) (fun _ => []) (List.replicate (b + sz + 1) 0) (0 + (sz : Nat)) 0 0 :=
    ⟨⟨B0, gat, bb, bm, bc, rm, rc, go, gr, b, n⟩, rfl, rfl, rfl, rfl, rfl, rfl, rfl, rfl, rfl, rfl, HOK.out, HST'.out⟩
  have HF := hide hok
  have HST := hide hst
  clear hok hst HST' HOK hgr hgo hga hs3 hne hlt1 hlt2 hlt3 hlt4 hlt5 hlt6 b4 b5' c2 c3 c4 c5 c6 b1 b2 hm0 hm25
  go_loopg [15, 16, 17, 18, 19, 20, 21, 22] 400 (fun q iv v16 v17 v18 v19 v20 v21 v22 wr => ∃ (i : Nat) (act : Nat → Bool) (bo : Nat → Nat) (o : Nat → Vop) (r : Nat → Ref4) (l : Nat → List Int) (L : List Int) (tc tcr : Int), q = 400 - i ∧ i ≤ 400 ∧ i ≤ len ∧ iv = .int .i64 i ∧ VSt F w wr act bo o r l L tc tcr i)
  case atStart => exact ⟨0, _, _, _, _, _, _, _, _, rfl, by omega, by omega, rfl, HST.out⟩
  case round =>
  as_aux_lemma =>
    clear HST
    obtain ⟨i, act, bo, o, r, l, L, tc, tcr, rfl, hi, hil, rfl, hst⟩ := hrel
    have HST := hide hst
    clear hst
    by_cases hlt : i < len
    · by_cases hlt4 : i < 400
      · obtain ⟨g, off, rfl, hg, hc⟩ := HC.out (by omega)
        have e0 : wr.cell? ⟨g, off + i * 4, none⟩ = _ := (HST.out.only.cell (p := ⟨g, off + i * 4, none⟩) hg (fun h => h)).trans (hc i 0 hlt (by decide))
        have e1 : wr.cell? ⟨g, off + i * 4 + 1, none⟩ = _ := (HST.out.only.cell (p := ⟨g, off + i * 4 + 1, none⟩) hg (fun h => h)).trans (hc i 1 hlt (by decide))
        have e2 : wr.cell? ⟨g, off + i * 4 + 2, none⟩ = _ := (HST.out.only.cell (p := ⟨g, off + i * 4 + 2, none⟩) hg (fun h => h)).trans (hc i 2 hlt (by decide))
        have e3 : wr.cell? ⟨g, off + i * 4 + 3, none⟩ = _ := (HST.out.only.cell (p := ⟨g, off + i * 4 + 3, none⟩) hg (fun h => h)).trans (hc i 3 hlt (by decide))
        obtain ⟨u1, u2⟩ := HK.out i hlt
        obtain ⟨u3, u4⟩ := HT.out i hlt
        clear hc
        simp only [show [IntKind.u8, IntKind.u8, IntKind.i64, IntKind.i64].getD 0 .i64 = .u8 from rfl, show [IntKind.u8, IntKind.u8, IntKind.i64, IntKind.i64].getD 1 .i64 = .u8 from rfl, show [IntKind.u8, IntKind.u8, IntKind.i64, IntKind.i64].getD 2 .i64 = .i64 from rfl, show [IntKind.u8, IntKind.u8, IntKind.i64, IntKind.i64].getD 3 .i64 = .i64 from rfl] at e0 e1 e2 e3
        generalize xs i 0 = kd0 at e0 u1 u2
        generalize xs i 1 = th0 at e1 u3 u4
        generalize xs i 2 = xw at e2
        generalize xs i 3 = yw at e3
        obtain ⟨t, ht⟩ : ∃ t : Nat, th0 % 5 = (t : Int) := ⟨(th0 % 5).toNat, by omega⟩
        have ht5 : t < 5 := by omega
        obtain ⟨kd, hkd⟩ : ∃ kd : Int, kd0 % 5 = kd := ⟨_, rfl⟩
        have hkd0 : 0 ≤ kd := by omega
        have hkd5 : kd < 5 := by omega
        go_upto_region 18 with fail
        rw [ht, hkd]
        clear ht hkd u1 u2 u3 u4
        have hbx := (Only.refl S0 wr).alloc (.cells #[.int .u8 kd0, .int .u8 th0, .int .i64 xw, .int .i64 yw] 88)
        have HST1 := hide (HST.out.only0 hbx)
        have op0 := HST1.out.ops.cellv (optrs_get act bo ht5)
        have HBX := hide (Blk.new wr 88 #[.int .u8 kd0, .int .u8 th0, .int .i64 xw, .int .i64 yw])
        clear hbx e0 e1
        have hB0 := HST.out.le
        obtain ⟨bbx, hbbx⟩ : ∃ bbx, wr.heap.size = bbx := ⟨_, rfl⟩
        obtain ⟨wz, hwz⟩ : ∃ wz, wr.alloc (.cells #[.int .u8 kd0, .int .u8 th0, .int .i64 xw, .int .i64 yw] 88) = wz := ⟨_, rfl⟩
        rw [hbbx] at HBX hB0
        rw [hwz] at HST1 op0 HBX
        rw [hwz, hbbx]
        clear hwz hbbx HST e2 e3
        obtain ⟨idle, hidle⟩ : ∃ idle : Bool, idle = (!act t || ((o t).out != 0)) := ⟨_, rfl⟩
        have HID := hide hidle
        clear hidle
        go_cut [19] (fun v19 wx => v19 = .bool idle ∧ wz = wx)
        case first =>
          as_aux_lemma =>
            cases hact : act t with
            | false =>
              rw [show optr act bo t = .pointer none from by unfold optr; rw [hact]; rfl] at op0
              have hid := HID.out
              rw [hact] at hid
              have HID2 := hide (show idle = true from by rw [hid]; rfl)
              clear hact hid
              go_wp2_with fail
              go_meet
              exact ⟨by rw [HID2.out], rfl⟩
            | true =>
              rw [show optr act bo t = .pointer (some ⟨bo t, 0, none⟩) from by unfold optr; rw [hact]; rfl] at op0
              have hid := HID.out
              rw [hact] at hid
              have HID2 := hide (show idle = ((o t).out != 0) from by rw [hid]; rfl)
              have HBP := hide (HST1.out.fam.at_ t ht5 hact)
              clear hact hid
              go_wp2_with fail
              refine (VopIs.over HBP.out).mono ?_
              rintro e w1 ⟨rfl, rfl⟩
              rw [← HID2.out]
              go_wp2_with fail
              go_meet
              exact ⟨rfl, rfl⟩
        case rest =>
        obtain ⟨rfl, rfl⟩ := hcut
        obtain ⟨kk, hkk⟩ : ∃ kk : Bool, kk = (decide (1 ≤ kd) && decide (kd ≤ 3)) := ⟨_, rfl⟩
        have HKK := hide hkk
        clear hkk
        go_upto_region 19 with fail
        go_cut [102] (fun v102 wx => v102 = .bool kk ∧ wz = wx)
        case first =>
          as_aux_lemma =>
            by_cases h1 : 1 ≤ kd
            · have HK1 := hide (show kk = decide (kd ≤ 3) from by rw [HKK.out, decide_eq_true h1]; rfl)
              go_wp2_with fail
              go_meet
              exact ⟨by rw [HK1.out], rfl⟩
            · have HK1 := hide (show kk = false from by rw [HKK.out, decide_eq_false h1]; rfl)
              go_wp2_with fail
              go_meet
              exact ⟨by rw [HK1.out], rfl⟩
        case rest =>
        obtain ⟨rfl, rfl⟩ := hcut
        go_upto_if 102 with fail
        go_cut [] (fun wx => ∃ (act' : Nat → Bool) (bo' : Nat → Nat) (o' : Nat → Vop) (r' : Nat → Ref4) (l' : Nat → List Int) (L' : List Int) (tc' tcr' : Int), VSt F w wx act' bo' o' r' l' L' tc' tcr' (i + 1))
        case first =>
          as_aux_lemma =>
            cases kk with
            | true =>
              cases idle with
              | true =>
                have hkb := HKK.out
                have hk1 : 1 ≤ kd := by simp at hkb; omega
                have hk3 : kd ≤ 3 := by simp at hkb; omega
                clear hkb
                as_aux_lemma =>
                  have bx2 := HBX.out.cellv (i := 2) rfl
                  have bx3 := HBX.out.cellv (i := 3) rfl
                  go_wp2_with fail
                  refine (begun19_any kd xw yw HST1.out.env hk1 hk3).mono ?_
                  rintro e w1 ⟨bn, rfl, hx, -, o1, hbn⟩
                  have HX := hide hx
                  have HSB := hide (VSt.begin_ HF.out HST1.out ht5 o1 HX.out hbn (vthr_new F.b F.n kd xw yw hk1 hk3)).more
                  have q0 := (HST1.out.ops.only o1 (fun h => h)).cellv (optrs_get act bo ht5)
                  have q1 := (HST1.out.refs.only o1 (fun h => h)).cellv (refs4_get (j := 0) r ht5 (by decide))
                  have q2 := (HST1.out.refs.only o1 (fun h => h)).cellv (refs4_get (j := 1) r ht5 (by decide))
                  have q3 := (HST1.out.refs.only o1 (fun h => h)).cellv (refs4_get (j := 2) r ht5 (by decide))
                  have q5 := (HST1.out.refs.only o1 (fun h => h)).cellv (refs4_get (j := 3) r ht5 (by decide))
                  have y0 := (HST1.out.ops.only o1 (fun h => h)).frozen t
                  have y1 := (HST1.out.refs.only o1 (fun h => h)).frozen (t * 4)
                  have y2 := (HST1.out.refs.only o1 (fun h => h)).frozen (t * 4 + 1)
                  have y3 := (HST1.out.refs.only o1 (fun h => h)).frozen (t * 4 + 2)
                  have y4 := (HST1.out.refs.only o1 (fun h => h)).frozen (t * 4 + 3)
                  have hne : F.go ≠ F.gr := HST1.out.ops.ne_ HST1.out.refs (by decide)
                  have hne2 : F.go ≠ bbx := by have := HF.out.go; omega
                  have q4 := (HBX.out.only o1 (fun h => h)).cellv (i := 2) rfl
                  have q6 := (HBX.out.only o1 (fun h => h)).cellv (i := 3) rfl
                  clear hx o1 hbn HX
                  rw [Nat.add_zero] at q1
                  go_upto_region 23 with fail
                  have op1 := HSB.out.ops.cellv (optrs_get (upd act t true) (upd bo t bn) ht5)
                  rw [show optr (upd act t true) (upd bo t bn) t = .pointer (some ⟨bn, 0, none⟩) from by unfold optr; rw [upd_same, upd_same]; rfl] at op1
                  go_wp2_with fail
                  go_meet
                  exact ⟨_, _, _, _, _, _, _, _, HSB.out⟩
              | false =>
                have HSZ := hide HST1.out.more
                go_wp2_with fail
                go_roundg (400 - (i + 1))
                case rel => exact ⟨i + 1, _, _, _, _, _, _, _, _, rfl, by omega, by omega, by go_num, HSZ.out⟩
                case measure => omega
            | false =>
              cases hact : act t with
              | false =>
                rw [show optr act bo t = .pointer none from by unfold optr; rw [hact]; rfl] at op0
                have HSB := hide HST1.out.more
                clear hact
                go_wp2_with fail
                go_meet
                exact ⟨_, _, _, _, _, _, _, _, HSB.out⟩
              | true =>
                rw [show optr act bo t = .pointer (some ⟨bo t, 0, none⟩) from by unfold optr; rw [hact]; rfl] at op0
                have HACT := hide hact
                have HBP := hide (HST1.out.fam.at_ t ht5 hact)
                have hid := HID.out
                rw [hact] at hid
                have HID2 := hide (show idle = ((o t).out != 0) from by rw [hid]; rfl)
                clear hact hid
                by_cases hout : (o t).out = 0
                · have HOUT := hide hout
                  obtain rfl : idle = false := by rw [HID2.out, hout]; rfl
                  clear hout
                  as_aux_lemma =>
                    obtain ⟨bx, ox, kx, X, Y, lx, ax, cx, d0, d1, d2, d3, d4, hbop, hthr, hlog, hlen, hbo, hox, hrt, hlt'⟩ := HST1.out.seen ht5 HACT.out
                    have n1 := HF.out.n1
                    have n5 := HF.out.n5
                    have b5x := HF.out.b5
                    have HLOG := hide hlog
                    have HLEN := hide hlen
                    have HTHR := hide hthr
                    have HBO := hide hbo
                    have HOX := hide hox
                    rw [hox, hbo] at HBP
                    rw [hox] at HOUT
                    have HRT := hide hrt
                    have HLT := hide hlt'
                    clear hbop hthr hlog hlen hbo hox hrt hlt'
                    have hgr := HST1.out.refs.lt
                    have y1 := HST1.out.refs.frozen (t * 4)
                    have y2 := HST1.out.refs.frozen (t * 4 + 1)
                    have y3 := HST1.out.refs.frozen (t * 4 + 2)
                    have y4 := HST1.out.refs.frozen (t * 4 + 3)
                    rw [HBO.out] at op0
                    go_wp2_with fail
                    refine (Touched_any HST1.out.env.mem).mono ?_
                    rintro e w1 ⟨rfl, rfl⟩
                    go_wp2_with fail
                    refine (VStep_all HST1.out.env.env (HTHR.out.good.ok (by omega) HST1.out.env.in_) HBP.out (few_of _ (by have := HST1.out.tcb; omega))).mono ?_
                    rintro e w1 ⟨rfl, h1, h2, h3⟩
                    rw [show vtick ox = 1 from by simp [vtick, HOUT.out]] at h2
                    obtain ⟨L', xv, hg⟩ : ∃ L' xv, gdo L (vaskOf ox) = (L', xv) := ⟨_, _, rfl⟩
                    rw [vstep_ask _ _ HOUT.out HTHR.out.good.k, hg] at h1 h2 ⊢
                    simp only at h1 h2 ⊢
                    generalize hov : ((vans ox xv).out != 0) = ov
                    have HOV := hide hov
                    have H1 := hide h1
                    have hLL : L'.length = L.length := by have := gdo_len L (vaskOf ox); rw [hg] at this; exact this
                    have H2 := hide (VE.step HST1.out.env h3 HBP.out h2 hLL)
                    rw [← HBO.out] at h3
                    have H3 := hide h3
                    have HG := hide hg
                    obtain ⟨m1, m2, m3, m4, m5, m6, m7⟩ := HST1.out.mid HF.out ht5 HACT.out h3
                    have op1 := m1.cellv (optrs_get act bo ht5)
                    rw [show optr act bo t = .pointer (some ⟨bx, 0, none⟩) from by unfold optr; rw [HACT.out, HBO.out]; rfl] at op1
                    have r1 := m2.cellv (refs4_get (j := 0) r ht5 (by decide))
                    have r2 := m2.cellv (refs4_get (j := 1) r ht5 (by decide))
                    have r3 := m2.cellv (refs4_get (j := 2) r ht5 (by decide))
                    have r4 := m2.cellv (refs4_get (j := 3) r ht5 (by decide))
                    rw [HRT.out] at r1 r2 r3 r4
                    rw [Nat.add_zero] at r1
                    have at0 := m4.cellv (i := 0) rfl
                    have at1 := m4.cellv (i := 1) rfl
                    have M2 := hide m2
                    have M3 := hide m3
                    have ML := hide (m5 t ht5)
                    have M7 := hide m7
                    clear hov h1 h2 h3 hg m1 m2 m3 m4 m5 m6 m7
                    have hcb := HST1.out.tcb
                    have hc0 := HST1.out.env.mem.tc0
                    go_wp2_with fail
                    refine (Touched_any H2.out.mem).mono ?_
                    rintro e w1' ⟨rfl, rfl⟩
                    go_wp2_with fail
                    refine (Touched_any H2.out.mem).mono ?_
                    rintro e w1' ⟨rfl, rfl⟩
                    go_wp2_with fail
                    refine (VopIs.over H1.out).mono ?_
                    rintro e w1' ⟨rfl, rfl⟩
                    rw [HOV.out]
                    go_upto_region 30 with fail
                    clear d0 op0 y1 y2 y3 y4
                    have HGO := hide (vask_go HTHR.out.good HOUT.out (by omega) HST1.out.env.in_)
                    have hml := ML.out
                    rw [HRT.out, HLT.out] at hml
                    have HLD := hide (hml.only0 (Only.refl S0 w1).drew)
                    have hgr1 : F.gr ≠ F.rm := M2.out.ne_ M3.out.mem (by decide)
                    have hgr2 : F.gr ≠ F.rc := M2.out.ne_ M3.out.cells (by decide)
                    clear hml
                    go_region_with (first | (go_at_call 51; refine (vStepR_go (w := w1.drew) (base := F.b) (n := F.n) kx X Y (vaskOf ox) HTHR.out.next HLD.out M7.out (by have := HLEN.out; omega) (by omega) (by omega) (by omega) HTHR.out.k1 HTHR.out.k3 M3.out.drew (few_of _ (by have := HST1.out.tcrb; omega)) HF.out.rm HF.out.rc HGO.out.1 HGO.out.2.1 HGO.out.2.2.1 HGO.out.2.2.2).mono ?_; rintro e w2 ⟨lv', rfl, hl', hr', o2⟩; rw [HG.out] at hl' hr'; simp only at hl' hr'; obtain ⟨a2, c2, hlv, -⟩ := hl'.at_.form; obtain ⟨m2, hm2⟩ : ∃ m2, (lx ++ [xv]).length = m2 := ⟨_, rfl⟩; rw [hm2] at hlv; subst hlv; clear hm2; have HSB := hide (VSt.step_ HF.out HST1.out ht5 HACT.out H3.out (show VopIs w1 (bo t) F.bm _ from by rw [HBO.out]; exact H1.out) H2.out (((Only.refl (S2 F.rm F.rc) w1).drew).trans o2) hr' hl' (by rw [List.length_append]; have := HLEN.out; simp; omega) (HTHR.out.step HOUT.out xv) (by omega) (by omega)); have M4 := hide ((show Blk w1.drew F.gr 91 (refs4 5 r) from M2.out).only o2 (fun h => by unfold S2 at h; omega)); have r1 := M4.out.cellv (refs4_get (j := 0) r ht5 (by decide)); have r2 := M4.out.cellv (refs4_get (j := 1) r ht5 (by decide)); have r3 := M4.out.cellv (refs4_get (j := 2) r ht5 (by decide)); have r4 := M4.out.cellv (refs4_get (j := 3) r ht5 (by decide)); have y1 := M4.out.frozen (t * 4); have y2 := M4.out.frozen (t * 4 + 1); have y3 := M4.out.frozen (t * 4 + 2); have y4 := M4.out.frozen (t * 4 + 3); rw [Nat.add_zero] at r1))
                    all_goals (go_wp2_with fail; go_meet; exact ⟨_, _, _, _, _, _, _, _, HSB.out⟩)
                · have HOUT := hide hout
                  obtain rfl : idle = true := by rw [HID2.out]; simp [hout]
                  clear hout
                  as_aux_lemma =>
                    obtain ⟨bx, ox, kx, X, Y, lx, ax, cx, d0, d1, d2, d3, d4, hbop, hthr, hlog, hlen, hbo, hox, hrt, hlt'⟩ := HST1.out.seen ht5 HACT.out
                    have n1 := HF.out.n1
                    have n5 := HF.out.n5
                    have b5x := HF.out.b5
                    have HLOG := hide hlog
                    have HLEN := hide hlen
                    have HTHR := hide hthr
                    have HBO := hide hbo
                    have HOX := hide hox
                    rw [hox, hbo] at HBP
                    rw [hox] at HOUT
                    have HRT := hide hrt
                    have HLT := hide hlt'
                    clear hbop hthr hlog hlen hbo hox hrt hlt'
                    have hgr := HST1.out.refs.lt
                    have y1 := HST1.out.refs.frozen (t * 4)
                    have y2 := HST1.out.refs.frozen (t * 4 + 1)
                    have y3 := HST1.out.refs.frozen (t * 4 + 2)
                    have y4 := HST1.out.refs.frozen (t * 4 + 3)
                    rw [HBO.out] at op0
                    have hcb := HST1.out.tcb
                    have hc0 := HST1.out.env.mem.tc0
                    have at0 := HST1.out.atb.cellv (i := 0) rfl
                    have at1 := HST1.out.atb.cellv (i := 1) rfl
                    go_wp2_with fail
                    refine (Touched_any HST1.out.env.mem).mono ?_
                    rintro e w1 ⟨rfl, rfl⟩
                    go_wp2_with fail
                    refine (VStep_over HBP.out HOUT.out).mono ?_
                    rintro e w1 ⟨rfl, rfl⟩
                    go_wp2_with fail
                    refine (Touched_any HST1.out.env.mem).mono ?_
                    rintro e w1 ⟨rfl, rfl⟩
                    go_wp2_with fail
                    refine (Touched_any HST1.out.env.mem).mono ?_
                    rintro e w1 ⟨rfl, rfl⟩
                    go_wp2_with fail
                    refine (VopIs.over1 HBP.out HOUT.out).mono ?_
                    rintro e w1 ⟨rfl, rfl⟩
                    go_upto_region 30 with fail
                    have HLD := hide (HLOG.out.only0 (Only.refl S0 wz).drew)
                    clear y1 y2 y3 y4
                    go_region_with (first | (go_at_call 51; refine (vStepR_over (w := wz.drew) (base := F.b) (n := F.n) kx X Y (vaskOf ox) HTHR.out.next HLD.out HST1.out.le (by have := HLEN.out; omega) (by omega) (by omega) (by omega) HTHR.out.k1 HTHR.out.k3 (vask_over HOUT.out)).mono ?_; rintro e w2 ⟨rfl, o2⟩; have HSB := hide (VSt.step_ HF.out HST1.out ht5 HACT.out (Only.refl _ wz) (show VopIs wz (bo t) F.bm ox from by rw [HBO.out]; exact HBP.out) HST1.out.env (((Only.refl (S2 F.rm F.rc) wz).drew).trans (o2.mono fun _ h => h.elim)) (HST1.out.ref.drew.only0 o2) (HLD.out.only0 o2) (by have := HLEN.out; omega) HTHR.out (by omega) (by omega)); have M4 := hide ((show Blk wz.drew F.gr 91 (refs4 5 r) from HST1.out.refs).only o2 (fun h => h)); have r1 := M4.out.cellv (refs4_get (j := 0) r ht5 (by decide)); have r2 := M4.out.cellv (refs4_get (j := 1) r ht5 (by decide)); have r3 := M4.out.cellv (refs4_get (j := 2) r ht5 (by decide)); have r4 := M4.out.cellv (refs4_get (j := 3) r ht5 (by decide)); have y1 := M4.out.frozen (t * 4); have y2 := M4.out.frozen (t * 4 + 1); have y3 := M4.out.frozen (t * 4 + 2); have y4 := M4.out.frozen (t * 4 + 3); rw [Nat.add_zero] at r1))
                    all_goals (go_wp2_with fail; go_meet; exact ⟨_, _, _, _, _, _, _, _, HSB.out⟩)
        case rest =>
          obtain ⟨act', bo', o', r', l', L', tc', tcr', hst'⟩ := hcut
          have HSX := hide hst'
          clear hst' HST1 op0 HBX HID HKK
          clear act bo o r l L tc tcr
          go_upto_region 31 with fail
          obtain ⟨wx, hwx⟩ : ∃ wx, wx = wc := ⟨_, rfl⟩
          subst hwx
          go_cut [177] (fun v177 wz => v177 = .bool (act' t) ∧ wx = wz)
          case first =>
            as_aux_lemma =>
              cases hact : act' t with
              | false =>
                have op0 := HSX.out.ops.cellv (optrs_get act' bo' ht5)
                rw [show optr act' bo' t = .pointer none from by unfold optr; rw [hact]; rfl] at op0
                have HACT := hide hact
                clear hact
                go_wp2_with fail
                go_meet
                exact ⟨by rw [HACT.out], rfl⟩
              | true =>
                have op0 := HSX.out.ops.cellv (optrs_get act' bo' ht5)
                rw [show optr act' bo' t = .pointer (some ⟨bo' t, 0, none⟩) from by unfold optr; rw [hact]; rfl] at op0
                have HACT := hide hact
                clear hact
                go_wp2_with fail
                go_meet
                exact ⟨by rw [HACT.out], rfl⟩
          case rest =>
          obtain ⟨rfl, rfl⟩ := hcut
          go_upto_if 177 with fail
          go_cut [] (fun wz => VSt F w wz act' bo' o' r' l' L' tc' tcr' (i + 1))
          case first =>
            as_aux_lemma =>
              cases hact : act' t with
              | false =>
                clear hact
                go_wp2_with fail
                go_meet
                exact HSX.out
              | true =>
                have HAZ := hide hact
                clear hact
                as_aux_lemma =>
                  obtain ⟨bx, ox, kx, X, Y, lx, ax, cx, d0, d1, d2, d3, d4, hbop, hthr, hlog, hlen, -, -, -, -⟩ := HSX.out.seen ht5 HAZ.out
                  have hgr := HSX.out.refs.lt
                  have hgat := HSX.out.atb.lt
                  have ht5a : (t : Int) < 5 := by omega
                  have ht5b : (0 : Int) ≤ t := by omega
                  have at0 := HSX.out.atb.cellv (i := 0) rfl
                  have at1 := HSX.out.atb.cellv (i := 1) rfl
                  have n1 := HF.out.n1
                  have n5 := HF.out.n5
                  have b5x := HF.out.b5
                  obtain ⟨W, hW⟩ : ∃ W, vnext F.b F.n kx X Y lx = W := ⟨_, rfl⟩
                  have hWo : W.over = (ox.out != 0) ∧ W.out = ox.out := by rw [← hW, hthr.next]; exact vask_out ox
                  obtain ⟨ov, what, cell, aa, bb2, outv, value⟩ := W
                  obtain ⟨hov, hout⟩ := hWo
                  simp only at hov hout
                  have HOV := hide hov
                  have HOUT := hide hout
                  have HNX := hide hW
                  have HLG := hide hlog.at_
                  have HBP := hide hbop
                  have HTK := hide (show 1 ≤ kx ∧ kx ≤ 3 ∧ lx.length ≤ 1000000 from ⟨hthr.k1, hthr.k3, by omega⟩)
                  clear hbop hthr hlog hlen hW hov hout
                  have DD0 := hide d0
                  have HA := hide ((Only.refl S0 wx).alloc (.cells #[.bool false, .int .i64 0, .int .i64 0, .int .u64 0, .int .u64 0, .int .i64 0, .int .u64 0, .int .u64 0] 78)).drew
                  go_upto_region 32 with fail
                  go_cut [22] (fun v22 wz => ∃ bq : Nat, v22 = .pointer (some ⟨bq, 0, none⟩) ∧ Blk wz bq 78 #[.bool ov, .int .i64 what, .int .i64 cell, .int .u64 aa, .int .u64 bb2, .int .i64 outv, .int .u64 value, .int .u64 0] ∧ Only S0 wx wz)
                  case first =>
                    as_aux_lemma =>
                      have hnx := fun (wy : World) (hy : Only S0 wx wy) => vNext_any (base := F.b) (n := F.n) kx X Y (HLG.out.only0 hy) HTK.out.2.2 (by omega) (by omega) (by omega) HTK.out.1 HTK.out.2.1
                      rw [HNX.out] at hnx
                      have HN2 := hide hnx
                      have HAT := hide (And.intro (And.intro at0 at1) hgat)
                      have HRF := hide (And.intro (And.intro d1 (And.intro d2 (And.intro d3 d4))) hgr)
                      clear hnx
                      refine wp_region_noPanic ?_
                      refine r32 (X := F) (t := t) ht5 HAT HRF HN2 (fun _ _ _ _ _ h => h) ?_
                      intro u178 u179 u180 u181 u182 u183 xq w' ho hb
                      refine NoPanic.normal ?_
                      go_wp2_with fail
                      go_meet
                      exact ⟨xq, rfl, hb, ho⟩
                  case rest =>
                  obtain ⟨bq, rfl, hbx, ho⟩ := hcut
                  obtain ⟨wv, hwv⟩ : ∃ wv, wv = wc := ⟨_, rfl⟩
                  subst hwv
                  have HO1 := hide ho
                  have HBX2 := hide hbx
                  clear hbx ho d0 at0 at1 d1 d2 d3 d4 HA
                  have HSX1 := hide (HSX.out.only0 HO1.out)
                  have HBP1 := hide (VopIs.only HBP.out HO1.out (fun h => h))
                  have d0 : wv.cell? ⟨F.go, t, none⟩ = some (.pointer (some ⟨bx, 0, none⟩)) := (HO1.out.cell (p := ⟨F.go, t, none⟩) HSX.out.ops.lt (fun h => h)).trans DD0.out
                  have x0 := HBX2.out.cellv (i := 0) rfl
                  have x5 := HBX2.out.cellv (i := 5) rfl
                  have HQ1 := hide fun (m : Nat) => (show VopIs (wv.drewN m) bx F.bm ox from HBP1.out).over
                  have HQ2 := hide fun (m : Nat) => (show VopIs (wv.drewN m) bx F.bm ox from HBP1.out).outcome
                  rw [← HOV.out] at HQ1
                  rw [← HOUT.out] at HQ2
                  go_wp2_with fail
                  go_quiet ((first | (go_at_call 30; exact quiet_eq (HQ1.out _)) | (go_at_call 32; exact quiet_eq (HQ2.out _))))
                  go_wp2_with fail
                  go_meet
                  exact HSX1.out.only0 ((Only.refl S0 wv).drewN nq)
          case rest =>
          have HSY := hide hcut
          clear hcut HSX
          as_aux_lemma =>
            go_upto_region 35 with fail
            have HL := hide (show L'.length ≤ 1000000 from by have := HSY.out.ref.len; omega)
            have HM := hide HSY.out.env.mem
            have HRD := hide HSY.out.ref.rd
            have cr0 := HSY.out.ref.mem.cellv (i := 0) rfl
            have hnm := HSY.out.ref.mem.lt
            have HD0 := hide (Only.refl S0 wc).drew
            go_region_held3 (fun w' => w'.cell? ⟨F.rm, 0, none⟩ = some (.slice (some ⟨F.rc, 0, none⟩) L'.length L'.length)) (first | exact cr0 | exact kk1 | exact kk2) (first | (go_at_call 41; refine (All_any (HM.out.drew)).mono ?_; rintro e wy1 ⟨v, rfl, hv, oo⟩; have HO1 := hide (HD0.out.trans oo); have kk1 : wy1.cell? ⟨F.rm, 0, none⟩ = some (.slice (some ⟨F.rc, 0, none⟩) L'.length L'.length) := (HO1.out.cell (p := ⟨F.rm, 0, none⟩) hnm (fun h => h)).trans cr0; have HV := hide hv; clear hv oo) | (go_at_call 40; refine (Same_yes (A := L') HL.out HV.out.rd (HRD.out.only0 HO1.out)).mono ?_; rintro e wy2 ⟨rfl, oo⟩; have HO2 := hide (HO1.out.trans oo); have kk2 : wy2.cell? ⟨F.rm, 0, none⟩ = some (.slice (some ⟨F.rc, 0, none⟩) L'.length L'.length) := (HO2.out.cell (p := ⟨F.rm, 0, none⟩) hnm (fun h => h)).trans cr0; clear oo))
            have HSZ := hide (HSY.out.only0 HO2.out)
            go_wp2_with fail
            go_roundg (400 - (i + 1))
            case rel => exact ⟨i + 1, _, _, _, _, _, _, _, _, rfl, by omega, by omega, by go_num, HSZ.out⟩
            case measure => omega
      · go_wp2_with fail
        go_ret
        exact ⟨rfl, S0.below HST.out.only⟩
    · go_wp2_with fail
      go_ret
      exact ⟨rfl, S0.below HST.out.only⟩
end Go.Proofs.Ytafnlmkhfonghaa
