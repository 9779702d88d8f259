/-
  The document's operation of a deque: the walks of Next and of what it calls.
-/
import Derived.Test.YtdoaipjdldknaaaGreatKDeqN2
import Derived.Test.YtdoaipjdldknaaaGreatOpen
import Derived.Deep.RegionHeld3
import Derived.Test.YtdoaipjdldknaaaGreatLastG2
import Derived.Deep.DeepCutAuto
import Derived.Handy
namespace Go.Proofs.YtdoaipjdldknaaaGreat
open Go.RowKit
set_option linter.unusedVariables false

section
variable {w : World} {base n V : Int} {lv : Value}
theorem rpush_any {l : List Int} {W : GW} (hW : DAsk base n V 1 l W) (hl : Rd w lv (l.map (.int .u64))) (hu : AllU l) (b0 : 0 ≤ base) (b1 : base ≤ 70000) (n1 : 1 ≤ n) (n64 : n ≤ 64) :
    Calls Tryz.prog 106 #[.agg #[.int .i64 base, .int .i64 n], .agg #[.int .i64 1, .int .u64 V, lv]] w fun e w' => e = .returned (gwV W) ∧ Only S0 w w' := by
  cases hW with
  | a0  => exact rpush_a0  hl b0 b1 n1 n64  
  | a1 b  => exact rpush_a1 b hl b0 b1 n1 n64 (hu b (by simp)) 
  | a2f b t h => exact rpush_a2f b t hl b0 b1 n1 n64 (hu b (by simp)) (hu t (by simp)) h
  | a3 b t x h => exact rpush_a3 b t x hl b0 b1 n1 n64 (hu b (by simp)) (hu t (by simp)) (hu x (by simp)) h
  | a4 b t x y h => exact rpush_a4 b t x y hl b0 b1 n1 n64 (hu b (by simp)) (hu t (by simp)) (hu x (by simp)) (hu y (by simp)) h
  | a2 b t h => exact rpush_a2 b t hl b0 b1 n1 n64 (hu b (by simp)) (hu t (by simp)) h

theorem rpop_any {l : List Int} {W : GW} (hW : DAsk base n V 2 l W) (hl : Rd w lv (l.map (.int .u64))) (hu : AllU l) (b0 : 0 ≤ base) (b1 : base ≤ 70000) (n1 : 1 ≤ n) (n64 : n ≤ 64) :
    Calls Tryz.prog 107 #[.agg #[.int .i64 base, .int .i64 n], .agg #[.int .i64 2, .int .u64 V, lv]] w fun e w' => e = .returned (gwV W) ∧ Only S0 w w' := by
  cases hW with
  | b0  => exact rpop_b0  hl b0 b1 n1 n64  
  | b1 b  => exact rpop_b1 b hl b0 b1 n1 n64 (hu b (by simp)) 
  | b2 b x  => exact rpop_b2 b x hl b0 b1 n1 n64 (hu b (by simp)) (hu x (by simp)) 
  | b3e b x t h => exact rpop_b3e b x t hl b0 b1 n1 n64 (hu b (by simp)) (hu x (by simp)) (hu t (by simp)) h
  | b4e b x t y h => exact rpop_b4e b x t y hl b0 b1 n1 n64 (hu b (by simp)) (hu x (by simp)) (hu t (by simp)) (hu y (by simp)) h
  | b3 b x t h => exact rpop_b3 b x t hl b0 b1 n1 n64 (hu b (by simp)) (hu x (by simp)) (hu t (by simp)) h
  | b4d b x t v h h2 => exact rpop_b4d b x t v hl b0 b1 n1 n64 (hu b (by simp)) (hu x (by simp)) (hu t (by simp)) (hu v (by simp)) h h2
  | b4 b x t v h h2 => exact rpop_b4 b x t v hl b0 b1 n1 n64 (hu b (by simp)) (hu x (by simp)) (hu t (by simp)) (hu v (by simp)) h h2
  | b5 b x t v s h h2 => exact rpop_b5 b x t v s hl b0 b1 n1 n64 (hu b (by simp)) (hu x (by simp)) (hu t (by simp)) (hu v (by simp)) (hu s (by simp)) h h2
  | b6w b x t v s z h h2 hs => exact rpop_b6w b x t v s z hl b0 b1 n1 n64 (hu b (by simp)) (hu x (by simp)) (hu t (by simp)) (hu v (by simp)) (hu s (by simp)) (hu z (by simp)) h h2 hs
  | b6l b x t v s z h h2 hs => exact rpop_b6l b x t v s z hl b0 b1 n1 n64 (hu b (by simp)) (hu x (by simp)) (hu t (by simp)) (hu v (by simp)) (hu s (by simp)) (hu z (by simp)) h h2 hs

theorem rsteal_any {l : List Int} {W : GW} (hW : DAsk base n V 3 l W) (hl : Rd w lv (l.map (.int .u64))) (hu : AllU l) (b0 : 0 ≤ base) (b1 : base ≤ 70000) (n1 : 1 ≤ n) (n64 : n ≤ 64) :
    Calls Tryz.prog 108 #[.agg #[.int .i64 base, .int .i64 n], .agg #[.int .i64 3, .int .u64 V, lv]] w fun e w' => e = .returned (gwV W) ∧ Only S0 w w' := by
  cases hW with
  | c0  => exact rsteal_c0  hl b0 b1 n1 n64  
  | c1 t  => exact rsteal_c1 t hl b0 b1 n1 n64 (hu t (by simp)) 
  | c2n t b h => exact rsteal_c2n t b hl b0 b1 n1 n64 (hu t (by simp)) (hu b (by simp)) h
  | c2 t b h => exact rsteal_c2 t b hl b0 b1 n1 n64 (hu t (by simp)) (hu b (by simp)) h
  | c3 t b v h => exact rsteal_c3 t b v hl b0 b1 n1 n64 (hu t (by simp)) (hu b (by simp)) (hu v (by simp)) h
  | c4w t b v s h hs => exact rsteal_c4w t b v s hl b0 b1 n1 n64 (hu t (by simp)) (hu b (by simp)) (hu v (by simp)) (hu s (by simp)) h hs
  | c4l t b v s h hs => exact rsteal_c4l t b v s hl b0 b1 n1 n64 (hu t (by simp)) (hu b (by simp)) (hu v (by simp)) (hu s (by simp)) h hs
set_option maxRecDepth 100000 in
theorem dNext_1 {l : List Int} {W : GW} (hW : DAsk base n V 1 l W) (hl : Rd w lv (l.map (.int .u64))) (hu : AllU l) (b0 : 0 ≤ base) (b1 : base ≤ 70000) (n1 : 1 ≤ n) (n64 : n ≤ 64) :
    Calls Tryz.prog 97 #[.agg #[.int .i64 base, .int .i64 n], .agg #[.int .i64 1, .int .u64 V, lv]] w fun e w' => e = .returned (gwV W) ∧ Only S0 w w' := by
  have HW := hide hW
  have HU := hide hu
  have HL := hide hl
  obtain ⟨a, ca, rfl, ha⟩ := hl
  clear ha hW hu
  generalize (l.map (Value.int .u64)).length = ln at *
  have nd := nd_new w base n 1 V (.slice a ln ca)
  have hsz : w.heap.size + 1 + 1 < (((w.alloc (.cells #[.int .i64 base, .int .i64 n] 91)).alloc (.cells #[.int .i64 1, .int .u64 V, .slice a ln ca] 133)).alloc (.cells #[.bool false, .int .i64 0, .int .i64 0, .int .u64 0, .int .u64 0, .int .i64 0, .int .u64 0, .int .u64 0] 62)).heap.size := Blk.lt nd.res
  go_enter Tryz.func97, Tryz.ntmps97
  go_upto_region 1 with fail
  generalize ((w.alloc (.cells #[.int .i64 base, .int .i64 n] 91)).alloc (.cells #[.int .i64 1, .int .u64 V, .slice a ln ca] 133)).alloc (.cells #[.bool false, .int .i64 0, .int .i64 0, .int .u64 0, .int .u64 0, .int .i64 0, .int .u64 0, .int .u64 0] 62) = wr at nd hsz ⊢
  have HO := hide nd.only
  have RB := hide nd.res
  have r0 : wr.cell? ⟨w.heap.size, 0, none⟩ = some (.int .i64 base) := nd.deq.cellv rfl
  have r1 : wr.cell? ⟨w.heap.size, 1, none⟩ = some (.int .i64 n) := nd.deq.cellv rfl
  have p0 : wr.cell? ⟨w.heap.size + 1, 0, none⟩ = some (.int .i64 1) := nd.op.cellv rfl
  have p1 : wr.cell? ⟨w.heap.size + 1, 1, none⟩ = some (.int .u64 V) := nd.op.cellv rfl
  have p2 : wr.cell? ⟨w.heap.size + 1, 2, none⟩ = some (.slice a ln ca) := nd.op.cellv rfl
  have HRD := hide (HL.out.only0 nd.only)
  clear nd
  have z0 : wr.cell? ⟨w.heap.size + 1 + 1, 0, none⟩ = some (.bool false) := RB.out.cellv rfl
  have y0 := RB.out.frozen 0
  have z1 : wr.cell? ⟨w.heap.size + 1 + 1, 1, none⟩ = some (.int .i64 0) := RB.out.cellv rfl
  have y1 := RB.out.frozen 1
  have z2 : wr.cell? ⟨w.heap.size + 1 + 1, 2, none⟩ = some (.int .i64 0) := RB.out.cellv rfl
  have y2 := RB.out.frozen 2
  have z3 : wr.cell? ⟨w.heap.size + 1 + 1, 3, none⟩ = some (.int .u64 0) := RB.out.cellv rfl
  have y3 := RB.out.frozen 3
  have z4 : wr.cell? ⟨w.heap.size + 1 + 1, 4, none⟩ = some (.int .u64 0) := RB.out.cellv rfl
  have y4 := RB.out.frozen 4
  have z5 : wr.cell? ⟨w.heap.size + 1 + 1, 5, none⟩ = some (.int .i64 0) := RB.out.cellv rfl
  have y5 := RB.out.frozen 5
  have z6 : wr.cell? ⟨w.heap.size + 1 + 1, 6, none⟩ = some (.int .u64 0) := RB.out.cellv rfl
  have y6 := RB.out.frozen 6
  have z7 : wr.cell? ⟨w.heap.size + 1 + 1, 7, none⟩ = some (.int .u64 0) := RB.out.cellv rfl
  have y7 := RB.out.frozen 7
  obtain ⟨ov, what, cell, aa, bb, out, value⟩ := W
  go_wp2_with fail
  refine (rpush_any HW.out HRD.out HU.out b0 b1 n1 n64).mono ?_
  rintro e w2 ⟨rfl, o2⟩
  have HO2 := hide (HO.out.trans o2)
  have RB2 := hide (RB.out.only o2 (fun h => h))
  clear o2 z0 y0 z1 y1 z2 y2 z3 y3 z4 y4 z5 y5 z6 y6 z7 y7
  have z0 : w2.cell? ⟨w.heap.size + 1 + 1, 0, none⟩ = some (.bool false) := RB2.out.cellv rfl
  have y0 := RB2.out.frozen 0
  have z1 : w2.cell? ⟨w.heap.size + 1 + 1, 1, none⟩ = some (.int .i64 0) := RB2.out.cellv rfl
  have y1 := RB2.out.frozen 1
  have z2 : w2.cell? ⟨w.heap.size + 1 + 1, 2, none⟩ = some (.int .i64 0) := RB2.out.cellv rfl
  have y2 := RB2.out.frozen 2
  have z3 : w2.cell? ⟨w.heap.size + 1 + 1, 3, none⟩ = some (.int .u64 0) := RB2.out.cellv rfl
  have y3 := RB2.out.frozen 3
  have z4 : w2.cell? ⟨w.heap.size + 1 + 1, 4, none⟩ = some (.int .u64 0) := RB2.out.cellv rfl
  have y4 := RB2.out.frozen 4
  have z5 : w2.cell? ⟨w.heap.size + 1 + 1, 5, none⟩ = some (.int .i64 0) := RB2.out.cellv rfl
  have y5 := RB2.out.frozen 5
  have z6 : w2.cell? ⟨w.heap.size + 1 + 1, 6, none⟩ = some (.int .u64 0) := RB2.out.cellv rfl
  have y6 := RB2.out.frozen 6
  have z7 : w2.cell? ⟨w.heap.size + 1 + 1, 7, none⟩ = some (.int .u64 0) := RB2.out.cellv rfl
  have y7 := RB2.out.frozen 7
  unfold gwV
  go_wp2_with fail
  (try simp only [Exit.inBlock, Exit.then])
  refine bodyPost_ret (by simp [results, Tryz.results97, go_sem, z0, z1, z2, z3, z4, z5, z6, z7]; try rfl) rfl ?_
  refine ⟨rfl, ?_⟩
  repeat (first | with_reducible exact HO2.out | (with_reducible refine Only.setNew ?_ _ ?_ _; rotate_left 1; omega) | with_reducible refine Only.drew ?_ | with_reducible refine Only.drewN ?_ _ | with_reducible refine Only.alloc ?_ _)

set_option maxRecDepth 100000 in
theorem dNext_2 {l : List Int} {W : GW} (hW : DAsk base n V 2 l W) (hl : Rd w lv (l.map (.int .u64))) (hu : AllU l) (b0 : 0 ≤ base) (b1 : base ≤ 70000) (n1 : 1 ≤ n) (n64 : n ≤ 64) :
    Calls Tryz.prog 97 #[.agg #[.int .i64 base, .int .i64 n], .agg #[.int .i64 2, .int .u64 V, lv]] w fun e w' => e = .returned (gwV W) ∧ Only S0 w w' := by
  have HW := hide hW
  have HU := hide hu
  have HL := hide hl
  obtain ⟨a, ca, rfl, ha⟩ := hl
  clear ha hW hu
  generalize (l.map (Value.int .u64)).length = ln at *
  have nd := nd_new w base n 2 V (.slice a ln ca)
  have hsz : w.heap.size + 1 + 1 < (((w.alloc (.cells #[.int .i64 base, .int .i64 n] 91)).alloc (.cells #[.int .i64 2, .int .u64 V, .slice a ln ca] 133)).alloc (.cells #[.bool false, .int .i64 0, .int .i64 0, .int .u64 0, .int .u64 0, .int .i64 0, .int .u64 0, .int .u64 0] 62)).heap.size := Blk.lt nd.res
  go_enter Tryz.func97, Tryz.ntmps97
  go_upto_region 1 with fail
  generalize ((w.alloc (.cells #[.int .i64 base, .int .i64 n] 91)).alloc (.cells #[.int .i64 2, .int .u64 V, .slice a ln ca] 133)).alloc (.cells #[.bool false, .int .i64 0, .int .i64 0, .int .u64 0, .int .u64 0, .int .i64 0, .int .u64 0, .int .u64 0] 62) = wr at nd hsz ⊢
  have HO := hide nd.only
  have RB := hide nd.res
  have r0 : wr.cell? ⟨w.heap.size, 0, none⟩ = some (.int .i64 base) := nd.deq.cellv rfl
  have r1 : wr.cell? ⟨w.heap.size, 1, none⟩ = some (.int .i64 n) := nd.deq.cellv rfl
  have p0 : wr.cell? ⟨w.heap.size + 1, 0, none⟩ = some (.int .i64 2) := nd.op.cellv rfl
  have p1 : wr.cell? ⟨w.heap.size + 1, 1, none⟩ = some (.int .u64 V) := nd.op.cellv rfl
  have p2 : wr.cell? ⟨w.heap.size + 1, 2, none⟩ = some (.slice a ln ca) := nd.op.cellv rfl
  have HRD := hide (HL.out.only0 nd.only)
  clear nd
  have z0 : wr.cell? ⟨w.heap.size + 1 + 1, 0, none⟩ = some (.bool false) := RB.out.cellv rfl
  have y0 := RB.out.frozen 0
  have z1 : wr.cell? ⟨w.heap.size + 1 + 1, 1, none⟩ = some (.int .i64 0) := RB.out.cellv rfl
  have y1 := RB.out.frozen 1
  have z2 : wr.cell? ⟨w.heap.size + 1 + 1, 2, none⟩ = some (.int .i64 0) := RB.out.cellv rfl
  have y2 := RB.out.frozen 2
  have z3 : wr.cell? ⟨w.heap.size + 1 + 1, 3, none⟩ = some (.int .u64 0) := RB.out.cellv rfl
  have y3 := RB.out.frozen 3
  have z4 : wr.cell? ⟨w.heap.size + 1 + 1, 4, none⟩ = some (.int .u64 0) := RB.out.cellv rfl
  have y4 := RB.out.frozen 4
  have z5 : wr.cell? ⟨w.heap.size + 1 + 1, 5, none⟩ = some (.int .i64 0) := RB.out.cellv rfl
  have y5 := RB.out.frozen 5
  have z6 : wr.cell? ⟨w.heap.size + 1 + 1, 6, none⟩ = some (.int .u64 0) := RB.out.cellv rfl
  have y6 := RB.out.frozen 6
  have z7 : wr.cell? ⟨w.heap.size + 1 + 1, 7, none⟩ = some (.int .u64 0) := RB.out.cellv rfl
  have y7 := RB.out.frozen 7
  obtain ⟨ov, what, cell, aa, bb, out, value⟩ := W
  go_wp2_with fail
  refine (rpop_any HW.out HRD.out HU.out b0 b1 n1 n64).mono ?_
  rintro e w2 ⟨rfl, o2⟩
  have HO2 := hide (HO.out.trans o2)
  have RB2 := hide (RB.out.only o2 (fun h => h))
  clear o2 z0 y0 z1 y1 z2 y2 z3 y3 z4 y4 z5 y5 z6 y6 z7 y7
  have z0 : w2.cell? ⟨w.heap.size + 1 + 1, 0, none⟩ = some (.bool false) := RB2.out.cellv rfl
  have y0 := RB2.out.frozen 0
  have z1 : w2.cell? ⟨w.heap.size + 1 + 1, 1, none⟩ = some (.int .i64 0) := RB2.out.cellv rfl
  have y1 := RB2.out.frozen 1
  have z2 : w2.cell? ⟨w.heap.size + 1 + 1, 2, none⟩ = some (.int .i64 0) := RB2.out.cellv rfl
  have y2 := RB2.out.frozen 2
  have z3 : w2.cell? ⟨w.heap.size + 1 + 1, 3, none⟩ = some (.int .u64 0) := RB2.out.cellv rfl
  have y3 := RB2.out.frozen 3
  have z4 : w2.cell? ⟨w.heap.size + 1 + 1, 4, none⟩ = some (.int .u64 0) := RB2.out.cellv rfl
  have y4 := RB2.out.frozen 4
  have z5 : w2.cell? ⟨w.heap.size + 1 + 1, 5, none⟩ = some (.int .i64 0) := RB2.out.cellv rfl
  have y5 := RB2.out.frozen 5
  have z6 : w2.cell? ⟨w.heap.size + 1 + 1, 6, none⟩ = some (.int .u64 0) := RB2.out.cellv rfl
  have y6 := RB2.out.frozen 6
  have z7 : w2.cell? ⟨w.heap.size + 1 + 1, 7, none⟩ = some (.int .u64 0) := RB2.out.cellv rfl
  have y7 := RB2.out.frozen 7
  unfold gwV
  go_wp2_with fail
  (try simp only [Exit.inBlock, Exit.then])
  refine bodyPost_ret (by simp [results, Tryz.results97, go_sem, z0, z1, z2, z3, z4, z5, z6, z7]; try rfl) rfl ?_
  refine ⟨rfl, ?_⟩
  repeat (first | with_reducible exact HO2.out | (with_reducible refine Only.setNew ?_ _ ?_ _; rotate_left 1; omega) | with_reducible refine Only.drew ?_ | with_reducible refine Only.drewN ?_ _ | with_reducible refine Only.alloc ?_ _)

set_option maxRecDepth 100000 in
theorem dNext_3 {l : List Int} {W : GW} (hW : DAsk base n V 3 l W) (hl : Rd w lv (l.map (.int .u64))) (hu : AllU l) (b0 : 0 ≤ base) (b1 : base ≤ 70000) (n1 : 1 ≤ n) (n64 : n ≤ 64) :
    Calls Tryz.prog 97 #[.agg #[.int .i64 base, .int .i64 n], .agg #[.int .i64 3, .int .u64 V, lv]] w fun e w' => e = .returned (gwV W) ∧ Only S0 w w' := by
  have HW := hide hW
  have HU := hide hu
  have HL := hide hl
  obtain ⟨a, ca, rfl, ha⟩ := hl
  clear ha hW hu
  generalize (l.map (Value.int .u64)).length = ln at *
  have nd := nd_new w base n 3 V (.slice a ln ca)
  have hsz : w.heap.size + 1 + 1 < (((w.alloc (.cells #[.int .i64 base, .int .i64 n] 91)).alloc (.cells #[.int .i64 3, .int .u64 V, .slice a ln ca] 133)).alloc (.cells #[.bool false, .int .i64 0, .int .i64 0, .int .u64 0, .int .u64 0, .int .i64 0, .int .u64 0, .int .u64 0] 62)).heap.size := Blk.lt nd.res
  go_enter Tryz.func97, Tryz.ntmps97
  go_upto_region 1 with fail
  generalize ((w.alloc (.cells #[.int .i64 base, .int .i64 n] 91)).alloc (.cells #[.int .i64 3, .int .u64 V, .slice a ln ca] 133)).alloc (.cells #[.bool false, .int .i64 0, .int .i64 0, .int .u64 0, .int .u64 0, .int .i64 0, .int .u64 0, .int .u64 0] 62) = wr at nd hsz ⊢
  have HO := hide nd.only
  have RB := hide nd.res
  have r0 : wr.cell? ⟨w.heap.size, 0, none⟩ = some (.int .i64 base) := nd.deq.cellv rfl
  have r1 : wr.cell? ⟨w.heap.size, 1, none⟩ = some (.int .i64 n) := nd.deq.cellv rfl
  have p0 : wr.cell? ⟨w.heap.size + 1, 0, none⟩ = some (.int .i64 3) := nd.op.cellv rfl
  have p1 : wr.cell? ⟨w.heap.size + 1, 1, none⟩ = some (.int .u64 V) := nd.op.cellv rfl
  have p2 : wr.cell? ⟨w.heap.size + 1, 2, none⟩ = some (.slice a ln ca) := nd.op.cellv rfl
  have HRD := hide (HL.out.only0 nd.only)
  clear nd
  have z0 : wr.cell? ⟨w.heap.size + 1 + 1, 0, none⟩ = some (.bool false) := RB.out.cellv rfl
  have y0 := RB.out.frozen 0
  have z1 : wr.cell? ⟨w.heap.size + 1 + 1, 1, none⟩ = some (.int .i64 0) := RB.out.cellv rfl
  have y1 := RB.out.frozen 1
  have z2 : wr.cell? ⟨w.heap.size + 1 + 1, 2, none⟩ = some (.int .i64 0) := RB.out.cellv rfl
  have y2 := RB.out.frozen 2
  have z3 : wr.cell? ⟨w.heap.size + 1 + 1, 3, none⟩ = some (.int .u64 0) := RB.out.cellv rfl
  have y3 := RB.out.frozen 3
  have z4 : wr.cell? ⟨w.heap.size + 1 + 1, 4, none⟩ = some (.int .u64 0) := RB.out.cellv rfl
  have y4 := RB.out.frozen 4
  have z5 : wr.cell? ⟨w.heap.size + 1 + 1, 5, none⟩ = some (.int .i64 0) := RB.out.cellv rfl
  have y5 := RB.out.frozen 5
  have z6 : wr.cell? ⟨w.heap.size + 1 + 1, 6, none⟩ = some (.int .u64 0) := RB.out.cellv rfl
  have y6 := RB.out.frozen 6
  have z7 : wr.cell? ⟨w.heap.size + 1 + 1, 7, none⟩ = some (.int .u64 0) := RB.out.cellv rfl
  have y7 := RB.out.frozen 7
  obtain ⟨ov, what, cell, aa, bb, out, value⟩ := W
  go_wp2_with fail
  refine (rsteal_any HW.out HRD.out HU.out b0 b1 n1 n64).mono ?_
  rintro e w2 ⟨rfl, o2⟩
  have HO2 := hide (HO.out.trans o2)
  have RB2 := hide (RB.out.only o2 (fun h => h))
  clear o2 z0 y0 z1 y1 z2 y2 z3 y3 z4 y4 z5 y5 z6 y6 z7 y7
  have z0 : w2.cell? ⟨w.heap.size + 1 + 1, 0, none⟩ = some (.bool false) := RB2.out.cellv rfl
  have y0 := RB2.out.frozen 0
  have z1 : w2.cell? ⟨w.heap.size + 1 + 1, 1, none⟩ = some (.int .i64 0) := RB2.out.cellv rfl
  have y1 := RB2.out.frozen 1
  have z2 : w2.cell? ⟨w.heap.size + 1 + 1, 2, none⟩ = some (.int .i64 0) := RB2.out.cellv rfl
  have y2 := RB2.out.frozen 2
  have z3 : w2.cell? ⟨w.heap.size + 1 + 1, 3, none⟩ = some (.int .u64 0) := RB2.out.cellv rfl
  have y3 := RB2.out.frozen 3
  have z4 : w2.cell? ⟨w.heap.size + 1 + 1, 4, none⟩ = some (.int .u64 0) := RB2.out.cellv rfl
  have y4 := RB2.out.frozen 4
  have z5 : w2.cell? ⟨w.heap.size + 1 + 1, 5, none⟩ = some (.int .i64 0) := RB2.out.cellv rfl
  have y5 := RB2.out.frozen 5
  have z6 : w2.cell? ⟨w.heap.size + 1 + 1, 6, none⟩ = some (.int .u64 0) := RB2.out.cellv rfl
  have y6 := RB2.out.frozen 6
  have z7 : w2.cell? ⟨w.heap.size + 1 + 1, 7, none⟩ = some (.int .u64 0) := RB2.out.cellv rfl
  have y7 := RB2.out.frozen 7
  unfold gwV
  go_wp2_with fail
  (try simp only [Exit.inBlock, Exit.then])
  refine bodyPost_ret (by simp [results, Tryz.results97, go_sem, z0, z1, z2, z3, z4, z5, z6, z7]; try rfl) rfl ?_
  refine ⟨rfl, ?_⟩
  repeat (first | with_reducible exact HO2.out | (with_reducible refine Only.setNew ?_ _ ?_ _; rotate_left 1; omega) | with_reducible refine Only.drew ?_ | with_reducible refine Only.drewN ?_ _ | with_reducible refine Only.alloc ?_ _)

theorem dNext_any {kind : Int} {l : List Int} {W : GW} (hW : DAsk base n V kind l W) (hl : Rd w lv (l.map (.int .u64))) (hu : AllU l) (b0 : 0 ≤ base) (b1 : base ≤ 70000) (n1 : 1 ≤ n) (n64 : n ≤ 64) (hk1 : 1 ≤ kind) (hk3 : kind ≤ 3) :
    Calls Tryz.prog 97 #[.agg #[.int .i64 base, .int .i64 n], .agg #[.int .i64 kind, .int .u64 V, lv]] w fun e w' => e = .returned (gwV W) ∧ Only S0 w w' := by
  have hk : kind = 1 ∨ kind = 2 ∨ kind = 3 := by omega
  rcases hk with rfl | rfl | rfl
  · exact dNext_1 hW hl hu b0 b1 n1 n64
  · exact dNext_2 hW hl hu b0 b1 n1 n64
  · exact dNext_3 hW hl hu b0 b1 n1 n64

end
end Go.Proofs.YtdoaipjdldknaaaGreat
