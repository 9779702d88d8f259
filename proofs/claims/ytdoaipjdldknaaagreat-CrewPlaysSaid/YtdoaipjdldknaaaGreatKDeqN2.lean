/-
  The document's operation of a deque: the walks of Next and of what it calls.
-/
import Derived.Test.YtdoaipjdldknaaaGreatKDeqN
import Derived.Test.YtdoaipjdldknaaaGreatOpen
import Derived.Deep.RegionHeld3
import Derived.Test.YtdoaipjdldknaaaGreatLastG2
import Derived.Deep.DeepCutAuto
import Derived.Handy
namespace Go.Proofs.YtdoaipjdldknaaaGreat
open Go.RowKit
set_option linter.unusedVariables false

/-- What a method of the document's deque has laid. -/
structure ND (w wr : World) (b2 b3 b4 : Nat) (base n kind V : Int) (lv : Value) : Prop where
  deq : Blk wr b2 91 #[.int .i64 base, .int .i64 n]
  op : Blk wr b3 133 #[.int .i64 kind, .int .u64 V, lv]
  res : Blk wr b4 62 #[.bool false, .int .i64 0, .int .i64 0, .int .u64 0, .int .u64 0, .int .i64 0, .int .u64 0, .int .u64 0]
  only : Only S0 w wr
theorem nd_new (w : World) (base n kind V : Int) (lv : Value) : ND w (((w.alloc (.cells #[.int .i64 base, .int .i64 n] 91)).alloc (.cells #[.int .i64 kind, .int .u64 V, lv] 133)).alloc (.cells #[.bool false, .int .i64 0, .int .i64 0, .int .u64 0, .int .u64 0, .int .i64 0, .int .u64 0, .int .u64 0] 62)) w.heap.size (w.heap.size + 1) (w.heap.size + 1 + 1) base n kind V lv := by
  have o := (((Only.refl S0 w).alloc (.cells #[.int .i64 base, .int .i64 n] 91)).alloc (.cells #[.int .i64 kind, .int .u64 V, lv] 133)).alloc (.cells #[.bool false, .int .i64 0, .int .i64 0, .int .u64 0, .int .u64 0, .int .i64 0, .int .u64 0, .int .u64 0] 62)
  refine ⟨((Blk.new w _ _).alloc _).alloc _, ?_, ?_, o⟩
  · have := (Blk.new (w.alloc (.cells #[.int .i64 base, .int .i64 n] 91)) 133 #[.int .i64 kind, .int .u64 V, lv]).alloc (.cells #[.bool false, .int .i64 0, .int .i64 0, .int .u64 0, .int .u64 0, .int .i64 0, .int .u64 0, .int .u64 0] 62)
    simpa using this
  · have := Blk.new ((w.alloc (.cells #[.int .i64 base, .int .i64 n] 91)).alloc (.cells #[.int .i64 kind, .int .u64 V, lv] 133)) 62 #[.bool false, .int .i64 0, .int .i64 0, .int .u64 0, .int .u64 0, .int .i64 0, .int .u64 0, .int .u64 0]
    simpa using this
section
variable {w : World} {base n V : Int} {lv : Value}
theorem rover_any (out v : Int) (w : World) : Calls Tryz.prog 117 #[.int .i64 out, .int .u64 v] w fun e w' => e = .returned (gwV (wOver out v)) ∧ Only S0 w w' := by
  go_enter Tryz.func117, Tryz.ntmps117
  go_wp2_with fail
  go_returns
  exact ⟨rfl, (Only.refl _ _).alloc _⟩
theorem rload_any (c : Int) (w : World) : Calls Tryz.prog 118 #[.int .i64 c] w fun e w' => e = .returned (gwV (wLoad c)) ∧ Only S0 w w' := by
  go_enter Tryz.func118, Tryz.ntmps118
  go_wp2_with fail
  go_returns
  exact ⟨rfl, (Only.refl _ _).alloc _⟩
theorem rslot_any (t : Int) (ht : U64 t) (b0 : 0 ≤ base) (b1 : base ≤ 70000) (n1 : 1 ≤ n) (n64 : n ≤ 64) (w : World) : Calls Tryz.prog 119 #[.agg #[.int .i64 base, .int .i64 n], .int .u64 t] w fun e w' =>
    e = .returned (.int .i64 (dslotOf base n t)) ∧ Only S0 w w' := by
  obtain ⟨d1, d2, d3⟩ := u64_mod ht n1
  have hn : (n == 0) = false := by simp; omega
  have hw1 : IntKind.i64.wrap (base + 2) = base + 2 := IntWalk.i64_in _ (by omega)
  have hw2 : IntKind.i64.wrap (t % n) = t % n := IntWalk.i64_in _ (by omega)
  have hw3 : IntKind.i64.wrap (base + 2 + t % n) = base + 2 + t % n := IntWalk.i64_in _ (by omega)
  have hw4 : IntKind.u64.wrap n = n := by rw [IntKind.wrap_u64]; omega
  have hw5 : IntKind.u64.wrap (t % n) = t % n := by rw [IntKind.wrap_u64]; omega
  have hnz : n ≠ 0 := by omega
  clear ht
  go_enter Tryz.func119, Tryz.ntmps119
  go_wp2_with fail
  go_quiet (fail)
  go_wp2_with fail
  go_ret
  exact ⟨rfl, ((Only.refl _ _).alloc _).drewN _⟩
set_option maxRecDepth 100000 in
set_option maxHeartbeats 2000000 in
theorem rpush_a0 (hl : Rd w lv (([] : List Int).map (.int .u64))) (b0 : 0 ≤ base) (b1 : base ≤ 70000) (n1 : 1 ≤ n) (n64 : n ≤ 64)   :
    Calls Tryz.prog 106 #[.agg #[.int .i64 base, .int .i64 n], .agg #[.int .i64 1, .int .u64 V, lv]] w fun e w' => e = .returned (gwV (wLoad (base + 1))) ∧ Only S0 w w' := by
  obtain ⟨a, ca, rfl, ha⟩ := hl
  rw [show (([] : List Int).map (Value.int .u64)).length = 0 from rfl] at *
  have nd := nd_new w base n 1 V (.slice a 0 ca)
  clear ha
  have hsz : w.heap.size + 1 + 1 < (((w.alloc (.cells #[.int .i64 base, .int .i64 n] 91)).alloc (.cells #[.int .i64 1, .int .u64 V, .slice a 0 ca] 133)).alloc (.cells #[.bool false, .int .i64 0, .int .i64 0, .int .u64 0, .int .u64 0, .int .i64 0, .int .u64 0, .int .u64 0] 62)).heap.size := Blk.lt nd.res
  go_enter Tryz.func106, Tryz.ntmps106
  go_upto_region 1 with fail
  generalize ((w.alloc (.cells #[.int .i64 base, .int .i64 n] 91)).alloc (.cells #[.int .i64 1, .int .u64 V, .slice a 0 ca] 133)).alloc (.cells #[.bool false, .int .i64 0, .int .i64 0, .int .u64 0, .int .u64 0, .int .i64 0, .int .u64 0, .int .u64 0] 62) = wr at nd hsz ⊢
  have HND := hide nd
  have HO := hide nd.only
  have RB := hide nd.res
  have r0 : wr.cell? ⟨w.heap.size, 0, none⟩ = some (.int .i64 base) := nd.deq.cellv rfl
  have r1 : wr.cell? ⟨w.heap.size, 1, none⟩ = some (.int .i64 n) := nd.deq.cellv rfl
  have p0 : wr.cell? ⟨w.heap.size + 1, 0, none⟩ = some (.int .i64 1) := nd.op.cellv rfl
  have p1 : wr.cell? ⟨w.heap.size + 1, 1, none⟩ = some (.int .u64 V) := nd.op.cellv rfl
  have p2 : wr.cell? ⟨w.heap.size + 1, 2, none⟩ = some (.slice a 0 ca) := nd.op.cellv rfl
  clear nd
  have z0 : wr.cell? ⟨w.heap.size + 1 + 1, 0, none⟩ = some (.bool false) := RB.out.cellv rfl
  have y0 := RB.out.frozen 0
  have z1 : wr.cell? ⟨w.heap.size + 1 + 1, 1, none⟩ = some (.int .i64 0) := RB.out.cellv rfl
  have y1 := RB.out.frozen 1
  have z2 : wr.cell? ⟨w.heap.size + 1 + 1, 2, none⟩ = some (.int .i64 0) := RB.out.cellv rfl
  have y2 := RB.out.frozen 2
  have z3 : wr.cell? ⟨w.heap.size + 1 + 1, 3, none⟩ = some (.int .u64 0) := RB.out.cellv rfl
  have y3 := RB.out.frozen 3
  have z4 : wr.cell? ⟨w.heap.size + 1 + 1, 4, none⟩ = some (.int .u64 0) := RB.out.cellv rfl
  have y4 := RB.out.frozen 4
  have z5 : wr.cell? ⟨w.heap.size + 1 + 1, 5, none⟩ = some (.int .i64 0) := RB.out.cellv rfl
  have y5 := RB.out.frozen 5
  have z6 : wr.cell? ⟨w.heap.size + 1 + 1, 6, none⟩ = some (.int .u64 0) := RB.out.cellv rfl
  have y6 := RB.out.frozen 6
  have z7 : wr.cell? ⟨w.heap.size + 1 + 1, 7, none⟩ = some (.int .u64 0) := RB.out.cellv rfl
  have y7 := RB.out.frozen 7
  have hn64 : IntKind.u64.wrap n = n := by rw [IntKind.wrap_u64]; omega
  go_wp2_with fail
  go_quiet (fail)
  have hwb : IntKind.i64.wrap (base + 1) = base + 1 := IntWalk.i64_in _ (by omega)
  go_wp2_with fail
  refine (rload_any (base + 1) _).mono ?_
  rintro e w2 ⟨rfl, o2⟩
  have HO2 := hide ((HO.out.drewN nq).trans o2)
  have RB2 := hide ((RB.out.drewN nq).only o2 (fun h => h))
  clear o2 z0 y0 z1 y1 z2 y2 z3 y3 z4 y4 z5 y5 z6 y6 z7 y7
  have z0 : w2.cell? ⟨w.heap.size + 1 + 1, 0, none⟩ = some (.bool false) := RB2.out.cellv rfl
  have y0 := RB2.out.frozen 0
  have z1 : w2.cell? ⟨w.heap.size + 1 + 1, 1, none⟩ = some (.int .i64 0) := RB2.out.cellv rfl
  have y1 := RB2.out.frozen 1
  have z2 : w2.cell? ⟨w.heap.size + 1 + 1, 2, none⟩ = some (.int .i64 0) := RB2.out.cellv rfl
  have y2 := RB2.out.frozen 2
  have z3 : w2.cell? ⟨w.heap.size + 1 + 1, 3, none⟩ = some (.int .u64 0) := RB2.out.cellv rfl
  have y3 := RB2.out.frozen 3
  have z4 : w2.cell? ⟨w.heap.size + 1 + 1, 4, none⟩ = some (.int .u64 0) := RB2.out.cellv rfl
  have y4 := RB2.out.frozen 4
  have z5 : w2.cell? ⟨w.heap.size + 1 + 1, 5, none⟩ = some (.int .i64 0) := RB2.out.cellv rfl
  have y5 := RB2.out.frozen 5
  have z6 : w2.cell? ⟨w.heap.size + 1 + 1, 6, none⟩ = some (.int .u64 0) := RB2.out.cellv rfl
  have y6 := RB2.out.frozen 6
  have z7 : w2.cell? ⟨w.heap.size + 1 + 1, 7, none⟩ = some (.int .u64 0) := RB2.out.cellv rfl
  have y7 := RB2.out.frozen 7
  unfold gwV
  go_wp2_with fail
  (try simp only [Exit.inBlock, Exit.then])
  refine bodyPost_ret (by simp [results, Tryz.results106, go_sem, z0, z1, z2, z3, z4, z5, z6, z7]; try rfl) rfl ?_
  refine ⟨rfl, ?_⟩
  repeat (first | with_reducible exact HO2.out | (with_reducible refine Only.setNew ?_ _ ?_ _; rotate_left 1; omega) | with_reducible refine Only.drew ?_ | with_reducible refine Only.drewN ?_ _ | with_reducible refine Only.alloc ?_ _)

set_option maxRecDepth 100000 in
set_option maxHeartbeats 2000000 in
theorem rpush_a1 (b : Int) (hl : Rd w lv (([b] : List Int).map (.int .u64))) (b0 : 0 ≤ base) (b1 : base ≤ 70000) (n1 : 1 ≤ n) (n64 : n ≤ 64) (ub : U64 b)  :
    Calls Tryz.prog 106 #[.agg #[.int .i64 base, .int .i64 n], .agg #[.int .i64 1, .int .u64 V, lv]] w fun e w' => e = .returned (gwV (wLoad base)) ∧ Only S0 w w' := by
  obtain ⟨a, ca, rfl, ha⟩ := hl
  obtain ⟨g, off, rfl, hg, hc⟩ := ha (by simp)
  rw [show (([b] : List Int).map (Value.int .u64)).length = 1 from rfl] at *
  have nd := nd_new w base n 1 V (.slice (some ⟨g, off, none⟩) 1 ca)
  have e0 := (nd.only.cell (p := ⟨g, off + 0, none⟩) hg (fun h => h)).trans (hc 0 (.int .u64 b) rfl)
  rw [Nat.add_zero] at e0
  have hg3 := Nat.lt_of_lt_of_le hg nd.only.size
  clear hc ha hg
  have hsz : w.heap.size + 1 + 1 < (((w.alloc (.cells #[.int .i64 base, .int .i64 n] 91)).alloc (.cells #[.int .i64 1, .int .u64 V, .slice (some ⟨g, off, none⟩) 1 ca] 133)).alloc (.cells #[.bool false, .int .i64 0, .int .i64 0, .int .u64 0, .int .u64 0, .int .i64 0, .int .u64 0, .int .u64 0] 62)).heap.size := Blk.lt nd.res
  go_enter Tryz.func106, Tryz.ntmps106
  go_upto_region 1 with fail
  generalize ((w.alloc (.cells #[.int .i64 base, .int .i64 n] 91)).alloc (.cells #[.int .i64 1, .int .u64 V, .slice (some ⟨g, off, none⟩) 1 ca] 133)).alloc (.cells #[.bool false, .int .i64 0, .int .i64 0, .int .u64 0, .int .u64 0, .int .i64 0, .int .u64 0, .int .u64 0] 62) = wr at nd hsz hg3 e0 ⊢
  have HND := hide nd
  have HO := hide nd.only
  have RB := hide nd.res
  have r0 : wr.cell? ⟨w.heap.size, 0, none⟩ = some (.int .i64 base) := nd.deq.cellv rfl
  have r1 : wr.cell? ⟨w.heap.size, 1, none⟩ = some (.int .i64 n) := nd.deq.cellv rfl
  have p0 : wr.cell? ⟨w.heap.size + 1, 0, none⟩ = some (.int .i64 1) := nd.op.cellv rfl
  have p1 : wr.cell? ⟨w.heap.size + 1, 1, none⟩ = some (.int .u64 V) := nd.op.cellv rfl
  have p2 : wr.cell? ⟨w.heap.size + 1, 2, none⟩ = some (.slice (some ⟨g, off, none⟩) 1 ca) := nd.op.cellv rfl
  clear nd
  have z0 : wr.cell? ⟨w.heap.size + 1 + 1, 0, none⟩ = some (.bool false) := RB.out.cellv rfl
  have y0 := RB.out.frozen 0
  have z1 : wr.cell? ⟨w.heap.size + 1 + 1, 1, none⟩ = some (.int .i64 0) := RB.out.cellv rfl
  have y1 := RB.out.frozen 1
  have z2 : wr.cell? ⟨w.heap.size + 1 + 1, 2, none⟩ = some (.int .i64 0) := RB.out.cellv rfl
  have y2 := RB.out.frozen 2
  have z3 : wr.cell? ⟨w.heap.size + 1 + 1, 3, none⟩ = some (.int .u64 0) := RB.out.cellv rfl
  have y3 := RB.out.frozen 3
  have z4 : wr.cell? ⟨w.heap.size + 1 + 1, 4, none⟩ = some (.int .u64 0) := RB.out.cellv rfl
  have y4 := RB.out.frozen 4
  have z5 : wr.cell? ⟨w.heap.size + 1 + 1, 5, none⟩ = some (.int .i64 0) := RB.out.cellv rfl
  have y5 := RB.out.frozen 5
  have z6 : wr.cell? ⟨w.heap.size + 1 + 1, 6, none⟩ = some (.int .u64 0) := RB.out.cellv rfl
  have y6 := RB.out.frozen 6
  have z7 : wr.cell? ⟨w.heap.size + 1 + 1, 7, none⟩ = some (.int .u64 0) := RB.out.cellv rfl
  have y7 := RB.out.frozen 7
  have hn64 : IntKind.u64.wrap n = n := by rw [IntKind.wrap_u64]; omega
  go_wp2_with fail
  go_quiet (fail)
  go_wp2_with fail
  refine (rload_any base _).mono ?_
  rintro e w2 ⟨rfl, o2⟩
  have HO2 := hide ((HO.out.drewN nq).trans o2)
  have RB2 := hide ((RB.out.drewN nq).only o2 (fun h => h))
  clear o2 z0 y0 z1 y1 z2 y2 z3 y3 z4 y4 z5 y5 z6 y6 z7 y7
  have z0 : w2.cell? ⟨w.heap.size + 1 + 1, 0, none⟩ = some (.bool false) := RB2.out.cellv rfl
  have y0 := RB2.out.frozen 0
  have z1 : w2.cell? ⟨w.heap.size + 1 + 1, 1, none⟩ = some (.int .i64 0) := RB2.out.cellv rfl
  have y1 := RB2.out.frozen 1
  have z2 : w2.cell? ⟨w.heap.size + 1 + 1, 2, none⟩ = some (.int .i64 0) := RB2.out.cellv rfl
  have y2 := RB2.out.frozen 2
  have z3 : w2.cell? ⟨w.heap.size + 1 + 1, 3, none⟩ = some (.int .u64 0) := RB2.out.cellv rfl
  have y3 := RB2.out.frozen 3
  have z4 : w2.cell? ⟨w.heap.size + 1 + 1, 4, none⟩ = some (.int .u64 0) := RB2.out.cellv rfl
  have y4 := RB2.out.frozen 4
  have z5 : w2.cell? ⟨w.heap.size + 1 + 1, 5, none⟩ = some (.int .i64 0) := RB2.out.cellv rfl
  have y5 := RB2.out.frozen 5
  have z6 : w2.cell? ⟨w.heap.size + 1 + 1, 6, none⟩ = some (.int .u64 0) := RB2.out.cellv rfl
  have y6 := RB2.out.frozen 6
  have z7 : w2.cell? ⟨w.heap.size + 1 + 1, 7, none⟩ = some (.int .u64 0) := RB2.out.cellv rfl
  have y7 := RB2.out.frozen 7
  unfold gwV
  go_wp2_with fail
  (try simp only [Exit.inBlock, Exit.then])
  refine bodyPost_ret (by simp [results, Tryz.results106, go_sem, z0, z1, z2, z3, z4, z5, z6, z7]; try rfl) rfl ?_
  refine ⟨rfl, ?_⟩
  repeat (first | with_reducible exact HO2.out | (with_reducible refine Only.setNew ?_ _ ?_ _; rotate_left 1; omega) | with_reducible refine Only.drew ?_ | with_reducible refine Only.drewN ?_ _ | with_reducible refine Only.alloc ?_ _)

set_option maxRecDepth 100000 in
set_option maxHeartbeats 2000000 in
theorem rpush_a2f (b t : Int) (hl : Rd w lv (([b, t] : List Int).map (.int .u64))) (b0 : 0 ≤ base) (b1 : base ≤ 70000) (n1 : 1 ≤ n) (n64 : n ≤ 64) (ub : U64 b) (ut : U64 t) (h : n ≤ IntKind.u64.wrap (b - t)) :
    Calls Tryz.prog 106 #[.agg #[.int .i64 base, .int .i64 n], .agg #[.int .i64 1, .int .u64 V, lv]] w fun e w' => e = .returned (gwV (wOver 2 0)) ∧ Only S0 w w' := by
  obtain ⟨a, ca, rfl, ha⟩ := hl
  obtain ⟨g, off, rfl, hg, hc⟩ := ha (by simp)
  rw [show (([b, t] : List Int).map (Value.int .u64)).length = 2 from rfl] at *
  have nd := nd_new w base n 1 V (.slice (some ⟨g, off, none⟩) 2 ca)
  have e0 := (nd.only.cell (p := ⟨g, off + 0, none⟩) hg (fun h => h)).trans (hc 0 (.int .u64 b) rfl)
  have e1 := (nd.only.cell (p := ⟨g, off + 1, none⟩) hg (fun h => h)).trans (hc 1 (.int .u64 t) rfl)
  rw [Nat.add_zero] at e0
  have hg3 := Nat.lt_of_lt_of_le hg nd.only.size
  clear hc ha hg
  have hsz : w.heap.size + 1 + 1 < (((w.alloc (.cells #[.int .i64 base, .int .i64 n] 91)).alloc (.cells #[.int .i64 1, .int .u64 V, .slice (some ⟨g, off, none⟩) 2 ca] 133)).alloc (.cells #[.bool false, .int .i64 0, .int .i64 0, .int .u64 0, .int .u64 0, .int .i64 0, .int .u64 0, .int .u64 0] 62)).heap.size := Blk.lt nd.res
  go_enter Tryz.func106, Tryz.ntmps106
  go_upto_region 1 with fail
  generalize ((w.alloc (.cells #[.int .i64 base, .int .i64 n] 91)).alloc (.cells #[.int .i64 1, .int .u64 V, .slice (some ⟨g, off, none⟩) 2 ca] 133)).alloc (.cells #[.bool false, .int .i64 0, .int .i64 0, .int .u64 0, .int .u64 0, .int .i64 0, .int .u64 0, .int .u64 0] 62) = wr at nd hsz hg3 e0 e1 ⊢
  have HND := hide nd
  have HO := hide nd.only
  have RB := hide nd.res
  have r0 : wr.cell? ⟨w.heap.size, 0, none⟩ = some (.int .i64 base) := nd.deq.cellv rfl
  have r1 : wr.cell? ⟨w.heap.size, 1, none⟩ = some (.int .i64 n) := nd.deq.cellv rfl
  have p0 : wr.cell? ⟨w.heap.size + 1, 0, none⟩ = some (.int .i64 1) := nd.op.cellv rfl
  have p1 : wr.cell? ⟨w.heap.size + 1, 1, none⟩ = some (.int .u64 V) := nd.op.cellv rfl
  have p2 : wr.cell? ⟨w.heap.size + 1, 2, none⟩ = some (.slice (some ⟨g, off, none⟩) 2 ca) := nd.op.cellv rfl
  clear nd
  have z0 : wr.cell? ⟨w.heap.size + 1 + 1, 0, none⟩ = some (.bool false) := RB.out.cellv rfl
  have y0 := RB.out.frozen 0
  have z1 : wr.cell? ⟨w.heap.size + 1 + 1, 1, none⟩ = some (.int .i64 0) := RB.out.cellv rfl
  have y1 := RB.out.frozen 1
  have z2 : wr.cell? ⟨w.heap.size + 1 + 1, 2, none⟩ = some (.int .i64 0) := RB.out.cellv rfl
  have y2 := RB.out.frozen 2
  have z3 : wr.cell? ⟨w.heap.size + 1 + 1, 3, none⟩ = some (.int .u64 0) := RB.out.cellv rfl
  have y3 := RB.out.frozen 3
  have z4 : wr.cell? ⟨w.heap.size + 1 + 1, 4, none⟩ = some (.int .u64 0) := RB.out.cellv rfl
  have y4 := RB.out.frozen 4
  have z5 : wr.cell? ⟨w.heap.size + 1 + 1, 5, none⟩ = some (.int .i64 0) := RB.out.cellv rfl
  have y5 := RB.out.frozen 5
  have z6 : wr.cell? ⟨w.heap.size + 1 + 1, 6, none⟩ = some (.int .u64 0) := RB.out.cellv rfl
  have y6 := RB.out.frozen 6
  have z7 : wr.cell? ⟨w.heap.size + 1 + 1, 7, none⟩ = some (.int .u64 0) := RB.out.cellv rfl
  have y7 := RB.out.frozen 7
  have hn64 : IntKind.u64.wrap n = n := by rw [IntKind.wrap_u64]; omega
  go_wp2_with fail
  go_quiet (fail)
  go_wp2_with fail
  refine (rover_any 2 0 _).mono ?_
  rintro e w2 ⟨rfl, o2⟩
  have HO2 := hide ((HO.out.drewN nq).trans o2)
  have RB2 := hide ((RB.out.drewN nq).only o2 (fun h => h))
  clear o2 z0 y0 z1 y1 z2 y2 z3 y3 z4 y4 z5 y5 z6 y6 z7 y7
  have z0 : w2.cell? ⟨w.heap.size + 1 + 1, 0, none⟩ = some (.bool false) := RB2.out.cellv rfl
  have y0 := RB2.out.frozen 0
  have z1 : w2.cell? ⟨w.heap.size + 1 + 1, 1, none⟩ = some (.int .i64 0) := RB2.out.cellv rfl
  have y1 := RB2.out.frozen 1
  have z2 : w2.cell? ⟨w.heap.size + 1 + 1, 2, none⟩ = some (.int .i64 0) := RB2.out.cellv rfl
  have y2 := RB2.out.frozen 2
  have z3 : w2.cell? ⟨w.heap.size + 1 + 1, 3, none⟩ = some (.int .u64 0) := RB2.out.cellv rfl
  have y3 := RB2.out.frozen 3
  have z4 : w2.cell? ⟨w.heap.size + 1 + 1, 4, none⟩ = some (.int .u64 0) := RB2.out.cellv rfl
  have y4 := RB2.out.frozen 4
  have z5 : w2.cell? ⟨w.heap.size + 1 + 1, 5, none⟩ = some (.int .i64 0) := RB2.out.cellv rfl
  have y5 := RB2.out.frozen 5
  have z6 : w2.cell? ⟨w.heap.size + 1 + 1, 6, none⟩ = some (.int .u64 0) := RB2.out.cellv rfl
  have y6 := RB2.out.frozen 6
  have z7 : w2.cell? ⟨w.heap.size + 1 + 1, 7, none⟩ = some (.int .u64 0) := RB2.out.cellv rfl
  have y7 := RB2.out.frozen 7
  unfold gwV
  go_wp2_with fail
  (try simp only [Exit.inBlock, Exit.then])
  refine bodyPost_ret (by simp [results, Tryz.results106, go_sem, z0, z1, z2, z3, z4, z5, z6, z7]; try rfl) rfl ?_
  refine ⟨rfl, ?_⟩
  repeat (first | with_reducible exact HO2.out | (with_reducible refine Only.setNew ?_ _ ?_ _; rotate_left 1; omega) | with_reducible refine Only.drew ?_ | with_reducible refine Only.drewN ?_ _ | with_reducible refine Only.alloc ?_ _)

set_option maxRecDepth 100000 in
set_option maxHeartbeats 2000000 in
theorem rpush_a3 (b t x : Int) (hl : Rd w lv (([b, t, x] : List Int).map (.int .u64))) (b0 : 0 ≤ base) (b1 : base ≤ 70000) (n1 : 1 ≤ n) (n64 : n ≤ 64) (ub : U64 b) (ut : U64 t) (ux : U64 x) (h : ¬ n ≤ IntKind.u64.wrap (b - t)) :
    Calls Tryz.prog 106 #[.agg #[.int .i64 base, .int .i64 n], .agg #[.int .i64 1, .int .u64 V, lv]] w fun e w' => e = .returned (gwV (wStore (base + 1) (IntKind.u64.wrap (b + 1)))) ∧ Only S0 w w' := by
  obtain ⟨a, ca, rfl, ha⟩ := hl
  obtain ⟨g, off, rfl, hg, hc⟩ := ha (by simp)
  rw [show (([b, t, x] : List Int).map (Value.int .u64)).length = 3 from rfl] at *
  have nd := nd_new w base n 1 V (.slice (some ⟨g, off, none⟩) 3 ca)
  have e0 := (nd.only.cell (p := ⟨g, off + 0, none⟩) hg (fun h => h)).trans (hc 0 (.int .u64 b) rfl)
  have e1 := (nd.only.cell (p := ⟨g, off + 1, none⟩) hg (fun h => h)).trans (hc 1 (.int .u64 t) rfl)
  have e2 := (nd.only.cell (p := ⟨g, off + 2, none⟩) hg (fun h => h)).trans (hc 2 (.int .u64 x) rfl)
  rw [Nat.add_zero] at e0
  have hg3 := Nat.lt_of_lt_of_le hg nd.only.size
  clear hc ha hg
  have hsz : w.heap.size + 1 + 1 < (((w.alloc (.cells #[.int .i64 base, .int .i64 n] 91)).alloc (.cells #[.int .i64 1, .int .u64 V, .slice (some ⟨g, off, none⟩) 3 ca] 133)).alloc (.cells #[.bool false, .int .i64 0, .int .i64 0, .int .u64 0, .int .u64 0, .int .i64 0, .int .u64 0, .int .u64 0] 62)).heap.size := Blk.lt nd.res
  go_enter Tryz.func106, Tryz.ntmps106
  go_upto_region 1 with fail
  generalize ((w.alloc (.cells #[.int .i64 base, .int .i64 n] 91)).alloc (.cells #[.int .i64 1, .int .u64 V, .slice (some ⟨g, off, none⟩) 3 ca] 133)).alloc (.cells #[.bool false, .int .i64 0, .int .i64 0, .int .u64 0, .int .u64 0, .int .i64 0, .int .u64 0, .int .u64 0] 62) = wr at nd hsz hg3 e0 e1 e2 ⊢
  have HND := hide nd
  have HO := hide nd.only
  have RB := hide nd.res
  have r0 : wr.cell? ⟨w.heap.size, 0, none⟩ = some (.int .i64 base) := nd.deq.cellv rfl
  have r1 : wr.cell? ⟨w.heap.size, 1, none⟩ = some (.int .i64 n) := nd.deq.cellv rfl
  have p0 : wr.cell? ⟨w.heap.size + 1, 0, none⟩ = some (.int .i64 1) := nd.op.cellv rfl
  have p1 : wr.cell? ⟨w.heap.size + 1, 1, none⟩ = some (.int .u64 V) := nd.op.cellv rfl
  have p2 : wr.cell? ⟨w.heap.size + 1, 2, none⟩ = some (.slice (some ⟨g, off, none⟩) 3 ca) := nd.op.cellv rfl
  clear nd
  have z0 : wr.cell? ⟨w.heap.size + 1 + 1, 0, none⟩ = some (.bool false) := RB.out.cellv rfl
  have y0 := RB.out.frozen 0
  have z1 : wr.cell? ⟨w.heap.size + 1 + 1, 1, none⟩ = some (.int .i64 0) := RB.out.cellv rfl
  have y1 := RB.out.frozen 1
  have z2 : wr.cell? ⟨w.heap.size + 1 + 1, 2, none⟩ = some (.int .i64 0) := RB.out.cellv rfl
  have y2 := RB.out.frozen 2
  have z3 : wr.cell? ⟨w.heap.size + 1 + 1, 3, none⟩ = some (.int .u64 0) := RB.out.cellv rfl
  have y3 := RB.out.frozen 3
  have z4 : wr.cell? ⟨w.heap.size + 1 + 1, 4, none⟩ = some (.int .u64 0) := RB.out.cellv rfl
  have y4 := RB.out.frozen 4
  have z5 : wr.cell? ⟨w.heap.size + 1 + 1, 5, none⟩ = some (.int .i64 0) := RB.out.cellv rfl
  have y5 := RB.out.frozen 5
  have z6 : wr.cell? ⟨w.heap.size + 1 + 1, 6, none⟩ = some (.int .u64 0) := RB.out.cellv rfl
  have y6 := RB.out.frozen 6
  have z7 : wr.cell? ⟨w.heap.size + 1 + 1, 7, none⟩ = some (.int .u64 0) := RB.out.cellv rfl
  have y7 := RB.out.frozen 7
  have hn64 : IntKind.u64.wrap n = n := by rw [IntKind.wrap_u64]; omega
  go_wp2_with fail
  go_quiet (fail)
  have hwb : IntKind.i64.wrap (base + 1) = base + 1 := IntWalk.i64_in _ (by omega)
  go_wp2_with fail
  go_region
  go_wp2_with fail
  (try simp only [Exit.inBlock, Exit.then])
  refine bodyPost_ret (by simp [results, Tryz.results106, go_sem, z0, z1, z2, z3, z4, z5, z6, z7]; try rfl) rfl ?_
  refine ⟨rfl, ?_⟩
  repeat (first | with_reducible exact HO.out | (with_reducible refine Only.setNew ?_ _ ?_ _; rotate_left 1; omega) | with_reducible refine Only.drew ?_ | with_reducible refine Only.drewN ?_ _ | with_reducible refine Only.alloc ?_ _)

set_option maxRecDepth 100000 in
set_option maxHeartbeats 2000000 in
theorem rpush_a4 (b t x y : Int) (hl : Rd w lv (([b, t, x, y] : List Int).map (.int .u64))) (b0 : 0 ≤ base) (b1 : base ≤ 70000) (n1 : 1 ≤ n) (n64 : n ≤ 64) (ub : U64 b) (ut : U64 t) (ux : U64 x) (uy : U64 y) (h : ¬ n ≤ IntKind.u64.wrap (b - t)) :
    Calls Tryz.prog 106 #[.agg #[.int .i64 base, .int .i64 n], .agg #[.int .i64 1, .int .u64 V, lv]] w fun e w' => e = .returned (gwV (wOver 1 0)) ∧ Only S0 w w' := by
  obtain ⟨a, ca, rfl, ha⟩ := hl
  obtain ⟨g, off, rfl, hg, hc⟩ := ha (by simp)
  rw [show (([b, t, x, y] : List Int).map (Value.int .u64)).length = 4 from rfl] at *
  have nd := nd_new w base n 1 V (.slice (some ⟨g, off, none⟩) 4 ca)
  have e0 := (nd.only.cell (p := ⟨g, off + 0, none⟩) hg (fun h => h)).trans (hc 0 (.int .u64 b) rfl)
  have e1 := (nd.only.cell (p := ⟨g, off + 1, none⟩) hg (fun h => h)).trans (hc 1 (.int .u64 t) rfl)
  have e2 := (nd.only.cell (p := ⟨g, off + 2, none⟩) hg (fun h => h)).trans (hc 2 (.int .u64 x) rfl)
  have e3 := (nd.only.cell (p := ⟨g, off + 3, none⟩) hg (fun h => h)).trans (hc 3 (.int .u64 y) rfl)
  rw [Nat.add_zero] at e0
  have hg3 := Nat.lt_of_lt_of_le hg nd.only.size
  clear hc ha hg
  have hsz : w.heap.size + 1 + 1 < (((w.alloc (.cells #[.int .i64 base, .int .i64 n] 91)).alloc (.cells #[.int .i64 1, .int .u64 V, .slice (some ⟨g, off, none⟩) 4 ca] 133)).alloc (.cells #[.bool false, .int .i64 0, .int .i64 0, .int .u64 0, .int .u64 0, .int .i64 0, .int .u64 0, .int .u64 0] 62)).heap.size := Blk.lt nd.res
  go_enter Tryz.func106, Tryz.ntmps106
  go_upto_region 1 with fail
  generalize ((w.alloc (.cells #[.int .i64 base, .int .i64 n] 91)).alloc (.cells #[.int .i64 1, .int .u64 V, .slice (some ⟨g, off, none⟩) 4 ca] 133)).alloc (.cells #[.bool false, .int .i64 0, .int .i64 0, .int .u64 0, .int .u64 0, .int .i64 0, .int .u64 0, .int .u64 0] 62) = wr at nd hsz hg3 e0 e1 e2 e3 ⊢
  have HND := hide nd
  have HO := hide nd.only
  have RB := hide nd.res
  have r0 : wr.cell? ⟨w.heap.size, 0, none⟩ = some (.int .i64 base) := nd.deq.cellv rfl
  have r1 : wr.cell? ⟨w.heap.size, 1, none⟩ = some (.int .i64 n) := nd.deq.cellv rfl
  have p0 : wr.cell? ⟨w.heap.size + 1, 0, none⟩ = some (.int .i64 1) := nd.op.cellv rfl
  have p1 : wr.cell? ⟨w.heap.size + 1, 1, none⟩ = some (.int .u64 V) := nd.op.cellv rfl
  have p2 : wr.cell? ⟨w.heap.size + 1, 2, none⟩ = some (.slice (some ⟨g, off, none⟩) 4 ca) := nd.op.cellv rfl
  clear nd
  have z0 : wr.cell? ⟨w.heap.size + 1 + 1, 0, none⟩ = some (.bool false) := RB.out.cellv rfl
  have y0 := RB.out.frozen 0
  have z1 : wr.cell? ⟨w.heap.size + 1 + 1, 1, none⟩ = some (.int .i64 0) := RB.out.cellv rfl
  have y1 := RB.out.frozen 1
  have z2 : wr.cell? ⟨w.heap.size + 1 + 1, 2, none⟩ = some (.int .i64 0) := RB.out.cellv rfl
  have y2 := RB.out.frozen 2
  have z3 : wr.cell? ⟨w.heap.size + 1 + 1, 3, none⟩ = some (.int .u64 0) := RB.out.cellv rfl
  have y3 := RB.out.frozen 3
  have z4 : wr.cell? ⟨w.heap.size + 1 + 1, 4, none⟩ = some (.int .u64 0) := RB.out.cellv rfl
  have y4 := RB.out.frozen 4
  have z5 : wr.cell? ⟨w.heap.size + 1 + 1, 5, none⟩ = some (.int .i64 0) := RB.out.cellv rfl
  have y5 := RB.out.frozen 5
  have z6 : wr.cell? ⟨w.heap.size + 1 + 1, 6, none⟩ = some (.int .u64 0) := RB.out.cellv rfl
  have y6 := RB.out.frozen 6
  have z7 : wr.cell? ⟨w.heap.size + 1 + 1, 7, none⟩ = some (.int .u64 0) := RB.out.cellv rfl
  have y7 := RB.out.frozen 7
  have hn64 : IntKind.u64.wrap n = n := by rw [IntKind.wrap_u64]; omega
  go_wp2_with fail
  go_quiet (fail)
  go_wp2_with fail
  refine (rover_any 1 0 _).mono ?_
  rintro e w2 ⟨rfl, o2⟩
  have HO2 := hide ((HO.out.drewN nq).trans o2)
  have RB2 := hide ((RB.out.drewN nq).only o2 (fun h => h))
  clear o2 z0 y0 z1 y1 z2 y2 z3 y3 z4 y4 z5 y5 z6 y6 z7 y7
  have z0 : w2.cell? ⟨w.heap.size + 1 + 1, 0, none⟩ = some (.bool false) := RB2.out.cellv rfl
  have y0 := RB2.out.frozen 0
  have z1 : w2.cell? ⟨w.heap.size + 1 + 1, 1, none⟩ = some (.int .i64 0) := RB2.out.cellv rfl
  have y1 := RB2.out.frozen 1
  have z2 : w2.cell? ⟨w.heap.size + 1 + 1, 2, none⟩ = some (.int .i64 0) := RB2.out.cellv rfl
  have y2 := RB2.out.frozen 2
  have z3 : w2.cell? ⟨w.heap.size + 1 + 1, 3, none⟩ = some (.int .u64 0) := RB2.out.cellv rfl
  have y3 := RB2.out.frozen 3
  have z4 : w2.cell? ⟨w.heap.size + 1 + 1, 4, none⟩ = some (.int .u64 0) := RB2.out.cellv rfl
  have y4 := RB2.out.frozen 4
  have z5 : w2.cell? ⟨w.heap.size + 1 + 1, 5, none⟩ = some (.int .i64 0) := RB2.out.cellv rfl
  have y5 := RB2.out.frozen 5
  have z6 : w2.cell? ⟨w.heap.size + 1 + 1, 6, none⟩ = some (.int .u64 0) := RB2.out.cellv rfl
  have y6 := RB2.out.frozen 6
  have z7 : w2.cell? ⟨w.heap.size + 1 + 1, 7, none⟩ = some (.int .u64 0) := RB2.out.cellv rfl
  have y7 := RB2.out.frozen 7
  unfold gwV
  go_wp2_with fail
  (try simp only [Exit.inBlock, Exit.then])
  refine bodyPost_ret (by simp [results, Tryz.results106, go_sem, z0, z1, z2, z3, z4, z5, z6, z7]; try rfl) rfl ?_
  refine ⟨rfl, ?_⟩
  repeat (first | with_reducible exact HO2.out | (with_reducible refine Only.setNew ?_ _ ?_ _; rotate_left 1; omega) | with_reducible refine Only.drew ?_ | with_reducible refine Only.drewN ?_ _ | with_reducible refine Only.alloc ?_ _)

set_option maxRecDepth 100000 in
set_option maxHeartbeats 2000000 in
theorem rpush_a2 (b t : Int) (hl : Rd w lv (([b, t] : List Int).map (.int .u64))) (b0 : 0 ≤ base) (b1 : base ≤ 70000) (n1 : 1 ≤ n) (n64 : n ≤ 64) (ub : U64 b) (ut : U64 t) (h : ¬ n ≤ IntKind.u64.wrap (b - t)) :
    Calls Tryz.prog 106 #[.agg #[.int .i64 base, .int .i64 n], .agg #[.int .i64 1, .int .u64 V, lv]] w fun e w' => e = .returned (gwV (wStore (dslotOf base n b) V)) ∧ Only S0 w w' := by
  obtain ⟨a, ca, rfl, ha⟩ := hl
  obtain ⟨g, off, rfl, hg, hc⟩ := ha (by simp)
  rw [show (([b, t] : List Int).map (Value.int .u64)).length = 2 from rfl] at *
  have nd := nd_new w base n 1 V (.slice (some ⟨g, off, none⟩) 2 ca)
  have e0 := (nd.only.cell (p := ⟨g, off + 0, none⟩) hg (fun h => h)).trans (hc 0 (.int .u64 b) rfl)
  have e1 := (nd.only.cell (p := ⟨g, off + 1, none⟩) hg (fun h => h)).trans (hc 1 (.int .u64 t) rfl)
  rw [Nat.add_zero] at e0
  have hg3 := Nat.lt_of_lt_of_le hg nd.only.size
  clear hc ha hg
  have hsz : w.heap.size + 1 + 1 < (((w.alloc (.cells #[.int .i64 base, .int .i64 n] 91)).alloc (.cells #[.int .i64 1, .int .u64 V, .slice (some ⟨g, off, none⟩) 2 ca] 133)).alloc (.cells #[.bool false, .int .i64 0, .int .i64 0, .int .u64 0, .int .u64 0, .int .i64 0, .int .u64 0, .int .u64 0] 62)).heap.size := Blk.lt nd.res
  go_enter Tryz.func106, Tryz.ntmps106
  go_upto_region 1 with fail
  generalize ((w.alloc (.cells #[.int .i64 base, .int .i64 n] 91)).alloc (.cells #[.int .i64 1, .int .u64 V, .slice (some ⟨g, off, none⟩) 2 ca] 133)).alloc (.cells #[.bool false, .int .i64 0, .int .i64 0, .int .u64 0, .int .u64 0, .int .i64 0, .int .u64 0, .int .u64 0] 62) = wr at nd hsz hg3 e0 e1 ⊢
  have HND := hide nd
  have HO := hide nd.only
  have RB := hide nd.res
  have r0 : wr.cell? ⟨w.heap.size, 0, none⟩ = some (.int .i64 base) := nd.deq.cellv rfl
  have r1 : wr.cell? ⟨w.heap.size, 1, none⟩ = some (.int .i64 n) := nd.deq.cellv rfl
  have p0 : wr.cell? ⟨w.heap.size + 1, 0, none⟩ = some (.int .i64 1) := nd.op.cellv rfl
  have p1 : wr.cell? ⟨w.heap.size + 1, 1, none⟩ = some (.int .u64 V) := nd.op.cellv rfl
  have p2 : wr.cell? ⟨w.heap.size + 1, 2, none⟩ = some (.slice (some ⟨g, off, none⟩) 2 ca) := nd.op.cellv rfl
  clear nd
  have z0 : wr.cell? ⟨w.heap.size + 1 + 1, 0, none⟩ = some (.bool false) := RB.out.cellv rfl
  have y0 := RB.out.frozen 0
  have z1 : wr.cell? ⟨w.heap.size + 1 + 1, 1, none⟩ = some (.int .i64 0) := RB.out.cellv rfl
  have y1 := RB.out.frozen 1
  have z2 : wr.cell? ⟨w.heap.size + 1 + 1, 2, none⟩ = some (.int .i64 0) := RB.out.cellv rfl
  have y2 := RB.out.frozen 2
  have z3 : wr.cell? ⟨w.heap.size + 1 + 1, 3, none⟩ = some (.int .u64 0) := RB.out.cellv rfl
  have y3 := RB.out.frozen 3
  have z4 : wr.cell? ⟨w.heap.size + 1 + 1, 4, none⟩ = some (.int .u64 0) := RB.out.cellv rfl
  have y4 := RB.out.frozen 4
  have z5 : wr.cell? ⟨w.heap.size + 1 + 1, 5, none⟩ = some (.int .i64 0) := RB.out.cellv rfl
  have y5 := RB.out.frozen 5
  have z6 : wr.cell? ⟨w.heap.size + 1 + 1, 6, none⟩ = some (.int .u64 0) := RB.out.cellv rfl
  have y6 := RB.out.frozen 6
  have z7 : wr.cell? ⟨w.heap.size + 1 + 1, 7, none⟩ = some (.int .u64 0) := RB.out.cellv rfl
  have y7 := RB.out.frozen 7
  have hn64 : IntKind.u64.wrap n = n := by rw [IntKind.wrap_u64]; omega
  go_wp2_with fail
  go_quiet (fail)
  go_wp2_with fail
  refine wp_region_last 8 (fun w' : World => w'.cell? ⟨w.heap.size, 0, none⟩ = some (.int .i64 base) ∧ w'.cell? ⟨w.heap.size, 1, none⟩ = some (.int .i64 n) ∧ w'.cell? ⟨g, off, none⟩ = some (.int .u64 b) ∧ w'.cell? ⟨w.heap.size + 1, 1, none⟩ = some (.int .u64 V)) (by kernel_rfl) ?_
  generalize hwd : (wr.drewN nq).drew = wd
  have NDD := hide (show ND w wd w.heap.size (w.heap.size + 1) (w.heap.size + 1 + 1) base n _ V _ from by rw [← hwd]; exact ⟨HND.out.deq.drew, HND.out.op.drew, HND.out.res.drew, (HND.out.only.drewN nq).drew⟩)
  have eD : wd.cell? ⟨g, off, none⟩ = some (.int .u64 b) := by rw [← hwd]; exact e0
  have gD : g < wd.heap.size := by rw [← hwd]; exact hg3
  clear hwd
  have kk0 : (fun w' : World => w'.cell? ⟨w.heap.size, 0, none⟩ = some (.int .i64 base) ∧ w'.cell? ⟨w.heap.size, 1, none⟩ = some (.int .i64 n) ∧ w'.cell? ⟨g, off, none⟩ = some (.int .u64 b) ∧ w'.cell? ⟨w.heap.size + 1, 1, none⟩ = some (.int .u64 V)) wd := ⟨NDD.out.deq.cellv rfl, NDD.out.deq.cellv rfl, eD, NDD.out.op.cellv rfl⟩
  refine wpLast_take (i := 0) (oi := ⟨some 40, _, _, _, _, _⟩) (v := ?vv40x0) rfl (by kernel_rfl) (by kernel_rfl) (by kernel_rfl) (by kernel_rfl) (by decide) (fun _ _ _ h => h) (Or.inl ⟨by rfl, ?hy40x0⟩) (by assumption) ?rest40x0
  case hy40x0 => intro wq hSw; (try dsimp only at hSw); go_simp; (try with_reducible rfl)
  (try simp only [Act.put, List.setIfInBounds_toArray, List.set_cons_zero, List.set_cons_succ])
  refine wpLast_take (i := 1) (oi := ⟨some 41, _, _, _, _, _⟩) (v := ?vv40x1) rfl (by kernel_rfl) (by kernel_rfl) (by kernel_rfl) (by kernel_rfl) (by decide) (fun _ _ _ h => h) (Or.inl ⟨by rfl, ?hy40x1⟩) (by assumption) ?rest40x1
  case hy40x1 => intro wq hSw; (try dsimp only at hSw); go_simp; (try with_reducible rfl)
  (try simp only [Act.put, List.setIfInBounds_toArray, List.set_cons_zero, List.set_cons_succ])
  refine wpLast_take (i := 2) (oi := ⟨some 42, _, _, _, _, _⟩) (v := ?vv40x2) rfl (by kernel_rfl) (by kernel_rfl) (by kernel_rfl) (by kernel_rfl) (by decide) (fun _ _ _ h => h) (Or.inl ⟨by rfl, ?hy40x2⟩) (by assumption) ?rest40x2
  case hy40x2 => intro wq hSw; (try dsimp only at hSw); go_simp; (try with_reducible rfl)
  (try simp only [Act.put, List.setIfInBounds_toArray, List.set_cons_zero, List.set_cons_succ])
  refine wpLast_take (i := 3) (oi := ⟨some 43, _, _, _, _, _⟩) (v := ?vv40x3) rfl (by kernel_rfl) (by kernel_rfl) (by kernel_rfl) (by kernel_rfl) (by decide) (fun _ _ _ h => h) (Or.inl ⟨by rfl, ?hy40x3⟩) (by assumption) ?rest40x3
  case hy40x3 => intro wq hSw; (try dsimp only at hSw); go_simp; (try with_reducible rfl)
  (try simp only [Act.put, List.setIfInBounds_toArray, List.set_cons_zero, List.set_cons_succ])
  refine wpLast_take (i := 5) (oi := ⟨some 45, _, _, _, _, _⟩) (v := ?vv40x5) rfl (by kernel_rfl) (by kernel_rfl) (by kernel_rfl) (by kernel_rfl) (by decide) (fun _ _ _ h => h) (Or.inl ⟨by rfl, ?hy40x5⟩) (by assumption) ?rest40x5
  case hy40x5 => intro wq hSw; (try dsimp only at hSw); go_simp; (try with_reducible rfl)
  (try simp only [Act.put, List.setIfInBounds_toArray, List.set_cons_zero, List.set_cons_succ])
  refine wpLast_take (i := 6) (oi := ⟨some 46, _, _, _, _, _⟩) (v := ?vv40x6) rfl (by kernel_rfl) (by kernel_rfl) (by kernel_rfl) (by kernel_rfl) (by decide) (fun _ _ _ h => h) (Or.inl ⟨by rfl, ?hy40x6⟩) (by assumption) ?rest40x6
  case hy40x6 => intro wq hSw; (try dsimp only at hSw); go_simp; (try with_reducible rfl)
  (try simp only [Act.put, List.setIfInBounds_toArray, List.set_cons_zero, List.set_cons_succ])
  refine wpLast_one (i := 4) (o := ⟨some 44, _, _, _, _, _⟩) (by kernel_rfl) rfl (fun K hK => ?_)
  go_simp
  refine (rslot_any b ub b0 b1 n1 n64 _).mono ?_
  rintro e wq1 ⟨rfl, o2⟩
  have NDD1 := hide (show ND w wq1 w.heap.size (w.heap.size + 1) (w.heap.size + 1 + 1) base n _ V _ from ⟨NDD.out.deq.only o2 (fun h => h), NDD.out.op.only o2 (fun h => h), NDD.out.res.only o2 (fun h => h), NDD.out.only.trans o2⟩)
  have eD1 : wq1.cell? ⟨g, off, none⟩ = some (.int .u64 b) := (o2.cell (p := ⟨g, off, none⟩) gD (fun h => h)).trans eD
  have gD1 : g < wq1.heap.size := Nat.lt_of_lt_of_le gD o2.size
  have kk1 : (fun w' : World => w'.cell? ⟨w.heap.size, 0, none⟩ = some (.int .i64 base) ∧ w'.cell? ⟨w.heap.size, 1, none⟩ = some (.int .i64 n) ∧ w'.cell? ⟨g, off, none⟩ = some (.int .u64 b) ∧ w'.cell? ⟨w.heap.size + 1, 1, none⟩ = some (.int .u64 V)) wq1 := ⟨NDD1.out.deq.cellv rfl, NDD1.out.deq.cellv rfl, eD1, NDD1.out.op.cellv rfl⟩
  clear o2
  refine hK.out _ _ (fun _ => kk1) ?_
  clear hK K
  (try simp only [Act.put, List.setIfInBounds_toArray, List.set_cons_zero, List.set_cons_succ])
  refine wpLast_one (i := 7) (o := ⟨some 47, _, _, _, _, _⟩) (by kernel_rfl) rfl (fun K hK => ?_)
  go_simp
  refine hK.out _ _ (fun _ => kk1) ?_
  clear hK K
  (try simp only [Act.put, List.setIfInBounds_toArray, List.set_cons_zero, List.set_cons_succ])
  clear z0 y0 z1 y1 z2 y2 z3 y3 z4 y4 z5 y5 z6 y6 z7 y7
  have RB3 := hide NDD1.out.res
  have HO3 := hide NDD1.out.only
  have z0 : wq1.cell? ⟨w.heap.size + 1 + 1, 0, none⟩ = some (.bool false) := RB3.out.cellv rfl
  have y0 := RB3.out.frozen 0
  have z1 : wq1.cell? ⟨w.heap.size + 1 + 1, 1, none⟩ = some (.int .i64 0) := RB3.out.cellv rfl
  have y1 := RB3.out.frozen 1
  have z2 : wq1.cell? ⟨w.heap.size + 1 + 1, 2, none⟩ = some (.int .i64 0) := RB3.out.cellv rfl
  have y2 := RB3.out.frozen 2
  have z3 : wq1.cell? ⟨w.heap.size + 1 + 1, 3, none⟩ = some (.int .u64 0) := RB3.out.cellv rfl
  have y3 := RB3.out.frozen 3
  have z4 : wq1.cell? ⟨w.heap.size + 1 + 1, 4, none⟩ = some (.int .u64 0) := RB3.out.cellv rfl
  have y4 := RB3.out.frozen 4
  have z5 : wq1.cell? ⟨w.heap.size + 1 + 1, 5, none⟩ = some (.int .i64 0) := RB3.out.cellv rfl
  have y5 := RB3.out.frozen 5
  have z6 : wq1.cell? ⟨w.heap.size + 1 + 1, 6, none⟩ = some (.int .u64 0) := RB3.out.cellv rfl
  have y6 := RB3.out.frozen 6
  have z7 : wq1.cell? ⟨w.heap.size + 1 + 1, 7, none⟩ = some (.int .u64 0) := RB3.out.cellv rfl
  have y7 := RB3.out.frozen 7
  refine wpLast_one (i := 8) (o := ⟨none, _, _, _, _, _⟩) (by kernel_rfl) rfl (fun K hK => ?_)
  go_simp
  refine hK.out _ _ (fun h => absurd rfl h) ?_
  clear hK K
  (try simp only [Act.put, List.setIfInBounds_toArray, List.set_cons_zero, List.set_cons_succ])
  refine wpLast_done (by kernel_rfl) ?_ _
  go_wp2_with fail
  (try simp only [Exit.inBlock, Exit.then])
  refine bodyPost_ret (by simp [results, Tryz.results106, go_sem, z0, z1, z2, z3, z4, z5, z6, z7]; try rfl) rfl ?_
  refine ⟨rfl, ?_⟩
  repeat (first | with_reducible exact HO3.out | (with_reducible refine Only.setNew ?_ _ ?_ _; rotate_left 1; omega) | with_reducible refine Only.drew ?_ | with_reducible refine Only.drewN ?_ _ | with_reducible refine Only.alloc ?_ _)

set_option maxRecDepth 100000 in
set_option maxHeartbeats 2000000 in
theorem rsteal_c0 (hl : Rd w lv (([] : List Int).map (.int .u64))) (b0 : 0 ≤ base) (b1 : base ≤ 70000) (n1 : 1 ≤ n) (n64 : n ≤ 64)   :
    Calls Tryz.prog 108 #[.agg #[.int .i64 base, .int .i64 n], .agg #[.int .i64 3, .int .u64 V, lv]] w fun e w' => e = .returned (gwV (wLoad base)) ∧ Only S0 w w' := by
  obtain ⟨a, ca, rfl, ha⟩ := hl
  rw [show (([] : List Int).map (Value.int .u64)).length = 0 from rfl] at *
  have nd := nd_new w base n 3 V (.slice a 0 ca)
  clear ha
  have hsz : w.heap.size + 1 + 1 < (((w.alloc (.cells #[.int .i64 base, .int .i64 n] 91)).alloc (.cells #[.int .i64 3, .int .u64 V, .slice a 0 ca] 133)).alloc (.cells #[.bool false, .int .i64 0, .int .i64 0, .int .u64 0, .int .u64 0, .int .i64 0, .int .u64 0, .int .u64 0] 62)).heap.size := Blk.lt nd.res
  go_enter Tryz.func108, Tryz.ntmps108
  go_upto_region 1 with fail
  generalize ((w.alloc (.cells #[.int .i64 base, .int .i64 n] 91)).alloc (.cells #[.int .i64 3, .int .u64 V, .slice a 0 ca] 133)).alloc (.cells #[.bool false, .int .i64 0, .int .i64 0, .int .u64 0, .int .u64 0, .int .i64 0, .int .u64 0, .int .u64 0] 62) = wr at nd hsz ⊢
  have HND := hide nd
  have HO := hide nd.only
  have RB := hide nd.res
  have r0 : wr.cell? ⟨w.heap.size, 0, none⟩ = some (.int .i64 base) := nd.deq.cellv rfl
  have r1 : wr.cell? ⟨w.heap.size, 1, none⟩ = some (.int .i64 n) := nd.deq.cellv rfl
  have p0 : wr.cell? ⟨w.heap.size + 1, 0, none⟩ = some (.int .i64 3) := nd.op.cellv rfl
  have p1 : wr.cell? ⟨w.heap.size + 1, 1, none⟩ = some (.int .u64 V) := nd.op.cellv rfl
  have p2 : wr.cell? ⟨w.heap.size + 1, 2, none⟩ = some (.slice a 0 ca) := nd.op.cellv rfl
  clear nd
  have z0 : wr.cell? ⟨w.heap.size + 1 + 1, 0, none⟩ = some (.bool false) := RB.out.cellv rfl
  have y0 := RB.out.frozen 0
  have z1 : wr.cell? ⟨w.heap.size + 1 + 1, 1, none⟩ = some (.int .i64 0) := RB.out.cellv rfl
  have y1 := RB.out.frozen 1
  have z2 : wr.cell? ⟨w.heap.size + 1 + 1, 2, none⟩ = some (.int .i64 0) := RB.out.cellv rfl
  have y2 := RB.out.frozen 2
  have z3 : wr.cell? ⟨w.heap.size + 1 + 1, 3, none⟩ = some (.int .u64 0) := RB.out.cellv rfl
  have y3 := RB.out.frozen 3
  have z4 : wr.cell? ⟨w.heap.size + 1 + 1, 4, none⟩ = some (.int .u64 0) := RB.out.cellv rfl
  have y4 := RB.out.frozen 4
  have z5 : wr.cell? ⟨w.heap.size + 1 + 1, 5, none⟩ = some (.int .i64 0) := RB.out.cellv rfl
  have y5 := RB.out.frozen 5
  have z6 : wr.cell? ⟨w.heap.size + 1 + 1, 6, none⟩ = some (.int .u64 0) := RB.out.cellv rfl
  have y6 := RB.out.frozen 6
  have z7 : wr.cell? ⟨w.heap.size + 1 + 1, 7, none⟩ = some (.int .u64 0) := RB.out.cellv rfl
  have y7 := RB.out.frozen 7
  go_wp2_with fail
  go_quiet (fail)
  go_wp2_with fail
  refine (rload_any base _).mono ?_
  rintro e w2 ⟨rfl, o2⟩
  have HO2 := hide ((HO.out.drewN nq).trans o2)
  have RB2 := hide ((RB.out.drewN nq).only o2 (fun h => h))
  clear o2 z0 y0 z1 y1 z2 y2 z3 y3 z4 y4 z5 y5 z6 y6 z7 y7
  have z0 : w2.cell? ⟨w.heap.size + 1 + 1, 0, none⟩ = some (.bool false) := RB2.out.cellv rfl
  have y0 := RB2.out.frozen 0
  have z1 : w2.cell? ⟨w.heap.size + 1 + 1, 1, none⟩ = some (.int .i64 0) := RB2.out.cellv rfl
  have y1 := RB2.out.frozen 1
  have z2 : w2.cell? ⟨w.heap.size + 1 + 1, 2, none⟩ = some (.int .i64 0) := RB2.out.cellv rfl
  have y2 := RB2.out.frozen 2
  have z3 : w2.cell? ⟨w.heap.size + 1 + 1, 3, none⟩ = some (.int .u64 0) := RB2.out.cellv rfl
  have y3 := RB2.out.frozen 3
  have z4 : w2.cell? ⟨w.heap.size + 1 + 1, 4, none⟩ = some (.int .u64 0) := RB2.out.cellv rfl
  have y4 := RB2.out.frozen 4
  have z5 : w2.cell? ⟨w.heap.size + 1 + 1, 5, none⟩ = some (.int .i64 0) := RB2.out.cellv rfl
  have y5 := RB2.out.frozen 5
  have z6 : w2.cell? ⟨w.heap.size + 1 + 1, 6, none⟩ = some (.int .u64 0) := RB2.out.cellv rfl
  have y6 := RB2.out.frozen 6
  have z7 : w2.cell? ⟨w.heap.size + 1 + 1, 7, none⟩ = some (.int .u64 0) := RB2.out.cellv rfl
  have y7 := RB2.out.frozen 7
  unfold gwV
  go_wp2_with fail
  (try simp only [Exit.inBlock, Exit.then])
  refine bodyPost_ret (by simp [results, Tryz.results108, go_sem, z0, z1, z2, z3, z4, z5, z6, z7]; try rfl) rfl ?_
  refine ⟨rfl, ?_⟩
  repeat (first | with_reducible exact HO2.out | (with_reducible refine Only.setNew ?_ _ ?_ _; rotate_left 1; omega) | with_reducible refine Only.drew ?_ | with_reducible refine Only.drewN ?_ _ | with_reducible refine Only.alloc ?_ _)

set_option maxRecDepth 100000 in
set_option maxHeartbeats 2000000 in
theorem rsteal_c1 (t : Int) (hl : Rd w lv (([t] : List Int).map (.int .u64))) (b0 : 0 ≤ base) (b1 : base ≤ 70000) (n1 : 1 ≤ n) (n64 : n ≤ 64) (ut : U64 t)  :
    Calls Tryz.prog 108 #[.agg #[.int .i64 base, .int .i64 n], .agg #[.int .i64 3, .int .u64 V, lv]] w fun e w' => e = .returned (gwV (wLoad (base + 1))) ∧ Only S0 w w' := by
  obtain ⟨a, ca, rfl, ha⟩ := hl
  obtain ⟨g, off, rfl, hg, hc⟩ := ha (by simp)
  rw [show (([t] : List Int).map (Value.int .u64)).length = 1 from rfl] at *
  have nd := nd_new w base n 3 V (.slice (some ⟨g, off, none⟩) 1 ca)
  have e0 := (nd.only.cell (p := ⟨g, off + 0, none⟩) hg (fun h => h)).trans (hc 0 (.int .u64 t) rfl)
  rw [Nat.add_zero] at e0
  have hg3 := Nat.lt_of_lt_of_le hg nd.only.size
  clear hc ha hg
  have hsz : w.heap.size + 1 + 1 < (((w.alloc (.cells #[.int .i64 base, .int .i64 n] 91)).alloc (.cells #[.int .i64 3, .int .u64 V, .slice (some ⟨g, off, none⟩) 1 ca] 133)).alloc (.cells #[.bool false, .int .i64 0, .int .i64 0, .int .u64 0, .int .u64 0, .int .i64 0, .int .u64 0, .int .u64 0] 62)).heap.size := Blk.lt nd.res
  go_enter Tryz.func108, Tryz.ntmps108
  go_upto_region 1 with fail
  generalize ((w.alloc (.cells #[.int .i64 base, .int .i64 n] 91)).alloc (.cells #[.int .i64 3, .int .u64 V, .slice (some ⟨g, off, none⟩) 1 ca] 133)).alloc (.cells #[.bool false, .int .i64 0, .int .i64 0, .int .u64 0, .int .u64 0, .int .i64 0, .int .u64 0, .int .u64 0] 62) = wr at nd hsz hg3 e0 ⊢
  have HND := hide nd
  have HO := hide nd.only
  have RB := hide nd.res
  have r0 : wr.cell? ⟨w.heap.size, 0, none⟩ = some (.int .i64 base) := nd.deq.cellv rfl
  have r1 : wr.cell? ⟨w.heap.size, 1, none⟩ = some (.int .i64 n) := nd.deq.cellv rfl
  have p0 : wr.cell? ⟨w.heap.size + 1, 0, none⟩ = some (.int .i64 3) := nd.op.cellv rfl
  have p1 : wr.cell? ⟨w.heap.size + 1, 1, none⟩ = some (.int .u64 V) := nd.op.cellv rfl
  have p2 : wr.cell? ⟨w.heap.size + 1, 2, none⟩ = some (.slice (some ⟨g, off, none⟩) 1 ca) := nd.op.cellv rfl
  clear nd
  have z0 : wr.cell? ⟨w.heap.size + 1 + 1, 0, none⟩ = some (.bool false) := RB.out.cellv rfl
  have y0 := RB.out.frozen 0
  have z1 : wr.cell? ⟨w.heap.size + 1 + 1, 1, none⟩ = some (.int .i64 0) := RB.out.cellv rfl
  have y1 := RB.out.frozen 1
  have z2 : wr.cell? ⟨w.heap.size + 1 + 1, 2, none⟩ = some (.int .i64 0) := RB.out.cellv rfl
  have y2 := RB.out.frozen 2
  have z3 : wr.cell? ⟨w.heap.size + 1 + 1, 3, none⟩ = some (.int .u64 0) := RB.out.cellv rfl
  have y3 := RB.out.frozen 3
  have z4 : wr.cell? ⟨w.heap.size + 1 + 1, 4, none⟩ = some (.int .u64 0) := RB.out.cellv rfl
  have y4 := RB.out.frozen 4
  have z5 : wr.cell? ⟨w.heap.size + 1 + 1, 5, none⟩ = some (.int .i64 0) := RB.out.cellv rfl
  have y5 := RB.out.frozen 5
  have z6 : wr.cell? ⟨w.heap.size + 1 + 1, 6, none⟩ = some (.int .u64 0) := RB.out.cellv rfl
  have y6 := RB.out.frozen 6
  have z7 : wr.cell? ⟨w.heap.size + 1 + 1, 7, none⟩ = some (.int .u64 0) := RB.out.cellv rfl
  have y7 := RB.out.frozen 7
  go_wp2_with fail
  go_quiet (fail)
  have hwb : IntKind.i64.wrap (base + 1) = base + 1 := IntWalk.i64_in _ (by omega)
  go_wp2_with fail
  refine (rload_any (base + 1) _).mono ?_
  rintro e w2 ⟨rfl, o2⟩
  have HO2 := hide ((HO.out.drewN nq).trans o2)
  have RB2 := hide ((RB.out.drewN nq).only o2 (fun h => h))
  clear o2 z0 y0 z1 y1 z2 y2 z3 y3 z4 y4 z5 y5 z6 y6 z7 y7
  have z0 : w2.cell? ⟨w.heap.size + 1 + 1, 0, none⟩ = some (.bool false) := RB2.out.cellv rfl
  have y0 := RB2.out.frozen 0
  have z1 : w2.cell? ⟨w.heap.size + 1 + 1, 1, none⟩ = some (.int .i64 0) := RB2.out.cellv rfl
  have y1 := RB2.out.frozen 1
  have z2 : w2.cell? ⟨w.heap.size + 1 + 1, 2, none⟩ = some (.int .i64 0) := RB2.out.cellv rfl
  have y2 := RB2.out.frozen 2
  have z3 : w2.cell? ⟨w.heap.size + 1 + 1, 3, none⟩ = some (.int .u64 0) := RB2.out.cellv rfl
  have y3 := RB2.out.frozen 3
  have z4 : w2.cell? ⟨w.heap.size + 1 + 1, 4, none⟩ = some (.int .u64 0) := RB2.out.cellv rfl
  have y4 := RB2.out.frozen 4
  have z5 : w2.cell? ⟨w.heap.size + 1 + 1, 5, none⟩ = some (.int .i64 0) := RB2.out.cellv rfl
  have y5 := RB2.out.frozen 5
  have z6 : w2.cell? ⟨w.heap.size + 1 + 1, 6, none⟩ = some (.int .u64 0) := RB2.out.cellv rfl
  have y6 := RB2.out.frozen 6
  have z7 : w2.cell? ⟨w.heap.size + 1 + 1, 7, none⟩ = some (.int .u64 0) := RB2.out.cellv rfl
  have y7 := RB2.out.frozen 7
  unfold gwV
  go_wp2_with fail
  (try simp only [Exit.inBlock, Exit.then])
  refine bodyPost_ret (by simp [results, Tryz.results108, go_sem, z0, z1, z2, z3, z4, z5, z6, z7]; try rfl) rfl ?_
  refine ⟨rfl, ?_⟩
  repeat (first | with_reducible exact HO2.out | (with_reducible refine Only.setNew ?_ _ ?_ _; rotate_left 1; omega) | with_reducible refine Only.drew ?_ | with_reducible refine Only.drewN ?_ _ | with_reducible refine Only.alloc ?_ _)

set_option maxRecDepth 100000 in
set_option maxHeartbeats 2000000 in
theorem rsteal_c2n (t b : Int) (hl : Rd w lv (([t, b] : List Int).map (.int .u64))) (b0 : 0 ≤ base) (b1 : base ≤ 70000) (n1 : 1 ≤ n) (n64 : n ≤ 64) (ut : U64 t) (ub : U64 b) (h : b ≤ t) :
    Calls Tryz.prog 108 #[.agg #[.int .i64 base, .int .i64 n], .agg #[.int .i64 3, .int .u64 V, lv]] w fun e w' => e = .returned (gwV (wOver 4 0)) ∧ Only S0 w w' := by
  obtain ⟨a, ca, rfl, ha⟩ := hl
  obtain ⟨g, off, rfl, hg, hc⟩ := ha (by simp)
  rw [show (([t, b] : List Int).map (Value.int .u64)).length = 2 from rfl] at *
  have nd := nd_new w base n 3 V (.slice (some ⟨g, off, none⟩) 2 ca)
  have e0 := (nd.only.cell (p := ⟨g, off + 0, none⟩) hg (fun h => h)).trans (hc 0 (.int .u64 t) rfl)
  have e1 := (nd.only.cell (p := ⟨g, off + 1, none⟩) hg (fun h => h)).trans (hc 1 (.int .u64 b) rfl)
  rw [Nat.add_zero] at e0
  have hg3 := Nat.lt_of_lt_of_le hg nd.only.size
  clear hc ha hg
  have hsz : w.heap.size + 1 + 1 < (((w.alloc (.cells #[.int .i64 base, .int .i64 n] 91)).alloc (.cells #[.int .i64 3, .int .u64 V, .slice (some ⟨g, off, none⟩) 2 ca] 133)).alloc (.cells #[.bool false, .int .i64 0, .int .i64 0, .int .u64 0, .int .u64 0, .int .i64 0, .int .u64 0, .int .u64 0] 62)).heap.size := Blk.lt nd.res
  go_enter Tryz.func108, Tryz.ntmps108
  go_upto_region 1 with fail
  generalize ((w.alloc (.cells #[.int .i64 base, .int .i64 n] 91)).alloc (.cells #[.int .i64 3, .int .u64 V, .slice (some ⟨g, off, none⟩) 2 ca] 133)).alloc (.cells #[.bool false, .int .i64 0, .int .i64 0, .int .u64 0, .int .u64 0, .int .i64 0, .int .u64 0, .int .u64 0] 62) = wr at nd hsz hg3 e0 e1 ⊢
  have HND := hide nd
  have HO := hide nd.only
  have RB := hide nd.res
  have r0 : wr.cell? ⟨w.heap.size, 0, none⟩ = some (.int .i64 base) := nd.deq.cellv rfl
  have r1 : wr.cell? ⟨w.heap.size, 1, none⟩ = some (.int .i64 n) := nd.deq.cellv rfl
  have p0 : wr.cell? ⟨w.heap.size + 1, 0, none⟩ = some (.int .i64 3) := nd.op.cellv rfl
  have p1 : wr.cell? ⟨w.heap.size + 1, 1, none⟩ = some (.int .u64 V) := nd.op.cellv rfl
  have p2 : wr.cell? ⟨w.heap.size + 1, 2, none⟩ = some (.slice (some ⟨g, off, none⟩) 2 ca) := nd.op.cellv rfl
  clear nd
  have z0 : wr.cell? ⟨w.heap.size + 1 + 1, 0, none⟩ = some (.bool false) := RB.out.cellv rfl
  have y0 := RB.out.frozen 0
  have z1 : wr.cell? ⟨w.heap.size + 1 + 1, 1, none⟩ = some (.int .i64 0) := RB.out.cellv rfl
  have y1 := RB.out.frozen 1
  have z2 : wr.cell? ⟨w.heap.size + 1 + 1, 2, none⟩ = some (.int .i64 0) := RB.out.cellv rfl
  have y2 := RB.out.frozen 2
  have z3 : wr.cell? ⟨w.heap.size + 1 + 1, 3, none⟩ = some (.int .u64 0) := RB.out.cellv rfl
  have y3 := RB.out.frozen 3
  have z4 : wr.cell? ⟨w.heap.size + 1 + 1, 4, none⟩ = some (.int .u64 0) := RB.out.cellv rfl
  have y4 := RB.out.frozen 4
  have z5 : wr.cell? ⟨w.heap.size + 1 + 1, 5, none⟩ = some (.int .i64 0) := RB.out.cellv rfl
  have y5 := RB.out.frozen 5
  have z6 : wr.cell? ⟨w.heap.size + 1 + 1, 6, none⟩ = some (.int .u64 0) := RB.out.cellv rfl
  have y6 := RB.out.frozen 6
  have z7 : wr.cell? ⟨w.heap.size + 1 + 1, 7, none⟩ = some (.int .u64 0) := RB.out.cellv rfl
  have y7 := RB.out.frozen 7
  go_wp2_with fail
  go_quiet (fail)
  go_wp2_with fail
  refine (rover_any 4 0 _).mono ?_
  rintro e w2 ⟨rfl, o2⟩
  have HO2 := hide ((HO.out.drewN nq).trans o2)
  have RB2 := hide ((RB.out.drewN nq).only o2 (fun h => h))
  clear o2 z0 y0 z1 y1 z2 y2 z3 y3 z4 y4 z5 y5 z6 y6 z7 y7
  have z0 : w2.cell? ⟨w.heap.size + 1 + 1, 0, none⟩ = some (.bool false) := RB2.out.cellv rfl
  have y0 := RB2.out.frozen 0
  have z1 : w2.cell? ⟨w.heap.size + 1 + 1, 1, none⟩ = some (.int .i64 0) := RB2.out.cellv rfl
  have y1 := RB2.out.frozen 1
  have z2 : w2.cell? ⟨w.heap.size + 1 + 1, 2, none⟩ = some (.int .i64 0) := RB2.out.cellv rfl
  have y2 := RB2.out.frozen 2
  have z3 : w2.cell? ⟨w.heap.size + 1 + 1, 3, none⟩ = some (.int .u64 0) := RB2.out.cellv rfl
  have y3 := RB2.out.frozen 3
  have z4 : w2.cell? ⟨w.heap.size + 1 + 1, 4, none⟩ = some (.int .u64 0) := RB2.out.cellv rfl
  have y4 := RB2.out.frozen 4
  have z5 : w2.cell? ⟨w.heap.size + 1 + 1, 5, none⟩ = some (.int .i64 0) := RB2.out.cellv rfl
  have y5 := RB2.out.frozen 5
  have z6 : w2.cell? ⟨w.heap.size + 1 + 1, 6, none⟩ = some (.int .u64 0) := RB2.out.cellv rfl
  have y6 := RB2.out.frozen 6
  have z7 : w2.cell? ⟨w.heap.size + 1 + 1, 7, none⟩ = some (.int .u64 0) := RB2.out.cellv rfl
  have y7 := RB2.out.frozen 7
  unfold gwV
  go_wp2_with fail
  (try simp only [Exit.inBlock, Exit.then])
  refine bodyPost_ret (by simp [results, Tryz.results108, go_sem, z0, z1, z2, z3, z4, z5, z6, z7]; try rfl) rfl ?_
  refine ⟨rfl, ?_⟩
  repeat (first | with_reducible exact HO2.out | (with_reducible refine Only.setNew ?_ _ ?_ _; rotate_left 1; omega) | with_reducible refine Only.drew ?_ | with_reducible refine Only.drewN ?_ _ | with_reducible refine Only.alloc ?_ _)

set_option maxRecDepth 100000 in
set_option maxHeartbeats 2000000 in
theorem rsteal_c2 (t b : Int) (hl : Rd w lv (([t, b] : List Int).map (.int .u64))) (b0 : 0 ≤ base) (b1 : base ≤ 70000) (n1 : 1 ≤ n) (n64 : n ≤ 64) (ut : U64 t) (ub : U64 b) (h : ¬ b ≤ t) :
    Calls Tryz.prog 108 #[.agg #[.int .i64 base, .int .i64 n], .agg #[.int .i64 3, .int .u64 V, lv]] w fun e w' => e = .returned (gwV (wLoad (dslotOf base n t))) ∧ Only S0 w w' := by
  obtain ⟨a, ca, rfl, ha⟩ := hl
  obtain ⟨g, off, rfl, hg, hc⟩ := ha (by simp)
  rw [show (([t, b] : List Int).map (Value.int .u64)).length = 2 from rfl] at *
  have nd := nd_new w base n 3 V (.slice (some ⟨g, off, none⟩) 2 ca)
  have e0 := (nd.only.cell (p := ⟨g, off + 0, none⟩) hg (fun h => h)).trans (hc 0 (.int .u64 t) rfl)
  have e1 := (nd.only.cell (p := ⟨g, off + 1, none⟩) hg (fun h => h)).trans (hc 1 (.int .u64 b) rfl)
  rw [Nat.add_zero] at e0
  have hg3 := Nat.lt_of_lt_of_le hg nd.only.size
  clear hc ha hg
  have hsz : w.heap.size + 1 + 1 < (((w.alloc (.cells #[.int .i64 base, .int .i64 n] 91)).alloc (.cells #[.int .i64 3, .int .u64 V, .slice (some ⟨g, off, none⟩) 2 ca] 133)).alloc (.cells #[.bool false, .int .i64 0, .int .i64 0, .int .u64 0, .int .u64 0, .int .i64 0, .int .u64 0, .int .u64 0] 62)).heap.size := Blk.lt nd.res
  go_enter Tryz.func108, Tryz.ntmps108
  go_upto_region 1 with fail
  generalize ((w.alloc (.cells #[.int .i64 base, .int .i64 n] 91)).alloc (.cells #[.int .i64 3, .int .u64 V, .slice (some ⟨g, off, none⟩) 2 ca] 133)).alloc (.cells #[.bool false, .int .i64 0, .int .i64 0, .int .u64 0, .int .u64 0, .int .i64 0, .int .u64 0, .int .u64 0] 62) = wr at nd hsz hg3 e0 e1 ⊢
  have HND := hide nd
  have HO := hide nd.only
  have RB := hide nd.res
  have r0 : wr.cell? ⟨w.heap.size, 0, none⟩ = some (.int .i64 base) := nd.deq.cellv rfl
  have r1 : wr.cell? ⟨w.heap.size, 1, none⟩ = some (.int .i64 n) := nd.deq.cellv rfl
  have p0 : wr.cell? ⟨w.heap.size + 1, 0, none⟩ = some (.int .i64 3) := nd.op.cellv rfl
  have p1 : wr.cell? ⟨w.heap.size + 1, 1, none⟩ = some (.int .u64 V) := nd.op.cellv rfl
  have p2 : wr.cell? ⟨w.heap.size + 1, 2, none⟩ = some (.slice (some ⟨g, off, none⟩) 2 ca) := nd.op.cellv rfl
  clear nd
  have z0 : wr.cell? ⟨w.heap.size + 1 + 1, 0, none⟩ = some (.bool false) := RB.out.cellv rfl
  have y0 := RB.out.frozen 0
  have z1 : wr.cell? ⟨w.heap.size + 1 + 1, 1, none⟩ = some (.int .i64 0) := RB.out.cellv rfl
  have y1 := RB.out.frozen 1
  have z2 : wr.cell? ⟨w.heap.size + 1 + 1, 2, none⟩ = some (.int .i64 0) := RB.out.cellv rfl
  have y2 := RB.out.frozen 2
  have z3 : wr.cell? ⟨w.heap.size + 1 + 1, 3, none⟩ = some (.int .u64 0) := RB.out.cellv rfl
  have y3 := RB.out.frozen 3
  have z4 : wr.cell? ⟨w.heap.size + 1 + 1, 4, none⟩ = some (.int .u64 0) := RB.out.cellv rfl
  have y4 := RB.out.frozen 4
  have z5 : wr.cell? ⟨w.heap.size + 1 + 1, 5, none⟩ = some (.int .i64 0) := RB.out.cellv rfl
  have y5 := RB.out.frozen 5
  have z6 : wr.cell? ⟨w.heap.size + 1 + 1, 6, none⟩ = some (.int .u64 0) := RB.out.cellv rfl
  have y6 := RB.out.frozen 6
  have z7 : wr.cell? ⟨w.heap.size + 1 + 1, 7, none⟩ = some (.int .u64 0) := RB.out.cellv rfl
  have y7 := RB.out.frozen 7
  go_wp2_with fail
  go_quiet (fail)
  go_wp2_with fail
  refine wp_region_last 6 (fun w' : World => w'.cell? ⟨w.heap.size, 0, none⟩ = some (.int .i64 base) ∧ w'.cell? ⟨w.heap.size, 1, none⟩ = some (.int .i64 n) ∧ w'.cell? ⟨g, off, none⟩ = some (.int .u64 t) ∧ w'.cell? ⟨w.heap.size + 1, 1, none⟩ = some (.int .u64 V)) (by kernel_rfl) ?_
  generalize hwd : (wr.drewN nq).drew = wd
  have NDD := hide (show ND w wd w.heap.size (w.heap.size + 1) (w.heap.size + 1 + 1) base n _ V _ from by rw [← hwd]; exact ⟨HND.out.deq.drew, HND.out.op.drew, HND.out.res.drew, (HND.out.only.drewN nq).drew⟩)
  have eD : wd.cell? ⟨g, off, none⟩ = some (.int .u64 t) := by rw [← hwd]; exact e0
  have gD : g < wd.heap.size := by rw [← hwd]; exact hg3
  clear hwd
  have kk0 : (fun w' : World => w'.cell? ⟨w.heap.size, 0, none⟩ = some (.int .i64 base) ∧ w'.cell? ⟨w.heap.size, 1, none⟩ = some (.int .i64 n) ∧ w'.cell? ⟨g, off, none⟩ = some (.int .u64 t) ∧ w'.cell? ⟨w.heap.size + 1, 1, none⟩ = some (.int .u64 V)) wd := ⟨NDD.out.deq.cellv rfl, NDD.out.deq.cellv rfl, eD, NDD.out.op.cellv rfl⟩
  refine wpLast_take (i := 0) (oi := ⟨some 36, _, _, _, _, _⟩) (v := ?vv36x0) rfl (by kernel_rfl) (by kernel_rfl) (by kernel_rfl) (by kernel_rfl) (by decide) (fun _ _ _ h => h) (Or.inl ⟨by rfl, ?hy36x0⟩) (by assumption) ?rest36x0
  case hy36x0 => intro wq hSw; (try dsimp only at hSw); go_simp; (try with_reducible rfl)
  (try simp only [Act.put, List.setIfInBounds_toArray, List.set_cons_zero, List.set_cons_succ])
  refine wpLast_take (i := 1) (oi := ⟨some 37, _, _, _, _, _⟩) (v := ?vv36x1) rfl (by kernel_rfl) (by kernel_rfl) (by kernel_rfl) (by kernel_rfl) (by decide) (fun _ _ _ h => h) (Or.inl ⟨by rfl, ?hy36x1⟩) (by assumption) ?rest36x1
  case hy36x1 => intro wq hSw; (try dsimp only at hSw); go_simp; (try with_reducible rfl)
  (try simp only [Act.put, List.setIfInBounds_toArray, List.set_cons_zero, List.set_cons_succ])
  refine wpLast_take (i := 2) (oi := ⟨some 38, _, _, _, _, _⟩) (v := ?vv36x2) rfl (by kernel_rfl) (by kernel_rfl) (by kernel_rfl) (by kernel_rfl) (by decide) (fun _ _ _ h => h) (Or.inl ⟨by rfl, ?hy36x2⟩) (by assumption) ?rest36x2
  case hy36x2 => intro wq hSw; (try dsimp only at hSw); go_simp; (try with_reducible rfl)
  (try simp only [Act.put, List.setIfInBounds_toArray, List.set_cons_zero, List.set_cons_succ])
  refine wpLast_take (i := 3) (oi := ⟨some 39, _, _, _, _, _⟩) (v := ?vv36x3) rfl (by kernel_rfl) (by kernel_rfl) (by kernel_rfl) (by kernel_rfl) (by decide) (fun _ _ _ h => h) (Or.inl ⟨by rfl, ?hy36x3⟩) (by assumption) ?rest36x3
  case hy36x3 => intro wq hSw; (try dsimp only at hSw); go_simp; (try with_reducible rfl)
  (try simp only [Act.put, List.setIfInBounds_toArray, List.set_cons_zero, List.set_cons_succ])
  refine wpLast_one (i := 4) (o := ⟨some 40, _, _, _, _, _⟩) (by kernel_rfl) rfl (fun K hK => ?_)
  go_simp
  refine (rslot_any t ut b0 b1 n1 n64 _).mono ?_
  rintro e wq1 ⟨rfl, o2⟩
  have NDD1 := hide (show ND w wq1 w.heap.size (w.heap.size + 1) (w.heap.size + 1 + 1) base n _ V _ from ⟨NDD.out.deq.only o2 (fun h => h), NDD.out.op.only o2 (fun h => h), NDD.out.res.only o2 (fun h => h), NDD.out.only.trans o2⟩)
  have eD1 : wq1.cell? ⟨g, off, none⟩ = some (.int .u64 t) := (o2.cell (p := ⟨g, off, none⟩) gD (fun h => h)).trans eD
  have gD1 : g < wq1.heap.size := Nat.lt_of_lt_of_le gD o2.size
  have kk1 : (fun w' : World => w'.cell? ⟨w.heap.size, 0, none⟩ = some (.int .i64 base) ∧ w'.cell? ⟨w.heap.size, 1, none⟩ = some (.int .i64 n) ∧ w'.cell? ⟨g, off, none⟩ = some (.int .u64 t) ∧ w'.cell? ⟨w.heap.size + 1, 1, none⟩ = some (.int .u64 V)) wq1 := ⟨NDD1.out.deq.cellv rfl, NDD1.out.deq.cellv rfl, eD1, NDD1.out.op.cellv rfl⟩
  clear o2
  refine hK.out _ _ (fun _ => kk1) ?_
  clear hK K
  (try simp only [Act.put, List.setIfInBounds_toArray, List.set_cons_zero, List.set_cons_succ])
  refine wpLast_one (i := 5) (o := ⟨some 41, _, _, _, _, _⟩) (by kernel_rfl) rfl (fun K hK => ?_)
  go_simp
  refine (rload_any _ _).mono ?_
  rintro e wq2 ⟨rfl, o2⟩
  have NDD2 := hide (show ND w wq2 w.heap.size (w.heap.size + 1) (w.heap.size + 1 + 1) base n _ V _ from ⟨NDD1.out.deq.only o2 (fun h => h), NDD1.out.op.only o2 (fun h => h), NDD1.out.res.only o2 (fun h => h), NDD1.out.only.trans o2⟩)
  have eD2 : wq2.cell? ⟨g, off, none⟩ = some (.int .u64 t) := (o2.cell (p := ⟨g, off, none⟩) gD1 (fun h => h)).trans eD1
  have gD2 : g < wq2.heap.size := Nat.lt_of_lt_of_le gD1 o2.size
  have kk2 : (fun w' : World => w'.cell? ⟨w.heap.size, 0, none⟩ = some (.int .i64 base) ∧ w'.cell? ⟨w.heap.size, 1, none⟩ = some (.int .i64 n) ∧ w'.cell? ⟨g, off, none⟩ = some (.int .u64 t) ∧ w'.cell? ⟨w.heap.size + 1, 1, none⟩ = some (.int .u64 V)) wq2 := ⟨NDD2.out.deq.cellv rfl, NDD2.out.deq.cellv rfl, eD2, NDD2.out.op.cellv rfl⟩
  clear o2
  refine hK.out _ _ (fun _ => kk2) ?_
  clear hK K
  (try simp only [Act.put, List.setIfInBounds_toArray, List.set_cons_zero, List.set_cons_succ])
  clear z0 y0 z1 y1 z2 y2 z3 y3 z4 y4 z5 y5 z6 y6 z7 y7
  have RB3 := hide NDD2.out.res
  have HO3 := hide NDD2.out.only
  have z0 : wq2.cell? ⟨w.heap.size + 1 + 1, 0, none⟩ = some (.bool false) := RB3.out.cellv rfl
  have y0 := RB3.out.frozen 0
  have z1 : wq2.cell? ⟨w.heap.size + 1 + 1, 1, none⟩ = some (.int .i64 0) := RB3.out.cellv rfl
  have y1 := RB3.out.frozen 1
  have z2 : wq2.cell? ⟨w.heap.size + 1 + 1, 2, none⟩ = some (.int .i64 0) := RB3.out.cellv rfl
  have y2 := RB3.out.frozen 2
  have z3 : wq2.cell? ⟨w.heap.size + 1 + 1, 3, none⟩ = some (.int .u64 0) := RB3.out.cellv rfl
  have y3 := RB3.out.frozen 3
  have z4 : wq2.cell? ⟨w.heap.size + 1 + 1, 4, none⟩ = some (.int .u64 0) := RB3.out.cellv rfl
  have y4 := RB3.out.frozen 4
  have z5 : wq2.cell? ⟨w.heap.size + 1 + 1, 5, none⟩ = some (.int .i64 0) := RB3.out.cellv rfl
  have y5 := RB3.out.frozen 5
  have z6 : wq2.cell? ⟨w.heap.size + 1 + 1, 6, none⟩ = some (.int .u64 0) := RB3.out.cellv rfl
  have y6 := RB3.out.frozen 6
  have z7 : wq2.cell? ⟨w.heap.size + 1 + 1, 7, none⟩ = some (.int .u64 0) := RB3.out.cellv rfl
  have y7 := RB3.out.frozen 7
  unfold gwV
  refine wpLast_one (i := 6) (o := ⟨none, _, _, _, _, _⟩) (by kernel_rfl) rfl (fun K hK => ?_)
  go_simp
  refine hK.out _ _ (fun h => absurd rfl h) ?_
  clear hK K
  (try simp only [Act.put, List.setIfInBounds_toArray, List.set_cons_zero, List.set_cons_succ])
  refine wpLast_done (by kernel_rfl) ?_ _
  go_wp2_with fail
  (try simp only [Exit.inBlock, Exit.then])
  refine bodyPost_ret (by simp [results, Tryz.results108, go_sem, z0, z1, z2, z3, z4, z5, z6, z7]; try rfl) rfl ?_
  refine ⟨rfl, ?_⟩
  repeat (first | with_reducible exact HO3.out | (with_reducible refine Only.setNew ?_ _ ?_ _; rotate_left 1; omega) | with_reducible refine Only.drew ?_ | with_reducible refine Only.drewN ?_ _ | with_reducible refine Only.alloc ?_ _)

set_option maxRecDepth 100000 in
set_option maxHeartbeats 2000000 in
theorem rsteal_c3 (t b v : Int) (hl : Rd w lv (([t, b, v] : List Int).map (.int .u64))) (b0 : 0 ≤ base) (b1 : base ≤ 70000) (n1 : 1 ≤ n) (n64 : n ≤ 64) (ut : U64 t) (ub : U64 b) (uv : U64 v) (h : ¬ b ≤ t) :
    Calls Tryz.prog 108 #[.agg #[.int .i64 base, .int .i64 n], .agg #[.int .i64 3, .int .u64 V, lv]] w fun e w' => e = .returned (gwV (wSwap base t (IntKind.u64.wrap (t + 1)))) ∧ Only S0 w w' := by
  obtain ⟨a, ca, rfl, ha⟩ := hl
  obtain ⟨g, off, rfl, hg, hc⟩ := ha (by simp)
  rw [show (([t, b, v] : List Int).map (Value.int .u64)).length = 3 from rfl] at *
  have nd := nd_new w base n 3 V (.slice (some ⟨g, off, none⟩) 3 ca)
  have e0 := (nd.only.cell (p := ⟨g, off + 0, none⟩) hg (fun h => h)).trans (hc 0 (.int .u64 t) rfl)
  have e1 := (nd.only.cell (p := ⟨g, off + 1, none⟩) hg (fun h => h)).trans (hc 1 (.int .u64 b) rfl)
  have e2 := (nd.only.cell (p := ⟨g, off + 2, none⟩) hg (fun h => h)).trans (hc 2 (.int .u64 v) rfl)
  rw [Nat.add_zero] at e0
  have hg3 := Nat.lt_of_lt_of_le hg nd.only.size
  clear hc ha hg
  have hsz : w.heap.size + 1 + 1 < (((w.alloc (.cells #[.int .i64 base, .int .i64 n] 91)).alloc (.cells #[.int .i64 3, .int .u64 V, .slice (some ⟨g, off, none⟩) 3 ca] 133)).alloc (.cells #[.bool false, .int .i64 0, .int .i64 0, .int .u64 0, .int .u64 0, .int .i64 0, .int .u64 0, .int .u64 0] 62)).heap.size := Blk.lt nd.res
  go_enter Tryz.func108, Tryz.ntmps108
  go_upto_region 1 with fail
  generalize ((w.alloc (.cells #[.int .i64 base, .int .i64 n] 91)).alloc (.cells #[.int .i64 3, .int .u64 V, .slice (some ⟨g, off, none⟩) 3 ca] 133)).alloc (.cells #[.bool false, .int .i64 0, .int .i64 0, .int .u64 0, .int .u64 0, .int .i64 0, .int .u64 0, .int .u64 0] 62) = wr at nd hsz hg3 e0 e1 e2 ⊢
  have HND := hide nd
  have HO := hide nd.only
  have RB := hide nd.res
  have r0 : wr.cell? ⟨w.heap.size, 0, none⟩ = some (.int .i64 base) := nd.deq.cellv rfl
  have r1 : wr.cell? ⟨w.heap.size, 1, none⟩ = some (.int .i64 n) := nd.deq.cellv rfl
  have p0 : wr.cell? ⟨w.heap.size + 1, 0, none⟩ = some (.int .i64 3) := nd.op.cellv rfl
  have p1 : wr.cell? ⟨w.heap.size + 1, 1, none⟩ = some (.int .u64 V) := nd.op.cellv rfl
  have p2 : wr.cell? ⟨w.heap.size + 1, 2, none⟩ = some (.slice (some ⟨g, off, none⟩) 3 ca) := nd.op.cellv rfl
  clear nd
  have z0 : wr.cell? ⟨w.heap.size + 1 + 1, 0, none⟩ = some (.bool false) := RB.out.cellv rfl
  have y0 := RB.out.frozen 0
  have z1 : wr.cell? ⟨w.heap.size + 1 + 1, 1, none⟩ = some (.int .i64 0) := RB.out.cellv rfl
  have y1 := RB.out.frozen 1
  have z2 : wr.cell? ⟨w.heap.size + 1 + 1, 2, none⟩ = some (.int .i64 0) := RB.out.cellv rfl
  have y2 := RB.out.frozen 2
  have z3 : wr.cell? ⟨w.heap.size + 1 + 1, 3, none⟩ = some (.int .u64 0) := RB.out.cellv rfl
  have y3 := RB.out.frozen 3
  have z4 : wr.cell? ⟨w.heap.size + 1 + 1, 4, none⟩ = some (.int .u64 0) := RB.out.cellv rfl
  have y4 := RB.out.frozen 4
  have z5 : wr.cell? ⟨w.heap.size + 1 + 1, 5, none⟩ = some (.int .i64 0) := RB.out.cellv rfl
  have y5 := RB.out.frozen 5
  have z6 : wr.cell? ⟨w.heap.size + 1 + 1, 6, none⟩ = some (.int .u64 0) := RB.out.cellv rfl
  have y6 := RB.out.frozen 6
  have z7 : wr.cell? ⟨w.heap.size + 1 + 1, 7, none⟩ = some (.int .u64 0) := RB.out.cellv rfl
  have y7 := RB.out.frozen 7
  go_wp2_with fail
  go_quiet (fail)
  go_wp2_with fail
  go_region
  go_wp2_with fail
  (try simp only [Exit.inBlock, Exit.then])
  refine bodyPost_ret (by simp [results, Tryz.results108, go_sem, z0, z1, z2, z3, z4, z5, z6, z7]; try rfl) rfl ?_
  refine ⟨rfl, ?_⟩
  repeat (first | with_reducible exact HO.out | (with_reducible refine Only.setNew ?_ _ ?_ _; rotate_left 1; omega) | with_reducible refine Only.drew ?_ | with_reducible refine Only.drewN ?_ _ | with_reducible refine Only.alloc ?_ _)

set_option maxRecDepth 100000 in
set_option maxHeartbeats 2000000 in
theorem rsteal_c4w (t b v s : Int) (hl : Rd w lv (([t, b, v, s] : List Int).map (.int .u64))) (b0 : 0 ≤ base) (b1 : base ≤ 70000) (n1 : 1 ≤ n) (n64 : n ≤ 64) (ut : U64 t) (ub : U64 b) (uv : U64 v) (us : U64 s) (h : ¬ b ≤ t) (hs : s = 1) :
    Calls Tryz.prog 108 #[.agg #[.int .i64 base, .int .i64 n], .agg #[.int .i64 3, .int .u64 V, lv]] w fun e w' => e = .returned (gwV (wOver 1 v)) ∧ Only S0 w w' := by
  obtain ⟨a, ca, rfl, ha⟩ := hl
  obtain ⟨g, off, rfl, hg, hc⟩ := ha (by simp)
  rw [show (([t, b, v, s] : List Int).map (Value.int .u64)).length = 4 from rfl] at *
  have nd := nd_new w base n 3 V (.slice (some ⟨g, off, none⟩) 4 ca)
  have e0 := (nd.only.cell (p := ⟨g, off + 0, none⟩) hg (fun h => h)).trans (hc 0 (.int .u64 t) rfl)
  have e1 := (nd.only.cell (p := ⟨g, off + 1, none⟩) hg (fun h => h)).trans (hc 1 (.int .u64 b) rfl)
  have e2 := (nd.only.cell (p := ⟨g, off + 2, none⟩) hg (fun h => h)).trans (hc 2 (.int .u64 v) rfl)
  have e3 := (nd.only.cell (p := ⟨g, off + 3, none⟩) hg (fun h => h)).trans (hc 3 (.int .u64 s) rfl)
  rw [Nat.add_zero] at e0
  have hg3 := Nat.lt_of_lt_of_le hg nd.only.size
  clear hc ha hg
  have hsz : w.heap.size + 1 + 1 < (((w.alloc (.cells #[.int .i64 base, .int .i64 n] 91)).alloc (.cells #[.int .i64 3, .int .u64 V, .slice (some ⟨g, off, none⟩) 4 ca] 133)).alloc (.cells #[.bool false, .int .i64 0, .int .i64 0, .int .u64 0, .int .u64 0, .int .i64 0, .int .u64 0, .int .u64 0] 62)).heap.size := Blk.lt nd.res
  go_enter Tryz.func108, Tryz.ntmps108
  go_upto_region 1 with fail
  generalize ((w.alloc (.cells #[.int .i64 base, .int .i64 n] 91)).alloc (.cells #[.int .i64 3, .int .u64 V, .slice (some ⟨g, off, none⟩) 4 ca] 133)).alloc (.cells #[.bool false, .int .i64 0, .int .i64 0, .int .u64 0, .int .u64 0, .int .i64 0, .int .u64 0, .int .u64 0] 62) = wr at nd hsz hg3 e0 e1 e2 e3 ⊢
  have HND := hide nd
  have HO := hide nd.only
  have RB := hide nd.res
  have r0 : wr.cell? ⟨w.heap.size, 0, none⟩ = some (.int .i64 base) := nd.deq.cellv rfl
  have r1 : wr.cell? ⟨w.heap.size, 1, none⟩ = some (.int .i64 n) := nd.deq.cellv rfl
  have p0 : wr.cell? ⟨w.heap.size + 1, 0, none⟩ = some (.int .i64 3) := nd.op.cellv rfl
  have p1 : wr.cell? ⟨w.heap.size + 1, 1, none⟩ = some (.int .u64 V) := nd.op.cellv rfl
  have p2 : wr.cell? ⟨w.heap.size + 1, 2, none⟩ = some (.slice (some ⟨g, off, none⟩) 4 ca) := nd.op.cellv rfl
  clear nd
  have z0 : wr.cell? ⟨w.heap.size + 1 + 1, 0, none⟩ = some (.bool false) := RB.out.cellv rfl
  have y0 := RB.out.frozen 0
  have z1 : wr.cell? ⟨w.heap.size + 1 + 1, 1, none⟩ = some (.int .i64 0) := RB.out.cellv rfl
  have y1 := RB.out.frozen 1
  have z2 : wr.cell? ⟨w.heap.size + 1 + 1, 2, none⟩ = some (.int .i64 0) := RB.out.cellv rfl
  have y2 := RB.out.frozen 2
  have z3 : wr.cell? ⟨w.heap.size + 1 + 1, 3, none⟩ = some (.int .u64 0) := RB.out.cellv rfl
  have y3 := RB.out.frozen 3
  have z4 : wr.cell? ⟨w.heap.size + 1 + 1, 4, none⟩ = some (.int .u64 0) := RB.out.cellv rfl
  have y4 := RB.out.frozen 4
  have z5 : wr.cell? ⟨w.heap.size + 1 + 1, 5, none⟩ = some (.int .i64 0) := RB.out.cellv rfl
  have y5 := RB.out.frozen 5
  have z6 : wr.cell? ⟨w.heap.size + 1 + 1, 6, none⟩ = some (.int .u64 0) := RB.out.cellv rfl
  have y6 := RB.out.frozen 6
  have z7 : wr.cell? ⟨w.heap.size + 1 + 1, 7, none⟩ = some (.int .u64 0) := RB.out.cellv rfl
  have y7 := RB.out.frozen 7
  have hsb : (s == 1) = true := by simp [hs]
  clear hs us
  go_wp2_with fail
  go_quiet (fail)
  go_wp2_with fail
  refine (rover_any 1 v _).mono ?_
  rintro e w2 ⟨rfl, o2⟩
  have HO2 := hide ((HO.out.drewN nq).trans o2)
  have RB2 := hide ((RB.out.drewN nq).only o2 (fun h => h))
  clear o2 z0 y0 z1 y1 z2 y2 z3 y3 z4 y4 z5 y5 z6 y6 z7 y7
  have z0 : w2.cell? ⟨w.heap.size + 1 + 1, 0, none⟩ = some (.bool false) := RB2.out.cellv rfl
  have y0 := RB2.out.frozen 0
  have z1 : w2.cell? ⟨w.heap.size + 1 + 1, 1, none⟩ = some (.int .i64 0) := RB2.out.cellv rfl
  have y1 := RB2.out.frozen 1
  have z2 : w2.cell? ⟨w.heap.size + 1 + 1, 2, none⟩ = some (.int .i64 0) := RB2.out.cellv rfl
  have y2 := RB2.out.frozen 2
  have z3 : w2.cell? ⟨w.heap.size + 1 + 1, 3, none⟩ = some (.int .u64 0) := RB2.out.cellv rfl
  have y3 := RB2.out.frozen 3
  have z4 : w2.cell? ⟨w.heap.size + 1 + 1, 4, none⟩ = some (.int .u64 0) := RB2.out.cellv rfl
  have y4 := RB2.out.frozen 4
  have z5 : w2.cell? ⟨w.heap.size + 1 + 1, 5, none⟩ = some (.int .i64 0) := RB2.out.cellv rfl
  have y5 := RB2.out.frozen 5
  have z6 : w2.cell? ⟨w.heap.size + 1 + 1, 6, none⟩ = some (.int .u64 0) := RB2.out.cellv rfl
  have y6 := RB2.out.frozen 6
  have z7 : w2.cell? ⟨w.heap.size + 1 + 1, 7, none⟩ = some (.int .u64 0) := RB2.out.cellv rfl
  have y7 := RB2.out.frozen 7
  unfold gwV
  go_wp2_with fail
  (try simp only [Exit.inBlock, Exit.then])
  refine bodyPost_ret (by simp [results, Tryz.results108, go_sem, z0, z1, z2, z3, z4, z5, z6, z7]; try rfl) rfl ?_
  refine ⟨rfl, ?_⟩
  repeat (first | with_reducible exact HO2.out | (with_reducible refine Only.setNew ?_ _ ?_ _; rotate_left 1; omega) | with_reducible refine Only.drew ?_ | with_reducible refine Only.drewN ?_ _ | with_reducible refine Only.alloc ?_ _)

set_option maxRecDepth 100000 in
set_option maxHeartbeats 2000000 in
theorem rsteal_c4l (t b v s : Int) (hl : Rd w lv (([t, b, v, s] : List Int).map (.int .u64))) (b0 : 0 ≤ base) (b1 : base ≤ 70000) (n1 : 1 ≤ n) (n64 : n ≤ 64) (ut : U64 t) (ub : U64 b) (uv : U64 v) (us : U64 s) (h : ¬ b ≤ t) (hs : s ≠ 1) :
    Calls Tryz.prog 108 #[.agg #[.int .i64 base, .int .i64 n], .agg #[.int .i64 3, .int .u64 V, lv]] w fun e w' => e = .returned (gwV (wOver 6 0)) ∧ Only S0 w w' := by
  obtain ⟨a, ca, rfl, ha⟩ := hl
  obtain ⟨g, off, rfl, hg, hc⟩ := ha (by simp)
  rw [show (([t, b, v, s] : List Int).map (Value.int .u64)).length = 4 from rfl] at *
  have nd := nd_new w base n 3 V (.slice (some ⟨g, off, none⟩) 4 ca)
  have e0 := (nd.only.cell (p := ⟨g, off + 0, none⟩) hg (fun h => h)).trans (hc 0 (.int .u64 t) rfl)
  have e1 := (nd.only.cell (p := ⟨g, off + 1, none⟩) hg (fun h => h)).trans (hc 1 (.int .u64 b) rfl)
  have e2 := (nd.only.cell (p := ⟨g, off + 2, none⟩) hg (fun h => h)).trans (hc 2 (.int .u64 v) rfl)
  have e3 := (nd.only.cell (p := ⟨g, off + 3, none⟩) hg (fun h => h)).trans (hc 3 (.int .u64 s) rfl)
  rw [Nat.add_zero] at e0
  have hg3 := Nat.lt_of_lt_of_le hg nd.only.size
  clear hc ha hg
  have hsz : w.heap.size + 1 + 1 < (((w.alloc (.cells #[.int .i64 base, .int .i64 n] 91)).alloc (.cells #[.int .i64 3, .int .u64 V, .slice (some ⟨g, off, none⟩) 4 ca] 133)).alloc (.cells #[.bool false, .int .i64 0, .int .i64 0, .int .u64 0, .int .u64 0, .int .i64 0, .int .u64 0, .int .u64 0] 62)).heap.size := Blk.lt nd.res
  go_enter Tryz.func108, Tryz.ntmps108
  go_upto_region 1 with fail
  generalize ((w.alloc (.cells #[.int .i64 base, .int .i64 n] 91)).alloc (.cells #[.int .i64 3, .int .u64 V, .slice (some ⟨g, off, none⟩) 4 ca] 133)).alloc (.cells #[.bool false, .int .i64 0, .int .i64 0, .int .u64 0, .int .u64 0, .int .i64 0, .int .u64 0, .int .u64 0] 62) = wr at nd hsz hg3 e0 e1 e2 e3 ⊢
  have HND := hide nd
  have HO := hide nd.only
  have RB := hide nd.res
  have r0 : wr.cell? ⟨w.heap.size, 0, none⟩ = some (.int .i64 base) := nd.deq.cellv rfl
  have r1 : wr.cell? ⟨w.heap.size, 1, none⟩ = some (.int .i64 n) := nd.deq.cellv rfl
  have p0 : wr.cell? ⟨w.heap.size + 1, 0, none⟩ = some (.int .i64 3) := nd.op.cellv rfl
  have p1 : wr.cell? ⟨w.heap.size + 1, 1, none⟩ = some (.int .u64 V) := nd.op.cellv rfl
  have p2 : wr.cell? ⟨w.heap.size + 1, 2, none⟩ = some (.slice (some ⟨g, off, none⟩) 4 ca) := nd.op.cellv rfl
  clear nd
  have z0 : wr.cell? ⟨w.heap.size + 1 + 1, 0, none⟩ = some (.bool false) := RB.out.cellv rfl
  have y0 := RB.out.frozen 0
  have z1 : wr.cell? ⟨w.heap.size + 1 + 1, 1, none⟩ = some (.int .i64 0) := RB.out.cellv rfl
  have y1 := RB.out.frozen 1
  have z2 : wr.cell? ⟨w.heap.size + 1 + 1, 2, none⟩ = some (.int .i64 0) := RB.out.cellv rfl
  have y2 := RB.out.frozen 2
  have z3 : wr.cell? ⟨w.heap.size + 1 + 1, 3, none⟩ = some (.int .u64 0) := RB.out.cellv rfl
  have y3 := RB.out.frozen 3
  have z4 : wr.cell? ⟨w.heap.size + 1 + 1, 4, none⟩ = some (.int .u64 0) := RB.out.cellv rfl
  have y4 := RB.out.frozen 4
  have z5 : wr.cell? ⟨w.heap.size + 1 + 1, 5, none⟩ = some (.int .i64 0) := RB.out.cellv rfl
  have y5 := RB.out.frozen 5
  have z6 : wr.cell? ⟨w.heap.size + 1 + 1, 6, none⟩ = some (.int .u64 0) := RB.out.cellv rfl
  have y6 := RB.out.frozen 6
  have z7 : wr.cell? ⟨w.heap.size + 1 + 1, 7, none⟩ = some (.int .u64 0) := RB.out.cellv rfl
  have y7 := RB.out.frozen 7
  have hsb : (s == 1) = false := by simp [hs]
  clear hs us
  go_wp2_with fail
  go_quiet (fail)
  go_wp2_with fail
  refine (rover_any 6 0 _).mono ?_
  rintro e w2 ⟨rfl, o2⟩
  have HO2 := hide ((HO.out.drewN nq).trans o2)
  have RB2 := hide ((RB.out.drewN nq).only o2 (fun h => h))
  clear o2 z0 y0 z1 y1 z2 y2 z3 y3 z4 y4 z5 y5 z6 y6 z7 y7
  have z0 : w2.cell? ⟨w.heap.size + 1 + 1, 0, none⟩ = some (.bool false) := RB2.out.cellv rfl
  have y0 := RB2.out.frozen 0
  have z1 : w2.cell? ⟨w.heap.size + 1 + 1, 1, none⟩ = some (.int .i64 0) := RB2.out.cellv rfl
  have y1 := RB2.out.frozen 1
  have z2 : w2.cell? ⟨w.heap.size + 1 + 1, 2, none⟩ = some (.int .i64 0) := RB2.out.cellv rfl
  have y2 := RB2.out.frozen 2
  have z3 : w2.cell? ⟨w.heap.size + 1 + 1, 3, none⟩ = some (.int .u64 0) := RB2.out.cellv rfl
  have y3 := RB2.out.frozen 3
  have z4 : w2.cell? ⟨w.heap.size + 1 + 1, 4, none⟩ = some (.int .u64 0) := RB2.out.cellv rfl
  have y4 := RB2.out.frozen 4
  have z5 : w2.cell? ⟨w.heap.size + 1 + 1, 5, none⟩ = some (.int .i64 0) := RB2.out.cellv rfl
  have y5 := RB2.out.frozen 5
  have z6 : w2.cell? ⟨w.heap.size + 1 + 1, 6, none⟩ = some (.int .u64 0) := RB2.out.cellv rfl
  have y6 := RB2.out.frozen 6
  have z7 : w2.cell? ⟨w.heap.size + 1 + 1, 7, none⟩ = some (.int .u64 0) := RB2.out.cellv rfl
  have y7 := RB2.out.frozen 7
  unfold gwV
  go_wp2_with fail
  (try simp only [Exit.inBlock, Exit.then])
  refine bodyPost_ret (by simp [results, Tryz.results108, go_sem, z0, z1, z2, z3, z4, z5, z6, z7]; try rfl) rfl ?_
  refine ⟨rfl, ?_⟩
  repeat (first | with_reducible exact HO2.out | (with_reducible refine Only.setNew ?_ _ ?_ _; rotate_left 1; omega) | with_reducible refine Only.drew ?_ | with_reducible refine Only.drewN ?_ _ | with_reducible refine Only.alloc ?_ _)

set_option maxRecDepth 100000 in
set_option maxHeartbeats 2000000 in
theorem rpop_b0 (hl : Rd w lv (([] : List Int).map (.int .u64))) (b0 : 0 ≤ base) (b1 : base ≤ 70000) (n1 : 1 ≤ n) (n64 : n ≤ 64)   :
    Calls Tryz.prog 107 #[.agg #[.int .i64 base, .int .i64 n], .agg #[.int .i64 2, .int .u64 V, lv]] w fun e w' => e = .returned (gwV (wLoad (base + 1))) ∧ Only S0 w w' := by
  obtain ⟨a, ca, rfl, ha⟩ := hl
  rw [show (([] : List Int).map (Value.int .u64)).length = 0 from rfl] at *
  have nd := nd_new w base n 2 V (.slice a 0 ca)
  clear ha
  have hsz : w.heap.size + 1 + 1 < (((w.alloc (.cells #[.int .i64 base, .int .i64 n] 91)).alloc (.cells #[.int .i64 2, .int .u64 V, .slice a 0 ca] 133)).alloc (.cells #[.bool false, .int .i64 0, .int .i64 0, .int .u64 0, .int .u64 0, .int .i64 0, .int .u64 0, .int .u64 0] 62)).heap.size := Blk.lt nd.res
  go_enter Tryz.func107, Tryz.ntmps107
  go_upto_region 1 with fail
  generalize ((w.alloc (.cells #[.int .i64 base, .int .i64 n] 91)).alloc (.cells #[.int .i64 2, .int .u64 V, .slice a 0 ca] 133)).alloc (.cells #[.bool false, .int .i64 0, .int .i64 0, .int .u64 0, .int .u64 0, .int .i64 0, .int .u64 0, .int .u64 0] 62) = wr at nd hsz ⊢
  have HND := hide nd
  have HO := hide nd.only
  have RB := hide nd.res
  have r0 : wr.cell? ⟨w.heap.size, 0, none⟩ = some (.int .i64 base) := nd.deq.cellv rfl
  have r1 : wr.cell? ⟨w.heap.size, 1, none⟩ = some (.int .i64 n) := nd.deq.cellv rfl
  have p0 : wr.cell? ⟨w.heap.size + 1, 0, none⟩ = some (.int .i64 2) := nd.op.cellv rfl
  have p1 : wr.cell? ⟨w.heap.size + 1, 1, none⟩ = some (.int .u64 V) := nd.op.cellv rfl
  have p2 : wr.cell? ⟨w.heap.size + 1, 2, none⟩ = some (.slice a 0 ca) := nd.op.cellv rfl
  clear nd
  have z0 : wr.cell? ⟨w.heap.size + 1 + 1, 0, none⟩ = some (.bool false) := RB.out.cellv rfl
  have y0 := RB.out.frozen 0
  have z1 : wr.cell? ⟨w.heap.size + 1 + 1, 1, none⟩ = some (.int .i64 0) := RB.out.cellv rfl
  have y1 := RB.out.frozen 1
  have z2 : wr.cell? ⟨w.heap.size + 1 + 1, 2, none⟩ = some (.int .i64 0) := RB.out.cellv rfl
  have y2 := RB.out.frozen 2
  have z3 : wr.cell? ⟨w.heap.size + 1 + 1, 3, none⟩ = some (.int .u64 0) := RB.out.cellv rfl
  have y3 := RB.out.frozen 3
  have z4 : wr.cell? ⟨w.heap.size + 1 + 1, 4, none⟩ = some (.int .u64 0) := RB.out.cellv rfl
  have y4 := RB.out.frozen 4
  have z5 : wr.cell? ⟨w.heap.size + 1 + 1, 5, none⟩ = some (.int .i64 0) := RB.out.cellv rfl
  have y5 := RB.out.frozen 5
  have z6 : wr.cell? ⟨w.heap.size + 1 + 1, 6, none⟩ = some (.int .u64 0) := RB.out.cellv rfl
  have y6 := RB.out.frozen 6
  have z7 : wr.cell? ⟨w.heap.size + 1 + 1, 7, none⟩ = some (.int .u64 0) := RB.out.cellv rfl
  have y7 := RB.out.frozen 7
  go_wp2_with fail
  refine (rload_any (base + 1) _).mono ?_
  rintro e w2 ⟨rfl, o2⟩
  have HO2 := hide (HO.out.trans o2)
  have RB2 := hide (RB.out.only o2 (fun h => h))
  clear o2 z0 y0 z1 y1 z2 y2 z3 y3 z4 y4 z5 y5 z6 y6 z7 y7
  have z0 : w2.cell? ⟨w.heap.size + 1 + 1, 0, none⟩ = some (.bool false) := RB2.out.cellv rfl
  have y0 := RB2.out.frozen 0
  have z1 : w2.cell? ⟨w.heap.size + 1 + 1, 1, none⟩ = some (.int .i64 0) := RB2.out.cellv rfl
  have y1 := RB2.out.frozen 1
  have z2 : w2.cell? ⟨w.heap.size + 1 + 1, 2, none⟩ = some (.int .i64 0) := RB2.out.cellv rfl
  have y2 := RB2.out.frozen 2
  have z3 : w2.cell? ⟨w.heap.size + 1 + 1, 3, none⟩ = some (.int .u64 0) := RB2.out.cellv rfl
  have y3 := RB2.out.frozen 3
  have z4 : w2.cell? ⟨w.heap.size + 1 + 1, 4, none⟩ = some (.int .u64 0) := RB2.out.cellv rfl
  have y4 := RB2.out.frozen 4
  have z5 : w2.cell? ⟨w.heap.size + 1 + 1, 5, none⟩ = some (.int .i64 0) := RB2.out.cellv rfl
  have y5 := RB2.out.frozen 5
  have z6 : w2.cell? ⟨w.heap.size + 1 + 1, 6, none⟩ = some (.int .u64 0) := RB2.out.cellv rfl
  have y6 := RB2.out.frozen 6
  have z7 : w2.cell? ⟨w.heap.size + 1 + 1, 7, none⟩ = some (.int .u64 0) := RB2.out.cellv rfl
  have y7 := RB2.out.frozen 7
  unfold gwV
  go_wp2_with fail
  (try simp only [Exit.inBlock, Exit.then])
  refine bodyPost_ret (by simp [results, Tryz.results107, go_sem, z0, z1, z2, z3, z4, z5, z6, z7]; try rfl) rfl ?_
  refine ⟨rfl, ?_⟩
  repeat (first | with_reducible exact HO2.out | (with_reducible refine Only.setNew ?_ _ ?_ _; rotate_left 1; omega) | with_reducible refine Only.drew ?_ | with_reducible refine Only.drewN ?_ _ | with_reducible refine Only.alloc ?_ _)

set_option maxRecDepth 100000 in
set_option maxHeartbeats 2000000 in
theorem rpop_b1 (b : Int) (hl : Rd w lv (([b] : List Int).map (.int .u64))) (b0 : 0 ≤ base) (b1 : base ≤ 70000) (n1 : 1 ≤ n) (n64 : n ≤ 64) (ub : U64 b)  :
    Calls Tryz.prog 107 #[.agg #[.int .i64 base, .int .i64 n], .agg #[.int .i64 2, .int .u64 V, lv]] w fun e w' => e = .returned (gwV (wStore (base + 1) (IntKind.u64.wrap (b - 1)))) ∧ Only S0 w w' := by
  obtain ⟨a, ca, rfl, ha⟩ := hl
  obtain ⟨g, off, rfl, hg, hc⟩ := ha (by simp)
  rw [show (([b] : List Int).map (Value.int .u64)).length = 1 from rfl] at *
  have nd := nd_new w base n 2 V (.slice (some ⟨g, off, none⟩) 1 ca)
  have e0 := (nd.only.cell (p := ⟨g, off + 0, none⟩) hg (fun h => h)).trans (hc 0 (.int .u64 b) rfl)
  rw [Nat.add_zero] at e0
  have hg3 := Nat.lt_of_lt_of_le hg nd.only.size
  clear hc ha hg
  have hsz : w.heap.size + 1 + 1 < (((w.alloc (.cells #[.int .i64 base, .int .i64 n] 91)).alloc (.cells #[.int .i64 2, .int .u64 V, .slice (some ⟨g, off, none⟩) 1 ca] 133)).alloc (.cells #[.bool false, .int .i64 0, .int .i64 0, .int .u64 0, .int .u64 0, .int .i64 0, .int .u64 0, .int .u64 0] 62)).heap.size := Blk.lt nd.res
  go_enter Tryz.func107, Tryz.ntmps107
  go_upto_region 1 with fail
  generalize ((w.alloc (.cells #[.int .i64 base, .int .i64 n] 91)).alloc (.cells #[.int .i64 2, .int .u64 V, .slice (some ⟨g, off, none⟩) 1 ca] 133)).alloc (.cells #[.bool false, .int .i64 0, .int .i64 0, .int .u64 0, .int .u64 0, .int .i64 0, .int .u64 0, .int .u64 0] 62) = wr at nd hsz hg3 e0 ⊢
  have HND := hide nd
  have HO := hide nd.only
  have RB := hide nd.res
  have r0 : wr.cell? ⟨w.heap.size, 0, none⟩ = some (.int .i64 base) := nd.deq.cellv rfl
  have r1 : wr.cell? ⟨w.heap.size, 1, none⟩ = some (.int .i64 n) := nd.deq.cellv rfl
  have p0 : wr.cell? ⟨w.heap.size + 1, 0, none⟩ = some (.int .i64 2) := nd.op.cellv rfl
  have p1 : wr.cell? ⟨w.heap.size + 1, 1, none⟩ = some (.int .u64 V) := nd.op.cellv rfl
  have p2 : wr.cell? ⟨w.heap.size + 1, 2, none⟩ = some (.slice (some ⟨g, off, none⟩) 1 ca) := nd.op.cellv rfl
  clear nd
  have z0 : wr.cell? ⟨w.heap.size + 1 + 1, 0, none⟩ = some (.bool false) := RB.out.cellv rfl
  have y0 := RB.out.frozen 0
  have z1 : wr.cell? ⟨w.heap.size + 1 + 1, 1, none⟩ = some (.int .i64 0) := RB.out.cellv rfl
  have y1 := RB.out.frozen 1
  have z2 : wr.cell? ⟨w.heap.size + 1 + 1, 2, none⟩ = some (.int .i64 0) := RB.out.cellv rfl
  have y2 := RB.out.frozen 2
  have z3 : wr.cell? ⟨w.heap.size + 1 + 1, 3, none⟩ = some (.int .u64 0) := RB.out.cellv rfl
  have y3 := RB.out.frozen 3
  have z4 : wr.cell? ⟨w.heap.size + 1 + 1, 4, none⟩ = some (.int .u64 0) := RB.out.cellv rfl
  have y4 := RB.out.frozen 4
  have z5 : wr.cell? ⟨w.heap.size + 1 + 1, 5, none⟩ = some (.int .i64 0) := RB.out.cellv rfl
  have y5 := RB.out.frozen 5
  have z6 : wr.cell? ⟨w.heap.size + 1 + 1, 6, none⟩ = some (.int .u64 0) := RB.out.cellv rfl
  have y6 := RB.out.frozen 6
  have z7 : wr.cell? ⟨w.heap.size + 1 + 1, 7, none⟩ = some (.int .u64 0) := RB.out.cellv rfl
  have y7 := RB.out.frozen 7
  have hwb : IntKind.i64.wrap (base + 1) = base + 1 := IntWalk.i64_in _ (by omega)
  go_wp2_with fail
  go_region
  go_wp2_with fail
  (try simp only [Exit.inBlock, Exit.then])
  refine bodyPost_ret (by simp [results, Tryz.results107, go_sem, z0, z1, z2, z3, z4, z5, z6, z7]; try rfl) rfl ?_
  refine ⟨rfl, ?_⟩
  repeat (first | with_reducible exact HO.out | (with_reducible refine Only.setNew ?_ _ ?_ _; rotate_left 1; omega) | with_reducible refine Only.drew ?_ | with_reducible refine Only.drewN ?_ _ | with_reducible refine Only.alloc ?_ _)

set_option maxRecDepth 100000 in
set_option maxHeartbeats 2000000 in
theorem rpop_b2 (b x : Int) (hl : Rd w lv (([b, x] : List Int).map (.int .u64))) (b0 : 0 ≤ base) (b1 : base ≤ 70000) (n1 : 1 ≤ n) (n64 : n ≤ 64) (ub : U64 b) (ux : U64 x)  :
    Calls Tryz.prog 107 #[.agg #[.int .i64 base, .int .i64 n], .agg #[.int .i64 2, .int .u64 V, lv]] w fun e w' => e = .returned (gwV (wLoad base)) ∧ Only S0 w w' := by
  obtain ⟨a, ca, rfl, ha⟩ := hl
  obtain ⟨g, off, rfl, hg, hc⟩ := ha (by simp)
  rw [show (([b, x] : List Int).map (Value.int .u64)).length = 2 from rfl] at *
  have nd := nd_new w base n 2 V (.slice (some ⟨g, off, none⟩) 2 ca)
  have e0 := (nd.only.cell (p := ⟨g, off + 0, none⟩) hg (fun h => h)).trans (hc 0 (.int .u64 b) rfl)
  have e1 := (nd.only.cell (p := ⟨g, off + 1, none⟩) hg (fun h => h)).trans (hc 1 (.int .u64 x) rfl)
  rw [Nat.add_zero] at e0
  have hg3 := Nat.lt_of_lt_of_le hg nd.only.size
  clear hc ha hg
  have hsz : w.heap.size + 1 + 1 < (((w.alloc (.cells #[.int .i64 base, .int .i64 n] 91)).alloc (.cells #[.int .i64 2, .int .u64 V, .slice (some ⟨g, off, none⟩) 2 ca] 133)).alloc (.cells #[.bool false, .int .i64 0, .int .i64 0, .int .u64 0, .int .u64 0, .int .i64 0, .int .u64 0, .int .u64 0] 62)).heap.size := Blk.lt nd.res
  go_enter Tryz.func107, Tryz.ntmps107
  go_upto_region 1 with fail
  generalize ((w.alloc (.cells #[.int .i64 base, .int .i64 n] 91)).alloc (.cells #[.int .i64 2, .int .u64 V, .slice (some ⟨g, off, none⟩) 2 ca] 133)).alloc (.cells #[.bool false, .int .i64 0, .int .i64 0, .int .u64 0, .int .u64 0, .int .i64 0, .int .u64 0, .int .u64 0] 62) = wr at nd hsz hg3 e0 e1 ⊢
  have HND := hide nd
  have HO := hide nd.only
  have RB := hide nd.res
  have r0 : wr.cell? ⟨w.heap.size, 0, none⟩ = some (.int .i64 base) := nd.deq.cellv rfl
  have r1 : wr.cell? ⟨w.heap.size, 1, none⟩ = some (.int .i64 n) := nd.deq.cellv rfl
  have p0 : wr.cell? ⟨w.heap.size + 1, 0, none⟩ = some (.int .i64 2) := nd.op.cellv rfl
  have p1 : wr.cell? ⟨w.heap.size + 1, 1, none⟩ = some (.int .u64 V) := nd.op.cellv rfl
  have p2 : wr.cell? ⟨w.heap.size + 1, 2, none⟩ = some (.slice (some ⟨g, off, none⟩) 2 ca) := nd.op.cellv rfl
  clear nd
  have z0 : wr.cell? ⟨w.heap.size + 1 + 1, 0, none⟩ = some (.bool false) := RB.out.cellv rfl
  have y0 := RB.out.frozen 0
  have z1 : wr.cell? ⟨w.heap.size + 1 + 1, 1, none⟩ = some (.int .i64 0) := RB.out.cellv rfl
  have y1 := RB.out.frozen 1
  have z2 : wr.cell? ⟨w.heap.size + 1 + 1, 2, none⟩ = some (.int .i64 0) := RB.out.cellv rfl
  have y2 := RB.out.frozen 2
  have z3 : wr.cell? ⟨w.heap.size + 1 + 1, 3, none⟩ = some (.int .u64 0) := RB.out.cellv rfl
  have y3 := RB.out.frozen 3
  have z4 : wr.cell? ⟨w.heap.size + 1 + 1, 4, none⟩ = some (.int .u64 0) := RB.out.cellv rfl
  have y4 := RB.out.frozen 4
  have z5 : wr.cell? ⟨w.heap.size + 1 + 1, 5, none⟩ = some (.int .i64 0) := RB.out.cellv rfl
  have y5 := RB.out.frozen 5
  have z6 : wr.cell? ⟨w.heap.size + 1 + 1, 6, none⟩ = some (.int .u64 0) := RB.out.cellv rfl
  have y6 := RB.out.frozen 6
  have z7 : wr.cell? ⟨w.heap.size + 1 + 1, 7, none⟩ = some (.int .u64 0) := RB.out.cellv rfl
  have y7 := RB.out.frozen 7
  go_wp2_with fail
  refine (rload_any base _).mono ?_
  rintro e w2 ⟨rfl, o2⟩
  have HO2 := hide (HO.out.trans o2)
  have RB2 := hide (RB.out.only o2 (fun h => h))
  clear o2 z0 y0 z1 y1 z2 y2 z3 y3 z4 y4 z5 y5 z6 y6 z7 y7
  have z0 : w2.cell? ⟨w.heap.size + 1 + 1, 0, none⟩ = some (.bool false) := RB2.out.cellv rfl
  have y0 := RB2.out.frozen 0
  have z1 : w2.cell? ⟨w.heap.size + 1 + 1, 1, none⟩ = some (.int .i64 0) := RB2.out.cellv rfl
  have y1 := RB2.out.frozen 1
  have z2 : w2.cell? ⟨w.heap.size + 1 + 1, 2, none⟩ = some (.int .i64 0) := RB2.out.cellv rfl
  have y2 := RB2.out.frozen 2
  have z3 : w2.cell? ⟨w.heap.size + 1 + 1, 3, none⟩ = some (.int .u64 0) := RB2.out.cellv rfl
  have y3 := RB2.out.frozen 3
  have z4 : w2.cell? ⟨w.heap.size + 1 + 1, 4, none⟩ = some (.int .u64 0) := RB2.out.cellv rfl
  have y4 := RB2.out.frozen 4
  have z5 : w2.cell? ⟨w.heap.size + 1 + 1, 5, none⟩ = some (.int .i64 0) := RB2.out.cellv rfl
  have y5 := RB2.out.frozen 5
  have z6 : w2.cell? ⟨w.heap.size + 1 + 1, 6, none⟩ = some (.int .u64 0) := RB2.out.cellv rfl
  have y6 := RB2.out.frozen 6
  have z7 : w2.cell? ⟨w.heap.size + 1 + 1, 7, none⟩ = some (.int .u64 0) := RB2.out.cellv rfl
  have y7 := RB2.out.frozen 7
  unfold gwV
  go_wp2_with fail
  (try simp only [Exit.inBlock, Exit.then])
  refine bodyPost_ret (by simp [results, Tryz.results107, go_sem, z0, z1, z2, z3, z4, z5, z6, z7]; try rfl) rfl ?_
  refine ⟨rfl, ?_⟩
  repeat (first | with_reducible exact HO2.out | (with_reducible refine Only.setNew ?_ _ ?_ _; rotate_left 1; omega) | with_reducible refine Only.drew ?_ | with_reducible refine Only.drewN ?_ _ | with_reducible refine Only.alloc ?_ _)

set_option maxRecDepth 100000 in
set_option maxHeartbeats 2000000 in
theorem rpop_b3e (b x t : Int) (hl : Rd w lv (([b, x, t] : List Int).map (.int .u64))) (b0 : 0 ≤ base) (b1 : base ≤ 70000) (n1 : 1 ≤ n) (n64 : n ≤ 64) (ub : U64 b) (ux : U64 x) (ut : U64 t) (h : IntKind.u64.wrap (b - 1) < t) :
    Calls Tryz.prog 107 #[.agg #[.int .i64 base, .int .i64 n], .agg #[.int .i64 2, .int .u64 V, lv]] w fun e w' => e = .returned (gwV (wStore (base + 1) b)) ∧ Only S0 w w' := by
  obtain ⟨a, ca, rfl, ha⟩ := hl
  obtain ⟨g, off, rfl, hg, hc⟩ := ha (by simp)
  rw [show (([b, x, t] : List Int).map (Value.int .u64)).length = 3 from rfl] at *
  have nd := nd_new w base n 2 V (.slice (some ⟨g, off, none⟩) 3 ca)
  have e0 := (nd.only.cell (p := ⟨g, off + 0, none⟩) hg (fun h => h)).trans (hc 0 (.int .u64 b) rfl)
  have e1 := (nd.only.cell (p := ⟨g, off + 1, none⟩) hg (fun h => h)).trans (hc 1 (.int .u64 x) rfl)
  have e2 := (nd.only.cell (p := ⟨g, off + 2, none⟩) hg (fun h => h)).trans (hc 2 (.int .u64 t) rfl)
  rw [Nat.add_zero] at e0
  have hg3 := Nat.lt_of_lt_of_le hg nd.only.size
  clear hc ha hg
  have hsz : w.heap.size + 1 + 1 < (((w.alloc (.cells #[.int .i64 base, .int .i64 n] 91)).alloc (.cells #[.int .i64 2, .int .u64 V, .slice (some ⟨g, off, none⟩) 3 ca] 133)).alloc (.cells #[.bool false, .int .i64 0, .int .i64 0, .int .u64 0, .int .u64 0, .int .i64 0, .int .u64 0, .int .u64 0] 62)).heap.size := Blk.lt nd.res
  go_enter Tryz.func107, Tryz.ntmps107
  go_upto_region 1 with fail
  generalize ((w.alloc (.cells #[.int .i64 base, .int .i64 n] 91)).alloc (.cells #[.int .i64 2, .int .u64 V, .slice (some ⟨g, off, none⟩) 3 ca] 133)).alloc (.cells #[.bool false, .int .i64 0, .int .i64 0, .int .u64 0, .int .u64 0, .int .i64 0, .int .u64 0, .int .u64 0] 62) = wr at nd hsz hg3 e0 e1 e2 ⊢
  have HND := hide nd
  have HO := hide nd.only
  have RB := hide nd.res
  have r0 : wr.cell? ⟨w.heap.size, 0, none⟩ = some (.int .i64 base) := nd.deq.cellv rfl
  have r1 : wr.cell? ⟨w.heap.size, 1, none⟩ = some (.int .i64 n) := nd.deq.cellv rfl
  have p0 : wr.cell? ⟨w.heap.size + 1, 0, none⟩ = some (.int .i64 2) := nd.op.cellv rfl
  have p1 : wr.cell? ⟨w.heap.size + 1, 1, none⟩ = some (.int .u64 V) := nd.op.cellv rfl
  have p2 : wr.cell? ⟨w.heap.size + 1, 2, none⟩ = some (.slice (some ⟨g, off, none⟩) 3 ca) := nd.op.cellv rfl
  clear nd
  have z0 : wr.cell? ⟨w.heap.size + 1 + 1, 0, none⟩ = some (.bool false) := RB.out.cellv rfl
  have y0 := RB.out.frozen 0
  have z1 : wr.cell? ⟨w.heap.size + 1 + 1, 1, none⟩ = some (.int .i64 0) := RB.out.cellv rfl
  have y1 := RB.out.frozen 1
  have z2 : wr.cell? ⟨w.heap.size + 1 + 1, 2, none⟩ = some (.int .i64 0) := RB.out.cellv rfl
  have y2 := RB.out.frozen 2
  have z3 : wr.cell? ⟨w.heap.size + 1 + 1, 3, none⟩ = some (.int .u64 0) := RB.out.cellv rfl
  have y3 := RB.out.frozen 3
  have z4 : wr.cell? ⟨w.heap.size + 1 + 1, 4, none⟩ = some (.int .u64 0) := RB.out.cellv rfl
  have y4 := RB.out.frozen 4
  have z5 : wr.cell? ⟨w.heap.size + 1 + 1, 5, none⟩ = some (.int .i64 0) := RB.out.cellv rfl
  have y5 := RB.out.frozen 5
  have z6 : wr.cell? ⟨w.heap.size + 1 + 1, 6, none⟩ = some (.int .u64 0) := RB.out.cellv rfl
  have y6 := RB.out.frozen 6
  have z7 : wr.cell? ⟨w.heap.size + 1 + 1, 7, none⟩ = some (.int .u64 0) := RB.out.cellv rfl
  have y7 := RB.out.frozen 7
  go_upto_region 9 with fail
  go_quiet (fail)
  go_upto_region 10 with fail
  go_cut [8] (fun v8 wx => v8 = .pointer (some ⟨wr.heap.size, 0, none⟩) ∧ Blk wx wr.heap.size 62 #[.bool false, .int .i64 2, .int .i64 (base + 1), .int .u64 b, .int .u64 0, .int .i64 0, .int .u64 0, .int .u64 0] ∧ Only S0 wr wx)
  case first =>
    have nc0 : ((wr.drewN nq).alloc (.cells #[.bool false, .int .i64 0, .int .i64 0, .int .u64 0, .int .u64 0, .int .i64 0, .int .u64 0, .int .u64 0] 62)).cell? ⟨wr.heap.size, 0, none⟩ = some (.bool false) := (Blk.new (wr.drewN nq) 62 #[.bool false, .int .i64 0, .int .i64 0, .int .u64 0, .int .u64 0, .int .i64 0, .int .u64 0, .int .u64 0]).cellv rfl
    have nf0 : ((wr.drewN nq).alloc (.cells #[.bool false, .int .i64 0, .int .i64 0, .int .u64 0, .int .u64 0, .int .i64 0, .int .u64 0, .int .u64 0] 62)).frozen? ⟨wr.heap.size, 0, none⟩ = false := (Blk.new (wr.drewN nq) 62 #[.bool false, .int .i64 0, .int .i64 0, .int .u64 0, .int .u64 0, .int .i64 0, .int .u64 0, .int .u64 0]).frozen 0
    have nc1 : ((wr.drewN nq).alloc (.cells #[.bool false, .int .i64 0, .int .i64 0, .int .u64 0, .int .u64 0, .int .i64 0, .int .u64 0, .int .u64 0] 62)).cell? ⟨wr.heap.size, 1, none⟩ = some (.int .i64 0) := (Blk.new (wr.drewN nq) 62 #[.bool false, .int .i64 0, .int .i64 0, .int .u64 0, .int .u64 0, .int .i64 0, .int .u64 0, .int .u64 0]).cellv rfl
    have nf1 : ((wr.drewN nq).alloc (.cells #[.bool false, .int .i64 0, .int .i64 0, .int .u64 0, .int .u64 0, .int .i64 0, .int .u64 0, .int .u64 0] 62)).frozen? ⟨wr.heap.size, 1, none⟩ = false := (Blk.new (wr.drewN nq) 62 #[.bool false, .int .i64 0, .int .i64 0, .int .u64 0, .int .u64 0, .int .i64 0, .int .u64 0, .int .u64 0]).frozen 1
    have nc2 : ((wr.drewN nq).alloc (.cells #[.bool false, .int .i64 0, .int .i64 0, .int .u64 0, .int .u64 0, .int .i64 0, .int .u64 0, .int .u64 0] 62)).cell? ⟨wr.heap.size, 2, none⟩ = some (.int .i64 0) := (Blk.new (wr.drewN nq) 62 #[.bool false, .int .i64 0, .int .i64 0, .int .u64 0, .int .u64 0, .int .i64 0, .int .u64 0, .int .u64 0]).cellv rfl
    have nf2 : ((wr.drewN nq).alloc (.cells #[.bool false, .int .i64 0, .int .i64 0, .int .u64 0, .int .u64 0, .int .i64 0, .int .u64 0, .int .u64 0] 62)).frozen? ⟨wr.heap.size, 2, none⟩ = false := (Blk.new (wr.drewN nq) 62 #[.bool false, .int .i64 0, .int .i64 0, .int .u64 0, .int .u64 0, .int .i64 0, .int .u64 0, .int .u64 0]).frozen 2
    have nc3 : ((wr.drewN nq).alloc (.cells #[.bool false, .int .i64 0, .int .i64 0, .int .u64 0, .int .u64 0, .int .i64 0, .int .u64 0, .int .u64 0] 62)).cell? ⟨wr.heap.size, 3, none⟩ = some (.int .u64 0) := (Blk.new (wr.drewN nq) 62 #[.bool false, .int .i64 0, .int .i64 0, .int .u64 0, .int .u64 0, .int .i64 0, .int .u64 0, .int .u64 0]).cellv rfl
    have nf3 : ((wr.drewN nq).alloc (.cells #[.bool false, .int .i64 0, .int .i64 0, .int .u64 0, .int .u64 0, .int .i64 0, .int .u64 0, .int .u64 0] 62)).frozen? ⟨wr.heap.size, 3, none⟩ = false := (Blk.new (wr.drewN nq) 62 #[.bool false, .int .i64 0, .int .i64 0, .int .u64 0, .int .u64 0, .int .i64 0, .int .u64 0, .int .u64 0]).frozen 3
    have nc4 : ((wr.drewN nq).alloc (.cells #[.bool false, .int .i64 0, .int .i64 0, .int .u64 0, .int .u64 0, .int .i64 0, .int .u64 0, .int .u64 0] 62)).cell? ⟨wr.heap.size, 4, none⟩ = some (.int .u64 0) := (Blk.new (wr.drewN nq) 62 #[.bool false, .int .i64 0, .int .i64 0, .int .u64 0, .int .u64 0, .int .i64 0, .int .u64 0, .int .u64 0]).cellv rfl
    have nf4 : ((wr.drewN nq).alloc (.cells #[.bool false, .int .i64 0, .int .i64 0, .int .u64 0, .int .u64 0, .int .i64 0, .int .u64 0, .int .u64 0] 62)).frozen? ⟨wr.heap.size, 4, none⟩ = false := (Blk.new (wr.drewN nq) 62 #[.bool false, .int .i64 0, .int .i64 0, .int .u64 0, .int .u64 0, .int .i64 0, .int .u64 0, .int .u64 0]).frozen 4
    have nc5 : ((wr.drewN nq).alloc (.cells #[.bool false, .int .i64 0, .int .i64 0, .int .u64 0, .int .u64 0, .int .i64 0, .int .u64 0, .int .u64 0] 62)).cell? ⟨wr.heap.size, 5, none⟩ = some (.int .i64 0) := (Blk.new (wr.drewN nq) 62 #[.bool false, .int .i64 0, .int .i64 0, .int .u64 0, .int .u64 0, .int .i64 0, .int .u64 0, .int .u64 0]).cellv rfl
    have nf5 : ((wr.drewN nq).alloc (.cells #[.bool false, .int .i64 0, .int .i64 0, .int .u64 0, .int .u64 0, .int .i64 0, .int .u64 0, .int .u64 0] 62)).frozen? ⟨wr.heap.size, 5, none⟩ = false := (Blk.new (wr.drewN nq) 62 #[.bool false, .int .i64 0, .int .i64 0, .int .u64 0, .int .u64 0, .int .i64 0, .int .u64 0, .int .u64 0]).frozen 5
    have nc6 : ((wr.drewN nq).alloc (.cells #[.bool false, .int .i64 0, .int .i64 0, .int .u64 0, .int .u64 0, .int .i64 0, .int .u64 0, .int .u64 0] 62)).cell? ⟨wr.heap.size, 6, none⟩ = some (.int .u64 0) := (Blk.new (wr.drewN nq) 62 #[.bool false, .int .i64 0, .int .i64 0, .int .u64 0, .int .u64 0, .int .i64 0, .int .u64 0, .int .u64 0]).cellv rfl
    have nf6 : ((wr.drewN nq).alloc (.cells #[.bool false, .int .i64 0, .int .i64 0, .int .u64 0, .int .u64 0, .int .i64 0, .int .u64 0, .int .u64 0] 62)).frozen? ⟨wr.heap.size, 6, none⟩ = false := (Blk.new (wr.drewN nq) 62 #[.bool false, .int .i64 0, .int .i64 0, .int .u64 0, .int .u64 0, .int .i64 0, .int .u64 0, .int .u64 0]).frozen 6
    have nc7 : ((wr.drewN nq).alloc (.cells #[.bool false, .int .i64 0, .int .i64 0, .int .u64 0, .int .u64 0, .int .i64 0, .int .u64 0, .int .u64 0] 62)).cell? ⟨wr.heap.size, 7, none⟩ = some (.int .u64 0) := (Blk.new (wr.drewN nq) 62 #[.bool false, .int .i64 0, .int .i64 0, .int .u64 0, .int .u64 0, .int .i64 0, .int .u64 0, .int .u64 0]).cellv rfl
    have nf7 : ((wr.drewN nq).alloc (.cells #[.bool false, .int .i64 0, .int .i64 0, .int .u64 0, .int .u64 0, .int .i64 0, .int .u64 0, .int .u64 0] 62)).frozen? ⟨wr.heap.size, 7, none⟩ = false := (Blk.new (wr.drewN nq) 62 #[.bool false, .int .i64 0, .int .i64 0, .int .u64 0, .int .u64 0, .int .i64 0, .int .u64 0, .int .u64 0]).frozen 7
    go_wp2_with fail
    go_meet
    refine ⟨by simp, ?_, ?_⟩
    · have := ((((((((Blk.new (wr.drewN nq) 62 #[.bool false, .int .i64 0, .int .i64 0, .int .u64 0, .int .u64 0, .int .i64 0, .int .u64 0, .int .u64 0]).set_ 0 (.bool false)).set_ 1 (.int .i64 2)).set_ 2 (.int .i64 (base + 1))).set_ 3 (.int .u64 b)).set_ 4 (.int .u64 0)).set_ 5 (.int .i64 0)).set_ 6 (.int .u64 0)).set_ 7 (.int .u64 0)
      simpa using this
    · exact ((((((((((Only.refl S0 wr).drewN nq).alloc _).setNew 0 (by simp) _).setNew 1 (by simp) _).setNew 2 (by simp) _).setNew 3 (by simp) _).setNew 4 (by simp) _).setNew 5 (by simp) _).setNew 6 (by simp) _).setNew 7 (by simp) _
  case rest =>
  obtain ⟨rfl, hbk, ho⟩ := hcut
  have HO3 := hide (HO.out.trans ho)
  have RB3 := hide (HND.out.res.only ho (fun h => h))
  have HBK := hide hbk
  have f0 : wc.cell? ⟨g, off, none⟩ = some (.int .u64 b) := (ho.cell (p := ⟨g, off, none⟩) hg3 (fun h => h)).trans e0
  have f1 : wc.cell? ⟨g, off + 1, none⟩ = some (.int .u64 x) := (ho.cell (p := ⟨g, off + 1, none⟩) hg3 (fun h => h)).trans e1
  have f2 : wc.cell? ⟨g, off + 2, none⟩ = some (.int .u64 t) := (ho.cell (p := ⟨g, off + 2, none⟩) hg3 (fun h => h)).trans e2
  have HD3 := hide (HND.out.deq.only ho (fun h => h))
  skip
  clear ho hbk e0 e1 e2 r0 r1 p0 p1 p2 z0 y0 z1 y1 z2 y2 z3 y3 z4 y4 z5 y5 z6 y6 z7 y7
  generalize hwd : wc = wd at *
  clear hwd
  have r0 : wd.cell? ⟨w.heap.size, 0, none⟩ = some (.int .i64 base) := HD3.out.cellv rfl
  have r1 : wd.cell? ⟨w.heap.size, 1, none⟩ = some (.int .i64 n) := HD3.out.cellv rfl
  have q0 : wd.cell? ⟨wr.heap.size, 0, none⟩ = some (.bool false) := HBK.out.cellv rfl
  have q1 : wd.cell? ⟨wr.heap.size, 1, none⟩ = some (.int .i64 2) := HBK.out.cellv rfl
  have q2 : wd.cell? ⟨wr.heap.size, 2, none⟩ = some (.int .i64 (base + 1)) := HBK.out.cellv rfl
  have q3 : wd.cell? ⟨wr.heap.size, 3, none⟩ = some (.int .u64 b) := HBK.out.cellv rfl
  have q4 : wd.cell? ⟨wr.heap.size, 4, none⟩ = some (.int .u64 0) := HBK.out.cellv rfl
  have q5 : wd.cell? ⟨wr.heap.size, 5, none⟩ = some (.int .i64 0) := HBK.out.cellv rfl
  have q6 : wd.cell? ⟨wr.heap.size, 6, none⟩ = some (.int .u64 0) := HBK.out.cellv rfl
  have q7 : wd.cell? ⟨wr.heap.size, 7, none⟩ = some (.int .u64 0) := HBK.out.cellv rfl
  have z0 : wd.cell? ⟨w.heap.size + 1 + 1, 0, none⟩ = some (.bool false) := RB3.out.cellv rfl
  have y0 := RB3.out.frozen 0
  have z1 : wd.cell? ⟨w.heap.size + 1 + 1, 1, none⟩ = some (.int .i64 0) := RB3.out.cellv rfl
  have y1 := RB3.out.frozen 1
  have z2 : wd.cell? ⟨w.heap.size + 1 + 1, 2, none⟩ = some (.int .i64 0) := RB3.out.cellv rfl
  have y2 := RB3.out.frozen 2
  have z3 : wd.cell? ⟨w.heap.size + 1 + 1, 3, none⟩ = some (.int .u64 0) := RB3.out.cellv rfl
  have y3 := RB3.out.frozen 3
  have z4 : wd.cell? ⟨w.heap.size + 1 + 1, 4, none⟩ = some (.int .u64 0) := RB3.out.cellv rfl
  have y4 := RB3.out.frozen 4
  have z5 : wd.cell? ⟨w.heap.size + 1 + 1, 5, none⟩ = some (.int .i64 0) := RB3.out.cellv rfl
  have y5 := RB3.out.frozen 5
  have z6 : wd.cell? ⟨w.heap.size + 1 + 1, 6, none⟩ = some (.int .u64 0) := RB3.out.cellv rfl
  have y6 := RB3.out.frozen 6
  have z7 : wd.cell? ⟨w.heap.size + 1 + 1, 7, none⟩ = some (.int .u64 0) := RB3.out.cellv rfl
  have y7 := RB3.out.frozen 7
  go_wp2_with fail
  (try simp only [Exit.inBlock, Exit.then])
  refine bodyPost_ret (by simp [results, Tryz.results107, go_sem, z0, z1, z2, z3, z4, z5, z6, z7]; try rfl) rfl ?_
  refine ⟨rfl, ?_⟩
  repeat (first | with_reducible exact HO3.out | (with_reducible refine Only.setNew ?_ _ ?_ _; rotate_left 1; omega) | with_reducible refine Only.drew ?_ | with_reducible refine Only.drewN ?_ _ | with_reducible refine Only.alloc ?_ _)

set_option maxRecDepth 100000 in
set_option maxHeartbeats 2000000 in
theorem rpop_b4e (b x t y : Int) (hl : Rd w lv (([b, x, t, y] : List Int).map (.int .u64))) (b0 : 0 ≤ base) (b1 : base ≤ 70000) (n1 : 1 ≤ n) (n64 : n ≤ 64) (ub : U64 b) (ux : U64 x) (ut : U64 t) (uy : U64 y) (h : IntKind.u64.wrap (b - 1) < t) :
    Calls Tryz.prog 107 #[.agg #[.int .i64 base, .int .i64 n], .agg #[.int .i64 2, .int .u64 V, lv]] w fun e w' => e = .returned (gwV (wOver 4 0)) ∧ Only S0 w w' := by
  obtain ⟨a, ca, rfl, ha⟩ := hl
  obtain ⟨g, off, rfl, hg, hc⟩ := ha (by simp)
  rw [show (([b, x, t, y] : List Int).map (Value.int .u64)).length = 4 from rfl] at *
  have nd := nd_new w base n 2 V (.slice (some ⟨g, off, none⟩) 4 ca)
  have e0 := (nd.only.cell (p := ⟨g, off + 0, none⟩) hg (fun h => h)).trans (hc 0 (.int .u64 b) rfl)
  have e1 := (nd.only.cell (p := ⟨g, off + 1, none⟩) hg (fun h => h)).trans (hc 1 (.int .u64 x) rfl)
  have e2 := (nd.only.cell (p := ⟨g, off + 2, none⟩) hg (fun h => h)).trans (hc 2 (.int .u64 t) rfl)
  have e3 := (nd.only.cell (p := ⟨g, off + 3, none⟩) hg (fun h => h)).trans (hc 3 (.int .u64 y) rfl)
  rw [Nat.add_zero] at e0
  have hg3 := Nat.lt_of_lt_of_le hg nd.only.size
  clear hc ha hg
  have hsz : w.heap.size + 1 + 1 < (((w.alloc (.cells #[.int .i64 base, .int .i64 n] 91)).alloc (.cells #[.int .i64 2, .int .u64 V, .slice (some ⟨g, off, none⟩) 4 ca] 133)).alloc (.cells #[.bool false, .int .i64 0, .int .i64 0, .int .u64 0, .int .u64 0, .int .i64 0, .int .u64 0, .int .u64 0] 62)).heap.size := Blk.lt nd.res
  go_enter Tryz.func107, Tryz.ntmps107
  go_upto_region 1 with fail
  generalize ((w.alloc (.cells #[.int .i64 base, .int .i64 n] 91)).alloc (.cells #[.int .i64 2, .int .u64 V, .slice (some ⟨g, off, none⟩) 4 ca] 133)).alloc (.cells #[.bool false, .int .i64 0, .int .i64 0, .int .u64 0, .int .u64 0, .int .i64 0, .int .u64 0, .int .u64 0] 62) = wr at nd hsz hg3 e0 e1 e2 e3 ⊢
  have HND := hide nd
  have HO := hide nd.only
  have RB := hide nd.res
  have r0 : wr.cell? ⟨w.heap.size, 0, none⟩ = some (.int .i64 base) := nd.deq.cellv rfl
  have r1 : wr.cell? ⟨w.heap.size, 1, none⟩ = some (.int .i64 n) := nd.deq.cellv rfl
  have p0 : wr.cell? ⟨w.heap.size + 1, 0, none⟩ = some (.int .i64 2) := nd.op.cellv rfl
  have p1 : wr.cell? ⟨w.heap.size + 1, 1, none⟩ = some (.int .u64 V) := nd.op.cellv rfl
  have p2 : wr.cell? ⟨w.heap.size + 1, 2, none⟩ = some (.slice (some ⟨g, off, none⟩) 4 ca) := nd.op.cellv rfl
  clear nd
  have z0 : wr.cell? ⟨w.heap.size + 1 + 1, 0, none⟩ = some (.bool false) := RB.out.cellv rfl
  have y0 := RB.out.frozen 0
  have z1 : wr.cell? ⟨w.heap.size + 1 + 1, 1, none⟩ = some (.int .i64 0) := RB.out.cellv rfl
  have y1 := RB.out.frozen 1
  have z2 : wr.cell? ⟨w.heap.size + 1 + 1, 2, none⟩ = some (.int .i64 0) := RB.out.cellv rfl
  have y2 := RB.out.frozen 2
  have z3 : wr.cell? ⟨w.heap.size + 1 + 1, 3, none⟩ = some (.int .u64 0) := RB.out.cellv rfl
  have y3 := RB.out.frozen 3
  have z4 : wr.cell? ⟨w.heap.size + 1 + 1, 4, none⟩ = some (.int .u64 0) := RB.out.cellv rfl
  have y4 := RB.out.frozen 4
  have z5 : wr.cell? ⟨w.heap.size + 1 + 1, 5, none⟩ = some (.int .i64 0) := RB.out.cellv rfl
  have y5 := RB.out.frozen 5
  have z6 : wr.cell? ⟨w.heap.size + 1 + 1, 6, none⟩ = some (.int .u64 0) := RB.out.cellv rfl
  have y6 := RB.out.frozen 6
  have z7 : wr.cell? ⟨w.heap.size + 1 + 1, 7, none⟩ = some (.int .u64 0) := RB.out.cellv rfl
  have y7 := RB.out.frozen 7
  go_upto_region 9 with fail
  go_quiet (fail)
  go_upto_region 10 with fail
  go_cut [8] (fun v8 wx => v8 = .pointer (some ⟨wr.heap.size, 0, none⟩) ∧ Blk wx wr.heap.size 62 #[.bool false, .int .i64 2, .int .i64 (base + 1), .int .u64 b, .int .u64 0, .int .i64 0, .int .u64 0, .int .u64 0] ∧ Only S0 wr wx)
  case first =>
    have nc0 : ((wr.drewN nq).alloc (.cells #[.bool false, .int .i64 0, .int .i64 0, .int .u64 0, .int .u64 0, .int .i64 0, .int .u64 0, .int .u64 0] 62)).cell? ⟨wr.heap.size, 0, none⟩ = some (.bool false) := (Blk.new (wr.drewN nq) 62 #[.bool false, .int .i64 0, .int .i64 0, .int .u64 0, .int .u64 0, .int .i64 0, .int .u64 0, .int .u64 0]).cellv rfl
    have nf0 : ((wr.drewN nq).alloc (.cells #[.bool false, .int .i64 0, .int .i64 0, .int .u64 0, .int .u64 0, .int .i64 0, .int .u64 0, .int .u64 0] 62)).frozen? ⟨wr.heap.size, 0, none⟩ = false := (Blk.new (wr.drewN nq) 62 #[.bool false, .int .i64 0, .int .i64 0, .int .u64 0, .int .u64 0, .int .i64 0, .int .u64 0, .int .u64 0]).frozen 0
    have nc1 : ((wr.drewN nq).alloc (.cells #[.bool false, .int .i64 0, .int .i64 0, .int .u64 0, .int .u64 0, .int .i64 0, .int .u64 0, .int .u64 0] 62)).cell? ⟨wr.heap.size, 1, none⟩ = some (.int .i64 0) := (Blk.new (wr.drewN nq) 62 #[.bool false, .int .i64 0, .int .i64 0, .int .u64 0, .int .u64 0, .int .i64 0, .int .u64 0, .int .u64 0]).cellv rfl
    have nf1 : ((wr.drewN nq).alloc (.cells #[.bool false, .int .i64 0, .int .i64 0, .int .u64 0, .int .u64 0, .int .i64 0, .int .u64 0, .int .u64 0] 62)).frozen? ⟨wr.heap.size, 1, none⟩ = false := (Blk.new (wr.drewN nq) 62 #[.bool false, .int .i64 0, .int .i64 0, .int .u64 0, .int .u64 0, .int .i64 0, .int .u64 0, .int .u64 0]).frozen 1
    have nc2 : ((wr.drewN nq).alloc (.cells #[.bool false, .int .i64 0, .int .i64 0, .int .u64 0, .int .u64 0, .int .i64 0, .int .u64 0, .int .u64 0] 62)).cell? ⟨wr.heap.size, 2, none⟩ = some (.int .i64 0) := (Blk.new (wr.drewN nq) 62 #[.bool false, .int .i64 0, .int .i64 0, .int .u64 0, .int .u64 0, .int .i64 0, .int .u64 0, .int .u64 0]).cellv rfl
    have nf2 : ((wr.drewN nq).alloc (.cells #[.bool false, .int .i64 0, .int .i64 0, .int .u64 0, .int .u64 0, .int .i64 0, .int .u64 0, .int .u64 0] 62)).frozen? ⟨wr.heap.size, 2, none⟩ = false := (Blk.new (wr.drewN nq) 62 #[.bool false, .int .i64 0, .int .i64 0, .int .u64 0, .int .u64 0, .int .i64 0, .int .u64 0, .int .u64 0]).frozen 2
    have nc3 : ((wr.drewN nq).alloc (.cells #[.bool false, .int .i64 0, .int .i64 0, .int .u64 0, .int .u64 0, .int .i64 0, .int .u64 0, .int .u64 0] 62)).cell? ⟨wr.heap.size, 3, none⟩ = some (.int .u64 0) := (Blk.new (wr.drewN nq) 62 #[.bool false, .int .i64 0, .int .i64 0, .int .u64 0, .int .u64 0, .int .i64 0, .int .u64 0, .int .u64 0]).cellv rfl
    have nf3 : ((wr.drewN nq).alloc (.cells #[.bool false, .int .i64 0, .int .i64 0, .int .u64 0, .int .u64 0, .int .i64 0, .int .u64 0, .int .u64 0] 62)).frozen? ⟨wr.heap.size, 3, none⟩ = false := (Blk.new (wr.drewN nq) 62 #[.bool false, .int .i64 0, .int .i64 0, .int .u64 0, .int .u64 0, .int .i64 0, .int .u64 0, .int .u64 0]).frozen 3
    have nc4 : ((wr.drewN nq).alloc (.cells #[.bool false, .int .i64 0, .int .i64 0, .int .u64 0, .int .u64 0, .int .i64 0, .int .u64 0, .int .u64 0] 62)).cell? ⟨wr.heap.size, 4, none⟩ = some (.int .u64 0) := (Blk.new (wr.drewN nq) 62 #[.bool false, .int .i64 0, .int .i64 0, .int .u64 0, .int .u64 0, .int .i64 0, .int .u64 0, .int .u64 0]).cellv rfl
    have nf4 : ((wr.drewN nq).alloc (.cells #[.bool false, .int .i64 0, .int .i64 0, .int .u64 0, .int .u64 0, .int .i64 0, .int .u64 0, .int .u64 0] 62)).frozen? ⟨wr.heap.size, 4, none⟩ = false := (Blk.new (wr.drewN nq) 62 #[.bool false, .int .i64 0, .int .i64 0, .int .u64 0, .int .u64 0, .int .i64 0, .int .u64 0, .int .u64 0]).frozen 4
    have nc5 : ((wr.drewN nq).alloc (.cells #[.bool false, .int .i64 0, .int .i64 0, .int .u64 0, .int .u64 0, .int .i64 0, .int .u64 0, .int .u64 0] 62)).cell? ⟨wr.heap.size, 5, none⟩ = some (.int .i64 0) := (Blk.new (wr.drewN nq) 62 #[.bool false, .int .i64 0, .int .i64 0, .int .u64 0, .int .u64 0, .int .i64 0, .int .u64 0, .int .u64 0]).cellv rfl
    have nf5 : ((wr.drewN nq).alloc (.cells #[.bool false, .int .i64 0, .int .i64 0, .int .u64 0, .int .u64 0, .int .i64 0, .int .u64 0, .int .u64 0] 62)).frozen? ⟨wr.heap.size, 5, none⟩ = false := (Blk.new (wr.drewN nq) 62 #[.bool false, .int .i64 0, .int .i64 0, .int .u64 0, .int .u64 0, .int .i64 0, .int .u64 0, .int .u64 0]).frozen 5
    have nc6 : ((wr.drewN nq).alloc (.cells #[.bool false, .int .i64 0, .int .i64 0, .int .u64 0, .int .u64 0, .int .i64 0, .int .u64 0, .int .u64 0] 62)).cell? ⟨wr.heap.size, 6, none⟩ = some (.int .u64 0) := (Blk.new (wr.drewN nq) 62 #[.bool false, .int .i64 0, .int .i64 0, .int .u64 0, .int .u64 0, .int .i64 0, .int .u64 0, .int .u64 0]).cellv rfl
    have nf6 : ((wr.drewN nq).alloc (.cells #[.bool false, .int .i64 0, .int .i64 0, .int .u64 0, .int .u64 0, .int .i64 0, .int .u64 0, .int .u64 0] 62)).frozen? ⟨wr.heap.size, 6, none⟩ = false := (Blk.new (wr.drewN nq) 62 #[.bool false, .int .i64 0, .int .i64 0, .int .u64 0, .int .u64 0, .int .i64 0, .int .u64 0, .int .u64 0]).frozen 6
    have nc7 : ((wr.drewN nq).alloc (.cells #[.bool false, .int .i64 0, .int .i64 0, .int .u64 0, .int .u64 0, .int .i64 0, .int .u64 0, .int .u64 0] 62)).cell? ⟨wr.heap.size, 7, none⟩ = some (.int .u64 0) := (Blk.new (wr.drewN nq) 62 #[.bool false, .int .i64 0, .int .i64 0, .int .u64 0, .int .u64 0, .int .i64 0, .int .u64 0, .int .u64 0]).cellv rfl
    have nf7 : ((wr.drewN nq).alloc (.cells #[.bool false, .int .i64 0, .int .i64 0, .int .u64 0, .int .u64 0, .int .i64 0, .int .u64 0, .int .u64 0] 62)).frozen? ⟨wr.heap.size, 7, none⟩ = false := (Blk.new (wr.drewN nq) 62 #[.bool false, .int .i64 0, .int .i64 0, .int .u64 0, .int .u64 0, .int .i64 0, .int .u64 0, .int .u64 0]).frozen 7
    go_wp2_with fail
    go_meet
    refine ⟨by simp, ?_, ?_⟩
    · have := ((((((((Blk.new (wr.drewN nq) 62 #[.bool false, .int .i64 0, .int .i64 0, .int .u64 0, .int .u64 0, .int .i64 0, .int .u64 0, .int .u64 0]).set_ 0 (.bool false)).set_ 1 (.int .i64 2)).set_ 2 (.int .i64 (base + 1))).set_ 3 (.int .u64 b)).set_ 4 (.int .u64 0)).set_ 5 (.int .i64 0)).set_ 6 (.int .u64 0)).set_ 7 (.int .u64 0)
      simpa using this
    · exact ((((((((((Only.refl S0 wr).drewN nq).alloc _).setNew 0 (by simp) _).setNew 1 (by simp) _).setNew 2 (by simp) _).setNew 3 (by simp) _).setNew 4 (by simp) _).setNew 5 (by simp) _).setNew 6 (by simp) _).setNew 7 (by simp) _
  case rest =>
  obtain ⟨rfl, hbk, ho⟩ := hcut
  have HO3 := hide (HO.out.trans ho)
  have RB3 := hide (HND.out.res.only ho (fun h => h))
  have HBK := hide hbk
  have f0 : wc.cell? ⟨g, off, none⟩ = some (.int .u64 b) := (ho.cell (p := ⟨g, off, none⟩) hg3 (fun h => h)).trans e0
  have f1 : wc.cell? ⟨g, off + 1, none⟩ = some (.int .u64 x) := (ho.cell (p := ⟨g, off + 1, none⟩) hg3 (fun h => h)).trans e1
  have f2 : wc.cell? ⟨g, off + 2, none⟩ = some (.int .u64 t) := (ho.cell (p := ⟨g, off + 2, none⟩) hg3 (fun h => h)).trans e2
  have f3 : wc.cell? ⟨g, off + 3, none⟩ = some (.int .u64 y) := (ho.cell (p := ⟨g, off + 3, none⟩) hg3 (fun h => h)).trans e3
  have HD3 := hide (HND.out.deq.only ho (fun h => h))
  skip
  clear ho hbk e0 e1 e2 e3 r0 r1 p0 p1 p2 z0 y0 z1 y1 z2 y2 z3 y3 z4 y4 z5 y5 z6 y6 z7 y7
  generalize hwd : wc = wd at *
  clear hwd
  have r0 : wd.cell? ⟨w.heap.size, 0, none⟩ = some (.int .i64 base) := HD3.out.cellv rfl
  have r1 : wd.cell? ⟨w.heap.size, 1, none⟩ = some (.int .i64 n) := HD3.out.cellv rfl
  have q0 : wd.cell? ⟨wr.heap.size, 0, none⟩ = some (.bool false) := HBK.out.cellv rfl
  have q1 : wd.cell? ⟨wr.heap.size, 1, none⟩ = some (.int .i64 2) := HBK.out.cellv rfl
  have q2 : wd.cell? ⟨wr.heap.size, 2, none⟩ = some (.int .i64 (base + 1)) := HBK.out.cellv rfl
  have q3 : wd.cell? ⟨wr.heap.size, 3, none⟩ = some (.int .u64 b) := HBK.out.cellv rfl
  have q4 : wd.cell? ⟨wr.heap.size, 4, none⟩ = some (.int .u64 0) := HBK.out.cellv rfl
  have q5 : wd.cell? ⟨wr.heap.size, 5, none⟩ = some (.int .i64 0) := HBK.out.cellv rfl
  have q6 : wd.cell? ⟨wr.heap.size, 6, none⟩ = some (.int .u64 0) := HBK.out.cellv rfl
  have q7 : wd.cell? ⟨wr.heap.size, 7, none⟩ = some (.int .u64 0) := HBK.out.cellv rfl
  have z0 : wd.cell? ⟨w.heap.size + 1 + 1, 0, none⟩ = some (.bool false) := RB3.out.cellv rfl
  have y0 := RB3.out.frozen 0
  have z1 : wd.cell? ⟨w.heap.size + 1 + 1, 1, none⟩ = some (.int .i64 0) := RB3.out.cellv rfl
  have y1 := RB3.out.frozen 1
  have z2 : wd.cell? ⟨w.heap.size + 1 + 1, 2, none⟩ = some (.int .i64 0) := RB3.out.cellv rfl
  have y2 := RB3.out.frozen 2
  have z3 : wd.cell? ⟨w.heap.size + 1 + 1, 3, none⟩ = some (.int .u64 0) := RB3.out.cellv rfl
  have y3 := RB3.out.frozen 3
  have z4 : wd.cell? ⟨w.heap.size + 1 + 1, 4, none⟩ = some (.int .u64 0) := RB3.out.cellv rfl
  have y4 := RB3.out.frozen 4
  have z5 : wd.cell? ⟨w.heap.size + 1 + 1, 5, none⟩ = some (.int .i64 0) := RB3.out.cellv rfl
  have y5 := RB3.out.frozen 5
  have z6 : wd.cell? ⟨w.heap.size + 1 + 1, 6, none⟩ = some (.int .u64 0) := RB3.out.cellv rfl
  have y6 := RB3.out.frozen 6
  have z7 : wd.cell? ⟨w.heap.size + 1 + 1, 7, none⟩ = some (.int .u64 0) := RB3.out.cellv rfl
  have y7 := RB3.out.frozen 7
  go_wp2_with fail
  refine (rover_any 4 0 _).mono ?_
  rintro e w2 ⟨rfl, o2⟩
  have HO2 := hide (HO3.out.trans o2)
  have RB2 := hide (RB3.out.only o2 (fun h => h))
  clear o2 z0 y0 z1 y1 z2 y2 z3 y3 z4 y4 z5 y5 z6 y6 z7 y7
  have z0 : w2.cell? ⟨w.heap.size + 1 + 1, 0, none⟩ = some (.bool false) := RB2.out.cellv rfl
  have y0 := RB2.out.frozen 0
  have z1 : w2.cell? ⟨w.heap.size + 1 + 1, 1, none⟩ = some (.int .i64 0) := RB2.out.cellv rfl
  have y1 := RB2.out.frozen 1
  have z2 : w2.cell? ⟨w.heap.size + 1 + 1, 2, none⟩ = some (.int .i64 0) := RB2.out.cellv rfl
  have y2 := RB2.out.frozen 2
  have z3 : w2.cell? ⟨w.heap.size + 1 + 1, 3, none⟩ = some (.int .u64 0) := RB2.out.cellv rfl
  have y3 := RB2.out.frozen 3
  have z4 : w2.cell? ⟨w.heap.size + 1 + 1, 4, none⟩ = some (.int .u64 0) := RB2.out.cellv rfl
  have y4 := RB2.out.frozen 4
  have z5 : w2.cell? ⟨w.heap.size + 1 + 1, 5, none⟩ = some (.int .i64 0) := RB2.out.cellv rfl
  have y5 := RB2.out.frozen 5
  have z6 : w2.cell? ⟨w.heap.size + 1 + 1, 6, none⟩ = some (.int .u64 0) := RB2.out.cellv rfl
  have y6 := RB2.out.frozen 6
  have z7 : w2.cell? ⟨w.heap.size + 1 + 1, 7, none⟩ = some (.int .u64 0) := RB2.out.cellv rfl
  have y7 := RB2.out.frozen 7
  unfold gwV
  go_wp2_with fail
  (try simp only [Exit.inBlock, Exit.then])
  refine bodyPost_ret (by simp [results, Tryz.results107, go_sem, z0, z1, z2, z3, z4, z5, z6, z7]; try rfl) rfl ?_
  refine ⟨rfl, ?_⟩
  repeat (first | with_reducible exact HO2.out | (with_reducible refine Only.setNew ?_ _ ?_ _; rotate_left 1; omega) | with_reducible refine Only.drew ?_ | with_reducible refine Only.drewN ?_ _ | with_reducible refine Only.alloc ?_ _)

set_option maxRecDepth 100000 in
set_option maxHeartbeats 2000000 in
theorem rpop_b3 (b x t : Int) (hl : Rd w lv (([b, x, t] : List Int).map (.int .u64))) (b0 : 0 ≤ base) (b1 : base ≤ 70000) (n1 : 1 ≤ n) (n64 : n ≤ 64) (ub : U64 b) (ux : U64 x) (ut : U64 t) (h : ¬ IntKind.u64.wrap (b - 1) < t) :
    Calls Tryz.prog 107 #[.agg #[.int .i64 base, .int .i64 n], .agg #[.int .i64 2, .int .u64 V, lv]] w fun e w' => e = .returned (gwV (wLoad (dslotOf base n (IntKind.u64.wrap (b - 1))))) ∧ Only S0 w w' := by
  obtain ⟨a, ca, rfl, ha⟩ := hl
  obtain ⟨g, off, rfl, hg, hc⟩ := ha (by simp)
  rw [show (([b, x, t] : List Int).map (Value.int .u64)).length = 3 from rfl] at *
  have nd := nd_new w base n 2 V (.slice (some ⟨g, off, none⟩) 3 ca)
  have e0 := (nd.only.cell (p := ⟨g, off + 0, none⟩) hg (fun h => h)).trans (hc 0 (.int .u64 b) rfl)
  have e1 := (nd.only.cell (p := ⟨g, off + 1, none⟩) hg (fun h => h)).trans (hc 1 (.int .u64 x) rfl)
  have e2 := (nd.only.cell (p := ⟨g, off + 2, none⟩) hg (fun h => h)).trans (hc 2 (.int .u64 t) rfl)
  rw [Nat.add_zero] at e0
  have hg3 := Nat.lt_of_lt_of_le hg nd.only.size
  clear hc ha hg
  have hsz : w.heap.size + 1 + 1 < (((w.alloc (.cells #[.int .i64 base, .int .i64 n] 91)).alloc (.cells #[.int .i64 2, .int .u64 V, .slice (some ⟨g, off, none⟩) 3 ca] 133)).alloc (.cells #[.bool false, .int .i64 0, .int .i64 0, .int .u64 0, .int .u64 0, .int .i64 0, .int .u64 0, .int .u64 0] 62)).heap.size := Blk.lt nd.res
  go_enter Tryz.func107, Tryz.ntmps107
  go_upto_region 1 with fail
  generalize ((w.alloc (.cells #[.int .i64 base, .int .i64 n] 91)).alloc (.cells #[.int .i64 2, .int .u64 V, .slice (some ⟨g, off, none⟩) 3 ca] 133)).alloc (.cells #[.bool false, .int .i64 0, .int .i64 0, .int .u64 0, .int .u64 0, .int .i64 0, .int .u64 0, .int .u64 0] 62) = wr at nd hsz hg3 e0 e1 e2 ⊢
  have HND := hide nd
  have HO := hide nd.only
  have RB := hide nd.res
  have r0 : wr.cell? ⟨w.heap.size, 0, none⟩ = some (.int .i64 base) := nd.deq.cellv rfl
  have r1 : wr.cell? ⟨w.heap.size, 1, none⟩ = some (.int .i64 n) := nd.deq.cellv rfl
  have p0 : wr.cell? ⟨w.heap.size + 1, 0, none⟩ = some (.int .i64 2) := nd.op.cellv rfl
  have p1 : wr.cell? ⟨w.heap.size + 1, 1, none⟩ = some (.int .u64 V) := nd.op.cellv rfl
  have p2 : wr.cell? ⟨w.heap.size + 1, 2, none⟩ = some (.slice (some ⟨g, off, none⟩) 3 ca) := nd.op.cellv rfl
  clear nd
  have z0 : wr.cell? ⟨w.heap.size + 1 + 1, 0, none⟩ = some (.bool false) := RB.out.cellv rfl
  have y0 := RB.out.frozen 0
  have z1 : wr.cell? ⟨w.heap.size + 1 + 1, 1, none⟩ = some (.int .i64 0) := RB.out.cellv rfl
  have y1 := RB.out.frozen 1
  have z2 : wr.cell? ⟨w.heap.size + 1 + 1, 2, none⟩ = some (.int .i64 0) := RB.out.cellv rfl
  have y2 := RB.out.frozen 2
  have z3 : wr.cell? ⟨w.heap.size + 1 + 1, 3, none⟩ = some (.int .u64 0) := RB.out.cellv rfl
  have y3 := RB.out.frozen 3
  have z4 : wr.cell? ⟨w.heap.size + 1 + 1, 4, none⟩ = some (.int .u64 0) := RB.out.cellv rfl
  have y4 := RB.out.frozen 4
  have z5 : wr.cell? ⟨w.heap.size + 1 + 1, 5, none⟩ = some (.int .i64 0) := RB.out.cellv rfl
  have y5 := RB.out.frozen 5
  have z6 : wr.cell? ⟨w.heap.size + 1 + 1, 6, none⟩ = some (.int .u64 0) := RB.out.cellv rfl
  have y6 := RB.out.frozen 6
  have z7 : wr.cell? ⟨w.heap.size + 1 + 1, 7, none⟩ = some (.int .u64 0) := RB.out.cellv rfl
  have y7 := RB.out.frozen 7
  go_upto_region 9 with fail
  go_quiet (fail)
  go_upto_region 10 with fail
  go_cut [8] (fun v8 wx => v8 = .pointer (some ⟨wr.heap.size, 0, none⟩) ∧ Blk wx wr.heap.size 62 #[.bool false, .int .i64 2, .int .i64 (base + 1), .int .u64 b, .int .u64 0, .int .i64 0, .int .u64 0, .int .u64 0] ∧ Only S0 wr wx)
  case first =>
    have nc0 : ((wr.drewN nq).alloc (.cells #[.bool false, .int .i64 0, .int .i64 0, .int .u64 0, .int .u64 0, .int .i64 0, .int .u64 0, .int .u64 0] 62)).cell? ⟨wr.heap.size, 0, none⟩ = some (.bool false) := (Blk.new (wr.drewN nq) 62 #[.bool false, .int .i64 0, .int .i64 0, .int .u64 0, .int .u64 0, .int .i64 0, .int .u64 0, .int .u64 0]).cellv rfl
    have nf0 : ((wr.drewN nq).alloc (.cells #[.bool false, .int .i64 0, .int .i64 0, .int .u64 0, .int .u64 0, .int .i64 0, .int .u64 0, .int .u64 0] 62)).frozen? ⟨wr.heap.size, 0, none⟩ = false := (Blk.new (wr.drewN nq) 62 #[.bool false, .int .i64 0, .int .i64 0, .int .u64 0, .int .u64 0, .int .i64 0, .int .u64 0, .int .u64 0]).frozen 0
    have nc1 : ((wr.drewN nq).alloc (.cells #[.bool false, .int .i64 0, .int .i64 0, .int .u64 0, .int .u64 0, .int .i64 0, .int .u64 0, .int .u64 0] 62)).cell? ⟨wr.heap.size, 1, none⟩ = some (.int .i64 0) := (Blk.new (wr.drewN nq) 62 #[.bool false, .int .i64 0, .int .i64 0, .int .u64 0, .int .u64 0, .int .i64 0, .int .u64 0, .int .u64 0]).cellv rfl
    have nf1 : ((wr.drewN nq).alloc (.cells #[.bool false, .int .i64 0, .int .i64 0, .int .u64 0, .int .u64 0, .int .i64 0, .int .u64 0, .int .u64 0] 62)).frozen? ⟨wr.heap.size, 1, none⟩ = false := (Blk.new (wr.drewN nq) 62 #[.bool false, .int .i64 0, .int .i64 0, .int .u64 0, .int .u64 0, .int .i64 0, .int .u64 0, .int .u64 0]).frozen 1
    have nc2 : ((wr.drewN nq).alloc (.cells #[.bool false, .int .i64 0, .int .i64 0, .int .u64 0, .int .u64 0, .int .i64 0, .int .u64 0, .int .u64 0] 62)).cell? ⟨wr.heap.size, 2, none⟩ = some (.int .i64 0) := (Blk.new (wr.drewN nq) 62 #[.bool false, .int .i64 0, .int .i64 0, .int .u64 0, .int .u64 0, .int .i64 0, .int .u64 0, .int .u64 0]).cellv rfl
    have nf2 : ((wr.drewN nq).alloc (.cells #[.bool false, .int .i64 0, .int .i64 0, .int .u64 0, .int .u64 0, .int .i64 0, .int .u64 0, .int .u64 0] 62)).frozen? ⟨wr.heap.size, 2, none⟩ = false := (Blk.new (wr.drewN nq) 62 #[.bool false, .int .i64 0, .int .i64 0, .int .u64 0, .int .u64 0, .int .i64 0, .int .u64 0, .int .u64 0]).frozen 2
    have nc3 : ((wr.drewN nq).alloc (.cells #[.bool false, .int .i64 0, .int .i64 0, .int .u64 0, .int .u64 0, .int .i64 0, .int .u64 0, .int .u64 0] 62)).cell? ⟨wr.heap.size, 3, none⟩ = some (.int .u64 0) := (Blk.new (wr.drewN nq) 62 #[.bool false, .int .i64 0, .int .i64 0, .int .u64 0, .int .u64 0, .int .i64 0, .int .u64 0, .int .u64 0]).cellv rfl
    have nf3 : ((wr.drewN nq).alloc (.cells #[.bool false, .int .i64 0, .int .i64 0, .int .u64 0, .int .u64 0, .int .i64 0, .int .u64 0, .int .u64 0] 62)).frozen? ⟨wr.heap.size, 3, none⟩ = false := (Blk.new (wr.drewN nq) 62 #[.bool false, .int .i64 0, .int .i64 0, .int .u64 0, .int .u64 0, .int .i64 0, .int .u64 0, .int .u64 0]).frozen 3
    have nc4 : ((wr.drewN nq).alloc (.cells #[.bool false, .int .i64 0, .int .i64 0, .int .u64 0, .int .u64 0, .int .i64 0, .int .u64 0, .int .u64 0] 62)).cell? ⟨wr.heap.size, 4, none⟩ = some (.int .u64 0) := (Blk.new (wr.drewN nq) 62 #[.bool false, .int .i64 0, .int .i64 0, .int .u64 0, .int .u64 0, .int .i64 0, .int .u64 0, .int .u64 0]).cellv rfl
    have nf4 : ((wr.drewN nq).alloc (.cells #[.bool false, .int .i64 0, .int .i64 0, .int .u64 0, .int .u64 0, .int .i64 0, .int .u64 0, .int .u64 0] 62)).frozen? ⟨wr.heap.size, 4, none⟩ = false := (Blk.new (wr.drewN nq) 62 #[.bool false, .int .i64 0, .int .i64 0, .int .u64 0, .int .u64 0, .int .i64 0, .int .u64 0, .int .u64 0]).frozen 4
    have nc5 : ((wr.drewN nq).alloc (.cells #[.bool false, .int .i64 0, .int .i64 0, .int .u64 0, .int .u64 0, .int .i64 0, .int .u64 0, .int .u64 0] 62)).cell? ⟨wr.heap.size, 5, none⟩ = some (.int .i64 0) := (Blk.new (wr.drewN nq) 62 #[.bool false, .int .i64 0, .int .i64 0, .int .u64 0, .int .u64 0, .int .i64 0, .int .u64 0, .int .u64 0]).cellv rfl
    have nf5 : ((wr.drewN nq).alloc (.cells #[.bool false, .int .i64 0, .int .i64 0, .int .u64 0, .int .u64 0, .int .i64 0, .int .u64 0, .int .u64 0] 62)).frozen? ⟨wr.heap.size, 5, none⟩ = false := (Blk.new (wr.drewN nq) 62 #[.bool false, .int .i64 0, .int .i64 0, .int .u64 0, .int .u64 0, .int .i64 0, .int .u64 0, .int .u64 0]).frozen 5
    have nc6 : ((wr.drewN nq).alloc (.cells #[.bool false, .int .i64 0, .int .i64 0, .int .u64 0, .int .u64 0, .int .i64 0, .int .u64 0, .int .u64 0] 62)).cell? ⟨wr.heap.size, 6, none⟩ = some (.int .u64 0) := (Blk.new (wr.drewN nq) 62 #[.bool false, .int .i64 0, .int .i64 0, .int .u64 0, .int .u64 0, .int .i64 0, .int .u64 0, .int .u64 0]).cellv rfl
    have nf6 : ((wr.drewN nq).alloc (.cells #[.bool false, .int .i64 0, .int .i64 0, .int .u64 0, .int .u64 0, .int .i64 0, .int .u64 0, .int .u64 0] 62)).frozen? ⟨wr.heap.size, 6, none⟩ = false := (Blk.new (wr.drewN nq) 62 #[.bool false, .int .i64 0, .int .i64 0, .int .u64 0, .int .u64 0, .int .i64 0, .int .u64 0, .int .u64 0]).frozen 6
    have nc7 : ((wr.drewN nq).alloc (.cells #[.bool false, .int .i64 0, .int .i64 0, .int .u64 0, .int .u64 0, .int .i64 0, .int .u64 0, .int .u64 0] 62)).cell? ⟨wr.heap.size, 7, none⟩ = some (.int .u64 0) := (Blk.new (wr.drewN nq) 62 #[.bool false, .int .i64 0, .int .i64 0, .int .u64 0, .int .u64 0, .int .i64 0, .int .u64 0, .int .u64 0]).cellv rfl
    have nf7 : ((wr.drewN nq).alloc (.cells #[.bool false, .int .i64 0, .int .i64 0, .int .u64 0, .int .u64 0, .int .i64 0, .int .u64 0, .int .u64 0] 62)).frozen? ⟨wr.heap.size, 7, none⟩ = false := (Blk.new (wr.drewN nq) 62 #[.bool false, .int .i64 0, .int .i64 0, .int .u64 0, .int .u64 0, .int .i64 0, .int .u64 0, .int .u64 0]).frozen 7
    go_wp2_with fail
    go_meet
    refine ⟨by simp, ?_, ?_⟩
    · have := ((((((((Blk.new (wr.drewN nq) 62 #[.bool false, .int .i64 0, .int .i64 0, .int .u64 0, .int .u64 0, .int .i64 0, .int .u64 0, .int .u64 0]).set_ 0 (.bool false)).set_ 1 (.int .i64 2)).set_ 2 (.int .i64 (base + 1))).set_ 3 (.int .u64 b)).set_ 4 (.int .u64 0)).set_ 5 (.int .i64 0)).set_ 6 (.int .u64 0)).set_ 7 (.int .u64 0)
      simpa using this
    · exact ((((((((((Only.refl S0 wr).drewN nq).alloc _).setNew 0 (by simp) _).setNew 1 (by simp) _).setNew 2 (by simp) _).setNew 3 (by simp) _).setNew 4 (by simp) _).setNew 5 (by simp) _).setNew 6 (by simp) _).setNew 7 (by simp) _
  case rest =>
  obtain ⟨rfl, hbk, ho⟩ := hcut
  have HO3 := hide (HO.out.trans ho)
  have RB3 := hide (HND.out.res.only ho (fun h => h))
  have HBK := hide hbk
  have f0 : wc.cell? ⟨g, off, none⟩ = some (.int .u64 b) := (ho.cell (p := ⟨g, off, none⟩) hg3 (fun h => h)).trans e0
  have f1 : wc.cell? ⟨g, off + 1, none⟩ = some (.int .u64 x) := (ho.cell (p := ⟨g, off + 1, none⟩) hg3 (fun h => h)).trans e1
  have f2 : wc.cell? ⟨g, off + 2, none⟩ = some (.int .u64 t) := (ho.cell (p := ⟨g, off + 2, none⟩) hg3 (fun h => h)).trans e2
  have HD3 := hide (HND.out.deq.only ho (fun h => h))
  skip
  clear ho hbk e0 e1 e2 r0 r1 p0 p1 p2 z0 y0 z1 y1 z2 y2 z3 y3 z4 y4 z5 y5 z6 y6 z7 y7
  generalize hwd : wc = wd at *
  clear hwd
  have r0 : wd.cell? ⟨w.heap.size, 0, none⟩ = some (.int .i64 base) := HD3.out.cellv rfl
  have r1 : wd.cell? ⟨w.heap.size, 1, none⟩ = some (.int .i64 n) := HD3.out.cellv rfl
  have q0 : wd.cell? ⟨wr.heap.size, 0, none⟩ = some (.bool false) := HBK.out.cellv rfl
  have q1 : wd.cell? ⟨wr.heap.size, 1, none⟩ = some (.int .i64 2) := HBK.out.cellv rfl
  have q2 : wd.cell? ⟨wr.heap.size, 2, none⟩ = some (.int .i64 (base + 1)) := HBK.out.cellv rfl
  have q3 : wd.cell? ⟨wr.heap.size, 3, none⟩ = some (.int .u64 b) := HBK.out.cellv rfl
  have q4 : wd.cell? ⟨wr.heap.size, 4, none⟩ = some (.int .u64 0) := HBK.out.cellv rfl
  have q5 : wd.cell? ⟨wr.heap.size, 5, none⟩ = some (.int .i64 0) := HBK.out.cellv rfl
  have q6 : wd.cell? ⟨wr.heap.size, 6, none⟩ = some (.int .u64 0) := HBK.out.cellv rfl
  have q7 : wd.cell? ⟨wr.heap.size, 7, none⟩ = some (.int .u64 0) := HBK.out.cellv rfl
  have z0 : wd.cell? ⟨w.heap.size + 1 + 1, 0, none⟩ = some (.bool false) := RB3.out.cellv rfl
  have y0 := RB3.out.frozen 0
  have z1 : wd.cell? ⟨w.heap.size + 1 + 1, 1, none⟩ = some (.int .i64 0) := RB3.out.cellv rfl
  have y1 := RB3.out.frozen 1
  have z2 : wd.cell? ⟨w.heap.size + 1 + 1, 2, none⟩ = some (.int .i64 0) := RB3.out.cellv rfl
  have y2 := RB3.out.frozen 2
  have z3 : wd.cell? ⟨w.heap.size + 1 + 1, 3, none⟩ = some (.int .u64 0) := RB3.out.cellv rfl
  have y3 := RB3.out.frozen 3
  have z4 : wd.cell? ⟨w.heap.size + 1 + 1, 4, none⟩ = some (.int .u64 0) := RB3.out.cellv rfl
  have y4 := RB3.out.frozen 4
  have z5 : wd.cell? ⟨w.heap.size + 1 + 1, 5, none⟩ = some (.int .i64 0) := RB3.out.cellv rfl
  have y5 := RB3.out.frozen 5
  have z6 : wd.cell? ⟨w.heap.size + 1 + 1, 6, none⟩ = some (.int .u64 0) := RB3.out.cellv rfl
  have y6 := RB3.out.frozen 6
  have z7 : wd.cell? ⟨w.heap.size + 1 + 1, 7, none⟩ = some (.int .u64 0) := RB3.out.cellv rfl
  have y7 := RB3.out.frozen 7
  go_wp2_with fail
  refine (rslot_any (IntKind.u64.wrap (b - 1)) (u64_wrap _) b0 b1 n1 n64 _).mono ?_
  rintro e w4 ⟨rfl, o4⟩
  have HO4 := hide (HO3.out.trans o4)
  have RB4 := hide (RB3.out.only o4 (fun h => h))
  clear o4
  go_wp2_with fail
  refine (rload_any _ _).mono ?_
  rintro e w2 ⟨rfl, o2⟩
  have HO2 := hide (HO4.out.trans o2)
  have RB2 := hide (RB4.out.only o2 (fun h => h))
  clear o2 z0 y0 z1 y1 z2 y2 z3 y3 z4 y4 z5 y5 z6 y6 z7 y7
  have z0 : w2.cell? ⟨w.heap.size + 1 + 1, 0, none⟩ = some (.bool false) := RB2.out.cellv rfl
  have y0 := RB2.out.frozen 0
  have z1 : w2.cell? ⟨w.heap.size + 1 + 1, 1, none⟩ = some (.int .i64 0) := RB2.out.cellv rfl
  have y1 := RB2.out.frozen 1
  have z2 : w2.cell? ⟨w.heap.size + 1 + 1, 2, none⟩ = some (.int .i64 0) := RB2.out.cellv rfl
  have y2 := RB2.out.frozen 2
  have z3 : w2.cell? ⟨w.heap.size + 1 + 1, 3, none⟩ = some (.int .u64 0) := RB2.out.cellv rfl
  have y3 := RB2.out.frozen 3
  have z4 : w2.cell? ⟨w.heap.size + 1 + 1, 4, none⟩ = some (.int .u64 0) := RB2.out.cellv rfl
  have y4 := RB2.out.frozen 4
  have z5 : w2.cell? ⟨w.heap.size + 1 + 1, 5, none⟩ = some (.int .i64 0) := RB2.out.cellv rfl
  have y5 := RB2.out.frozen 5
  have z6 : w2.cell? ⟨w.heap.size + 1 + 1, 6, none⟩ = some (.int .u64 0) := RB2.out.cellv rfl
  have y6 := RB2.out.frozen 6
  have z7 : w2.cell? ⟨w.heap.size + 1 + 1, 7, none⟩ = some (.int .u64 0) := RB2.out.cellv rfl
  have y7 := RB2.out.frozen 7
  unfold gwV
  go_wp2_with fail
  (try simp only [Exit.inBlock, Exit.then])
  refine bodyPost_ret (by simp [results, Tryz.results107, go_sem, z0, z1, z2, z3, z4, z5, z6, z7]; try rfl) rfl ?_
  refine ⟨rfl, ?_⟩
  repeat (first | with_reducible exact HO2.out | (with_reducible refine Only.setNew ?_ _ ?_ _; rotate_left 1; omega) | with_reducible refine Only.drew ?_ | with_reducible refine Only.drewN ?_ _ | with_reducible refine Only.alloc ?_ _)

set_option maxRecDepth 100000 in
set_option maxHeartbeats 2000000 in
theorem rpop_b4d (b x t v : Int) (hl : Rd w lv (([b, x, t, v] : List Int).map (.int .u64))) (b0 : 0 ≤ base) (b1 : base ≤ 70000) (n1 : 1 ≤ n) (n64 : n ≤ 64) (ub : U64 b) (ux : U64 x) (ut : U64 t) (uv : U64 v) (h : ¬ IntKind.u64.wrap (b - 1) < t) (h2 : t < IntKind.u64.wrap (b - 1)) :
    Calls Tryz.prog 107 #[.agg #[.int .i64 base, .int .i64 n], .agg #[.int .i64 2, .int .u64 V, lv]] w fun e w' => e = .returned (gwV (wOver 1 v)) ∧ Only S0 w w' := by
  obtain ⟨a, ca, rfl, ha⟩ := hl
  obtain ⟨g, off, rfl, hg, hc⟩ := ha (by simp)
  rw [show (([b, x, t, v] : List Int).map (Value.int .u64)).length = 4 from rfl] at *
  have nd := nd_new w base n 2 V (.slice (some ⟨g, off, none⟩) 4 ca)
  have e0 := (nd.only.cell (p := ⟨g, off + 0, none⟩) hg (fun h => h)).trans (hc 0 (.int .u64 b) rfl)
  have e1 := (nd.only.cell (p := ⟨g, off + 1, none⟩) hg (fun h => h)).trans (hc 1 (.int .u64 x) rfl)
  have e2 := (nd.only.cell (p := ⟨g, off + 2, none⟩) hg (fun h => h)).trans (hc 2 (.int .u64 t) rfl)
  have e3 := (nd.only.cell (p := ⟨g, off + 3, none⟩) hg (fun h => h)).trans (hc 3 (.int .u64 v) rfl)
  rw [Nat.add_zero] at e0
  have hg3 := Nat.lt_of_lt_of_le hg nd.only.size
  clear hc ha hg
  have hsz : w.heap.size + 1 + 1 < (((w.alloc (.cells #[.int .i64 base, .int .i64 n] 91)).alloc (.cells #[.int .i64 2, .int .u64 V, .slice (some ⟨g, off, none⟩) 4 ca] 133)).alloc (.cells #[.bool false, .int .i64 0, .int .i64 0, .int .u64 0, .int .u64 0, .int .i64 0, .int .u64 0, .int .u64 0] 62)).heap.size := Blk.lt nd.res
  go_enter Tryz.func107, Tryz.ntmps107
  go_upto_region 1 with fail
  generalize ((w.alloc (.cells #[.int .i64 base, .int .i64 n] 91)).alloc (.cells #[.int .i64 2, .int .u64 V, .slice (some ⟨g, off, none⟩) 4 ca] 133)).alloc (.cells #[.bool false, .int .i64 0, .int .i64 0, .int .u64 0, .int .u64 0, .int .i64 0, .int .u64 0, .int .u64 0] 62) = wr at nd hsz hg3 e0 e1 e2 e3 ⊢
  have HND := hide nd
  have HO := hide nd.only
  have RB := hide nd.res
  have r0 : wr.cell? ⟨w.heap.size, 0, none⟩ = some (.int .i64 base) := nd.deq.cellv rfl
  have r1 : wr.cell? ⟨w.heap.size, 1, none⟩ = some (.int .i64 n) := nd.deq.cellv rfl
  have p0 : wr.cell? ⟨w.heap.size + 1, 0, none⟩ = some (.int .i64 2) := nd.op.cellv rfl
  have p1 : wr.cell? ⟨w.heap.size + 1, 1, none⟩ = some (.int .u64 V) := nd.op.cellv rfl
  have p2 : wr.cell? ⟨w.heap.size + 1, 2, none⟩ = some (.slice (some ⟨g, off, none⟩) 4 ca) := nd.op.cellv rfl
  clear nd
  have z0 : wr.cell? ⟨w.heap.size + 1 + 1, 0, none⟩ = some (.bool false) := RB.out.cellv rfl
  have y0 := RB.out.frozen 0
  have z1 : wr.cell? ⟨w.heap.size + 1 + 1, 1, none⟩ = some (.int .i64 0) := RB.out.cellv rfl
  have y1 := RB.out.frozen 1
  have z2 : wr.cell? ⟨w.heap.size + 1 + 1, 2, none⟩ = some (.int .i64 0) := RB.out.cellv rfl
  have y2 := RB.out.frozen 2
  have z3 : wr.cell? ⟨w.heap.size + 1 + 1, 3, none⟩ = some (.int .u64 0) := RB.out.cellv rfl
  have y3 := RB.out.frozen 3
  have z4 : wr.cell? ⟨w.heap.size + 1 + 1, 4, none⟩ = some (.int .u64 0) := RB.out.cellv rfl
  have y4 := RB.out.frozen 4
  have z5 : wr.cell? ⟨w.heap.size + 1 + 1, 5, none⟩ = some (.int .i64 0) := RB.out.cellv rfl
  have y5 := RB.out.frozen 5
  have z6 : wr.cell? ⟨w.heap.size + 1 + 1, 6, none⟩ = some (.int .u64 0) := RB.out.cellv rfl
  have y6 := RB.out.frozen 6
  have z7 : wr.cell? ⟨w.heap.size + 1 + 1, 7, none⟩ = some (.int .u64 0) := RB.out.cellv rfl
  have y7 := RB.out.frozen 7
  go_upto_region 9 with fail
  go_quiet (fail)
  go_upto_region 10 with fail
  go_cut [8] (fun v8 wx => v8 = .pointer (some ⟨wr.heap.size, 0, none⟩) ∧ Blk wx wr.heap.size 62 #[.bool false, .int .i64 2, .int .i64 (base + 1), .int .u64 b, .int .u64 0, .int .i64 0, .int .u64 0, .int .u64 0] ∧ Only S0 wr wx)
  case first =>
    have nc0 : ((wr.drewN nq).alloc (.cells #[.bool false, .int .i64 0, .int .i64 0, .int .u64 0, .int .u64 0, .int .i64 0, .int .u64 0, .int .u64 0] 62)).cell? ⟨wr.heap.size, 0, none⟩ = some (.bool false) := (Blk.new (wr.drewN nq) 62 #[.bool false, .int .i64 0, .int .i64 0, .int .u64 0, .int .u64 0, .int .i64 0, .int .u64 0, .int .u64 0]).cellv rfl
    have nf0 : ((wr.drewN nq).alloc (.cells #[.bool false, .int .i64 0, .int .i64 0, .int .u64 0, .int .u64 0, .int .i64 0, .int .u64 0, .int .u64 0] 62)).frozen? ⟨wr.heap.size, 0, none⟩ = false := (Blk.new (wr.drewN nq) 62 #[.bool false, .int .i64 0, .int .i64 0, .int .u64 0, .int .u64 0, .int .i64 0, .int .u64 0, .int .u64 0]).frozen 0
    have nc1 : ((wr.drewN nq).alloc (.cells #[.bool false, .int .i64 0, .int .i64 0, .int .u64 0, .int .u64 0, .int .i64 0, .int .u64 0, .int .u64 0] 62)).cell? ⟨wr.heap.size, 1, none⟩ = some (.int .i64 0) := (Blk.new (wr.drewN nq) 62 #[.bool false, .int .i64 0, .int .i64 0, .int .u64 0, .int .u64 0, .int .i64 0, .int .u64 0, .int .u64 0]).cellv rfl
    have nf1 : ((wr.drewN nq).alloc (.cells #[.bool false, .int .i64 0, .int .i64 0, .int .u64 0, .int .u64 0, .int .i64 0, .int .u64 0, .int .u64 0] 62)).frozen? ⟨wr.heap.size, 1, none⟩ = false := (Blk.new (wr.drewN nq) 62 #[.bool false, .int .i64 0, .int .i64 0, .int .u64 0, .int .u64 0, .int .i64 0, .int .u64 0, .int .u64 0]).frozen 1
    have nc2 : ((wr.drewN nq).alloc (.cells #[.bool false, .int .i64 0, .int .i64 0, .int .u64 0, .int .u64 0, .int .i64 0, .int .u64 0, .int .u64 0] 62)).cell? ⟨wr.heap.size, 2, none⟩ = some (.int .i64 0) := (Blk.new (wr.drewN nq) 62 #[.bool false, .int .i64 0, .int .i64 0, .int .u64 0, .int .u64 0, .int .i64 0, .int .u64 0, .int .u64 0]).cellv rfl
    have nf2 : ((wr.drewN nq).alloc (.cells #[.bool false, .int .i64 0, .int .i64 0, .int .u64 0, .int .u64 0, .int .i64 0, .int .u64 0, .int .u64 0] 62)).frozen? ⟨wr.heap.size, 2, none⟩ = false := (Blk.new (wr.drewN nq) 62 #[.bool false, .int .i64 0, .int .i64 0, .int .u64 0, .int .u64 0, .int .i64 0, .int .u64 0, .int .u64 0]).frozen 2
    have nc3 : ((wr.drewN nq).alloc (.cells #[.bool false, .int .i64 0, .int .i64 0, .int .u64 0, .int .u64 0, .int .i64 0, .int .u64 0, .int .u64 0] 62)).cell? ⟨wr.heap.size, 3, none⟩ = some (.int .u64 0) := (Blk.new (wr.drewN nq) 62 #[.bool false, .int .i64 0, .int .i64 0, .int .u64 0, .int .u64 0, .int .i64 0, .int .u64 0, .int .u64 0]).cellv rfl
    have nf3 : ((wr.drewN nq).alloc (.cells #[.bool false, .int .i64 0, .int .i64 0, .int .u64 0, .int .u64 0, .int .i64 0, .int .u64 0, .int .u64 0] 62)).frozen? ⟨wr.heap.size, 3, none⟩ = false := (Blk.new (wr.drewN nq) 62 #[.bool false, .int .i64 0, .int .i64 0, .int .u64 0, .int .u64 0, .int .i64 0, .int .u64 0, .int .u64 0]).frozen 3
    have nc4 : ((wr.drewN nq).alloc (.cells #[.bool false, .int .i64 0, .int .i64 0, .int .u64 0, .int .u64 0, .int .i64 0, .int .u64 0, .int .u64 0] 62)).cell? ⟨wr.heap.size, 4, none⟩ = some (.int .u64 0) := (Blk.new (wr.drewN nq) 62 #[.bool false, .int .i64 0, .int .i64 0, .int .u64 0, .int .u64 0, .int .i64 0, .int .u64 0, .int .u64 0]).cellv rfl
    have nf4 : ((wr.drewN nq).alloc (.cells #[.bool false, .int .i64 0, .int .i64 0, .int .u64 0, .int .u64 0, .int .i64 0, .int .u64 0, .int .u64 0] 62)).frozen? ⟨wr.heap.size, 4, none⟩ = false := (Blk.new (wr.drewN nq) 62 #[.bool false, .int .i64 0, .int .i64 0, .int .u64 0, .int .u64 0, .int .i64 0, .int .u64 0, .int .u64 0]).frozen 4
    have nc5 : ((wr.drewN nq).alloc (.cells #[.bool false, .int .i64 0, .int .i64 0, .int .u64 0, .int .u64 0, .int .i64 0, .int .u64 0, .int .u64 0] 62)).cell? ⟨wr.heap.size, 5, none⟩ = some (.int .i64 0) := (Blk.new (wr.drewN nq) 62 #[.bool false, .int .i64 0, .int .i64 0, .int .u64 0, .int .u64 0, .int .i64 0, .int .u64 0, .int .u64 0]).cellv rfl
    have nf5 : ((wr.drewN nq).alloc (.cells #[.bool false, .int .i64 0, .int .i64 0, .int .u64 0, .int .u64 0, .int .i64 0, .int .u64 0, .int .u64 0] 62)).frozen? ⟨wr.heap.size, 5, none⟩ = false := (Blk.new (wr.drewN nq) 62 #[.bool false, .int .i64 0, .int .i64 0, .int .u64 0, .int .u64 0, .int .i64 0, .int .u64 0, .int .u64 0]).frozen 5
    have nc6 : ((wr.drewN nq).alloc (.cells #[.bool false, .int .i64 0, .int .i64 0, .int .u64 0, .int .u64 0, .int .i64 0, .int .u64 0, .int .u64 0] 62)).cell? ⟨wr.heap.size, 6, none⟩ = some (.int .u64 0) := (Blk.new (wr.drewN nq) 62 #[.bool false, .int .i64 0, .int .i64 0, .int .u64 0, .int .u64 0, .int .i64 0, .int .u64 0, .int .u64 0]).cellv rfl
    have nf6 : ((wr.drewN nq).alloc (.cells #[.bool false, .int .i64 0, .int .i64 0, .int .u64 0, .int .u64 0, .int .i64 0, .int .u64 0, .int .u64 0] 62)).frozen? ⟨wr.heap.size, 6, none⟩ = false := (Blk.new (wr.drewN nq) 62 #[.bool false, .int .i64 0, .int .i64 0, .int .u64 0, .int .u64 0, .int .i64 0, .int .u64 0, .int .u64 0]).frozen 6
    have nc7 : ((wr.drewN nq).alloc (.cells #[.bool false, .int .i64 0, .int .i64 0, .int .u64 0, .int .u64 0, .int .i64 0, .int .u64 0, .int .u64 0] 62)).cell? ⟨wr.heap.size, 7, none⟩ = some (.int .u64 0) := (Blk.new (wr.drewN nq) 62 #[.bool false, .int .i64 0, .int .i64 0, .int .u64 0, .int .u64 0, .int .i64 0, .int .u64 0, .int .u64 0]).cellv rfl
    have nf7 : ((wr.drewN nq).alloc (.cells #[.bool false, .int .i64 0, .int .i64 0, .int .u64 0, .int .u64 0, .int .i64 0, .int .u64 0, .int .u64 0] 62)).frozen? ⟨wr.heap.size, 7, none⟩ = false := (Blk.new (wr.drewN nq) 62 #[.bool false, .int .i64 0, .int .i64 0, .int .u64 0, .int .u64 0, .int .i64 0, .int .u64 0, .int .u64 0]).frozen 7
    go_wp2_with fail
    go_meet
    refine ⟨by simp, ?_, ?_⟩
    · have := ((((((((Blk.new (wr.drewN nq) 62 #[.bool false, .int .i64 0, .int .i64 0, .int .u64 0, .int .u64 0, .int .i64 0, .int .u64 0, .int .u64 0]).set_ 0 (.bool false)).set_ 1 (.int .i64 2)).set_ 2 (.int .i64 (base + 1))).set_ 3 (.int .u64 b)).set_ 4 (.int .u64 0)).set_ 5 (.int .i64 0)).set_ 6 (.int .u64 0)).set_ 7 (.int .u64 0)
      simpa using this
    · exact ((((((((((Only.refl S0 wr).drewN nq).alloc _).setNew 0 (by simp) _).setNew 1 (by simp) _).setNew 2 (by simp) _).setNew 3 (by simp) _).setNew 4 (by simp) _).setNew 5 (by simp) _).setNew 6 (by simp) _).setNew 7 (by simp) _
  case rest =>
  obtain ⟨rfl, hbk, ho⟩ := hcut
  have HO3 := hide (HO.out.trans ho)
  have RB3 := hide (HND.out.res.only ho (fun h => h))
  have HBK := hide hbk
  have f0 : wc.cell? ⟨g, off, none⟩ = some (.int .u64 b) := (ho.cell (p := ⟨g, off, none⟩) hg3 (fun h => h)).trans e0
  have f1 : wc.cell? ⟨g, off + 1, none⟩ = some (.int .u64 x) := (ho.cell (p := ⟨g, off + 1, none⟩) hg3 (fun h => h)).trans e1
  have f2 : wc.cell? ⟨g, off + 2, none⟩ = some (.int .u64 t) := (ho.cell (p := ⟨g, off + 2, none⟩) hg3 (fun h => h)).trans e2
  have f3 : wc.cell? ⟨g, off + 3, none⟩ = some (.int .u64 v) := (ho.cell (p := ⟨g, off + 3, none⟩) hg3 (fun h => h)).trans e3
  have HD3 := hide (HND.out.deq.only ho (fun h => h))
  skip
  clear ho hbk e0 e1 e2 e3 r0 r1 p0 p1 p2 z0 y0 z1 y1 z2 y2 z3 y3 z4 y4 z5 y5 z6 y6 z7 y7
  generalize hwd : wc = wd at *
  clear hwd
  have r0 : wd.cell? ⟨w.heap.size, 0, none⟩ = some (.int .i64 base) := HD3.out.cellv rfl
  have r1 : wd.cell? ⟨w.heap.size, 1, none⟩ = some (.int .i64 n) := HD3.out.cellv rfl
  have q0 : wd.cell? ⟨wr.heap.size, 0, none⟩ = some (.bool false) := HBK.out.cellv rfl
  have q1 : wd.cell? ⟨wr.heap.size, 1, none⟩ = some (.int .i64 2) := HBK.out.cellv rfl
  have q2 : wd.cell? ⟨wr.heap.size, 2, none⟩ = some (.int .i64 (base + 1)) := HBK.out.cellv rfl
  have q3 : wd.cell? ⟨wr.heap.size, 3, none⟩ = some (.int .u64 b) := HBK.out.cellv rfl
  have q4 : wd.cell? ⟨wr.heap.size, 4, none⟩ = some (.int .u64 0) := HBK.out.cellv rfl
  have q5 : wd.cell? ⟨wr.heap.size, 5, none⟩ = some (.int .i64 0) := HBK.out.cellv rfl
  have q6 : wd.cell? ⟨wr.heap.size, 6, none⟩ = some (.int .u64 0) := HBK.out.cellv rfl
  have q7 : wd.cell? ⟨wr.heap.size, 7, none⟩ = some (.int .u64 0) := HBK.out.cellv rfl
  have z0 : wd.cell? ⟨w.heap.size + 1 + 1, 0, none⟩ = some (.bool false) := RB3.out.cellv rfl
  have y0 := RB3.out.frozen 0
  have z1 : wd.cell? ⟨w.heap.size + 1 + 1, 1, none⟩ = some (.int .i64 0) := RB3.out.cellv rfl
  have y1 := RB3.out.frozen 1
  have z2 : wd.cell? ⟨w.heap.size + 1 + 1, 2, none⟩ = some (.int .i64 0) := RB3.out.cellv rfl
  have y2 := RB3.out.frozen 2
  have z3 : wd.cell? ⟨w.heap.size + 1 + 1, 3, none⟩ = some (.int .u64 0) := RB3.out.cellv rfl
  have y3 := RB3.out.frozen 3
  have z4 : wd.cell? ⟨w.heap.size + 1 + 1, 4, none⟩ = some (.int .u64 0) := RB3.out.cellv rfl
  have y4 := RB3.out.frozen 4
  have z5 : wd.cell? ⟨w.heap.size + 1 + 1, 5, none⟩ = some (.int .i64 0) := RB3.out.cellv rfl
  have y5 := RB3.out.frozen 5
  have z6 : wd.cell? ⟨w.heap.size + 1 + 1, 6, none⟩ = some (.int .u64 0) := RB3.out.cellv rfl
  have y6 := RB3.out.frozen 6
  have z7 : wd.cell? ⟨w.heap.size + 1 + 1, 7, none⟩ = some (.int .u64 0) := RB3.out.cellv rfl
  have y7 := RB3.out.frozen 7
  go_wp2_with fail
  refine (rover_any 1 v _).mono ?_
  rintro e w2 ⟨rfl, o2⟩
  have HO2 := hide (HO3.out.trans o2)
  have RB2 := hide (RB3.out.only o2 (fun h => h))
  clear o2 z0 y0 z1 y1 z2 y2 z3 y3 z4 y4 z5 y5 z6 y6 z7 y7
  have z0 : w2.cell? ⟨w.heap.size + 1 + 1, 0, none⟩ = some (.bool false) := RB2.out.cellv rfl
  have y0 := RB2.out.frozen 0
  have z1 : w2.cell? ⟨w.heap.size + 1 + 1, 1, none⟩ = some (.int .i64 0) := RB2.out.cellv rfl
  have y1 := RB2.out.frozen 1
  have z2 : w2.cell? ⟨w.heap.size + 1 + 1, 2, none⟩ = some (.int .i64 0) := RB2.out.cellv rfl
  have y2 := RB2.out.frozen 2
  have z3 : w2.cell? ⟨w.heap.size + 1 + 1, 3, none⟩ = some (.int .u64 0) := RB2.out.cellv rfl
  have y3 := RB2.out.frozen 3
  have z4 : w2.cell? ⟨w.heap.size + 1 + 1, 4, none⟩ = some (.int .u64 0) := RB2.out.cellv rfl
  have y4 := RB2.out.frozen 4
  have z5 : w2.cell? ⟨w.heap.size + 1 + 1, 5, none⟩ = some (.int .i64 0) := RB2.out.cellv rfl
  have y5 := RB2.out.frozen 5
  have z6 : w2.cell? ⟨w.heap.size + 1 + 1, 6, none⟩ = some (.int .u64 0) := RB2.out.cellv rfl
  have y6 := RB2.out.frozen 6
  have z7 : w2.cell? ⟨w.heap.size + 1 + 1, 7, none⟩ = some (.int .u64 0) := RB2.out.cellv rfl
  have y7 := RB2.out.frozen 7
  unfold gwV
  go_wp2_with fail
  (try simp only [Exit.inBlock, Exit.then])
  refine bodyPost_ret (by simp [results, Tryz.results107, go_sem, z0, z1, z2, z3, z4, z5, z6, z7]; try rfl) rfl ?_
  refine ⟨rfl, ?_⟩
  repeat (first | with_reducible exact HO2.out | (with_reducible refine Only.setNew ?_ _ ?_ _; rotate_left 1; omega) | with_reducible refine Only.drew ?_ | with_reducible refine Only.drewN ?_ _ | with_reducible refine Only.alloc ?_ _)

set_option maxRecDepth 100000 in
set_option maxHeartbeats 2000000 in
theorem rpop_b4 (b x t v : Int) (hl : Rd w lv (([b, x, t, v] : List Int).map (.int .u64))) (b0 : 0 ≤ base) (b1 : base ≤ 70000) (n1 : 1 ≤ n) (n64 : n ≤ 64) (ub : U64 b) (ux : U64 x) (ut : U64 t) (uv : U64 v) (h : ¬ IntKind.u64.wrap (b - 1) < t) (h2 : ¬ t < IntKind.u64.wrap (b - 1)) :
    Calls Tryz.prog 107 #[.agg #[.int .i64 base, .int .i64 n], .agg #[.int .i64 2, .int .u64 V, lv]] w fun e w' => e = .returned (gwV (wSwap base t (IntKind.u64.wrap (t + 1)))) ∧ Only S0 w w' := by
  obtain ⟨a, ca, rfl, ha⟩ := hl
  obtain ⟨g, off, rfl, hg, hc⟩ := ha (by simp)
  rw [show (([b, x, t, v] : List Int).map (Value.int .u64)).length = 4 from rfl] at *
  have nd := nd_new w base n 2 V (.slice (some ⟨g, off, none⟩) 4 ca)
  have e0 := (nd.only.cell (p := ⟨g, off + 0, none⟩) hg (fun h => h)).trans (hc 0 (.int .u64 b) rfl)
  have e1 := (nd.only.cell (p := ⟨g, off + 1, none⟩) hg (fun h => h)).trans (hc 1 (.int .u64 x) rfl)
  have e2 := (nd.only.cell (p := ⟨g, off + 2, none⟩) hg (fun h => h)).trans (hc 2 (.int .u64 t) rfl)
  have e3 := (nd.only.cell (p := ⟨g, off + 3, none⟩) hg (fun h => h)).trans (hc 3 (.int .u64 v) rfl)
  rw [Nat.add_zero] at e0
  have hg3 := Nat.lt_of_lt_of_le hg nd.only.size
  clear hc ha hg
  have hsz : w.heap.size + 1 + 1 < (((w.alloc (.cells #[.int .i64 base, .int .i64 n] 91)).alloc (.cells #[.int .i64 2, .int .u64 V, .slice (some ⟨g, off, none⟩) 4 ca] 133)).alloc (.cells #[.bool false, .int .i64 0, .int .i64 0, .int .u64 0, .int .u64 0, .int .i64 0, .int .u64 0, .int .u64 0] 62)).heap.size := Blk.lt nd.res
  go_enter Tryz.func107, Tryz.ntmps107
  go_upto_region 1 with fail
  generalize ((w.alloc (.cells #[.int .i64 base, .int .i64 n] 91)).alloc (.cells #[.int .i64 2, .int .u64 V, .slice (some ⟨g, off, none⟩) 4 ca] 133)).alloc (.cells #[.bool false, .int .i64 0, .int .i64 0, .int .u64 0, .int .u64 0, .int .i64 0, .int .u64 0, .int .u64 0] 62) = wr at nd hsz hg3 e0 e1 e2 e3 ⊢
  have HND := hide nd
  have HO := hide nd.only
  have RB := hide nd.res
  have r0 : wr.cell? ⟨w.heap.size, 0, none⟩ = some (.int .i64 base) := nd.deq.cellv rfl
  have r1 : wr.cell? ⟨w.heap.size, 1, none⟩ = some (.int .i64 n) := nd.deq.cellv rfl
  have p0 : wr.cell? ⟨w.heap.size + 1, 0, none⟩ = some (.int .i64 2) := nd.op.cellv rfl
  have p1 : wr.cell? ⟨w.heap.size + 1, 1, none⟩ = some (.int .u64 V) := nd.op.cellv rfl
  have p2 : wr.cell? ⟨w.heap.size + 1, 2, none⟩ = some (.slice (some ⟨g, off, none⟩) 4 ca) := nd.op.cellv rfl
  clear nd
  have z0 : wr.cell? ⟨w.heap.size + 1 + 1, 0, none⟩ = some (.bool false) := RB.out.cellv rfl
  have y0 := RB.out.frozen 0
  have z1 : wr.cell? ⟨w.heap.size + 1 + 1, 1, none⟩ = some (.int .i64 0) := RB.out.cellv rfl
  have y1 := RB.out.frozen 1
  have z2 : wr.cell? ⟨w.heap.size + 1 + 1, 2, none⟩ = some (.int .i64 0) := RB.out.cellv rfl
  have y2 := RB.out.frozen 2
  have z3 : wr.cell? ⟨w.heap.size + 1 + 1, 3, none⟩ = some (.int .u64 0) := RB.out.cellv rfl
  have y3 := RB.out.frozen 3
  have z4 : wr.cell? ⟨w.heap.size + 1 + 1, 4, none⟩ = some (.int .u64 0) := RB.out.cellv rfl
  have y4 := RB.out.frozen 4
  have z5 : wr.cell? ⟨w.heap.size + 1 + 1, 5, none⟩ = some (.int .i64 0) := RB.out.cellv rfl
  have y5 := RB.out.frozen 5
  have z6 : wr.cell? ⟨w.heap.size + 1 + 1, 6, none⟩ = some (.int .u64 0) := RB.out.cellv rfl
  have y6 := RB.out.frozen 6
  have z7 : wr.cell? ⟨w.heap.size + 1 + 1, 7, none⟩ = some (.int .u64 0) := RB.out.cellv rfl
  have y7 := RB.out.frozen 7
  go_upto_region 9 with fail
  go_quiet (fail)
  go_upto_region 10 with fail
  go_cut [8] (fun v8 wx => v8 = .pointer (some ⟨wr.heap.size, 0, none⟩) ∧ Blk wx wr.heap.size 62 #[.bool false, .int .i64 2, .int .i64 (base + 1), .int .u64 b, .int .u64 0, .int .i64 0, .int .u64 0, .int .u64 0] ∧ Only S0 wr wx)
  case first =>
    have nc0 : ((wr.drewN nq).alloc (.cells #[.bool false, .int .i64 0, .int .i64 0, .int .u64 0, .int .u64 0, .int .i64 0, .int .u64 0, .int .u64 0] 62)).cell? ⟨wr.heap.size, 0, none⟩ = some (.bool false) := (Blk.new (wr.drewN nq) 62 #[.bool false, .int .i64 0, .int .i64 0, .int .u64 0, .int .u64 0, .int .i64 0, .int .u64 0, .int .u64 0]).cellv rfl
    have nf0 : ((wr.drewN nq).alloc (.cells #[.bool false, .int .i64 0, .int .i64 0, .int .u64 0, .int .u64 0, .int .i64 0, .int .u64 0, .int .u64 0] 62)).frozen? ⟨wr.heap.size, 0, none⟩ = false := (Blk.new (wr.drewN nq) 62 #[.bool false, .int .i64 0, .int .i64 0, .int .u64 0, .int .u64 0, .int .i64 0, .int .u64 0, .int .u64 0]).frozen 0
    have nc1 : ((wr.drewN nq).alloc (.cells #[.bool false, .int .i64 0, .int .i64 0, .int .u64 0, .int .u64 0, .int .i64 0, .int .u64 0, .int .u64 0] 62)).cell? ⟨wr.heap.size, 1, none⟩ = some (.int .i64 0) := (Blk.new (wr.drewN nq) 62 #[.bool false, .int .i64 0, .int .i64 0, .int .u64 0, .int .u64 0, .int .i64 0, .int .u64 0, .int .u64 0]).cellv rfl
    have nf1 : ((wr.drewN nq).alloc (.cells #[.bool false, .int .i64 0, .int .i64 0, .int .u64 0, .int .u64 0, .int .i64 0, .int .u64 0, .int .u64 0] 62)).frozen? ⟨wr.heap.size, 1, none⟩ = false := (Blk.new (wr.drewN nq) 62 #[.bool false, .int .i64 0, .int .i64 0, .int .u64 0, .int .u64 0, .int .i64 0, .int .u64 0, .int .u64 0]).frozen 1
    have nc2 : ((wr.drewN nq).alloc (.cells #[.bool false, .int .i64 0, .int .i64 0, .int .u64 0, .int .u64 0, .int .i64 0, .int .u64 0, .int .u64 0] 62)).cell? ⟨wr.heap.size, 2, none⟩ = some (.int .i64 0) := (Blk.new (wr.drewN nq) 62 #[.bool false, .int .i64 0, .int .i64 0, .int .u64 0, .int .u64 0, .int .i64 0, .int .u64 0, .int .u64 0]).cellv rfl
    have nf2 : ((wr.drewN nq).alloc (.cells #[.bool false, .int .i64 0, .int .i64 0, .int .u64 0, .int .u64 0, .int .i64 0, .int .u64 0, .int .u64 0] 62)).frozen? ⟨wr.heap.size, 2, none⟩ = false := (Blk.new (wr.drewN nq) 62 #[.bool false, .int .i64 0, .int .i64 0, .int .u64 0, .int .u64 0, .int .i64 0, .int .u64 0, .int .u64 0]).frozen 2
    have nc3 : ((wr.drewN nq).alloc (.cells #[.bool false, .int .i64 0, .int .i64 0, .int .u64 0, .int .u64 0, .int .i64 0, .int .u64 0, .int .u64 0] 62)).cell? ⟨wr.heap.size, 3, none⟩ = some (.int .u64 0) := (Blk.new (wr.drewN nq) 62 #[.bool false, .int .i64 0, .int .i64 0, .int .u64 0, .int .u64 0, .int .i64 0, .int .u64 0, .int .u64 0]).cellv rfl
    have nf3 : ((wr.drewN nq).alloc (.cells #[.bool false, .int .i64 0, .int .i64 0, .int .u64 0, .int .u64 0, .int .i64 0, .int .u64 0, .int .u64 0] 62)).frozen? ⟨wr.heap.size, 3, none⟩ = false := (Blk.new (wr.drewN nq) 62 #[.bool false, .int .i64 0, .int .i64 0, .int .u64 0, .int .u64 0, .int .i64 0, .int .u64 0, .int .u64 0]).frozen 3
    have nc4 : ((wr.drewN nq).alloc (.cells #[.bool false, .int .i64 0, .int .i64 0, .int .u64 0, .int .u64 0, .int .i64 0, .int .u64 0, .int .u64 0] 62)).cell? ⟨wr.heap.size, 4, none⟩ = some (.int .u64 0) := (Blk.new (wr.drewN nq) 62 #[.bool false, .int .i64 0, .int .i64 0, .int .u64 0, .int .u64 0, .int .i64 0, .int .u64 0, .int .u64 0]).cellv rfl
    have nf4 : ((wr.drewN nq).alloc (.cells #[.bool false, .int .i64 0, .int .i64 0, .int .u64 0, .int .u64 0, .int .i64 0, .int .u64 0, .int .u64 0] 62)).frozen? ⟨wr.heap.size, 4, none⟩ = false := (Blk.new (wr.drewN nq) 62 #[.bool false, .int .i64 0, .int .i64 0, .int .u64 0, .int .u64 0, .int .i64 0, .int .u64 0, .int .u64 0]).frozen 4
    have nc5 : ((wr.drewN nq).alloc (.cells #[.bool false, .int .i64 0, .int .i64 0, .int .u64 0, .int .u64 0, .int .i64 0, .int .u64 0, .int .u64 0] 62)).cell? ⟨wr.heap.size, 5, none⟩ = some (.int .i64 0) := (Blk.new (wr.drewN nq) 62 #[.bool false, .int .i64 0, .int .i64 0, .int .u64 0, .int .u64 0, .int .i64 0, .int .u64 0, .int .u64 0]).cellv rfl
    have nf5 : ((wr.drewN nq).alloc (.cells #[.bool false, .int .i64 0, .int .i64 0, .int .u64 0, .int .u64 0, .int .i64 0, .int .u64 0, .int .u64 0] 62)).frozen? ⟨wr.heap.size, 5, none⟩ = false := (Blk.new (wr.drewN nq) 62 #[.bool false, .int .i64 0, .int .i64 0, .int .u64 0, .int .u64 0, .int .i64 0, .int .u64 0, .int .u64 0]).frozen 5
    have nc6 : ((wr.drewN nq).alloc (.cells #[.bool false, .int .i64 0, .int .i64 0, .int .u64 0, .int .u64 0, .int .i64 0, .int .u64 0, .int .u64 0] 62)).cell? ⟨wr.heap.size, 6, none⟩ = some (.int .u64 0) := (Blk.new (wr.drewN nq) 62 #[.bool false, .int .i64 0, .int .i64 0, .int .u64 0, .int .u64 0, .int .i64 0, .int .u64 0, .int .u64 0]).cellv rfl
    have nf6 : ((wr.drewN nq).alloc (.cells #[.bool false, .int .i64 0, .int .i64 0, .int .u64 0, .int .u64 0, .int .i64 0, .int .u64 0, .int .u64 0] 62)).frozen? ⟨wr.heap.size, 6, none⟩ = false := (Blk.new (wr.drewN nq) 62 #[.bool false, .int .i64 0, .int .i64 0, .int .u64 0, .int .u64 0, .int .i64 0, .int .u64 0, .int .u64 0]).frozen 6
    have nc7 : ((wr.drewN nq).alloc (.cells #[.bool false, .int .i64 0, .int .i64 0, .int .u64 0, .int .u64 0, .int .i64 0, .int .u64 0, .int .u64 0] 62)).cell? ⟨wr.heap.size, 7, none⟩ = some (.int .u64 0) := (Blk.new (wr.drewN nq) 62 #[.bool false, .int .i64 0, .int .i64 0, .int .u64 0, .int .u64 0, .int .i64 0, .int .u64 0, .int .u64 0]).cellv rfl
    have nf7 : ((wr.drewN nq).alloc (.cells #[.bool false, .int .i64 0, .int .i64 0, .int .u64 0, .int .u64 0, .int .i64 0, .int .u64 0, .int .u64 0] 62)).frozen? ⟨wr.heap.size, 7, none⟩ = false := (Blk.new (wr.drewN nq) 62 #[.bool false, .int .i64 0, .int .i64 0, .int .u64 0, .int .u64 0, .int .i64 0, .int .u64 0, .int .u64 0]).frozen 7
    go_wp2_with fail
    go_meet
    refine ⟨by simp, ?_, ?_⟩
    · have := ((((((((Blk.new (wr.drewN nq) 62 #[.bool false, .int .i64 0, .int .i64 0, .int .u64 0, .int .u64 0, .int .i64 0, .int .u64 0, .int .u64 0]).set_ 0 (.bool false)).set_ 1 (.int .i64 2)).set_ 2 (.int .i64 (base + 1))).set_ 3 (.int .u64 b)).set_ 4 (.int .u64 0)).set_ 5 (.int .i64 0)).set_ 6 (.int .u64 0)).set_ 7 (.int .u64 0)
      simpa using this
    · exact ((((((((((Only.refl S0 wr).drewN nq).alloc _).setNew 0 (by simp) _).setNew 1 (by simp) _).setNew 2 (by simp) _).setNew 3 (by simp) _).setNew 4 (by simp) _).setNew 5 (by simp) _).setNew 6 (by simp) _).setNew 7 (by simp) _
  case rest =>
  obtain ⟨rfl, hbk, ho⟩ := hcut
  have HO3 := hide (HO.out.trans ho)
  have RB3 := hide (HND.out.res.only ho (fun h => h))
  have HBK := hide hbk
  have f0 : wc.cell? ⟨g, off, none⟩ = some (.int .u64 b) := (ho.cell (p := ⟨g, off, none⟩) hg3 (fun h => h)).trans e0
  have f1 : wc.cell? ⟨g, off + 1, none⟩ = some (.int .u64 x) := (ho.cell (p := ⟨g, off + 1, none⟩) hg3 (fun h => h)).trans e1
  have f2 : wc.cell? ⟨g, off + 2, none⟩ = some (.int .u64 t) := (ho.cell (p := ⟨g, off + 2, none⟩) hg3 (fun h => h)).trans e2
  have f3 : wc.cell? ⟨g, off + 3, none⟩ = some (.int .u64 v) := (ho.cell (p := ⟨g, off + 3, none⟩) hg3 (fun h => h)).trans e3
  have HD3 := hide (HND.out.deq.only ho (fun h => h))
  skip
  clear ho hbk e0 e1 e2 e3 r0 r1 p0 p1 p2 z0 y0 z1 y1 z2 y2 z3 y3 z4 y4 z5 y5 z6 y6 z7 y7
  generalize hwd : wc = wd at *
  clear hwd
  have r0 : wd.cell? ⟨w.heap.size, 0, none⟩ = some (.int .i64 base) := HD3.out.cellv rfl
  have r1 : wd.cell? ⟨w.heap.size, 1, none⟩ = some (.int .i64 n) := HD3.out.cellv rfl
  have q0 : wd.cell? ⟨wr.heap.size, 0, none⟩ = some (.bool false) := HBK.out.cellv rfl
  have q1 : wd.cell? ⟨wr.heap.size, 1, none⟩ = some (.int .i64 2) := HBK.out.cellv rfl
  have q2 : wd.cell? ⟨wr.heap.size, 2, none⟩ = some (.int .i64 (base + 1)) := HBK.out.cellv rfl
  have q3 : wd.cell? ⟨wr.heap.size, 3, none⟩ = some (.int .u64 b) := HBK.out.cellv rfl
  have q4 : wd.cell? ⟨wr.heap.size, 4, none⟩ = some (.int .u64 0) := HBK.out.cellv rfl
  have q5 : wd.cell? ⟨wr.heap.size, 5, none⟩ = some (.int .i64 0) := HBK.out.cellv rfl
  have q6 : wd.cell? ⟨wr.heap.size, 6, none⟩ = some (.int .u64 0) := HBK.out.cellv rfl
  have q7 : wd.cell? ⟨wr.heap.size, 7, none⟩ = some (.int .u64 0) := HBK.out.cellv rfl
  have z0 : wd.cell? ⟨w.heap.size + 1 + 1, 0, none⟩ = some (.bool false) := RB3.out.cellv rfl
  have y0 := RB3.out.frozen 0
  have z1 : wd.cell? ⟨w.heap.size + 1 + 1, 1, none⟩ = some (.int .i64 0) := RB3.out.cellv rfl
  have y1 := RB3.out.frozen 1
  have z2 : wd.cell? ⟨w.heap.size + 1 + 1, 2, none⟩ = some (.int .i64 0) := RB3.out.cellv rfl
  have y2 := RB3.out.frozen 2
  have z3 : wd.cell? ⟨w.heap.size + 1 + 1, 3, none⟩ = some (.int .u64 0) := RB3.out.cellv rfl
  have y3 := RB3.out.frozen 3
  have z4 : wd.cell? ⟨w.heap.size + 1 + 1, 4, none⟩ = some (.int .u64 0) := RB3.out.cellv rfl
  have y4 := RB3.out.frozen 4
  have z5 : wd.cell? ⟨w.heap.size + 1 + 1, 5, none⟩ = some (.int .i64 0) := RB3.out.cellv rfl
  have y5 := RB3.out.frozen 5
  have z6 : wd.cell? ⟨w.heap.size + 1 + 1, 6, none⟩ = some (.int .u64 0) := RB3.out.cellv rfl
  have y6 := RB3.out.frozen 6
  have z7 : wd.cell? ⟨w.heap.size + 1 + 1, 7, none⟩ = some (.int .u64 0) := RB3.out.cellv rfl
  have y7 := RB3.out.frozen 7
  go_wp2_with fail
  (try simp only [Exit.inBlock, Exit.then])
  refine bodyPost_ret (by simp [results, Tryz.results107, go_sem, z0, z1, z2, z3, z4, z5, z6, z7]; try rfl) rfl ?_
  refine ⟨rfl, ?_⟩
  repeat (first | with_reducible exact HO3.out | (with_reducible refine Only.setNew ?_ _ ?_ _; rotate_left 1; omega) | with_reducible refine Only.drew ?_ | with_reducible refine Only.drewN ?_ _ | with_reducible refine Only.alloc ?_ _)

set_option maxRecDepth 100000 in
set_option maxHeartbeats 2000000 in
theorem rpop_b5 (b x t v s : Int) (hl : Rd w lv (([b, x, t, v, s] : List Int).map (.int .u64))) (b0 : 0 ≤ base) (b1 : base ≤ 70000) (n1 : 1 ≤ n) (n64 : n ≤ 64) (ub : U64 b) (ux : U64 x) (ut : U64 t) (uv : U64 v) (us : U64 s) (h : ¬ IntKind.u64.wrap (b - 1) < t) (h2 : ¬ t < IntKind.u64.wrap (b - 1)) :
    Calls Tryz.prog 107 #[.agg #[.int .i64 base, .int .i64 n], .agg #[.int .i64 2, .int .u64 V, lv]] w fun e w' => e = .returned (gwV (wStore (base + 1) b)) ∧ Only S0 w w' := by
  obtain ⟨a, ca, rfl, ha⟩ := hl
  obtain ⟨g, off, rfl, hg, hc⟩ := ha (by simp)
  rw [show (([b, x, t, v, s] : List Int).map (Value.int .u64)).length = 5 from rfl] at *
  have nd := nd_new w base n 2 V (.slice (some ⟨g, off, none⟩) 5 ca)
  have e0 := (nd.only.cell (p := ⟨g, off + 0, none⟩) hg (fun h => h)).trans (hc 0 (.int .u64 b) rfl)
  have e1 := (nd.only.cell (p := ⟨g, off + 1, none⟩) hg (fun h => h)).trans (hc 1 (.int .u64 x) rfl)
  have e2 := (nd.only.cell (p := ⟨g, off + 2, none⟩) hg (fun h => h)).trans (hc 2 (.int .u64 t) rfl)
  have e3 := (nd.only.cell (p := ⟨g, off + 3, none⟩) hg (fun h => h)).trans (hc 3 (.int .u64 v) rfl)
  have e4 := (nd.only.cell (p := ⟨g, off + 4, none⟩) hg (fun h => h)).trans (hc 4 (.int .u64 s) rfl)
  rw [Nat.add_zero] at e0
  have hg3 := Nat.lt_of_lt_of_le hg nd.only.size
  clear hc ha hg
  have hsz : w.heap.size + 1 + 1 < (((w.alloc (.cells #[.int .i64 base, .int .i64 n] 91)).alloc (.cells #[.int .i64 2, .int .u64 V, .slice (some ⟨g, off, none⟩) 5 ca] 133)).alloc (.cells #[.bool false, .int .i64 0, .int .i64 0, .int .u64 0, .int .u64 0, .int .i64 0, .int .u64 0, .int .u64 0] 62)).heap.size := Blk.lt nd.res
  go_enter Tryz.func107, Tryz.ntmps107
  go_upto_region 1 with fail
  generalize ((w.alloc (.cells #[.int .i64 base, .int .i64 n] 91)).alloc (.cells #[.int .i64 2, .int .u64 V, .slice (some ⟨g, off, none⟩) 5 ca] 133)).alloc (.cells #[.bool false, .int .i64 0, .int .i64 0, .int .u64 0, .int .u64 0, .int .i64 0, .int .u64 0, .int .u64 0] 62) = wr at nd hsz hg3 e0 e1 e2 e3 e4 ⊢
  have HND := hide nd
  have HO := hide nd.only
  have RB := hide nd.res
  have r0 : wr.cell? ⟨w.heap.size, 0, none⟩ = some (.int .i64 base) := nd.deq.cellv rfl
  have r1 : wr.cell? ⟨w.heap.size, 1, none⟩ = some (.int .i64 n) := nd.deq.cellv rfl
  have p0 : wr.cell? ⟨w.heap.size + 1, 0, none⟩ = some (.int .i64 2) := nd.op.cellv rfl
  have p1 : wr.cell? ⟨w.heap.size + 1, 1, none⟩ = some (.int .u64 V) := nd.op.cellv rfl
  have p2 : wr.cell? ⟨w.heap.size + 1, 2, none⟩ = some (.slice (some ⟨g, off, none⟩) 5 ca) := nd.op.cellv rfl
  clear nd
  have z0 : wr.cell? ⟨w.heap.size + 1 + 1, 0, none⟩ = some (.bool false) := RB.out.cellv rfl
  have y0 := RB.out.frozen 0
  have z1 : wr.cell? ⟨w.heap.size + 1 + 1, 1, none⟩ = some (.int .i64 0) := RB.out.cellv rfl
  have y1 := RB.out.frozen 1
  have z2 : wr.cell? ⟨w.heap.size + 1 + 1, 2, none⟩ = some (.int .i64 0) := RB.out.cellv rfl
  have y2 := RB.out.frozen 2
  have z3 : wr.cell? ⟨w.heap.size + 1 + 1, 3, none⟩ = some (.int .u64 0) := RB.out.cellv rfl
  have y3 := RB.out.frozen 3
  have z4 : wr.cell? ⟨w.heap.size + 1 + 1, 4, none⟩ = some (.int .u64 0) := RB.out.cellv rfl
  have y4 := RB.out.frozen 4
  have z5 : wr.cell? ⟨w.heap.size + 1 + 1, 5, none⟩ = some (.int .i64 0) := RB.out.cellv rfl
  have y5 := RB.out.frozen 5
  have z6 : wr.cell? ⟨w.heap.size + 1 + 1, 6, none⟩ = some (.int .u64 0) := RB.out.cellv rfl
  have y6 := RB.out.frozen 6
  have z7 : wr.cell? ⟨w.heap.size + 1 + 1, 7, none⟩ = some (.int .u64 0) := RB.out.cellv rfl
  have y7 := RB.out.frozen 7
  go_upto_region 9 with fail
  go_quiet (fail)
  go_upto_region 10 with fail
  go_cut [8] (fun v8 wx => v8 = .pointer (some ⟨wr.heap.size, 0, none⟩) ∧ Blk wx wr.heap.size 62 #[.bool false, .int .i64 2, .int .i64 (base + 1), .int .u64 b, .int .u64 0, .int .i64 0, .int .u64 0, .int .u64 0] ∧ Only S0 wr wx)
  case first =>
    have nc0 : ((wr.drewN nq).alloc (.cells #[.bool false, .int .i64 0, .int .i64 0, .int .u64 0, .int .u64 0, .int .i64 0, .int .u64 0, .int .u64 0] 62)).cell? ⟨wr.heap.size, 0, none⟩ = some (.bool false) := (Blk.new (wr.drewN nq) 62 #[.bool false, .int .i64 0, .int .i64 0, .int .u64 0, .int .u64 0, .int .i64 0, .int .u64 0, .int .u64 0]).cellv rfl
    have nf0 : ((wr.drewN nq).alloc (.cells #[.bool false, .int .i64 0, .int .i64 0, .int .u64 0, .int .u64 0, .int .i64 0, .int .u64 0, .int .u64 0] 62)).frozen? ⟨wr.heap.size, 0, none⟩ = false := (Blk.new (wr.drewN nq) 62 #[.bool false, .int .i64 0, .int .i64 0, .int .u64 0, .int .u64 0, .int .i64 0, .int .u64 0, .int .u64 0]).frozen 0
    have nc1 : ((wr.drewN nq).alloc (.cells #[.bool false, .int .i64 0, .int .i64 0, .int .u64 0, .int .u64 0, .int .i64 0, .int .u64 0, .int .u64 0] 62)).cell? ⟨wr.heap.size, 1, none⟩ = some (.int .i64 0) := (Blk.new (wr.drewN nq) 62 #[.bool false, .int .i64 0, .int .i64 0, .int .u64 0, .int .u64 0, .int .i64 0, .int .u64 0, .int .u64 0]).cellv rfl
    have nf1 : ((wr.drewN nq).alloc (.cells #[.bool false, .int .i64 0, .int .i64 0, .int .u64 0, .int .u64 0, .int .i64 0, .int .u64 0, .int .u64 0] 62)).frozen? ⟨wr.heap.size, 1, none⟩ = false := (Blk.new (wr.drewN nq) 62 #[.bool false, .int .i64 0, .int .i64 0, .int .u64 0, .int .u64 0, .int .i64 0, .int .u64 0, .int .u64 0]).frozen 1
    have nc2 : ((wr.drewN nq).alloc (.cells #[.bool false, .int .i64 0, .int .i64 0, .int .u64 0, .int .u64 0, .int .i64 0, .int .u64 0, .int .u64 0] 62)).cell? ⟨wr.heap.size, 2, none⟩ = some (.int .i64 0) := (Blk.new (wr.drewN nq) 62 #[.bool false, .int .i64 0, .int .i64 0, .int .u64 0, .int .u64 0, .int .i64 0, .int .u64 0, .int .u64 0]).cellv rfl
    have nf2 : ((wr.drewN nq).alloc (.cells #[.bool false, .int .i64 0, .int .i64 0, .int .u64 0, .int .u64 0, .int .i64 0, .int .u64 0, .int .u64 0] 62)).frozen? ⟨wr.heap.size, 2, none⟩ = false := (Blk.new (wr.drewN nq) 62 #[.bool false, .int .i64 0, .int .i64 0, .int .u64 0, .int .u64 0, .int .i64 0, .int .u64 0, .int .u64 0]).frozen 2
    have nc3 : ((wr.drewN nq).alloc (.cells #[.bool false, .int .i64 0, .int .i64 0, .int .u64 0, .int .u64 0, .int .i64 0, .int .u64 0, .int .u64 0] 62)).cell? ⟨wr.heap.size, 3, none⟩ = some (.int .u64 0) := (Blk.new (wr.drewN nq) 62 #[.bool false, .int .i64 0, .int .i64 0, .int .u64 0, .int .u64 0, .int .i64 0, .int .u64 0, .int .u64 0]).cellv rfl
    have nf3 : ((wr.drewN nq).alloc (.cells #[.bool false, .int .i64 0, .int .i64 0, .int .u64 0, .int .u64 0, .int .i64 0, .int .u64 0, .int .u64 0] 62)).frozen? ⟨wr.heap.size, 3, none⟩ = false := (Blk.new (wr.drewN nq) 62 #[.bool false, .int .i64 0, .int .i64 0, .int .u64 0, .int .u64 0, .int .i64 0, .int .u64 0, .int .u64 0]).frozen 3
    have nc4 : ((wr.drewN nq).alloc (.cells #[.bool false, .int .i64 0, .int .i64 0, .int .u64 0, .int .u64 0, .int .i64 0, .int .u64 0, .int .u64 0] 62)).cell? ⟨wr.heap.size, 4, none⟩ = some (.int .u64 0) := (Blk.new (wr.drewN nq) 62 #[.bool false, .int .i64 0, .int .i64 0, .int .u64 0, .int .u64 0, .int .i64 0, .int .u64 0, .int .u64 0]).cellv rfl
    have nf4 : ((wr.drewN nq).alloc (.cells #[.bool false, .int .i64 0, .int .i64 0, .int .u64 0, .int .u64 0, .int .i64 0, .int .u64 0, .int .u64 0] 62)).frozen? ⟨wr.heap.size, 4, none⟩ = false := (Blk.new (wr.drewN nq) 62 #[.bool false, .int .i64 0, .int .i64 0, .int .u64 0, .int .u64 0, .int .i64 0, .int .u64 0, .int .u64 0]).frozen 4
    have nc5 : ((wr.drewN nq).alloc (.cells #[.bool false, .int .i64 0, .int .i64 0, .int .u64 0, .int .u64 0, .int .i64 0, .int .u64 0, .int .u64 0] 62)).cell? ⟨wr.heap.size, 5, none⟩ = some (.int .i64 0) := (Blk.new (wr.drewN nq) 62 #[.bool false, .int .i64 0, .int .i64 0, .int .u64 0, .int .u64 0, .int .i64 0, .int .u64 0, .int .u64 0]).cellv rfl
    have nf5 : ((wr.drewN nq).alloc (.cells #[.bool false, .int .i64 0, .int .i64 0, .int .u64 0, .int .u64 0, .int .i64 0, .int .u64 0, .int .u64 0] 62)).frozen? ⟨wr.heap.size, 5, none⟩ = false := (Blk.new (wr.drewN nq) 62 #[.bool false, .int .i64 0, .int .i64 0, .int .u64 0, .int .u64 0, .int .i64 0, .int .u64 0, .int .u64 0]).frozen 5
    have nc6 : ((wr.drewN nq).alloc (.cells #[.bool false, .int .i64 0, .int .i64 0, .int .u64 0, .int .u64 0, .int .i64 0, .int .u64 0, .int .u64 0] 62)).cell? ⟨wr.heap.size, 6, none⟩ = some (.int .u64 0) := (Blk.new (wr.drewN nq) 62 #[.bool false, .int .i64 0, .int .i64 0, .int .u64 0, .int .u64 0, .int .i64 0, .int .u64 0, .int .u64 0]).cellv rfl
    have nf6 : ((wr.drewN nq).alloc (.cells #[.bool false, .int .i64 0, .int .i64 0, .int .u64 0, .int .u64 0, .int .i64 0, .int .u64 0, .int .u64 0] 62)).frozen? ⟨wr.heap.size, 6, none⟩ = false := (Blk.new (wr.drewN nq) 62 #[.bool false, .int .i64 0, .int .i64 0, .int .u64 0, .int .u64 0, .int .i64 0, .int .u64 0, .int .u64 0]).frozen 6
    have nc7 : ((wr.drewN nq).alloc (.cells #[.bool false, .int .i64 0, .int .i64 0, .int .u64 0, .int .u64 0, .int .i64 0, .int .u64 0, .int .u64 0] 62)).cell? ⟨wr.heap.size, 7, none⟩ = some (.int .u64 0) := (Blk.new (wr.drewN nq) 62 #[.bool false, .int .i64 0, .int .i64 0, .int .u64 0, .int .u64 0, .int .i64 0, .int .u64 0, .int .u64 0]).cellv rfl
    have nf7 : ((wr.drewN nq).alloc (.cells #[.bool false, .int .i64 0, .int .i64 0, .int .u64 0, .int .u64 0, .int .i64 0, .int .u64 0, .int .u64 0] 62)).frozen? ⟨wr.heap.size, 7, none⟩ = false := (Blk.new (wr.drewN nq) 62 #[.bool false, .int .i64 0, .int .i64 0, .int .u64 0, .int .u64 0, .int .i64 0, .int .u64 0, .int .u64 0]).frozen 7
    go_wp2_with fail
    go_meet
    refine ⟨by simp, ?_, ?_⟩
    · have := ((((((((Blk.new (wr.drewN nq) 62 #[.bool false, .int .i64 0, .int .i64 0, .int .u64 0, .int .u64 0, .int .i64 0, .int .u64 0, .int .u64 0]).set_ 0 (.bool false)).set_ 1 (.int .i64 2)).set_ 2 (.int .i64 (base + 1))).set_ 3 (.int .u64 b)).set_ 4 (.int .u64 0)).set_ 5 (.int .i64 0)).set_ 6 (.int .u64 0)).set_ 7 (.int .u64 0)
      simpa using this
    · exact ((((((((((Only.refl S0 wr).drewN nq).alloc _).setNew 0 (by simp) _).setNew 1 (by simp) _).setNew 2 (by simp) _).setNew 3 (by simp) _).setNew 4 (by simp) _).setNew 5 (by simp) _).setNew 6 (by simp) _).setNew 7 (by simp) _
  case rest =>
  obtain ⟨rfl, hbk, ho⟩ := hcut
  have HO3 := hide (HO.out.trans ho)
  have RB3 := hide (HND.out.res.only ho (fun h => h))
  have HBK := hide hbk
  have f0 : wc.cell? ⟨g, off, none⟩ = some (.int .u64 b) := (ho.cell (p := ⟨g, off, none⟩) hg3 (fun h => h)).trans e0
  have f1 : wc.cell? ⟨g, off + 1, none⟩ = some (.int .u64 x) := (ho.cell (p := ⟨g, off + 1, none⟩) hg3 (fun h => h)).trans e1
  have f2 : wc.cell? ⟨g, off + 2, none⟩ = some (.int .u64 t) := (ho.cell (p := ⟨g, off + 2, none⟩) hg3 (fun h => h)).trans e2
  have f3 : wc.cell? ⟨g, off + 3, none⟩ = some (.int .u64 v) := (ho.cell (p := ⟨g, off + 3, none⟩) hg3 (fun h => h)).trans e3
  have f4 : wc.cell? ⟨g, off + 4, none⟩ = some (.int .u64 s) := (ho.cell (p := ⟨g, off + 4, none⟩) hg3 (fun h => h)).trans e4
  have HD3 := hide (HND.out.deq.only ho (fun h => h))
  skip
  clear ho hbk e0 e1 e2 e3 e4 r0 r1 p0 p1 p2 z0 y0 z1 y1 z2 y2 z3 y3 z4 y4 z5 y5 z6 y6 z7 y7
  generalize hwd : wc = wd at *
  clear hwd
  have r0 : wd.cell? ⟨w.heap.size, 0, none⟩ = some (.int .i64 base) := HD3.out.cellv rfl
  have r1 : wd.cell? ⟨w.heap.size, 1, none⟩ = some (.int .i64 n) := HD3.out.cellv rfl
  have q0 : wd.cell? ⟨wr.heap.size, 0, none⟩ = some (.bool false) := HBK.out.cellv rfl
  have q1 : wd.cell? ⟨wr.heap.size, 1, none⟩ = some (.int .i64 2) := HBK.out.cellv rfl
  have q2 : wd.cell? ⟨wr.heap.size, 2, none⟩ = some (.int .i64 (base + 1)) := HBK.out.cellv rfl
  have q3 : wd.cell? ⟨wr.heap.size, 3, none⟩ = some (.int .u64 b) := HBK.out.cellv rfl
  have q4 : wd.cell? ⟨wr.heap.size, 4, none⟩ = some (.int .u64 0) := HBK.out.cellv rfl
  have q5 : wd.cell? ⟨wr.heap.size, 5, none⟩ = some (.int .i64 0) := HBK.out.cellv rfl
  have q6 : wd.cell? ⟨wr.heap.size, 6, none⟩ = some (.int .u64 0) := HBK.out.cellv rfl
  have q7 : wd.cell? ⟨wr.heap.size, 7, none⟩ = some (.int .u64 0) := HBK.out.cellv rfl
  have z0 : wd.cell? ⟨w.heap.size + 1 + 1, 0, none⟩ = some (.bool false) := RB3.out.cellv rfl
  have y0 := RB3.out.frozen 0
  have z1 : wd.cell? ⟨w.heap.size + 1 + 1, 1, none⟩ = some (.int .i64 0) := RB3.out.cellv rfl
  have y1 := RB3.out.frozen 1
  have z2 : wd.cell? ⟨w.heap.size + 1 + 1, 2, none⟩ = some (.int .i64 0) := RB3.out.cellv rfl
  have y2 := RB3.out.frozen 2
  have z3 : wd.cell? ⟨w.heap.size + 1 + 1, 3, none⟩ = some (.int .u64 0) := RB3.out.cellv rfl
  have y3 := RB3.out.frozen 3
  have z4 : wd.cell? ⟨w.heap.size + 1 + 1, 4, none⟩ = some (.int .u64 0) := RB3.out.cellv rfl
  have y4 := RB3.out.frozen 4
  have z5 : wd.cell? ⟨w.heap.size + 1 + 1, 5, none⟩ = some (.int .i64 0) := RB3.out.cellv rfl
  have y5 := RB3.out.frozen 5
  have z6 : wd.cell? ⟨w.heap.size + 1 + 1, 6, none⟩ = some (.int .u64 0) := RB3.out.cellv rfl
  have y6 := RB3.out.frozen 6
  have z7 : wd.cell? ⟨w.heap.size + 1 + 1, 7, none⟩ = some (.int .u64 0) := RB3.out.cellv rfl
  have y7 := RB3.out.frozen 7
  go_wp2_with fail
  (try simp only [Exit.inBlock, Exit.then])
  refine bodyPost_ret (by simp [results, Tryz.results107, go_sem, z0, z1, z2, z3, z4, z5, z6, z7]; try rfl) rfl ?_
  refine ⟨rfl, ?_⟩
  repeat (first | with_reducible exact HO3.out | (with_reducible refine Only.setNew ?_ _ ?_ _; rotate_left 1; omega) | with_reducible refine Only.drew ?_ | with_reducible refine Only.drewN ?_ _ | with_reducible refine Only.alloc ?_ _)

set_option maxRecDepth 100000 in
set_option maxHeartbeats 2000000 in
theorem rpop_b6w (b x t v s z : Int) (hl : Rd w lv (([b, x, t, v, s, z] : List Int).map (.int .u64))) (b0 : 0 ≤ base) (b1 : base ≤ 70000) (n1 : 1 ≤ n) (n64 : n ≤ 64) (ub : U64 b) (ux : U64 x) (ut : U64 t) (uv : U64 v) (us : U64 s) (uz : U64 z) (h : ¬ IntKind.u64.wrap (b - 1) < t) (h2 : ¬ t < IntKind.u64.wrap (b - 1)) (hs : s = 1) :
    Calls Tryz.prog 107 #[.agg #[.int .i64 base, .int .i64 n], .agg #[.int .i64 2, .int .u64 V, lv]] w fun e w' => e = .returned (gwV (wOver 1 v)) ∧ Only S0 w w' := by
  obtain ⟨a, ca, rfl, ha⟩ := hl
  obtain ⟨g, off, rfl, hg, hc⟩ := ha (by simp)
  rw [show (([b, x, t, v, s, z] : List Int).map (Value.int .u64)).length = 6 from rfl] at *
  have nd := nd_new w base n 2 V (.slice (some ⟨g, off, none⟩) 6 ca)
  have e0 := (nd.only.cell (p := ⟨g, off + 0, none⟩) hg (fun h => h)).trans (hc 0 (.int .u64 b) rfl)
  have e1 := (nd.only.cell (p := ⟨g, off + 1, none⟩) hg (fun h => h)).trans (hc 1 (.int .u64 x) rfl)
  have e2 := (nd.only.cell (p := ⟨g, off + 2, none⟩) hg (fun h => h)).trans (hc 2 (.int .u64 t) rfl)
  have e3 := (nd.only.cell (p := ⟨g, off + 3, none⟩) hg (fun h => h)).trans (hc 3 (.int .u64 v) rfl)
  have e4 := (nd.only.cell (p := ⟨g, off + 4, none⟩) hg (fun h => h)).trans (hc 4 (.int .u64 s) rfl)
  have e5 := (nd.only.cell (p := ⟨g, off + 5, none⟩) hg (fun h => h)).trans (hc 5 (.int .u64 z) rfl)
  rw [Nat.add_zero] at e0
  have hg3 := Nat.lt_of_lt_of_le hg nd.only.size
  clear hc ha hg
  have hsz : w.heap.size + 1 + 1 < (((w.alloc (.cells #[.int .i64 base, .int .i64 n] 91)).alloc (.cells #[.int .i64 2, .int .u64 V, .slice (some ⟨g, off, none⟩) 6 ca] 133)).alloc (.cells #[.bool false, .int .i64 0, .int .i64 0, .int .u64 0, .int .u64 0, .int .i64 0, .int .u64 0, .int .u64 0] 62)).heap.size := Blk.lt nd.res
  go_enter Tryz.func107, Tryz.ntmps107
  go_upto_region 1 with fail
  generalize ((w.alloc (.cells #[.int .i64 base, .int .i64 n] 91)).alloc (.cells #[.int .i64 2, .int .u64 V, .slice (some ⟨g, off, none⟩) 6 ca] 133)).alloc (.cells #[.bool false, .int .i64 0, .int .i64 0, .int .u64 0, .int .u64 0, .int .i64 0, .int .u64 0, .int .u64 0] 62) = wr at nd hsz hg3 e0 e1 e2 e3 e4 e5 ⊢
  have HND := hide nd
  have HO := hide nd.only
  have RB := hide nd.res
  have r0 : wr.cell? ⟨w.heap.size, 0, none⟩ = some (.int .i64 base) := nd.deq.cellv rfl
  have r1 : wr.cell? ⟨w.heap.size, 1, none⟩ = some (.int .i64 n) := nd.deq.cellv rfl
  have p0 : wr.cell? ⟨w.heap.size + 1, 0, none⟩ = some (.int .i64 2) := nd.op.cellv rfl
  have p1 : wr.cell? ⟨w.heap.size + 1, 1, none⟩ = some (.int .u64 V) := nd.op.cellv rfl
  have p2 : wr.cell? ⟨w.heap.size + 1, 2, none⟩ = some (.slice (some ⟨g, off, none⟩) 6 ca) := nd.op.cellv rfl
  clear nd
  have z0 : wr.cell? ⟨w.heap.size + 1 + 1, 0, none⟩ = some (.bool false) := RB.out.cellv rfl
  have y0 := RB.out.frozen 0
  have z1 : wr.cell? ⟨w.heap.size + 1 + 1, 1, none⟩ = some (.int .i64 0) := RB.out.cellv rfl
  have y1 := RB.out.frozen 1
  have z2 : wr.cell? ⟨w.heap.size + 1 + 1, 2, none⟩ = some (.int .i64 0) := RB.out.cellv rfl
  have y2 := RB.out.frozen 2
  have z3 : wr.cell? ⟨w.heap.size + 1 + 1, 3, none⟩ = some (.int .u64 0) := RB.out.cellv rfl
  have y3 := RB.out.frozen 3
  have z4 : wr.cell? ⟨w.heap.size + 1 + 1, 4, none⟩ = some (.int .u64 0) := RB.out.cellv rfl
  have y4 := RB.out.frozen 4
  have z5 : wr.cell? ⟨w.heap.size + 1 + 1, 5, none⟩ = some (.int .i64 0) := RB.out.cellv rfl
  have y5 := RB.out.frozen 5
  have z6 : wr.cell? ⟨w.heap.size + 1 + 1, 6, none⟩ = some (.int .u64 0) := RB.out.cellv rfl
  have y6 := RB.out.frozen 6
  have z7 : wr.cell? ⟨w.heap.size + 1 + 1, 7, none⟩ = some (.int .u64 0) := RB.out.cellv rfl
  have y7 := RB.out.frozen 7
  have hsb : (s == 1) = true := by simp [hs]
  clear hs us
  go_upto_region 9 with fail
  go_quiet (fail)
  go_upto_region 10 with fail
  go_cut [8] (fun v8 wx => v8 = .pointer (some ⟨wr.heap.size, 0, none⟩) ∧ Blk wx wr.heap.size 62 #[.bool false, .int .i64 2, .int .i64 (base + 1), .int .u64 b, .int .u64 0, .int .i64 0, .int .u64 0, .int .u64 0] ∧ Only S0 wr wx)
  case first =>
    have nc0 : ((wr.drewN nq).alloc (.cells #[.bool false, .int .i64 0, .int .i64 0, .int .u64 0, .int .u64 0, .int .i64 0, .int .u64 0, .int .u64 0] 62)).cell? ⟨wr.heap.size, 0, none⟩ = some (.bool false) := (Blk.new (wr.drewN nq) 62 #[.bool false, .int .i64 0, .int .i64 0, .int .u64 0, .int .u64 0, .int .i64 0, .int .u64 0, .int .u64 0]).cellv rfl
    have nf0 : ((wr.drewN nq).alloc (.cells #[.bool false, .int .i64 0, .int .i64 0, .int .u64 0, .int .u64 0, .int .i64 0, .int .u64 0, .int .u64 0] 62)).frozen? ⟨wr.heap.size, 0, none⟩ = false := (Blk.new (wr.drewN nq) 62 #[.bool false, .int .i64 0, .int .i64 0, .int .u64 0, .int .u64 0, .int .i64 0, .int .u64 0, .int .u64 0]).frozen 0
    have nc1 : ((wr.drewN nq).alloc (.cells #[.bool false, .int .i64 0, .int .i64 0, .int .u64 0, .int .u64 0, .int .i64 0, .int .u64 0, .int .u64 0] 62)).cell? ⟨wr.heap.size, 1, none⟩ = some (.int .i64 0) := (Blk.new (wr.drewN nq) 62 #[.bool false, .int .i64 0, .int .i64 0, .int .u64 0, .int .u64 0, .int .i64 0, .int .u64 0, .int .u64 0]).cellv rfl
    have nf1 : ((wr.drewN nq).alloc (.cells #[.bool false, .int .i64 0, .int .i64 0, .int .u64 0, .int .u64 0, .int .i64 0, .int .u64 0, .int .u64 0] 62)).frozen? ⟨wr.heap.size, 1, none⟩ = false := (Blk.new (wr.drewN nq) 62 #[.bool false, .int .i64 0, .int .i64 0, .int .u64 0, .int .u64 0, .int .i64 0, .int .u64 0, .int .u64 0]).frozen 1
    have nc2 : ((wr.drewN nq).alloc (.cells #[.bool false, .int .i64 0, .int .i64 0, .int .u64 0, .int .u64 0, .int .i64 0, .int .u64 0, .int .u64 0] 62)).cell? ⟨wr.heap.size, 2, none⟩ = some (.int .i64 0) := (Blk.new (wr.drewN nq) 62 #[.bool false, .int .i64 0, .int .i64 0, .int .u64 0, .int .u64 0, .int .i64 0, .int .u64 0, .int .u64 0]).cellv rfl
    have nf2 : ((wr.drewN nq).alloc (.cells #[.bool false, .int .i64 0, .int .i64 0, .int .u64 0, .int .u64 0, .int .i64 0, .int .u64 0, .int .u64 0] 62)).frozen? ⟨wr.heap.size, 2, none⟩ = false := (Blk.new (wr.drewN nq) 62 #[.bool false, .int .i64 0, .int .i64 0, .int .u64 0, .int .u64 0, .int .i64 0, .int .u64 0, .int .u64 0]).frozen 2
    have nc3 : ((wr.drewN nq).alloc (.cells #[.bool false, .int .i64 0, .int .i64 0, .int .u64 0, .int .u64 0, .int .i64 0, .int .u64 0, .int .u64 0] 62)).cell? ⟨wr.heap.size, 3, none⟩ = some (.int .u64 0) := (Blk.new (wr.drewN nq) 62 #[.bool false, .int .i64 0, .int .i64 0, .int .u64 0, .int .u64 0, .int .i64 0, .int .u64 0, .int .u64 0]).cellv rfl
    have nf3 : ((wr.drewN nq).alloc (.cells #[.bool false, .int .i64 0, .int .i64 0, .int .u64 0, .int .u64 0, .int .i64 0, .int .u64 0, .int .u64 0] 62)).frozen? ⟨wr.heap.size, 3, none⟩ = false := (Blk.new (wr.drewN nq) 62 #[.bool false, .int .i64 0, .int .i64 0, .int .u64 0, .int .u64 0, .int .i64 0, .int .u64 0, .int .u64 0]).frozen 3
    have nc4 : ((wr.drewN nq).alloc (.cells #[.bool false, .int .i64 0, .int .i64 0, .int .u64 0, .int .u64 0, .int .i64 0, .int .u64 0, .int .u64 0] 62)).cell? ⟨wr.heap.size, 4, none⟩ = some (.int .u64 0) := (Blk.new (wr.drewN nq) 62 #[.bool false, .int .i64 0, .int .i64 0, .int .u64 0, .int .u64 0, .int .i64 0, .int .u64 0, .int .u64 0]).cellv rfl
    have nf4 : ((wr.drewN nq).alloc (.cells #[.bool false, .int .i64 0, .int .i64 0, .int .u64 0, .int .u64 0, .int .i64 0, .int .u64 0, .int .u64 0] 62)).frozen? ⟨wr.heap.size, 4, none⟩ = false := (Blk.new (wr.drewN nq) 62 #[.bool false, .int .i64 0, .int .i64 0, .int .u64 0, .int .u64 0, .int .i64 0, .int .u64 0, .int .u64 0]).frozen 4
    have nc5 : ((wr.drewN nq).alloc (.cells #[.bool false, .int .i64 0, .int .i64 0, .int .u64 0, .int .u64 0, .int .i64 0, .int .u64 0, .int .u64 0] 62)).cell? ⟨wr.heap.size, 5, none⟩ = some (.int .i64 0) := (Blk.new (wr.drewN nq) 62 #[.bool false, .int .i64 0, .int .i64 0, .int .u64 0, .int .u64 0, .int .i64 0, .int .u64 0, .int .u64 0]).cellv rfl
    have nf5 : ((wr.drewN nq).alloc (.cells #[.bool false, .int .i64 0, .int .i64 0, .int .u64 0, .int .u64 0, .int .i64 0, .int .u64 0, .int .u64 0] 62)).frozen? ⟨wr.heap.size, 5, none⟩ = false := (Blk.new (wr.drewN nq) 62 #[.bool false, .int .i64 0, .int .i64 0, .int .u64 0, .int .u64 0, .int .i64 0, .int .u64 0, .int .u64 0]).frozen 5
    have nc6 : ((wr.drewN nq).alloc (.cells #[.bool false, .int .i64 0, .int .i64 0, .int .u64 0, .int .u64 0, .int .i64 0, .int .u64 0, .int .u64 0] 62)).cell? ⟨wr.heap.size, 6, none⟩ = some (.int .u64 0) := (Blk.new (wr.drewN nq) 62 #[.bool false, .int .i64 0, .int .i64 0, .int .u64 0, .int .u64 0, .int .i64 0, .int .u64 0, .int .u64 0]).cellv rfl
    have nf6 : ((wr.drewN nq).alloc (.cells #[.bool false, .int .i64 0, .int .i64 0, .int .u64 0, .int .u64 0, .int .i64 0, .int .u64 0, .int .u64 0] 62)).frozen? ⟨wr.heap.size, 6, none⟩ = false := (Blk.new (wr.drewN nq) 62 #[.bool false, .int .i64 0, .int .i64 0, .int .u64 0, .int .u64 0, .int .i64 0, .int .u64 0, .int .u64 0]).frozen 6
    have nc7 : ((wr.drewN nq).alloc (.cells #[.bool false, .int .i64 0, .int .i64 0, .int .u64 0, .int .u64 0, .int .i64 0, .int .u64 0, .int .u64 0] 62)).cell? ⟨wr.heap.size, 7, none⟩ = some (.int .u64 0) := (Blk.new (wr.drewN nq) 62 #[.bool false, .int .i64 0, .int .i64 0, .int .u64 0, .int .u64 0, .int .i64 0, .int .u64 0, .int .u64 0]).cellv rfl
    have nf7 : ((wr.drewN nq).alloc (.cells #[.bool false, .int .i64 0, .int .i64 0, .int .u64 0, .int .u64 0, .int .i64 0, .int .u64 0, .int .u64 0] 62)).frozen? ⟨wr.heap.size, 7, none⟩ = false := (Blk.new (wr.drewN nq) 62 #[.bool false, .int .i64 0, .int .i64 0, .int .u64 0, .int .u64 0, .int .i64 0, .int .u64 0, .int .u64 0]).frozen 7
    go_wp2_with fail
    go_meet
    refine ⟨by simp, ?_, ?_⟩
    · have := ((((((((Blk.new (wr.drewN nq) 62 #[.bool false, .int .i64 0, .int .i64 0, .int .u64 0, .int .u64 0, .int .i64 0, .int .u64 0, .int .u64 0]).set_ 0 (.bool false)).set_ 1 (.int .i64 2)).set_ 2 (.int .i64 (base + 1))).set_ 3 (.int .u64 b)).set_ 4 (.int .u64 0)).set_ 5 (.int .i64 0)).set_ 6 (.int .u64 0)).set_ 7 (.int .u64 0)
      simpa using this
    · exact ((((((((((Only.refl S0 wr).drewN nq).alloc _).setNew 0 (by simp) _).setNew 1 (by simp) _).setNew 2 (by simp) _).setNew 3 (by simp) _).setNew 4 (by simp) _).setNew 5 (by simp) _).setNew 6 (by simp) _).setNew 7 (by simp) _
  case rest =>
  obtain ⟨rfl, hbk, ho⟩ := hcut
  have HO3 := hide (HO.out.trans ho)
  have RB3 := hide (HND.out.res.only ho (fun h => h))
  have HBK := hide hbk
  have f0 : wc.cell? ⟨g, off, none⟩ = some (.int .u64 b) := (ho.cell (p := ⟨g, off, none⟩) hg3 (fun h => h)).trans e0
  have f1 : wc.cell? ⟨g, off + 1, none⟩ = some (.int .u64 x) := (ho.cell (p := ⟨g, off + 1, none⟩) hg3 (fun h => h)).trans e1
  have f2 : wc.cell? ⟨g, off + 2, none⟩ = some (.int .u64 t) := (ho.cell (p := ⟨g, off + 2, none⟩) hg3 (fun h => h)).trans e2
  have f3 : wc.cell? ⟨g, off + 3, none⟩ = some (.int .u64 v) := (ho.cell (p := ⟨g, off + 3, none⟩) hg3 (fun h => h)).trans e3
  have f4 : wc.cell? ⟨g, off + 4, none⟩ = some (.int .u64 s) := (ho.cell (p := ⟨g, off + 4, none⟩) hg3 (fun h => h)).trans e4
  have f5 : wc.cell? ⟨g, off + 5, none⟩ = some (.int .u64 z) := (ho.cell (p := ⟨g, off + 5, none⟩) hg3 (fun h => h)).trans e5
  have HD3 := hide (HND.out.deq.only ho (fun h => h))
  skip
  clear ho hbk e0 e1 e2 e3 e4 e5 r0 r1 p0 p1 p2 z0 y0 z1 y1 z2 y2 z3 y3 z4 y4 z5 y5 z6 y6 z7 y7
  generalize hwd : wc = wd at *
  clear hwd
  have r0 : wd.cell? ⟨w.heap.size, 0, none⟩ = some (.int .i64 base) := HD3.out.cellv rfl
  have r1 : wd.cell? ⟨w.heap.size, 1, none⟩ = some (.int .i64 n) := HD3.out.cellv rfl
  have q0 : wd.cell? ⟨wr.heap.size, 0, none⟩ = some (.bool false) := HBK.out.cellv rfl
  have q1 : wd.cell? ⟨wr.heap.size, 1, none⟩ = some (.int .i64 2) := HBK.out.cellv rfl
  have q2 : wd.cell? ⟨wr.heap.size, 2, none⟩ = some (.int .i64 (base + 1)) := HBK.out.cellv rfl
  have q3 : wd.cell? ⟨wr.heap.size, 3, none⟩ = some (.int .u64 b) := HBK.out.cellv rfl
  have q4 : wd.cell? ⟨wr.heap.size, 4, none⟩ = some (.int .u64 0) := HBK.out.cellv rfl
  have q5 : wd.cell? ⟨wr.heap.size, 5, none⟩ = some (.int .i64 0) := HBK.out.cellv rfl
  have q6 : wd.cell? ⟨wr.heap.size, 6, none⟩ = some (.int .u64 0) := HBK.out.cellv rfl
  have q7 : wd.cell? ⟨wr.heap.size, 7, none⟩ = some (.int .u64 0) := HBK.out.cellv rfl
  have z0 : wd.cell? ⟨w.heap.size + 1 + 1, 0, none⟩ = some (.bool false) := RB3.out.cellv rfl
  have y0 := RB3.out.frozen 0
  have z1 : wd.cell? ⟨w.heap.size + 1 + 1, 1, none⟩ = some (.int .i64 0) := RB3.out.cellv rfl
  have y1 := RB3.out.frozen 1
  have z2 : wd.cell? ⟨w.heap.size + 1 + 1, 2, none⟩ = some (.int .i64 0) := RB3.out.cellv rfl
  have y2 := RB3.out.frozen 2
  have z3 : wd.cell? ⟨w.heap.size + 1 + 1, 3, none⟩ = some (.int .u64 0) := RB3.out.cellv rfl
  have y3 := RB3.out.frozen 3
  have z4 : wd.cell? ⟨w.heap.size + 1 + 1, 4, none⟩ = some (.int .u64 0) := RB3.out.cellv rfl
  have y4 := RB3.out.frozen 4
  have z5 : wd.cell? ⟨w.heap.size + 1 + 1, 5, none⟩ = some (.int .i64 0) := RB3.out.cellv rfl
  have y5 := RB3.out.frozen 5
  have z6 : wd.cell? ⟨w.heap.size + 1 + 1, 6, none⟩ = some (.int .u64 0) := RB3.out.cellv rfl
  have y6 := RB3.out.frozen 6
  have z7 : wd.cell? ⟨w.heap.size + 1 + 1, 7, none⟩ = some (.int .u64 0) := RB3.out.cellv rfl
  have y7 := RB3.out.frozen 7
  go_wp2_with fail
  refine (rover_any 1 v _).mono ?_
  rintro e w2 ⟨rfl, o2⟩
  have HO2 := hide (HO3.out.trans o2)
  have RB2 := hide (RB3.out.only o2 (fun h => h))
  clear o2 z0 y0 z1 y1 z2 y2 z3 y3 z4 y4 z5 y5 z6 y6 z7 y7
  have z0 : w2.cell? ⟨w.heap.size + 1 + 1, 0, none⟩ = some (.bool false) := RB2.out.cellv rfl
  have y0 := RB2.out.frozen 0
  have z1 : w2.cell? ⟨w.heap.size + 1 + 1, 1, none⟩ = some (.int .i64 0) := RB2.out.cellv rfl
  have y1 := RB2.out.frozen 1
  have z2 : w2.cell? ⟨w.heap.size + 1 + 1, 2, none⟩ = some (.int .i64 0) := RB2.out.cellv rfl
  have y2 := RB2.out.frozen 2
  have z3 : w2.cell? ⟨w.heap.size + 1 + 1, 3, none⟩ = some (.int .u64 0) := RB2.out.cellv rfl
  have y3 := RB2.out.frozen 3
  have z4 : w2.cell? ⟨w.heap.size + 1 + 1, 4, none⟩ = some (.int .u64 0) := RB2.out.cellv rfl
  have y4 := RB2.out.frozen 4
  have z5 : w2.cell? ⟨w.heap.size + 1 + 1, 5, none⟩ = some (.int .i64 0) := RB2.out.cellv rfl
  have y5 := RB2.out.frozen 5
  have z6 : w2.cell? ⟨w.heap.size + 1 + 1, 6, none⟩ = some (.int .u64 0) := RB2.out.cellv rfl
  have y6 := RB2.out.frozen 6
  have z7 : w2.cell? ⟨w.heap.size + 1 + 1, 7, none⟩ = some (.int .u64 0) := RB2.out.cellv rfl
  have y7 := RB2.out.frozen 7
  unfold gwV
  go_wp2_with fail
  (try simp only [Exit.inBlock, Exit.then])
  refine bodyPost_ret (by simp [results, Tryz.results107, go_sem, z0, z1, z2, z3, z4, z5, z6, z7]; try rfl) rfl ?_
  refine ⟨rfl, ?_⟩
  repeat (first | with_reducible exact HO2.out | (with_reducible refine Only.setNew ?_ _ ?_ _; rotate_left 1; omega) | with_reducible refine Only.drew ?_ | with_reducible refine Only.drewN ?_ _ | with_reducible refine Only.alloc ?_ _)

set_option maxRecDepth 100000 in
set_option maxHeartbeats 2000000 in
theorem rpop_b6l (b x t v s z : Int) (hl : Rd w lv (([b, x, t, v, s, z] : List Int).map (.int .u64))) (b0 : 0 ≤ base) (b1 : base ≤ 70000) (n1 : 1 ≤ n) (n64 : n ≤ 64) (ub : U64 b) (ux : U64 x) (ut : U64 t) (uv : U64 v) (us : U64 s) (uz : U64 z) (h : ¬ IntKind.u64.wrap (b - 1) < t) (h2 : ¬ t < IntKind.u64.wrap (b - 1)) (hs : s ≠ 1) :
    Calls Tryz.prog 107 #[.agg #[.int .i64 base, .int .i64 n], .agg #[.int .i64 2, .int .u64 V, lv]] w fun e w' => e = .returned (gwV (wOver 4 0)) ∧ Only S0 w w' := by
  obtain ⟨a, ca, rfl, ha⟩ := hl
  obtain ⟨g, off, rfl, hg, hc⟩ := ha (by simp)
  rw [show (([b, x, t, v, s, z] : List Int).map (Value.int .u64)).length = 6 from rfl] at *
  have nd := nd_new w base n 2 V (.slice (some ⟨g, off, none⟩) 6 ca)
  have e0 := (nd.only.cell (p := ⟨g, off + 0, none⟩) hg (fun h => h)).trans (hc 0 (.int .u64 b) rfl)
  have e1 := (nd.only.cell (p := ⟨g, off + 1, none⟩) hg (fun h => h)).trans (hc 1 (.int .u64 x) rfl)
  have e2 := (nd.only.cell (p := ⟨g, off + 2, none⟩) hg (fun h => h)).trans (hc 2 (.int .u64 t) rfl)
  have e3 := (nd.only.cell (p := ⟨g, off + 3, none⟩) hg (fun h => h)).trans (hc 3 (.int .u64 v) rfl)
  have e4 := (nd.only.cell (p := ⟨g, off + 4, none⟩) hg (fun h => h)).trans (hc 4 (.int .u64 s) rfl)
  have e5 := (nd.only.cell (p := ⟨g, off + 5, none⟩) hg (fun h => h)).trans (hc 5 (.int .u64 z) rfl)
  rw [Nat.add_zero] at e0
  have hg3 := Nat.lt_of_lt_of_le hg nd.only.size
  clear hc ha hg
  have hsz : w.heap.size + 1 + 1 < (((w.alloc (.cells #[.int .i64 base, .int .i64 n] 91)).alloc (.cells #[.int .i64 2, .int .u64 V, .slice (some ⟨g, off, none⟩) 6 ca] 133)).alloc (.cells #[.bool false, .int .i64 0, .int .i64 0, .int .u64 0, .int .u64 0, .int .i64 0, .int .u64 0, .int .u64 0] 62)).heap.size := Blk.lt nd.res
  go_enter Tryz.func107, Tryz.ntmps107
  go_upto_region 1 with fail
  generalize ((w.alloc (.cells #[.int .i64 base, .int .i64 n] 91)).alloc (.cells #[.int .i64 2, .int .u64 V, .slice (some ⟨g, off, none⟩) 6 ca] 133)).alloc (.cells #[.bool false, .int .i64 0, .int .i64 0, .int .u64 0, .int .u64 0, .int .i64 0, .int .u64 0, .int .u64 0] 62) = wr at nd hsz hg3 e0 e1 e2 e3 e4 e5 ⊢
  have HND := hide nd
  have HO := hide nd.only
  have RB := hide nd.res
  have r0 : wr.cell? ⟨w.heap.size, 0, none⟩ = some (.int .i64 base) := nd.deq.cellv rfl
  have r1 : wr.cell? ⟨w.heap.size, 1, none⟩ = some (.int .i64 n) := nd.deq.cellv rfl
  have p0 : wr.cell? ⟨w.heap.size + 1, 0, none⟩ = some (.int .i64 2) := nd.op.cellv rfl
  have p1 : wr.cell? ⟨w.heap.size + 1, 1, none⟩ = some (.int .u64 V) := nd.op.cellv rfl
  have p2 : wr.cell? ⟨w.heap.size + 1, 2, none⟩ = some (.slice (some ⟨g, off, none⟩) 6 ca) := nd.op.cellv rfl
  clear nd
  have z0 : wr.cell? ⟨w.heap.size + 1 + 1, 0, none⟩ = some (.bool false) := RB.out.cellv rfl
  have y0 := RB.out.frozen 0
  have z1 : wr.cell? ⟨w.heap.size + 1 + 1, 1, none⟩ = some (.int .i64 0) := RB.out.cellv rfl
  have y1 := RB.out.frozen 1
  have z2 : wr.cell? ⟨w.heap.size + 1 + 1, 2, none⟩ = some (.int .i64 0) := RB.out.cellv rfl
  have y2 := RB.out.frozen 2
  have z3 : wr.cell? ⟨w.heap.size + 1 + 1, 3, none⟩ = some (.int .u64 0) := RB.out.cellv rfl
  have y3 := RB.out.frozen 3
  have z4 : wr.cell? ⟨w.heap.size + 1 + 1, 4, none⟩ = some (.int .u64 0) := RB.out.cellv rfl
  have y4 := RB.out.frozen 4
  have z5 : wr.cell? ⟨w.heap.size + 1 + 1, 5, none⟩ = some (.int .i64 0) := RB.out.cellv rfl
  have y5 := RB.out.frozen 5
  have z6 : wr.cell? ⟨w.heap.size + 1 + 1, 6, none⟩ = some (.int .u64 0) := RB.out.cellv rfl
  have y6 := RB.out.frozen 6
  have z7 : wr.cell? ⟨w.heap.size + 1 + 1, 7, none⟩ = some (.int .u64 0) := RB.out.cellv rfl
  have y7 := RB.out.frozen 7
  have hsb : (s == 1) = false := by simp [hs]
  clear hs us
  go_upto_region 9 with fail
  go_quiet (fail)
  go_upto_region 10 with fail
  go_cut [8] (fun v8 wx => v8 = .pointer (some ⟨wr.heap.size, 0, none⟩) ∧ Blk wx wr.heap.size 62 #[.bool false, .int .i64 2, .int .i64 (base + 1), .int .u64 b, .int .u64 0, .int .i64 0, .int .u64 0, .int .u64 0] ∧ Only S0 wr wx)
  case first =>
    have nc0 : ((wr.drewN nq).alloc (.cells #[.bool false, .int .i64 0, .int .i64 0, .int .u64 0, .int .u64 0, .int .i64 0, .int .u64 0, .int .u64 0] 62)).cell? ⟨wr.heap.size, 0, none⟩ = some (.bool false) := (Blk.new (wr.drewN nq) 62 #[.bool false, .int .i64 0, .int .i64 0, .int .u64 0, .int .u64 0, .int .i64 0, .int .u64 0, .int .u64 0]).cellv rfl
    have nf0 : ((wr.drewN nq).alloc (.cells #[.bool false, .int .i64 0, .int .i64 0, .int .u64 0, .int .u64 0, .int .i64 0, .int .u64 0, .int .u64 0] 62)).frozen? ⟨wr.heap.size, 0, none⟩ = false := (Blk.new (wr.drewN nq) 62 #[.bool false, .int .i64 0, .int .i64 0, .int .u64 0, .int .u64 0, .int .i64 0, .int .u64 0, .int .u64 0]).frozen 0
    have nc1 : ((wr.drewN nq).alloc (.cells #[.bool false, .int .i64 0, .int .i64 0, .int .u64 0, .int .u64 0, .int .i64 0, .int .u64 0, .int .u64 0] 62)).cell? ⟨wr.heap.size, 1, none⟩ = some (.int .i64 0) := (Blk.new (wr.drewN nq) 62 #[.bool false, .int .i64 0, .int .i64 0, .int .u64 0, .int .u64 0, .int .i64 0, .int .u64 0, .int .u64 0]).cellv rfl
    have nf1 : ((wr.drewN nq).alloc (.cells #[.bool false, .int .i64 0, .int .i64 0, .int .u64 0, .int .u64 0, .int .i64 0, .int .u64 0, .int .u64 0] 62)).frozen? ⟨wr.heap.size, 1, none⟩ = false := (Blk.new (wr.drewN nq) 62 #[.bool false, .int .i64 0, .int .i64 0, .int .u64 0, .int .u64 0, .int .i64 0, .int .u64 0, .int .u64 0]).frozen 1
    have nc2 : ((wr.drewN nq).alloc (.cells #[.bool false, .int .i64 0, .int .i64 0, .int .u64 0, .int .u64 0, .int .i64 0, .int .u64 0, .int .u64 0] 62)).cell? ⟨wr.heap.size, 2, none⟩ = some (.int .i64 0) := (Blk.new (wr.drewN nq) 62 #[.bool false, .int .i64 0, .int .i64 0, .int .u64 0, .int .u64 0, .int .i64 0, .int .u64 0, .int .u64 0]).cellv rfl
    have nf2 : ((wr.drewN nq).alloc (.cells #[.bool false, .int .i64 0, .int .i64 0, .int .u64 0, .int .u64 0, .int .i64 0, .int .u64 0, .int .u64 0] 62)).frozen? ⟨wr.heap.size, 2, none⟩ = false := (Blk.new (wr.drewN nq) 62 #[.bool false, .int .i64 0, .int .i64 0, .int .u64 0, .int .u64 0, .int .i64 0, .int .u64 0, .int .u64 0]).frozen 2
    have nc3 : ((wr.drewN nq).alloc (.cells #[.bool false, .int .i64 0, .int .i64 0, .int .u64 0, .int .u64 0, .int .i64 0, .int .u64 0, .int .u64 0] 62)).cell? ⟨wr.heap.size, 3, none⟩ = some (.int .u64 0) := (Blk.new (wr.drewN nq) 62 #[.bool false, .int .i64 0, .int .i64 0, .int .u64 0, .int .u64 0, .int .i64 0, .int .u64 0, .int .u64 0]).cellv rfl
    have nf3 : ((wr.drewN nq).alloc (.cells #[.bool false, .int .i64 0, .int .i64 0, .int .u64 0, .int .u64 0, .int .i64 0, .int .u64 0, .int .u64 0] 62)).frozen? ⟨wr.heap.size, 3, none⟩ = false := (Blk.new (wr.drewN nq) 62 #[.bool false, .int .i64 0, .int .i64 0, .int .u64 0, .int .u64 0, .int .i64 0, .int .u64 0, .int .u64 0]).frozen 3
    have nc4 : ((wr.drewN nq).alloc (.cells #[.bool false, .int .i64 0, .int .i64 0, .int .u64 0, .int .u64 0, .int .i64 0, .int .u64 0, .int .u64 0] 62)).cell? ⟨wr.heap.size, 4, none⟩ = some (.int .u64 0) := (Blk.new (wr.drewN nq) 62 #[.bool false, .int .i64 0, .int .i64 0, .int .u64 0, .int .u64 0, .int .i64 0, .int .u64 0, .int .u64 0]).cellv rfl
    have nf4 : ((wr.drewN nq).alloc (.cells #[.bool false, .int .i64 0, .int .i64 0, .int .u64 0, .int .u64 0, .int .i64 0, .int .u64 0, .int .u64 0] 62)).frozen? ⟨wr.heap.size, 4, none⟩ = false := (Blk.new (wr.drewN nq) 62 #[.bool false, .int .i64 0, .int .i64 0, .int .u64 0, .int .u64 0, .int .i64 0, .int .u64 0, .int .u64 0]).frozen 4
    have nc5 : ((wr.drewN nq).alloc (.cells #[.bool false, .int .i64 0, .int .i64 0, .int .u64 0, .int .u64 0, .int .i64 0, .int .u64 0, .int .u64 0] 62)).cell? ⟨wr.heap.size, 5, none⟩ = some (.int .i64 0) := (Blk.new (wr.drewN nq) 62 #[.bool false, .int .i64 0, .int .i64 0, .int .u64 0, .int .u64 0, .int .i64 0, .int .u64 0, .int .u64 0]).cellv rfl
    have nf5 : ((wr.drewN nq).alloc (.cells #[.bool false, .int .i64 0, .int .i64 0, .int .u64 0, .int .u64 0, .int .i64 0, .int .u64 0, .int .u64 0] 62)).frozen? ⟨wr.heap.size, 5, none⟩ = false := (Blk.new (wr.drewN nq) 62 #[.bool false, .int .i64 0, .int .i64 0, .int .u64 0, .int .u64 0, .int .i64 0, .int .u64 0, .int .u64 0]).frozen 5
    have nc6 : ((wr.drewN nq).alloc (.cells #[.bool false, .int .i64 0, .int .i64 0, .int .u64 0, .int .u64 0, .int .i64 0, .int .u64 0, .int .u64 0] 62)).cell? ⟨wr.heap.size, 6, none⟩ = some (.int .u64 0) := (Blk.new (wr.drewN nq) 62 #[.bool false, .int .i64 0, .int .i64 0, .int .u64 0, .int .u64 0, .int .i64 0, .int .u64 0, .int .u64 0]).cellv rfl
    have nf6 : ((wr.drewN nq).alloc (.cells #[.bool false, .int .i64 0, .int .i64 0, .int .u64 0, .int .u64 0, .int .i64 0, .int .u64 0, .int .u64 0] 62)).frozen? ⟨wr.heap.size, 6, none⟩ = false := (Blk.new (wr.drewN nq) 62 #[.bool false, .int .i64 0, .int .i64 0, .int .u64 0, .int .u64 0, .int .i64 0, .int .u64 0, .int .u64 0]).frozen 6
    have nc7 : ((wr.drewN nq).alloc (.cells #[.bool false, .int .i64 0, .int .i64 0, .int .u64 0, .int .u64 0, .int .i64 0, .int .u64 0, .int .u64 0] 62)).cell? ⟨wr.heap.size, 7, none⟩ = some (.int .u64 0) := (Blk.new (wr.drewN nq) 62 #[.bool false, .int .i64 0, .int .i64 0, .int .u64 0, .int .u64 0, .int .i64 0, .int .u64 0, .int .u64 0]).cellv rfl
    have nf7 : ((wr.drewN nq).alloc (.cells #[.bool false, .int .i64 0, .int .i64 0, .int .u64 0, .int .u64 0, .int .i64 0, .int .u64 0, .int .u64 0] 62)).frozen? ⟨wr.heap.size, 7, none⟩ = false := (Blk.new (wr.drewN nq) 62 #[.bool false, .int .i64 0, .int .i64 0, .int .u64 0, .int .u64 0, .int .i64 0, .int .u64 0, .int .u64 0]).frozen 7
    go_wp2_with fail
    go_meet
    refine ⟨by simp, ?_, ?_⟩
    · have := ((((((((Blk.new (wr.drewN nq) 62 #[.bool false, .int .i64 0, .int .i64 0, .int .u64 0, .int .u64 0, .int .i64 0, .int .u64 0, .int .u64 0]).set_ 0 (.bool false)).set_ 1 (.int .i64 2)).set_ 2 (.int .i64 (base + 1))).set_ 3 (.int .u64 b)).set_ 4 (.int .u64 0)).set_ 5 (.int .i64 0)).set_ 6 (.int .u64 0)).set_ 7 (.int .u64 0)
      simpa using this
    · exact ((((((((((Only.refl S0 wr).drewN nq).alloc _).setNew 0 (by simp) _).setNew 1 (by simp) _).setNew 2 (by simp) _).setNew 3 (by simp) _).setNew 4 (by simp) _).setNew 5 (by simp) _).setNew 6 (by simp) _).setNew 7 (by simp) _
  case rest =>
  obtain ⟨rfl, hbk, ho⟩ := hcut
  have HO3 := hide (HO.out.trans ho)
  have RB3 := hide (HND.out.res.only ho (fun h => h))
  have HBK := hide hbk
  have f0 : wc.cell? ⟨g, off, none⟩ = some (.int .u64 b) := (ho.cell (p := ⟨g, off, none⟩) hg3 (fun h => h)).trans e0
  have f1 : wc.cell? ⟨g, off + 1, none⟩ = some (.int .u64 x) := (ho.cell (p := ⟨g, off + 1, none⟩) hg3 (fun h => h)).trans e1
  have f2 : wc.cell? ⟨g, off + 2, none⟩ = some (.int .u64 t) := (ho.cell (p := ⟨g, off + 2, none⟩) hg3 (fun h => h)).trans e2
  have f3 : wc.cell? ⟨g, off + 3, none⟩ = some (.int .u64 v) := (ho.cell (p := ⟨g, off + 3, none⟩) hg3 (fun h => h)).trans e3
  have f4 : wc.cell? ⟨g, off + 4, none⟩ = some (.int .u64 s) := (ho.cell (p := ⟨g, off + 4, none⟩) hg3 (fun h => h)).trans e4
  have f5 : wc.cell? ⟨g, off + 5, none⟩ = some (.int .u64 z) := (ho.cell (p := ⟨g, off + 5, none⟩) hg3 (fun h => h)).trans e5
  have HD3 := hide (HND.out.deq.only ho (fun h => h))
  skip
  clear ho hbk e0 e1 e2 e3 e4 e5 r0 r1 p0 p1 p2 z0 y0 z1 y1 z2 y2 z3 y3 z4 y4 z5 y5 z6 y6 z7 y7
  generalize hwd : wc = wd at *
  clear hwd
  have r0 : wd.cell? ⟨w.heap.size, 0, none⟩ = some (.int .i64 base) := HD3.out.cellv rfl
  have r1 : wd.cell? ⟨w.heap.size, 1, none⟩ = some (.int .i64 n) := HD3.out.cellv rfl
  have q0 : wd.cell? ⟨wr.heap.size, 0, none⟩ = some (.bool false) := HBK.out.cellv rfl
  have q1 : wd.cell? ⟨wr.heap.size, 1, none⟩ = some (.int .i64 2) := HBK.out.cellv rfl
  have q2 : wd.cell? ⟨wr.heap.size, 2, none⟩ = some (.int .i64 (base + 1)) := HBK.out.cellv rfl
  have q3 : wd.cell? ⟨wr.heap.size, 3, none⟩ = some (.int .u64 b) := HBK.out.cellv rfl
  have q4 : wd.cell? ⟨wr.heap.size, 4, none⟩ = some (.int .u64 0) := HBK.out.cellv rfl
  have q5 : wd.cell? ⟨wr.heap.size, 5, none⟩ = some (.int .i64 0) := HBK.out.cellv rfl
  have q6 : wd.cell? ⟨wr.heap.size, 6, none⟩ = some (.int .u64 0) := HBK.out.cellv rfl
  have q7 : wd.cell? ⟨wr.heap.size, 7, none⟩ = some (.int .u64 0) := HBK.out.cellv rfl
  have z0 : wd.cell? ⟨w.heap.size + 1 + 1, 0, none⟩ = some (.bool false) := RB3.out.cellv rfl
  have y0 := RB3.out.frozen 0
  have z1 : wd.cell? ⟨w.heap.size + 1 + 1, 1, none⟩ = some (.int .i64 0) := RB3.out.cellv rfl
  have y1 := RB3.out.frozen 1
  have z2 : wd.cell? ⟨w.heap.size + 1 + 1, 2, none⟩ = some (.int .i64 0) := RB3.out.cellv rfl
  have y2 := RB3.out.frozen 2
  have z3 : wd.cell? ⟨w.heap.size + 1 + 1, 3, none⟩ = some (.int .u64 0) := RB3.out.cellv rfl
  have y3 := RB3.out.frozen 3
  have z4 : wd.cell? ⟨w.heap.size + 1 + 1, 4, none⟩ = some (.int .u64 0) := RB3.out.cellv rfl
  have y4 := RB3.out.frozen 4
  have z5 : wd.cell? ⟨w.heap.size + 1 + 1, 5, none⟩ = some (.int .i64 0) := RB3.out.cellv rfl
  have y5 := RB3.out.frozen 5
  have z6 : wd.cell? ⟨w.heap.size + 1 + 1, 6, none⟩ = some (.int .u64 0) := RB3.out.cellv rfl
  have y6 := RB3.out.frozen 6
  have z7 : wd.cell? ⟨w.heap.size + 1 + 1, 7, none⟩ = some (.int .u64 0) := RB3.out.cellv rfl
  have y7 := RB3.out.frozen 7
  go_wp2_with fail
  refine (rover_any 4 0 _).mono ?_
  rintro e w2 ⟨rfl, o2⟩
  have HO2 := hide (HO3.out.trans o2)
  have RB2 := hide (RB3.out.only o2 (fun h => h))
  clear o2 z0 y0 z1 y1 z2 y2 z3 y3 z4 y4 z5 y5 z6 y6 z7 y7
  have z0 : w2.cell? ⟨w.heap.size + 1 + 1, 0, none⟩ = some (.bool false) := RB2.out.cellv rfl
  have y0 := RB2.out.frozen 0
  have z1 : w2.cell? ⟨w.heap.size + 1 + 1, 1, none⟩ = some (.int .i64 0) := RB2.out.cellv rfl
  have y1 := RB2.out.frozen 1
  have z2 : w2.cell? ⟨w.heap.size + 1 + 1, 2, none⟩ = some (.int .i64 0) := RB2.out.cellv rfl
  have y2 := RB2.out.frozen 2
  have z3 : w2.cell? ⟨w.heap.size + 1 + 1, 3, none⟩ = some (.int .u64 0) := RB2.out.cellv rfl
  have y3 := RB2.out.frozen 3
  have z4 : w2.cell? ⟨w.heap.size + 1 + 1, 4, none⟩ = some (.int .u64 0) := RB2.out.cellv rfl
  have y4 := RB2.out.frozen 4
  have z5 : w2.cell? ⟨w.heap.size + 1 + 1, 5, none⟩ = some (.int .i64 0) := RB2.out.cellv rfl
  have y5 := RB2.out.frozen 5
  have z6 : w2.cell? ⟨w.heap.size + 1 + 1, 6, none⟩ = some (.int .u64 0) := RB2.out.cellv rfl
  have y6 := RB2.out.frozen 6
  have z7 : w2.cell? ⟨w.heap.size + 1 + 1, 7, none⟩ = some (.int .u64 0) := RB2.out.cellv rfl
  have y7 := RB2.out.frozen 7
  unfold gwV
  go_wp2_with fail
  (try simp only [Exit.inBlock, Exit.then])
  refine bodyPost_ret (by simp [results, Tryz.results107, go_sem, z0, z1, z2, z3, z4, z5, z6, z7]; try rfl) rfl ?_
  refine ⟨rfl, ?_⟩
  repeat (first | with_reducible exact HO2.out | (with_reducible refine Only.setNew ?_ _ ?_ _; rotate_left 1; omega) | with_reducible refine Only.drew ?_ | with_reducible refine Only.drewN ?_ _ | with_reducible refine Only.alloc ?_ _)

end
end Go.Proofs.YtdoaipjdldknaaaGreat
