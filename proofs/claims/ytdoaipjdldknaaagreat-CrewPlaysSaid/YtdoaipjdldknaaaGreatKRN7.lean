/-
  The document's crew (trouperef20): Next.
-/
import Derived.Test.YtdoaipjdldknaaaGreatKRN5
import Derived.Test.YtdoaipjdldknaaaGreatKRN6
namespace Go.Proofs.YtdoaipjdldknaaaGreat
open Go.RowKit
set_option linter.unusedVariables false
section
variable {w : World} {F : CLay}
set_option maxRecDepth 100000 in
set_option maxHeartbeats 4000000 in
theorem rNext_1 (hF : F.Ok) (hb : F.base ≤ 60000) {wk V : Int} (hV : U64 V) {a : Option Addr} {len cap : Nat} {l : List Int} (hl : LogS w a len cap l) (hlen : len ≤ 1000000) (hu : AllU l) (hc : CProper F (offerC F wk V) l) :
    Calls Tryz.prog 21 #[crewV F, .agg #[.int .i64 1, .int .i64 wk, .int .u64 V, .slice a len cap]] w fun e w' => e = .returned (gwV (cask F (l.foldl (cans F) (offerC F wk V)))) ∧ Only S0 w w' := by
  have hcall := fun (wx : World) (hx : Only S0 w wx) => roffer_any (w := wx) hF hb (kind := 1) hV (hl.only0 hx) hlen hu hc
  obtain ⟨W, hW⟩ : ∃ W, cask F (l.foldl (cans F) (offerC F wk V)) = W := ⟨_, rfl⟩
  rw [hW] at hcall ⊢
  obtain ⟨ov, what, cell, aa, bb, out, value⟩ := W
  have HW := hide hcall
  clear hcall hW hF hV hl hu hc
  have nd := nx4_new w F 1 wk V (.slice a len cap)
  unfold crewV at *
  go_enter Tryz.func21, Tryz.ntmps21
  go_upto_region 1 with fail
  generalize (((w.alloc (.cells #[.int .i64 F.base, .int .i64 F.n, .int .i64 F.slots, .int .i64 F.actors] 34)).alloc (.cells #[.int .i64 1, .int .i64 wk, .int .u64 V, .slice a len cap] 59)).alloc (.cells #[.bool false, .int .i64 0, .int .i64 0, .int .u64 0, .int .u64 0, .int .i64 0, .int .u64 0, .int .u64 0] 62)) = w0 at *
  generalize w.heap.size + 1 + 1 = b3 at *
  generalize w.heap.size + 1 = b2 at *
  generalize w.heap.size = b1 at *
  have HND := hide nd
  clear nd
  have c0 := HND.out.crew.cellv (i := 0) rfl; have c1 := HND.out.crew.cellv (i := 1) rfl; have c2 := HND.out.crew.cellv (i := 2) rfl; have c3 := HND.out.crew.cellv (i := 3) rfl
  have m0 := HND.out.op.cellv (i := 0) rfl; have m1 := HND.out.op.cellv (i := 1) rfl; have m2 := HND.out.op.cellv (i := 2) rfl; have m3 := HND.out.op.cellv (i := 3) rfl
  go_wp2_with (go_at_call 43; (with_reducible refine (HW.out _ HND.out.only).mono ?_); rintro e w2 ⟨rfl, o1⟩; unfold gwV; have N2 := hide (HND.out.only0 o1); clear o1; have r0 := N2.out.res.cellv (i := 0) rfl; have r1 := N2.out.res.cellv (i := 1) rfl; have r2 := N2.out.res.cellv (i := 2) rfl; have r3 := N2.out.res.cellv (i := 3) rfl; have r4 := N2.out.res.cellv (i := 4) rfl; have r5 := N2.out.res.cellv (i := 5) rfl; have r6 := N2.out.res.cellv (i := 6) rfl; have r7 := N2.out.res.cellv (i := 7) rfl; have y0 := N2.out.res.frozen 0; have y1 := N2.out.res.frozen 1; have y2 := N2.out.res.frozen 2; have y3 := N2.out.res.frozen 3; have y4 := N2.out.res.frozen 4; have y5 := N2.out.res.frozen 5; have y6 := N2.out.res.frozen 6; have y7 := N2.out.res.frozen 7)
  (try simp only [Exit.inBlock, Exit.then])
  refine bodyPost_ret (by simp [results, Tryz.results21, go_sem, r0, r1, r2, r3, r4, r5, r6, r7]; try rfl) rfl ?_
  refine ⟨rfl, ?_⟩
  have hge := N2.out.ge
  exact N2.out.only.then (want_only _ b3 ov what cell aa bb out value) (fun j hj h => by have h' : j = b3 := h; exfalso; omega)
set_option maxRecDepth 100000 in
set_option maxHeartbeats 4000000 in
theorem rNext_2 (hF : F.Ok) (hb : F.base ≤ 60000) {wk V : Int} (hV : U64 V) {a : Option Addr} {len cap : Nat} {l : List Int} (hl : LogS w a len cap l) (hlen : len ≤ 1000000) (hu : AllU l) {i : Nat} (hi : i < F.n) (hwk : (i : Int) = wk) (hc : CProper F (ctry F (srcsOf i (ordZ V.toNat F.n i))) l) :
    Calls Tryz.prog 21 #[crewV F, .agg #[.int .i64 2, .int .i64 wk, .int .u64 V, .slice a len cap]] w fun e w' => e = .returned (gwV (cask F (l.foldl (cans F) (ctry F (srcsOf i (ordZ V.toNat F.n i)))))) ∧ Only S0 w w' := by
  have hcall := fun (wx : World) (hx : Only S0 w wx) => rfind_any (w := wx) hF hb hi (kind := 2) hV (hl.only0 hx) hlen hu hc
  obtain ⟨W, hW⟩ : ∃ W, cask F (l.foldl (cans F) (ctry F (srcsOf i (ordZ V.toNat F.n i)))) = W := ⟨_, rfl⟩
  rw [hW, hwk] at hcall
  rw [hW]
  have hh := fun (wx : World) => rhas_any (w := wx) hF wk
  rw [show decide (0 ≤ wk ∧ wk < F.n) = true from decide_eq_true (by omega)] at hh
  obtain ⟨ov, what, cell, aa, bb, out, value⟩ := W
  have HW := hide hcall
  have HH := hide hh
  clear hcall hh hW hF hV hl hu hc
  have nd := nx4_new w F 2 wk V (.slice a len cap)
  unfold crewV at *
  go_enter Tryz.func21, Tryz.ntmps21
  go_upto_region 1 with fail
  generalize (((w.alloc (.cells #[.int .i64 F.base, .int .i64 F.n, .int .i64 F.slots, .int .i64 F.actors] 34)).alloc (.cells #[.int .i64 2, .int .i64 wk, .int .u64 V, .slice a len cap] 59)).alloc (.cells #[.bool false, .int .i64 0, .int .i64 0, .int .u64 0, .int .u64 0, .int .i64 0, .int .u64 0, .int .u64 0] 62)) = w0 at *
  generalize w.heap.size + 1 + 1 = b3 at *
  generalize w.heap.size + 1 = b2 at *
  generalize w.heap.size = b1 at *
  have HND := hide nd
  clear nd
  have c0 := HND.out.crew.cellv (i := 0) rfl; have c1 := HND.out.crew.cellv (i := 1) rfl; have c2 := HND.out.crew.cellv (i := 2) rfl; have c3 := HND.out.crew.cellv (i := 3) rfl
  have m0 := HND.out.op.cellv (i := 0) rfl; have m1 := HND.out.op.cellv (i := 1) rfl; have m2 := HND.out.op.cellv (i := 2) rfl; have m3 := HND.out.op.cellv (i := 3) rfl
  go_wp2_with (first | (go_at_call 44; (with_reducible refine (HH.out _).mono ?_); rintro e w1 ⟨rfl, o1⟩; have N1 := hide (HND.out.only0 o1); clear o1 c0 c1 c2 c3 m0 m1 m2 m3; have c0 := N1.out.crew.cellv (i := 0) rfl; have c1 := N1.out.crew.cellv (i := 1) rfl; have c2 := N1.out.crew.cellv (i := 2) rfl; have c3 := N1.out.crew.cellv (i := 3) rfl; have m0 := N1.out.op.cellv (i := 0) rfl; have m1 := N1.out.op.cellv (i := 1) rfl; have m2 := N1.out.op.cellv (i := 2) rfl; have m3 := N1.out.op.cellv (i := 3) rfl) | (go_at_call 46; (with_reducible refine (HW.out _ N1.out.only).mono ?_); rintro e w2 ⟨rfl, o1⟩; unfold gwV; have N2 := hide (N1.out.only0 o1); clear o1; have r0 := N2.out.res.cellv (i := 0) rfl; have r1 := N2.out.res.cellv (i := 1) rfl; have r2 := N2.out.res.cellv (i := 2) rfl; have r3 := N2.out.res.cellv (i := 3) rfl; have r4 := N2.out.res.cellv (i := 4) rfl; have r5 := N2.out.res.cellv (i := 5) rfl; have r6 := N2.out.res.cellv (i := 6) rfl; have r7 := N2.out.res.cellv (i := 7) rfl; have y0 := N2.out.res.frozen 0; have y1 := N2.out.res.frozen 1; have y2 := N2.out.res.frozen 2; have y3 := N2.out.res.frozen 3; have y4 := N2.out.res.frozen 4; have y5 := N2.out.res.frozen 5; have y6 := N2.out.res.frozen 6; have y7 := N2.out.res.frozen 7))
  (try simp only [Exit.inBlock, Exit.then])
  refine bodyPost_ret (by simp [results, Tryz.results21, go_sem, r0, r1, r2, r3, r4, r5, r6, r7]; try rfl) rfl ?_
  refine ⟨rfl, ?_⟩
  have hge := N2.out.ge
  exact N2.out.only.then (want_only _ b3 ov what cell aa bb out value) (fun j hj h => by have h' : j = b3 := h; exfalso; omega)
set_option maxRecDepth 100000 in
set_option maxHeartbeats 4000000 in
theorem rNext_3 (hF : F.Ok) (hb : F.base ≤ 60000) {wk V : Int} (hV : U64 V) {a : Option Addr} {len cap : Nat} {l : List Int} (hl : LogS w a len cap l) (hlen : len ≤ 1000000) (hu : AllU l) {i : Nat} (hi : i < F.n) (hwk : (i : Int) = wk) (hc : CProper F (.sleep i ⟨0, i, 0⟩) l) :
    Calls Tryz.prog 21 #[crewV F, .agg #[.int .i64 3, .int .i64 wk, .int .u64 V, .slice a len cap]] w fun e w' => e = .returned (gwV (cask F (l.foldl (cans F) (.sleep i ⟨0, i, 0⟩)))) ∧ Only S0 w w' := by
  have hcall := fun (wx : World) (hx : Only S0 w wx) => rrest_any (w := wx) hF hb hi (kind := 3) (V := V) (hl.only0 hx) hlen hu hc
  obtain ⟨W, hW⟩ : ∃ W, cask F (l.foldl (cans F) (.sleep i ⟨0, i, 0⟩)) = W := ⟨_, rfl⟩
  rw [hW, hwk] at hcall
  rw [hW]
  have hh := fun (wx : World) => rhas_any (w := wx) hF wk
  rw [show decide (0 ≤ wk ∧ wk < F.n) = true from decide_eq_true (by omega)] at hh
  obtain ⟨ov, what, cell, aa, bb, out, value⟩ := W
  have HW := hide hcall
  have HH := hide hh
  clear hcall hh hW hF hV hl hu hc
  have nd := nx4_new w F 3 wk V (.slice a len cap)
  unfold crewV at *
  go_enter Tryz.func21, Tryz.ntmps21
  go_upto_region 1 with fail
  generalize (((w.alloc (.cells #[.int .i64 F.base, .int .i64 F.n, .int .i64 F.slots, .int .i64 F.actors] 34)).alloc (.cells #[.int .i64 3, .int .i64 wk, .int .u64 V, .slice a len cap] 59)).alloc (.cells #[.bool false, .int .i64 0, .int .i64 0, .int .u64 0, .int .u64 0, .int .i64 0, .int .u64 0, .int .u64 0] 62)) = w0 at *
  generalize w.heap.size + 1 + 1 = b3 at *
  generalize w.heap.size + 1 = b2 at *
  generalize w.heap.size = b1 at *
  have HND := hide nd
  clear nd
  have c0 := HND.out.crew.cellv (i := 0) rfl; have c1 := HND.out.crew.cellv (i := 1) rfl; have c2 := HND.out.crew.cellv (i := 2) rfl; have c3 := HND.out.crew.cellv (i := 3) rfl
  have m0 := HND.out.op.cellv (i := 0) rfl; have m1 := HND.out.op.cellv (i := 1) rfl; have m2 := HND.out.op.cellv (i := 2) rfl; have m3 := HND.out.op.cellv (i := 3) rfl
  go_wp2_with (first | (go_at_call 44; (with_reducible refine (HH.out _).mono ?_); rintro e w1 ⟨rfl, o1⟩; have N1 := hide (HND.out.only0 o1); clear o1 c0 c1 c2 c3 m0 m1 m2 m3; have c0 := N1.out.crew.cellv (i := 0) rfl; have c1 := N1.out.crew.cellv (i := 1) rfl; have c2 := N1.out.crew.cellv (i := 2) rfl; have c3 := N1.out.crew.cellv (i := 3) rfl; have m0 := N1.out.op.cellv (i := 0) rfl; have m1 := N1.out.op.cellv (i := 1) rfl; have m2 := N1.out.op.cellv (i := 2) rfl; have m3 := N1.out.op.cellv (i := 3) rfl) | (go_at_call 47; (with_reducible refine (HW.out _ N1.out.only).mono ?_); rintro e w2 ⟨rfl, o1⟩; unfold gwV; have N2 := hide (N1.out.only0 o1); clear o1; have r0 := N2.out.res.cellv (i := 0) rfl; have r1 := N2.out.res.cellv (i := 1) rfl; have r2 := N2.out.res.cellv (i := 2) rfl; have r3 := N2.out.res.cellv (i := 3) rfl; have r4 := N2.out.res.cellv (i := 4) rfl; have r5 := N2.out.res.cellv (i := 5) rfl; have r6 := N2.out.res.cellv (i := 6) rfl; have r7 := N2.out.res.cellv (i := 7) rfl; have y0 := N2.out.res.frozen 0; have y1 := N2.out.res.frozen 1; have y2 := N2.out.res.frozen 2; have y3 := N2.out.res.frozen 3; have y4 := N2.out.res.frozen 4; have y5 := N2.out.res.frozen 5; have y6 := N2.out.res.frozen 6; have y7 := N2.out.res.frozen 7))
  (try simp only [Exit.inBlock, Exit.then])
  refine bodyPost_ret (by simp [results, Tryz.results21, go_sem, r0, r1, r2, r3, r4, r5, r6, r7]; try rfl) rfl ?_
  refine ⟨rfl, ?_⟩
  have hge := N2.out.ge
  exact N2.out.only.then (want_only _ b3 ov what cell aa bb out value) (fun j hj h => by have h' : j = b3 := h; exfalso; omega)
set_option maxRecDepth 100000 in
set_option maxHeartbeats 4000000 in
theorem rNext_4 (hF : F.Ok) (hb : F.base ≤ 60000) {wk V : Int} (hV : U64 V) {a : Option Addr} {len cap : Nat} {l : List Int} (hl : LogS w a len cap l) (hlen : len ≤ 1000000) (hu : AllU l) {i : Nat} (hi : i < F.n) (hwk : (i : Int) = wk) (hc : CProper F (.poll ⟨2, i, 0⟩) l) :
    Calls Tryz.prog 21 #[crewV F, .agg #[.int .i64 4, .int .i64 wk, .int .u64 V, .slice a len cap]] w fun e w' => e = .returned (gwV (cask F (l.foldl (cans F) (.poll ⟨2, i, 0⟩)))) ∧ Only S0 w w' := by
  obtain ⟨p, e1⟩ : ∃ p, (prun F (.b ⟨2, i, 0⟩) l).1 = p := ⟨_, rfl⟩
  obtain ⟨n1, e2⟩ : ∃ n, (prun F (.b ⟨2, i, 0⟩) l).2 = n := ⟨_, rfl⟩
  rw [poll_l hc e1]
  have hcall := fun (wx : World) (hx : Only S0 w wx) => rpart_any (w := wx) hF hb (PBeg.poll i hi) (hl.only0 hx) hlen hu
  rw [e1, e2] at hcall
  obtain ⟨W, hW⟩ : ∃ W, pask F p = W := ⟨_, rfl⟩
  rw [hW, hwk] at hcall
  rw [hW]
  have hh := fun (wx : World) => rhas_any (w := wx) hF wk
  rw [show decide (0 ≤ wk ∧ wk < F.n) = true from decide_eq_true (by omega)] at hh
  have h0k : 0 ≤ wk := by omega
  have h8k : wk ≤ 8 := by have := hF.n8; omega
  obtain ⟨ov, what, cell, aa, bb, out, value⟩ := W
  have HW := hide hcall
  have HH := hide hh
  clear hcall hh hW hF hV hl hu hc e1 e2
  have nd := nx4_new w F 4 wk V (.slice a len cap)
  unfold crewV at *
  go_enter Tryz.func21, Tryz.ntmps21
  go_upto_region 1 with fail
  generalize (((w.alloc (.cells #[.int .i64 F.base, .int .i64 F.n, .int .i64 F.slots, .int .i64 F.actors] 34)).alloc (.cells #[.int .i64 4, .int .i64 wk, .int .u64 V, .slice a len cap] 59)).alloc (.cells #[.bool false, .int .i64 0, .int .i64 0, .int .u64 0, .int .u64 0, .int .i64 0, .int .u64 0, .int .u64 0] 62)) = w0 at *
  generalize w.heap.size + 1 + 1 = b3 at *
  generalize w.heap.size + 1 = b2 at *
  generalize w.heap.size = b1 at *
  have HND := hide nd
  clear nd
  have c0 := HND.out.crew.cellv (i := 0) rfl; have c1 := HND.out.crew.cellv (i := 1) rfl; have c2 := HND.out.crew.cellv (i := 2) rfl; have c3 := HND.out.crew.cellv (i := 3) rfl
  have m0 := HND.out.op.cellv (i := 0) rfl; have m1 := HND.out.op.cellv (i := 1) rfl; have m2 := HND.out.op.cellv (i := 2) rfl; have m3 := HND.out.op.cellv (i := 3) rfl
  go_upto_region 10 with (go_at_call 44; (with_reducible refine (HH.out _).mono ?_); rintro e w1 ⟨rfl, o1⟩; have N1 := hide (HND.out.only0 o1); clear o1 c0 c1 c2 c3 m0 m1 m2 m3; have c0 := N1.out.crew.cellv (i := 0) rfl; have c1 := N1.out.crew.cellv (i := 1) rfl; have c2 := N1.out.crew.cellv (i := 2) rfl; have c3 := N1.out.crew.cellv (i := 3) rfl; have m0 := N1.out.op.cellv (i := 0) rfl; have m1 := N1.out.op.cellv (i := 1) rfl; have m2 := N1.out.op.cellv (i := 2) rfl; have m3 := N1.out.op.cellv (i := 3) rfl)
  go_cut [5, 6] (fun v5 v6 wx => NX4 w wx b1 b2 b3 F 4 wk V (.slice a len cap) ∧ AnsAt w1 wx v5 ⟨ov, what, cell, aa, bb, out, value⟩ ∧ v6 = .int .i64 n1)
  case first =>
    go_wp2_with (go_at_call 48; (with_reducible refine (HW.out _ N1.out.only).mono ?_); rintro e w2 ⟨rfl, o1⟩; unfold gwV; have O1 := hide o1; have N2 := hide (N1.out.only0 o1); clear o1)
    go_meet
    refine ⟨?_, ⟨⟨w2.heap.size, rfl, ?_, ?_⟩⟩, rfl⟩
    · with_reducible exact N2.out.only0 ((Only.refl S0 w2).alloc _)
    · exact O1.out.size
    · with_reducible exact Blk.new w2 _ _
  case rest =>
    obtain ⟨hnd, ⟨xq, rfl, hxq, hx⟩, rfl⟩ := hcut
    have N2 := hide hnd
    have HX := hide hx
    clear hnd hxq hx
    have z0 := HX.out.cellv (i := 0) rfl
    have z1 := HX.out.cellv (i := 1) rfl
    have z2 := HX.out.cellv (i := 2) rfl
    have z3 := HX.out.cellv (i := 3) rfl
    have z4 := HX.out.cellv (i := 4) rfl
    have z5 := HX.out.cellv (i := 5) rfl
    have z6 := HX.out.cellv (i := 6) rfl
    have z7 := HX.out.cellv (i := 7) rfl
    have r0 := N2.out.res.cellv (i := 0) rfl
    have r1 := N2.out.res.cellv (i := 1) rfl
    have r2 := N2.out.res.cellv (i := 2) rfl
    have r3 := N2.out.res.cellv (i := 3) rfl
    have r4 := N2.out.res.cellv (i := 4) rfl
    have r5 := N2.out.res.cellv (i := 5) rfl
    have r6 := N2.out.res.cellv (i := 6) rfl
    have r7 := N2.out.res.cellv (i := 7) rfl
    have y0 := N2.out.res.frozen 0
    have y1 := N2.out.res.frozen 1
    have y2 := N2.out.res.frozen 2
    have y3 := N2.out.res.frozen 3
    have y4 := N2.out.res.frozen 4
    have y5 := N2.out.res.frozen 5
    have y6 := N2.out.res.frozen 6
    have y7 := N2.out.res.frozen 7
    go_wp2_with fail
    (try simp only [Exit.inBlock, Exit.then])
    refine bodyPost_ret (by simp [results, Tryz.results21, go_sem, r0, r1, r2, r3, r4, r5, r6, r7]; try rfl) rfl ?_
    refine ⟨rfl, ?_⟩
    have hge := N2.out.ge
    exact N2.out.only.then (want_only _ b3 ov what cell aa bb out value) (fun j hj h => by have h' : j = b3 := h; exfalso; omega)
set_option maxRecDepth 100000 in
set_option maxHeartbeats 4000000 in
theorem rNext_no (hF : F.Ok) (hb : F.base ≤ 60000) {wk V : Int} (hV : U64 V) {a : Option Addr} {len cap : Nat} {l : List Int} (hl : LogS w a len cap l) (hlen : len ≤ 1000000) (hu : AllU l) {kind : Int} (h2 : 2 ≤ kind) (hno : ¬ (0 ≤ wk ∧ wk < F.n)) (hc : CProper F (.over 4 0) l) :
    Calls Tryz.prog 21 #[crewV F, .agg #[.int .i64 kind, .int .i64 wk, .int .u64 V, .slice a len cap]] w fun e w' => e = .returned (gwV (cask F (l.foldl (cans F) (.over 4 0)))) ∧ Only S0 w w' := by
  obtain rfl : l = [] := hc.over (by show (4 : Int) ≠ 0; decide)
  have hh := fun (wx : World) => rhas_any (w := wx) hF wk
  rw [show decide (0 ≤ wk ∧ wk < F.n) = false from decide_eq_false hno] at hh
  have k1 : (kind == 1) = false := by simp; omega
  have HH := hide hh
  have OV := hide (fun (wx : World) => crover_any (w := wx) 4 0)
  clear hh hF hV hl hu hc hno
  have nd := nx4_new w F kind wk V (.slice a len cap)
  unfold crewV at *
  go_enter Tryz.func21, Tryz.ntmps21
  go_upto_region 1 with fail
  generalize (((w.alloc (.cells #[.int .i64 F.base, .int .i64 F.n, .int .i64 F.slots, .int .i64 F.actors] 34)).alloc (.cells #[.int .i64 kind, .int .i64 wk, .int .u64 V, .slice a len cap] 59)).alloc (.cells #[.bool false, .int .i64 0, .int .i64 0, .int .u64 0, .int .u64 0, .int .i64 0, .int .u64 0, .int .u64 0] 62)) = w0 at *
  generalize w.heap.size + 1 + 1 = b3 at *
  generalize w.heap.size + 1 = b2 at *
  generalize w.heap.size = b1 at *
  have HND := hide nd
  clear nd
  have c0 := HND.out.crew.cellv (i := 0) rfl; have c1 := HND.out.crew.cellv (i := 1) rfl; have c2 := HND.out.crew.cellv (i := 2) rfl; have c3 := HND.out.crew.cellv (i := 3) rfl
  have m0 := HND.out.op.cellv (i := 0) rfl; have m1 := HND.out.op.cellv (i := 1) rfl; have m2 := HND.out.op.cellv (i := 2) rfl; have m3 := HND.out.op.cellv (i := 3) rfl
  go_wp2_with (first | (go_at_call 44; (with_reducible refine (HH.out _).mono ?_); rintro e w1 ⟨rfl, o1⟩; have N1 := hide (HND.out.only0 o1); clear o1 c0 c1 c2 c3 m0 m1 m2 m3; have c0 := N1.out.crew.cellv (i := 0) rfl; have c1 := N1.out.crew.cellv (i := 1) rfl; have c2 := N1.out.crew.cellv (i := 2) rfl; have c3 := N1.out.crew.cellv (i := 3) rfl; have m0 := N1.out.op.cellv (i := 0) rfl; have m1 := N1.out.op.cellv (i := 1) rfl; have m2 := N1.out.op.cellv (i := 2) rfl; have m3 := N1.out.op.cellv (i := 3) rfl) | (go_at_call 45; refine (OV.out _).mono ?_; rintro e w2 ⟨rfl, o1⟩; unfold gwV wOver; have N2 := hide (N1.out.only0 o1); clear o1; have r0 := N2.out.res.cellv (i := 0) rfl; have r1 := N2.out.res.cellv (i := 1) rfl; have r2 := N2.out.res.cellv (i := 2) rfl; have r3 := N2.out.res.cellv (i := 3) rfl; have r4 := N2.out.res.cellv (i := 4) rfl; have r5 := N2.out.res.cellv (i := 5) rfl; have r6 := N2.out.res.cellv (i := 6) rfl; have r7 := N2.out.res.cellv (i := 7) rfl; have y0 := N2.out.res.frozen 0; have y1 := N2.out.res.frozen 1; have y2 := N2.out.res.frozen 2; have y3 := N2.out.res.frozen 3; have y4 := N2.out.res.frozen 4; have y5 := N2.out.res.frozen 5; have y6 := N2.out.res.frozen 6; have y7 := N2.out.res.frozen 7))
  (try simp only [Exit.inBlock, Exit.then])
  refine bodyPost_ret (by simp [results, Tryz.results21, go_sem, r0, r1, r2, r3, r4, r5, r6, r7]; try rfl) rfl ?_
  refine ⟨rfl, ?_⟩
  have hge := N2.out.ge
  exact N2.out.only.then (want_only _ b3 true 0 0 0 0 4 0) (fun j hj h => by have h' : j = b3 := h; exfalso; omega)
/-- An operation's next access, or its end. -/
theorem rNext_any (hF : F.Ok) (hb : F.base ≤ 60000) {kind wk V : Int} (k1 : 1 ≤ kind) (k4 : kind ≤ 4) (hV : U64 V) {a : Option Addr} {len cap : Nat} {l : List Int} (hl : LogS w a len cap l) (hlen : len ≤ 1000000) (hu : AllU l) (hc : CProper F (cbegin F kind wk V) l) :
    Calls Tryz.prog 21 #[crewV F, .agg #[.int .i64 kind, .int .i64 wk, .int .u64 V, .slice a len cap]] w fun e w' => e = .returned (gwV (cask F (l.foldl (cans F) (cbegin F kind wk V)))) ∧ Only S0 w w' := by
  have hk : kind = 1 ∨ kind = 2 ∨ kind = 3 ∨ kind = 4 := by omega
  by_cases hin : 0 ≤ wk ∧ wk < F.n
  · obtain ⟨i, rfl⟩ := Int.eq_ofNat_of_zero_le hin.1
    have hi : i < F.n := by omega
    rcases hk with rfl | rfl | rfl | rfl
    · exact rNext_1 hF hb hV hl hlen hu hc
    · have e : cbegin F 2 i V = ctry F (srcsOf i (ordZ V.toNat F.n i)) := by show findC F i _ = _; unfold findC; rw [if_pos hin]; rfl
      rw [e] at hc ⊢
      exact rNext_2 hF hb hV hl hlen hu hi rfl hc
    · have e : cbegin F 3 i V = .sleep i ⟨0, i, 0⟩ := by show restC F i = _; unfold restC; rw [if_pos hin]; rfl
      rw [e] at hc ⊢
      exact rNext_3 hF hb hV hl hlen hu hi rfl hc
    · have e : cbegin F 4 i V = .poll ⟨2, i, 0⟩ := by show pollC F i = _; unfold pollC; rw [if_pos hin]
      rw [e] at hc ⊢
      exact rNext_4 hF hb hV hl hlen hu hi rfl hc
  · rcases hk with rfl | hk
    · exact rNext_1 hF hb hV hl hlen hu hc
    · have e : cbegin F kind wk V = .over 4 0 := by
        rcases hk with rfl | rfl | rfl
        · show findC F wk _ = _; unfold findC; rw [if_neg hin]
        · show restC F wk = _; unfold restC; rw [if_neg hin]
        · show pollC F wk = _; unfold pollC; rw [if_neg hin]
      rw [e] at hc ⊢
      exact rNext_no hF hb hV hl hlen hu (by omega) hin hc
end
end Go.Proofs.YtdoaipjdldknaaaGreat
