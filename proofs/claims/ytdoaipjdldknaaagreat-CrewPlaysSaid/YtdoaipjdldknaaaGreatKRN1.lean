/-
  The document's crew (trouperef20): a part's next access, told from a part's log.
-/
import Derived.Test.YtdoaipjdldknaaaGreatKRef20
import Derived.Test.YtdoaipjdldknaaaGreatKRepl
import Derived.Test.YtdoaipjdldknaaaGreatKDeqN3
import Derived.Test.YtdoaipjdldknaaaGreatKGateN4
import Derived.Test.YtdoaipjdldknaaaGreatKBellN2
import Derived.Deep.RegionHeld3
namespace Go.Proofs.YtdoaipjdldknaaaGreat
open Go.RowKit
set_option linter.unusedVariables false
section
variable {w : World} {F : CLay}
theorem RBell_any (hb : F.base ≤ 70000) : Calls Tryz.prog 100 #[crewV F] w fun e w' => e = .returned (.agg #[.int .i64 F.base, .int .i64 F.n]) ∧ Only S0 w w' := by
  have o1 := (Only.refl S0 w).alloc (.cells #[.int .i64 F.base, .int .i64 F.n, .int .i64 F.slots, .int .i64 F.actors] 34)
  have HO := hide o1
  unfold crewV
  clear o1
  go_enter Tryz.func100, Tryz.ntmps100
  go_wp2_with fail
  refine bodyPost_ret (v := .agg #[.int .i64 F.base, .int .i64 F.n]) (by simp [results, Tryz.results100, go_sem]) rfl ⟨rfl, ?_⟩
  exact HO.out.alloc _
/-- The boxes of a call: the crew, the part's operation, the answer. -/
structure NX (w0 w : World) (b1 b2 b3 : Nat) (F : CLay) (kind V : Int) (lv : Value) : Prop where
  crew : Blk w b1 34 #[.int .i64 F.base, .int .i64 F.n, .int .i64 F.slots, .int .i64 F.actors]
  op : Blk w b2 133 #[.int .i64 kind, .int .u64 V, lv]
  res : Blk w b3 62 #[.bool false, .int .i64 0, .int .i64 0, .int .u64 0, .int .u64 0, .int .i64 0, .int .u64 0, .int .u64 0]
  only : Only S0 w0 w
  ge : w0.heap.size ≤ b3
def nx7 (w : World) (b1 b2 : Nat) (F : CLay) (kind V : Int) (lv : Value) : Prop := (w.cell? ⟨b1, 0, none⟩ = some (.int .i64 F.base) ∧ w.cell? ⟨b1, 1, none⟩ = some (.int .i64 F.n) ∧ w.cell? ⟨b1, 2, none⟩ = some (.int .i64 F.slots) ∧ w.cell? ⟨b1, 3, none⟩ = some (.int .i64 F.actors)) ∧
  w.cell? ⟨b2, 0, none⟩ = some (.int .i64 kind) ∧ w.cell? ⟨b2, 1, none⟩ = some (.int .u64 V) ∧ w.cell? ⟨b2, 2, none⟩ = some lv
theorem nx7_of {w : World} {b1 b2 : Nat} {kind V : Int} {lv : Value} (h1 : Blk w b1 34 #[.int .i64 F.base, .int .i64 F.n, .int .i64 F.slots, .int .i64 F.actors]) (h2 : Blk w b2 133 #[.int .i64 kind, .int .u64 V, lv]) :
    (w.cell? ⟨b1, 0, none⟩ = some (.int .i64 F.base) ∧ w.cell? ⟨b1, 1, none⟩ = some (.int .i64 F.n) ∧ w.cell? ⟨b1, 2, none⟩ = some (.int .i64 F.slots) ∧ w.cell? ⟨b1, 3, none⟩ = some (.int .i64 F.actors)) ∧
  w.cell? ⟨b2, 0, none⟩ = some (.int .i64 kind) ∧ w.cell? ⟨b2, 1, none⟩ = some (.int .u64 V) ∧ w.cell? ⟨b2, 2, none⟩ = some lv :=
  ⟨⟨h1.cellv rfl, h1.cellv rfl, h1.cellv rfl, h1.cellv rfl⟩, h2.cellv rfl, h2.cellv rfl, h2.cellv rfl⟩
theorem want_only (w : World) (b : Nat) (ov : Bool) (what cell aa bb out value : Int) : Only (S1 b) w ((((((((w.setCell ⟨b, 0, none⟩ (.bool ov)).setCell ⟨b, 1, none⟩ (.int .i64 what)).setCell ⟨b, 2, none⟩ (.int .i64 cell)).setCell ⟨b, 3, none⟩ (.int .u64 aa)).setCell ⟨b, 4, none⟩ (.int .u64 bb)).setCell ⟨b, 5, none⟩ (.int .i64 out)).setCell ⟨b, 6, none⟩ (.int .u64 value)).setCell ⟨b, 7, none⟩ (.int .u64 0)) :=
  ((((((((Only.refl (S1 b) w).set1 0 rfl _).set1 1 rfl _).set1 2 rfl _).set1 3 rfl _).set1 4 rfl _).set1 5 rfl _).set1 6 rfl _).set1 7 rfl _
theorem want_set {w : World} {b : Nat} {t : TypeId} {a0 a1 a2 a3 a4 a5 a6 a7 : Value} (h : Blk w b t #[a0, a1, a2, a3, a4, a5, a6, a7]) (ov : Bool) (what cell aa bb out value : Int) :
    Blk ((((((((w.setCell ⟨b, 0, none⟩ (.bool ov)).setCell ⟨b, 1, none⟩ (.int .i64 what)).setCell ⟨b, 2, none⟩ (.int .i64 cell)).setCell ⟨b, 3, none⟩ (.int .u64 aa)).setCell ⟨b, 4, none⟩ (.int .u64 bb)).setCell ⟨b, 5, none⟩ (.int .i64 out)).setCell ⟨b, 6, none⟩ (.int .u64 value)).setCell ⟨b, 7, none⟩ (.int .u64 0)) b t #[.bool ov, .int .i64 what, .int .i64 cell, .int .u64 aa, .int .u64 bb, .int .i64 out, .int .u64 value, .int .u64 0] := by
  have := (((((((h.set_ 0 (.bool ov)).set_ 1 (.int .i64 what)).set_ 2 (.int .i64 cell)).set_ 3 (.int .u64 aa)).set_ 4 (.int .u64 bb)).set_ 5 (.int .i64 out)).set_ 6 (.int .u64 value)).set_ 7 (.int .u64 0)
  simpa using this
theorem nx_new (w : World) (F : CLay) (kind V : Int) (lv : Value) : NX w (((w.alloc (.cells #[.int .i64 F.base, .int .i64 F.n, .int .i64 F.slots, .int .i64 F.actors] 34)).alloc (.cells #[.int .i64 kind, .int .u64 V, lv] 133)).alloc (.cells #[.bool false, .int .i64 0, .int .i64 0, .int .u64 0, .int .u64 0, .int .i64 0, .int .u64 0, .int .u64 0] 62))
    w.heap.size (w.heap.size + 1) (w.heap.size + 1 + 1) F kind V lv := by
  refine ⟨((Blk.new w _ _).alloc _).alloc _, ?_, ?_, (((Only.refl S0 w).alloc _).alloc _).alloc _, by omega⟩
  · have := (Blk.new (w.alloc (.cells #[.int .i64 F.base, .int .i64 F.n, .int .i64 F.slots, .int .i64 F.actors] 34)) 133 #[.int .i64 kind, .int .u64 V, lv]).alloc (.cells #[.bool false, .int .i64 0, .int .i64 0, .int .u64 0, .int .u64 0, .int .i64 0, .int .u64 0, .int .u64 0] 62)
    simpa using this
  · have := Blk.new ((w.alloc (.cells #[.int .i64 F.base, .int .i64 F.n, .int .i64 F.slots, .int .i64 F.actors] 34)).alloc (.cells #[.int .i64 kind, .int .u64 V, lv] 133)) 62 #[.bool false, .int .i64 0, .int .i64 0, .int .u64 0, .int .u64 0, .int .i64 0, .int .u64 0, .int .u64 0]
    simpa using this
set_option maxRecDepth 100000 in
set_option maxHeartbeats 2000000 in
theorem rnext_d (hF : F.Ok) (hb : F.base ≤ 70000) {i : Nat} {kind V : Int} {lv : Value} {l : List Int} (hi : i < F.n) (h1 : 1 ≤ kind) (h3 : kind ≤ 3) (hl : Rd w lv (l.map (.int .u64))) (hu : AllU l) {W : GW} (hW : DAsk (F.db i) F.slots V kind l W) (hdb : F.db i ≤ 70000) :
    Calls Tryz.prog 80 #[crewV F, .int .i64 1, .int .i64 i, .agg #[.int .i64 kind, .int .u64 V, lv]] w fun e w' => e = .returned (gwV W) ∧ Only S0 w w' := by
  have nd := nx_new w F kind V lv
  have hsz : w.heap.size + 1 + 1 < (((w.alloc (.cells #[.int .i64 F.base, .int .i64 F.n, .int .i64 F.slots, .int .i64 F.actors] 34)).alloc (.cells #[.int .i64 kind, .int .u64 V, lv] 133)).alloc (.cells #[.bool false, .int .i64 0, .int .i64 0, .int .u64 0, .int .u64 0, .int .i64 0, .int .u64 0, .int .u64 0] 62)).heap.size := Blk.lt nd.res
  have HD := hide (RDeque_any (w := (((w.alloc (.cells #[.int .i64 F.base, .int .i64 F.n, .int .i64 F.slots, .int .i64 F.actors] 34)).alloc (.cells #[.int .i64 kind, .int .u64 V, lv] 133)).alloc (.cells #[.bool false, .int .i64 0, .int .i64 0, .int .u64 0, .int .u64 0, .int .i64 0, .int .u64 0, .int .u64 0] 62)).drew) hF hb i (by have := hF.n8; omega))
  have HL := hide hl
  have HU := hide hu
  have HW := hide hW
  have HK := hide hF
  have HDB := hide hdb
  clear hl hu hW hF hdb
  unfold crewV at *
  go_enter Tryz.func80, Tryz.ntmps80
  go_upto_region 3 with fail
  generalize ((w.alloc (.cells #[.int .i64 F.base, .int .i64 F.n, .int .i64 F.slots, .int .i64 F.actors] 34)).alloc (.cells #[.int .i64 kind, .int .u64 V, lv] 133)).alloc (.cells #[.bool false, .int .i64 0, .int .i64 0, .int .u64 0, .int .u64 0, .int .i64 0, .int .u64 0, .int .u64 0] 62) = wr at *
  generalize w.heap.size + 1 + 1 = b3 at *
  generalize w.heap.size + 1 = b2 at *
  generalize hb1 : w.heap.size = b1 at *
  have HND := hide nd
  have HB1 := hide hb1
  clear nd hb1
  have z := nx7_of HND.out.crew.drew HND.out.op.drew
  obtain ⟨ov, what, cell, aa, bb, out, value⟩ := W

  have n13 : ¬ S1 b3 b1 := fun h => HND.out.crew.ne_ HND.out.res (by decide) h
  have n23 : ¬ S1 b3 b2 := fun h => HND.out.op.ne_ HND.out.res (by decide) h
  go_region_held3 (fun w' : World => (w'.cell? ⟨b1, 0, none⟩ = some (.int .i64 F.base) ∧ w'.cell? ⟨b1, 1, none⟩ = some (.int .i64 F.n) ∧ w'.cell? ⟨b1, 2, none⟩ = some (.int .i64 F.slots) ∧ w'.cell? ⟨b1, 3, none⟩ = some (.int .i64 F.actors)) ∧ w'.cell? ⟨b2, 0, none⟩ = some (.int .i64 kind) ∧ w'.cell? ⟨b2, 1, none⟩ = some (.int .u64 V) ∧ w'.cell? ⟨b2, 2, none⟩ = some lv) (first | with_reducible exact z | with_reducible exact y | with_reducible exact q | with_reducible exact nx7_of (H3.out.only (want_only w3 b3 ov what cell aa bb out value) n13) (P3.out.only (want_only w3 b3 ov what cell aa bb out value) n23)) (first | (go_at_call 39; refine HD.out.mono ?_; rintro e w2 ⟨rfl, o2⟩; have H2 := hide (HND.out.crew.drew.only o2 (fun h => h)); have P2 := hide (HND.out.op.drew.only o2 (fun h => h)); have R2 := hide (HND.out.res.drew.only o2 (fun h => h)); have O2 := hide (HND.out.only.drew.trans o2); have y := nx7_of H2.out P2.out; clear o2) | (go_at_call 97; refine (dNext_any HW.out (HL.out.only0 O2.out) HU.out (by omega) (by have := HDB.out; omega) (by have := HK.out.s1; omega) (by have := HK.out.s64; omega) h1 h3).mono ?_; rintro e w3 ⟨rfl, o3⟩; unfold gwV; have H3 := hide (H2.out.only o3 (fun h => h)); have P3 := hide (P2.out.only o3 (fun h => h)); have R3 := hide (R2.out.only o3 (fun h => h)); have O3 := hide (O2.out.trans o3); have q := nx7_of H3.out P3.out; have z0 := R3.out.cellv (i := 0) rfl; have z1 := R3.out.cellv (i := 1) rfl; have z2 := R3.out.cellv (i := 2) rfl; have z3 := R3.out.cellv (i := 3) rfl; have z4 := R3.out.cellv (i := 4) rfl; have z5 := R3.out.cellv (i := 5) rfl; have z6 := R3.out.cellv (i := 6) rfl; have z7 := R3.out.cellv (i := 7) rfl; have x0 := R3.out.frozen 0; have x1 := R3.out.frozen 1; have x2 := R3.out.frozen 2; have x3 := R3.out.frozen 3; have x4 := R3.out.frozen 4; have x5 := R3.out.frozen 5; have x6 := R3.out.frozen 6; have x7 := R3.out.frozen 7; clear o3))
  have hres := want_set R3.out ov what cell aa bb out value
  have honly := O3.out.then (want_only w3 b3 ov what cell aa bb out value) (fun j hj h => by have h' : j = b3 := h; have := HND.out.ge; omega)
  have HRES := hide hres
  have HONLY := hide honly
  clear hres honly z0 z1 z2 z3 z4 z5 z6 z7 x0 x1 x2 x3 x4 x5 x6 x7 q y z
  have z0 := HRES.out.cellv (i := 0) rfl
  have z1 := HRES.out.cellv (i := 1) rfl
  have z2 := HRES.out.cellv (i := 2) rfl
  have z3 := HRES.out.cellv (i := 3) rfl
  have z4 := HRES.out.cellv (i := 4) rfl
  have z5 := HRES.out.cellv (i := 5) rfl
  have z6 := HRES.out.cellv (i := 6) rfl
  have z7 := HRES.out.cellv (i := 7) rfl
  generalize ((((((((w3.setCell ⟨b3, 0, none⟩ (.bool ov)).setCell ⟨b3, 1, none⟩ (.int .i64 what)).setCell ⟨b3, 2, none⟩ (.int .i64 cell)).setCell ⟨b3, 3, none⟩ (.int .u64 aa)).setCell ⟨b3, 4, none⟩ (.int .u64 bb)).setCell ⟨b3, 5, none⟩ (.int .i64 out)).setCell ⟨b3, 6, none⟩ (.int .u64 value)).setCell ⟨b3, 7, none⟩ (.int .u64 0)) = w4 at *
  go_wp2_with fail
  (try simp only [Exit.inBlock, Exit.then])
  refine bodyPost_ret (by simp [results, Tryz.results80, go_sem, z0, z1, z2, z3, z4, z5, z6, z7]; try rfl) rfl ?_
  exact ⟨rfl, HONLY.out⟩
set_option maxRecDepth 100000 in
set_option maxHeartbeats 2000000 in
theorem rnext_g (hF : F.Ok) (hb : F.base ≤ 70000) {wk kind V : Int} {lv : Value} {l : List Int} (h1 : 1 ≤ kind) (h3 : kind ≤ 2) (hl : Rd w lv (l.map (.int .u64))) (hlen : l.length ≤ 1000000) (hu : AllU l) {W : GW} (hW : gnext F.gb F.actors kind V l = W) (hdb : F.gb ≤ 70000) :
    Calls Tryz.prog 80 #[crewV F, .int .i64 2, .int .i64 wk, .agg #[.int .i64 kind, .int .u64 V, lv]] w fun e w' => e = .returned (gwV W) ∧ Only S0 w w' := by
  have nd := nx_new w F kind V lv
  have hsz : w.heap.size + 1 + 1 < (((w.alloc (.cells #[.int .i64 F.base, .int .i64 F.n, .int .i64 F.slots, .int .i64 F.actors] 34)).alloc (.cells #[.int .i64 kind, .int .u64 V, lv] 133)).alloc (.cells #[.bool false, .int .i64 0, .int .i64 0, .int .u64 0, .int .u64 0, .int .i64 0, .int .u64 0, .int .u64 0] 62)).heap.size := Blk.lt nd.res
  have HD := hide (RGate_any (w := (((w.alloc (.cells #[.int .i64 F.base, .int .i64 F.n, .int .i64 F.slots, .int .i64 F.actors] 34)).alloc (.cells #[.int .i64 kind, .int .u64 V, lv] 133)).alloc (.cells #[.bool false, .int .i64 0, .int .i64 0, .int .u64 0, .int .u64 0, .int .i64 0, .int .u64 0, .int .u64 0] 62)).drew) hF hb)
  have HL := hide hl
  have HLEN := hide hlen
  have HU := hide hu
  have HW := hide hW
  have HK := hide hF
  have HDB := hide hdb
  clear hl hu hW hlen hF hdb
  unfold crewV at *
  go_enter Tryz.func80, Tryz.ntmps80
  go_upto_region 5 with fail
  generalize ((w.alloc (.cells #[.int .i64 F.base, .int .i64 F.n, .int .i64 F.slots, .int .i64 F.actors] 34)).alloc (.cells #[.int .i64 kind, .int .u64 V, lv] 133)).alloc (.cells #[.bool false, .int .i64 0, .int .i64 0, .int .u64 0, .int .u64 0, .int .i64 0, .int .u64 0, .int .u64 0] 62) = wr at *
  generalize w.heap.size + 1 + 1 = b3 at *
  generalize w.heap.size + 1 = b2 at *
  generalize hb1 : w.heap.size = b1 at *
  have HND := hide nd
  have HB1 := hide hb1
  clear nd hb1
  have z := nx7_of HND.out.crew.drew HND.out.op.drew
  obtain ⟨ov, what, cell, aa, bb, out, value⟩ := W

  have n13 : ¬ S1 b3 b1 := fun h => HND.out.crew.ne_ HND.out.res (by decide) h
  have n23 : ¬ S1 b3 b2 := fun h => HND.out.op.ne_ HND.out.res (by decide) h
  go_region_held3 (fun w' : World => (w'.cell? ⟨b1, 0, none⟩ = some (.int .i64 F.base) ∧ w'.cell? ⟨b1, 1, none⟩ = some (.int .i64 F.n) ∧ w'.cell? ⟨b1, 2, none⟩ = some (.int .i64 F.slots) ∧ w'.cell? ⟨b1, 3, none⟩ = some (.int .i64 F.actors)) ∧ w'.cell? ⟨b2, 0, none⟩ = some (.int .i64 kind) ∧ w'.cell? ⟨b2, 1, none⟩ = some (.int .u64 V) ∧ w'.cell? ⟨b2, 2, none⟩ = some lv) (first | with_reducible exact z | with_reducible exact y | with_reducible exact q | with_reducible exact nx7_of (H3.out.only (want_only w3 b3 ov what cell aa bb out value) n13) (P3.out.only (want_only w3 b3 ov what cell aa bb out value) n23)) (first | (go_at_call 41; refine HD.out.mono ?_; rintro e w2 ⟨rfl, o2⟩; have H2 := hide (HND.out.crew.drew.only o2 (fun h => h)); have P2 := hide (HND.out.op.drew.only o2 (fun h => h)); have R2 := hide (HND.out.res.drew.only o2 (fun h => h)); have O2 := hide (HND.out.only.drew.trans o2); have y := nx7_of H2.out P2.out; clear o2) | (go_at_call 98; refine (gNext_any kind V (HL.out.only0 O2.out) HLEN.out HU.out (by have := HK.out.a1; omega) (by have := HK.out.a64; omega) (by omega) (by have := HDB.out; omega) h1 h3).mono ?_; rintro e w3 ⟨rfl, o3⟩; rw [HW.out]; unfold gwV; have H3 := hide (H2.out.only o3 (fun h => h)); have P3 := hide (P2.out.only o3 (fun h => h)); have R3 := hide (R2.out.only o3 (fun h => h)); have O3 := hide (O2.out.trans o3); have q := nx7_of H3.out P3.out; have z0 := R3.out.cellv (i := 0) rfl; have z1 := R3.out.cellv (i := 1) rfl; have z2 := R3.out.cellv (i := 2) rfl; have z3 := R3.out.cellv (i := 3) rfl; have z4 := R3.out.cellv (i := 4) rfl; have z5 := R3.out.cellv (i := 5) rfl; have z6 := R3.out.cellv (i := 6) rfl; have z7 := R3.out.cellv (i := 7) rfl; have x0 := R3.out.frozen 0; have x1 := R3.out.frozen 1; have x2 := R3.out.frozen 2; have x3 := R3.out.frozen 3; have x4 := R3.out.frozen 4; have x5 := R3.out.frozen 5; have x6 := R3.out.frozen 6; have x7 := R3.out.frozen 7; clear o3))
  have hres := want_set R3.out ov what cell aa bb out value
  have honly := O3.out.then (want_only w3 b3 ov what cell aa bb out value) (fun j hj h => by have h' : j = b3 := h; have := HND.out.ge; omega)
  have HRES := hide hres
  have HONLY := hide honly
  clear hres honly z0 z1 z2 z3 z4 z5 z6 z7 x0 x1 x2 x3 x4 x5 x6 x7 q y z
  have z0 := HRES.out.cellv (i := 0) rfl
  have z1 := HRES.out.cellv (i := 1) rfl
  have z2 := HRES.out.cellv (i := 2) rfl
  have z3 := HRES.out.cellv (i := 3) rfl
  have z4 := HRES.out.cellv (i := 4) rfl
  have z5 := HRES.out.cellv (i := 5) rfl
  have z6 := HRES.out.cellv (i := 6) rfl
  have z7 := HRES.out.cellv (i := 7) rfl
  generalize ((((((((w3.setCell ⟨b3, 0, none⟩ (.bool ov)).setCell ⟨b3, 1, none⟩ (.int .i64 what)).setCell ⟨b3, 2, none⟩ (.int .i64 cell)).setCell ⟨b3, 3, none⟩ (.int .u64 aa)).setCell ⟨b3, 4, none⟩ (.int .u64 bb)).setCell ⟨b3, 5, none⟩ (.int .i64 out)).setCell ⟨b3, 6, none⟩ (.int .u64 value)).setCell ⟨b3, 7, none⟩ (.int .u64 0)) = w4 at *
  go_wp2_with fail
  (try simp only [Exit.inBlock, Exit.then])
  refine bodyPost_ret (by simp [results, Tryz.results80, go_sem, z0, z1, z2, z3, z4, z5, z6, z7]; try rfl) rfl ?_
  exact ⟨rfl, HONLY.out⟩
set_option maxRecDepth 100000 in
set_option maxHeartbeats 2000000 in
theorem rnext_b (hF : F.Ok) (hb : F.base ≤ 70000) {wk kind V : Int} {lv : Value} {l : List Int} (h1 : 1 ≤ kind) (h3 : kind ≤ 4) (hV : U64 V) (hl : Rd w lv (l.map (.int .u64))) (hlen : l.length ≤ 1000000) (hu : AllU l) {W : GW} (hW : bnext F.base F.n kind V l = W) :
    Calls Tryz.prog 80 #[crewV F, .int .i64 3, .int .i64 wk, .agg #[.int .i64 kind, .int .u64 V, lv]] w fun e w' => e = .returned (gwV W) ∧ Only S0 w w' := by
  have nd := nx_new w F kind V lv
  have hsz : w.heap.size + 1 + 1 < (((w.alloc (.cells #[.int .i64 F.base, .int .i64 F.n, .int .i64 F.slots, .int .i64 F.actors] 34)).alloc (.cells #[.int .i64 kind, .int .u64 V, lv] 133)).alloc (.cells #[.bool false, .int .i64 0, .int .i64 0, .int .u64 0, .int .u64 0, .int .i64 0, .int .u64 0, .int .u64 0] 62)).heap.size := Blk.lt nd.res
  have HD := hide (RBell_any (w := (((w.alloc (.cells #[.int .i64 F.base, .int .i64 F.n, .int .i64 F.slots, .int .i64 F.actors] 34)).alloc (.cells #[.int .i64 kind, .int .u64 V, lv] 133)).alloc (.cells #[.bool false, .int .i64 0, .int .i64 0, .int .u64 0, .int .u64 0, .int .i64 0, .int .u64 0, .int .u64 0] 62)).drew) hb)
  have HL := hide hl
  have HLEN := hide hlen
  have HU := hide hu
  have HW := hide hW
  have HK := hide hF
  have HV := hide hV
  clear hl hu hW hlen hF hV
  unfold crewV at *
  go_enter Tryz.func80, Tryz.ntmps80
  go_upto_region 6 with fail
  generalize ((w.alloc (.cells #[.int .i64 F.base, .int .i64 F.n, .int .i64 F.slots, .int .i64 F.actors] 34)).alloc (.cells #[.int .i64 kind, .int .u64 V, lv] 133)).alloc (.cells #[.bool false, .int .i64 0, .int .i64 0, .int .u64 0, .int .u64 0, .int .i64 0, .int .u64 0, .int .u64 0] 62) = wr at *
  generalize w.heap.size + 1 + 1 = b3 at *
  generalize w.heap.size + 1 = b2 at *
  generalize hb1 : w.heap.size = b1 at *
  have HND := hide nd
  have HB1 := hide hb1
  clear nd hb1
  have z := nx7_of HND.out.crew.drew HND.out.op.drew
  obtain ⟨ov, what, cell, aa, bb, out, value⟩ := W

  have n13 : ¬ S1 b3 b1 := fun h => HND.out.crew.ne_ HND.out.res (by decide) h
  have n23 : ¬ S1 b3 b2 := fun h => HND.out.op.ne_ HND.out.res (by decide) h
  go_region_held3 (fun w' : World => (w'.cell? ⟨b1, 0, none⟩ = some (.int .i64 F.base) ∧ w'.cell? ⟨b1, 1, none⟩ = some (.int .i64 F.n) ∧ w'.cell? ⟨b1, 2, none⟩ = some (.int .i64 F.slots) ∧ w'.cell? ⟨b1, 3, none⟩ = some (.int .i64 F.actors)) ∧ w'.cell? ⟨b2, 0, none⟩ = some (.int .i64 kind) ∧ w'.cell? ⟨b2, 1, none⟩ = some (.int .u64 V) ∧ w'.cell? ⟨b2, 2, none⟩ = some lv) (first | with_reducible exact z | with_reducible exact y | with_reducible exact q | with_reducible exact nx7_of (H3.out.only (want_only w3 b3 ov what cell aa bb out value) n13) (P3.out.only (want_only w3 b3 ov what cell aa bb out value) n23)) (first | (go_at_call 100; refine HD.out.mono ?_; rintro e w2 ⟨rfl, o2⟩; have H2 := hide (HND.out.crew.drew.only o2 (fun h => h)); have P2 := hide (HND.out.op.drew.only o2 (fun h => h)); have R2 := hide (HND.out.res.drew.only o2 (fun h => h)); have O2 := hide (HND.out.only.drew.trans o2); have y := nx7_of H2.out P2.out; clear o2) | (go_at_call 99; refine (bNext_any F.n kind V (HL.out.only0 O2.out) HLEN.out (by omega) (by omega) (by have := HK.out.n1; omega) (by have := HK.out.n8; omega) h1 h3 HV.out).mono ?_; rintro e w3 ⟨rfl, o3⟩; rw [HW.out]; unfold gwV; have H3 := hide (H2.out.only o3 (fun h => h)); have P3 := hide (P2.out.only o3 (fun h => h)); have R3 := hide (R2.out.only o3 (fun h => h)); have O3 := hide (O2.out.trans o3); have q := nx7_of H3.out P3.out; have z0 := R3.out.cellv (i := 0) rfl; have z1 := R3.out.cellv (i := 1) rfl; have z2 := R3.out.cellv (i := 2) rfl; have z3 := R3.out.cellv (i := 3) rfl; have z4 := R3.out.cellv (i := 4) rfl; have z5 := R3.out.cellv (i := 5) rfl; have z6 := R3.out.cellv (i := 6) rfl; have z7 := R3.out.cellv (i := 7) rfl; have x0 := R3.out.frozen 0; have x1 := R3.out.frozen 1; have x2 := R3.out.frozen 2; have x3 := R3.out.frozen 3; have x4 := R3.out.frozen 4; have x5 := R3.out.frozen 5; have x6 := R3.out.frozen 6; have x7 := R3.out.frozen 7; clear o3))
  have hres := want_set R3.out ov what cell aa bb out value
  have honly := O3.out.then (want_only w3 b3 ov what cell aa bb out value) (fun j hj h => by have h' : j = b3 := h; have := HND.out.ge; omega)
  have HRES := hide hres
  have HONLY := hide honly
  clear hres honly z0 z1 z2 z3 z4 z5 z6 z7 x0 x1 x2 x3 x4 x5 x6 x7 q y z
  have z0 := HRES.out.cellv (i := 0) rfl
  have z1 := HRES.out.cellv (i := 1) rfl
  have z2 := HRES.out.cellv (i := 2) rfl
  have z3 := HRES.out.cellv (i := 3) rfl
  have z4 := HRES.out.cellv (i := 4) rfl
  have z5 := HRES.out.cellv (i := 5) rfl
  have z6 := HRES.out.cellv (i := 6) rfl
  have z7 := HRES.out.cellv (i := 7) rfl
  generalize ((((((((w3.setCell ⟨b3, 0, none⟩ (.bool ov)).setCell ⟨b3, 1, none⟩ (.int .i64 what)).setCell ⟨b3, 2, none⟩ (.int .i64 cell)).setCell ⟨b3, 3, none⟩ (.int .u64 aa)).setCell ⟨b3, 4, none⟩ (.int .u64 bb)).setCell ⟨b3, 5, none⟩ (.int .i64 out)).setCell ⟨b3, 6, none⟩ (.int .u64 value)).setCell ⟨b3, 7, none⟩ (.int .u64 0)) = w4 at *
  go_wp2_with fail
  (try simp only [Exit.inBlock, Exit.then])
  refine bodyPost_ret (by simp [results, Tryz.results80, go_sem, z0, z1, z2, z3, z4, z5, z6, z7]; try rfl) rfl ?_
  exact ⟨rfl, HONLY.out⟩
theorem bstart_in {n i : Nat} (h : i < n) {kind : Int} (hk : kind ≠ 4) : bstart n kind i = ⟨if kind = 1 then 0 else if kind = 2 then 1 else 2, i, 0⟩ := by
  have : ¬ (n : Int) ≤ (i : Int) := by omega
  simp [bstart, hk, this]
/-- A part's next access, told from the part's log. -/
theorem rnext_any (hF : F.Ok) (hb : F.base ≤ 60000) {of wk kind V : Int} {p : PSt} {lv : Value} {l : List Int} (h : PBeg F of wk kind V p) (hp : PProper F p l) (hl : Rd w lv (l.map (.int .u64))) (hlen : l.length ≤ 1000000) (hu : AllU l) :
    Calls Tryz.prog 80 #[crewV F, .int .i64 of, .int .i64 wk, .agg #[.int .i64 kind, .int .u64 V, lv]] w fun e w' => e = .returned (gwV (pask F (l.foldl (pans F) p))) ∧ Only S0 w w' := by
  have hsz := hF.size_le
  have hgb : F.gb ≤ 70000 := by unfold CLay.gb; have := hF.n8; omega
  cases h with
  | d i kind V hi h1 h3 hV =>
    obtain ⟨q1, q2⟩ := pproper_d hp
    rw [q2]
    have hdb : F.db i ≤ 70000 := by have := CLay.db_in hi; omega
    refine rnext_d hF (by omega) hi h1 h3 hl hu ?_ hdb
    show DAsk (F.db i) F.slots V kind l (daskOf (F.db i) F.slots (l.foldl (dans F.slots) (dbegin kind V)))
    have hk : kind = 1 ∨ kind = 2 ∨ kind = 3 := by omega
    rcases hk with rfl | rfl | rfl
    · exact DAsk.push l q1
    · exact DAsk.pop l q1
    · exact DAsk.steal l q1
  | put V hV =>
    obtain ⟨q1, q2⟩ := pproper_g hp
    rw [q2]
    refine rnext_g hF (by omega) (by decide) (by decide) hl hlen hu ?_ hgb
    show nextL F.gb F.actors ((1 : Int) - 1) V l = askOf F.gb F.actors (l.foldl (gans F.actors) (putOp F.gb V))
    exact nextL_ask l.length l (putOp F.gb V) (Nat.le_refl _) rfl rfl (by show (F.gb : Int) = F.gb + 0; omega) q1
  | take w =>
    obtain ⟨q1, q2⟩ := pproper_g hp
    rw [q2]
    refine rnext_g hF (by omega) (by decide) (by decide) hl hlen hu ?_ hgb
    show nextL F.gb F.actors ((2 : Int) - 1) 0 l = askOf F.gb F.actors (l.foldl (gans F.actors) (takeOp F.gb))
    exact nextL_ask l.length l (takeOp F.gb) (Nat.le_refl _) rfl rfl rfl q1
  | sleep i hi =>
    obtain ⟨q1, q2⟩ := pproper_b hp
    rw [q2]
    have hbs : bstart F.n 1 i = ⟨0, i, 0⟩ := by simpa using bstart_in hi (kind := 1) (by decide)
    refine rnext_b hF (by omega) (by decide) (by decide) (by have := hF.n8; unfold U64; omega) hl hlen hu ?_
    rw [bnext_ask F.base F.n 1 i l hF.n1 (by decide) (by rw [hbs]; exact q1), hbs]
    rfl
  | up i hi =>
    obtain ⟨q1, q2⟩ := pproper_b hp
    rw [q2]
    have hbs : bstart F.n 2 i = ⟨1, i, 0⟩ := by simpa using bstart_in hi (kind := 2) (by decide)
    refine rnext_b hF (by omega) (by decide) (by decide) (by have := hF.n8; unfold U64; omega) hl hlen hu ?_
    rw [bnext_ask F.base F.n 2 i l hF.n1 (by decide) (by rw [hbs]; exact q1), hbs]
    rfl
  | poll i hi =>
    obtain ⟨q1, q2⟩ := pproper_b hp
    rw [q2]
    have hbs : bstart F.n 3 i = ⟨2, i, 0⟩ := by simpa using bstart_in hi (kind := 3) (by decide)
    refine rnext_b hF (by omega) (by decide) (by decide) (by have := hF.n8; unfold U64; omega) hl hlen hu ?_
    rw [bnext_ask F.base F.n 3 i l hF.n1 (by decide) (by rw [hbs]; exact q1), hbs]
    rfl
  | ring =>
    obtain ⟨q1, q2⟩ := pproper_b hp
    rw [q2]
    have hbs : bstart F.n 4 0 = ringB := by unfold bstart; rw [if_pos rfl]; rfl
    refine rnext_b hF (by omega) (by decide) (by decide) u64_zero hl hlen hu ?_
    rw [bnext_ask F.base F.n 4 0 l hF.n1 (by decide) (by rw [hbs]; exact q1), hbs]
    rfl
end
end Go.Proofs.YtdoaipjdldknaaaGreat
