/-
  Package vigil: what each method does, said of the cells and of the operation's own fields.
-/
import Derived.Test.YtafnlmkhfonghaaCom
namespace Go.Proofs.Ytafnlmkhfonghaa
open Go.RowKit
set_option linter.unusedVariables false

/-- A vigil: block vb. -/
def VigAt (w : World) (vb bm : Nat) (base n : Int) : Prop := Blk w vb 111 #[.pointer (some ⟨bm, 0, none⟩), .int .i64 base, .int .i64 n]
/-- An operation: its fields. -/
def VopAt (w : World) (bo bm nx : Nat) (cell seen out : Int) : Prop :=
  Blk w bo 108 #[.pointer (some ⟨bm, 0, none⟩), .int .i64 cell, .int .u64 seen, .func (.func nx) #[.pointer (some ⟨bo, 0, none⟩)] #[], .int .i64 out]
section
variable {w : World} {bo vb bm bc nx : Nat} {base n cell seen out tc : Int} {L : List Int}
theorem VopAt.c0 (h : VopAt w bo bm nx cell seen out) : w.cell? ⟨bo, 0, none⟩ = some (.pointer (some ⟨bm, 0, none⟩)) := Blk.cellv h rfl
theorem VopAt.c1 (h : VopAt w bo bm nx cell seen out) : w.cell? ⟨bo, 1, none⟩ = some (.int .i64 cell) := Blk.cellv h rfl
theorem VopAt.c2 (h : VopAt w bo bm nx cell seen out) : w.cell? ⟨bo, 2, none⟩ = some (.int .u64 seen) := Blk.cellv h rfl
theorem VopAt.c3 (h : VopAt w bo bm nx cell seen out) : w.cell? ⟨bo, 3, none⟩ = some (.func (.func nx) #[.pointer (some ⟨bo, 0, none⟩)] #[]) := Blk.cellv h rfl
theorem VopAt.c4 (h : VopAt w bo bm nx cell seen out) : w.cell? ⟨bo, 4, none⟩ = some (.int .i64 out) := Blk.cellv h rfl
theorem VopAt.fz (h : VopAt w bo bm nx cell seen out) (i : Nat) : w.frozen? ⟨bo, i, none⟩ = false := Blk.frozen h i
theorem VigAt.c0 (h : VigAt w vb bm base n) : w.cell? ⟨vb, 0, none⟩ = some (.pointer (some ⟨bm, 0, none⟩)) := Blk.cellv h rfl
theorem VigAt.c1 (h : VigAt w vb bm base n) : w.cell? ⟨vb, 1, none⟩ = some (.int .i64 base) := Blk.cellv h rfl
theorem VigAt.c2 (h : VigAt w vb bm base n) : w.cell? ⟨vb, 2, none⟩ = some (.int .i64 n) := Blk.cellv h rfl
theorem VopAt.only {w' : World} {S : Nat → Prop} (h : VopAt w bo bm nx cell seen out) (ho : Only S w w') (hs : ¬ S bo) : VopAt w' bo bm nx cell seen out := Blk.only h ho hs
theorem VigAt.only {w' : World} {S : Nat → Prop} (h : VigAt w vb bm base n) (ho : Only S w w') (hs : ¬ S vb) : VigAt w' vb bm base n := Blk.only h ho hs
theorem VopAt.setSeen (h : VopAt w bo bm nx cell seen out) (x : Int) : VopAt (w.setCell ⟨bo, 2, none⟩ (.int .u64 x)) bo bm nx cell x out := by simpa [VopAt] using Blk.set_ h 2 (.int .u64 x)
theorem VopAt.setNx (h : VopAt w bo bm nx cell seen out) (x : Nat) : VopAt (w.setCell ⟨bo, 3, none⟩ (.func (.func x) #[.pointer (some ⟨bo, 0, none⟩)] #[])) bo bm x cell seen out := by simpa [VopAt] using Blk.set_ h 3 (.func (.func x) #[.pointer (some ⟨bo, 0, none⟩)] #[])
theorem VopAt.setOut (h : VopAt w bo bm nx cell seen out) (x : Int) : VopAt (w.setCell ⟨bo, 4, none⟩ (.int .i64 x)) bo bm nx cell seen x := by simpa [VopAt] using Blk.set_ h 4 (.int .i64 x)

theorem VOver_pend (h : VopAt w bo bm nx cell seen 0) : Calls Try.prog 30 #[.pointer (some ⟨bo, 0, none⟩)] w fun e w' => e = .returned (.bool false) ∧ w = w' := by
  have c4 := h.c4
  clear h
  go_enter Try.func30, Try.ntmps30
  go_wp2_with fail
  go_ret
  exact ⟨rfl, rfl⟩
theorem VOver_over (h : VopAt w bo bm nx cell seen out) (ho : out ≠ 0) : Calls Try.prog 30 #[.pointer (some ⟨bo, 0, none⟩)] w fun e w' => e = .returned (.bool true) ∧ w = w' := by
  have c4 := h.c4
  have hb : (out != 0) = true := by simp [ho]
  clear h ho
  go_enter Try.func30, Try.ntmps30
  go_wp2_with fail
  go_ret
  exact ⟨rfl, rfl⟩
theorem VOutcome_any (h : VopAt w bo bm nx cell seen out) : Calls Try.prog 32 #[.pointer (some ⟨bo, 0, none⟩)] w fun e w' => e = .returned (.int .i64 out) ∧ w = w' := by
  have c4 := h.c4
  clear h
  go_enter Try.func32, Try.ntmps32
  go_wp2_with fail
  go_ret
  exact ⟨rfl, rfl⟩

/-- All that a step starts from. -/
structure VStepAt (w : World) (bo bm bc nx : Nat) (cell seen tc : Int) (L : List Int) : Prop where
  op : VopAt w bo bm nx cell seen 0
  mem : MemAt w bm bc L tc
  few : Few tc
  c0 : 0 ≤ cell
  c1 : cell < L.length
set_option maxHeartbeats 1000000 in
set_option maxRecDepth 100000 in
theorem watch_yes (hh : VStepAt w bo bm bc nx cell seen tc L) (hv : at_ L cell = 1) :
    Calls Try.prog 59 #[.pointer (some ⟨bo, 0, none⟩)] w fun e w' => e = .returned (.tuple #[]) ∧ VopAt w' bo bm 70 cell (at_ L cell) 4 ∧ MemAt w' bm bc L (tc + 1) ∧ Only (S3 bo bm bc) w w' := by
  have c0 := hh.op.c0
  have c1 := hh.op.c1
  have HH := hide hh
  have hne : bo ≠ bm := Blk.ne_ hh.op hh.mem.mem (by decide)
  have hnc : bo ≠ bc := Blk.ne_ hh.op hh.mem.cells (by decide)
  clear hh
  have HV := hide hv
  have k2' := HH.out.op.c2
  obtain ⟨v, hvv⟩ : ∃ v, at_ L cell = v := ⟨_, rfl⟩
  rw [hvv] at hv
  have hb : (v == 1) = true := by simp [hv]
  have HVV := hide hvv
  clear hv hvv k2'
  go_enter Try.func59, Try.ntmps59
  go_wp2_with fail
  have z0 := (show VopAt w.drew bo bm nx cell seen 0 from HH.out.op).c0
  have z1 := (show VopAt w.drew bo bm nx cell seen 0 from HH.out.op).c1
  go_region_held3 (fun w' => w'.cell? ⟨bo, 0, none⟩ = some (.pointer (some ⟨bm, 0, none⟩)) ∧ w'.cell? ⟨bo, 1, none⟩ = some (.int .i64 cell)) (first | exact ⟨z0, z1⟩ | exact ⟨k0, k1⟩ | exact ⟨y0, y1⟩) (first | (go_at_call 19; refine (Load_in cell HH.out.mem.drew HH.out.few HH.out.c0 HH.out.c1).mono ?_; rintro e w1 ⟨rfl, h1, o1⟩; rw [HVV.out]; have HP1 := hide ((show VopAt w.drew bo bm nx cell seen 0 from HH.out.op).only o1 (fun h => by unfold S1 at h; omega)); have HM1 := hide h1; have HO1 := hide (((Only.refl (S3 bo bm bc) w).drew).trans (s3_of_s1 (bo := bo) (bc := bc) o1)); have k0 := HP1.out.c0; have k1 := HP1.out.c1; have k2 := HP1.out.c2; have f2 := HP1.out.fz 2; have y0 := (HP1.out.setSeen v).c0; have y1 := (HP1.out.setSeen v).c1; clear h1 o1))
  clear z0 z1 k0 k1 y0 y1 c0 c1
  have HP2 := hide (HP1.out.setSeen v)
  have k3 := HP2.out.c3
  have f3 := HP2.out.fz 3
  have k4 := HP2.out.c4
  have f4 := HP2.out.fz 4
  go_wp2_with fail
  rw [HVV.out]
  refine bodyPost_end (results_none rfl _ _ _) rfl ?_
  exact ⟨rfl, (HP2.out.setNx _).setOut 4, ((HM1.out.only (only_set w1 bo 2 (.int .u64 v)) (fun e => hne e.symm) (fun e => hnc e.symm)).only (only_set _ bo 3 (.func (.func 70) #[.pointer (some ⟨bo, 0, none⟩)] #[])) (fun e => hne e.symm) (fun e => hnc e.symm)).only (only_set _ bo 4 (.int .i64 4)) (fun e => hne e.symm) (fun e => hnc e.symm), ((HO1.out.set1 2 (.inl rfl) (.int .u64 v)).set1 3 (.inl rfl) (.func (.func 70) #[.pointer (some ⟨bo, 0, none⟩)] #[])).set1 4 (.inl rfl) (.int .i64 4)⟩
set_option maxHeartbeats 1000000 in
set_option maxRecDepth 100000 in
theorem watch_no (hh : VStepAt w bo bm bc nx cell seen tc L) (hv : ¬ (at_ L cell = 1)) :
    Calls Try.prog 59 #[.pointer (some ⟨bo, 0, none⟩)] w fun e w' => e = .returned (.tuple #[]) ∧ VopAt w' bo bm 70 cell (at_ L cell) 0 ∧ MemAt w' bm bc L (tc + 1) ∧ Only (S3 bo bm bc) w w' := by
  have c0 := hh.op.c0
  have c1 := hh.op.c1
  have HH := hide hh
  have hne : bo ≠ bm := Blk.ne_ hh.op hh.mem.mem (by decide)
  have hnc : bo ≠ bc := Blk.ne_ hh.op hh.mem.cells (by decide)
  clear hh
  have HV := hide hv
  have k2' := HH.out.op.c2
  obtain ⟨v, hvv⟩ : ∃ v, at_ L cell = v := ⟨_, rfl⟩
  rw [hvv] at hv
  have hb : (v == 1) = false := by simp [hv]
  have HVV := hide hvv
  clear hv hvv k2'
  go_enter Try.func59, Try.ntmps59
  go_wp2_with fail
  have z0 := (show VopAt w.drew bo bm nx cell seen 0 from HH.out.op).c0
  have z1 := (show VopAt w.drew bo bm nx cell seen 0 from HH.out.op).c1
  go_region_held3 (fun w' => w'.cell? ⟨bo, 0, none⟩ = some (.pointer (some ⟨bm, 0, none⟩)) ∧ w'.cell? ⟨bo, 1, none⟩ = some (.int .i64 cell)) (first | exact ⟨z0, z1⟩ | exact ⟨k0, k1⟩ | exact ⟨y0, y1⟩) (first | (go_at_call 19; refine (Load_in cell HH.out.mem.drew HH.out.few HH.out.c0 HH.out.c1).mono ?_; rintro e w1 ⟨rfl, h1, o1⟩; rw [HVV.out]; have HP1 := hide ((show VopAt w.drew bo bm nx cell seen 0 from HH.out.op).only o1 (fun h => by unfold S1 at h; omega)); have HM1 := hide h1; have HO1 := hide (((Only.refl (S3 bo bm bc) w).drew).trans (s3_of_s1 (bo := bo) (bc := bc) o1)); have k0 := HP1.out.c0; have k1 := HP1.out.c1; have k2 := HP1.out.c2; have f2 := HP1.out.fz 2; have y0 := (HP1.out.setSeen v).c0; have y1 := (HP1.out.setSeen v).c1; clear h1 o1))
  clear z0 z1 k0 k1 y0 y1 c0 c1
  have HP2 := hide (HP1.out.setSeen v)
  have k3 := HP2.out.c3
  have f3 := HP2.out.fz 3
  have k4 := HP2.out.c4
  have f4 := HP2.out.fz 4
  go_wp2_with fail
  rw [HVV.out]
  refine bodyPost_end (results_none rfl _ _ _) rfl ?_
  exact ⟨rfl, HP2.out.setNx _, ((HM1.out.only (only_set w1 bo 2 (.int .u64 v)) (fun e => hne e.symm) (fun e => hnc e.symm)).only (only_set _ bo 3 (.func (.func 70) #[.pointer (some ⟨bo, 0, none⟩)] #[])) (fun e => hne e.symm) (fun e => hnc e.symm)), ((HO1.out.set1 2 (.inl rfl) (.int .u64 v)).set1 3 (.inl rfl) (.func (.func 70) #[.pointer (some ⟨bo, 0, none⟩)] #[]))⟩
set_option maxHeartbeats 1000000 in
set_option maxRecDepth 100000 in
theorem unwatch_yes (hh : VStepAt w bo bm bc nx cell seen tc L) (hv : at_ L cell ≠ 1) :
    Calls Try.prog 61 #[.pointer (some ⟨bo, 0, none⟩)] w fun e w' => e = .returned (.tuple #[]) ∧ VopAt w' bo bm 72 cell (at_ L cell) 4 ∧ MemAt w' bm bc L (tc + 1) ∧ Only (S3 bo bm bc) w w' := by
  have c0 := hh.op.c0
  have c1 := hh.op.c1
  have HH := hide hh
  have hne : bo ≠ bm := Blk.ne_ hh.op hh.mem.mem (by decide)
  have hnc : bo ≠ bc := Blk.ne_ hh.op hh.mem.cells (by decide)
  clear hh
  have HV := hide hv
  have k2' := HH.out.op.c2
  obtain ⟨v, hvv⟩ : ∃ v, at_ L cell = v := ⟨_, rfl⟩
  rw [hvv] at hv
  have hb : (v != 1) = true := by simp [hv]
  have HVV := hide hvv
  clear hv hvv k2'
  go_enter Try.func61, Try.ntmps61
  go_wp2_with fail
  have z0 := (show VopAt w.drew bo bm nx cell seen 0 from HH.out.op).c0
  have z1 := (show VopAt w.drew bo bm nx cell seen 0 from HH.out.op).c1
  go_region_held3 (fun w' => w'.cell? ⟨bo, 0, none⟩ = some (.pointer (some ⟨bm, 0, none⟩)) ∧ w'.cell? ⟨bo, 1, none⟩ = some (.int .i64 cell)) (first | exact ⟨z0, z1⟩ | exact ⟨k0, k1⟩ | exact ⟨y0, y1⟩) (first | (go_at_call 19; refine (Load_in cell HH.out.mem.drew HH.out.few HH.out.c0 HH.out.c1).mono ?_; rintro e w1 ⟨rfl, h1, o1⟩; rw [HVV.out]; have HP1 := hide ((show VopAt w.drew bo bm nx cell seen 0 from HH.out.op).only o1 (fun h => by unfold S1 at h; omega)); have HM1 := hide h1; have HO1 := hide (((Only.refl (S3 bo bm bc) w).drew).trans (s3_of_s1 (bo := bo) (bc := bc) o1)); have k0 := HP1.out.c0; have k1 := HP1.out.c1; have k2 := HP1.out.c2; have f2 := HP1.out.fz 2; have y0 := (HP1.out.setSeen v).c0; have y1 := (HP1.out.setSeen v).c1; clear h1 o1))
  clear z0 z1 k0 k1 y0 y1 c0 c1
  have HP2 := hide (HP1.out.setSeen v)
  have k3 := HP2.out.c3
  have f3 := HP2.out.fz 3
  have k4 := HP2.out.c4
  have f4 := HP2.out.fz 4
  go_wp2_with fail
  rw [HVV.out]
  refine bodyPost_end (results_none rfl _ _ _) rfl ?_
  exact ⟨rfl, (HP2.out.setNx _).setOut 4, ((HM1.out.only (only_set w1 bo 2 (.int .u64 v)) (fun e => hne e.symm) (fun e => hnc e.symm)).only (only_set _ bo 3 (.func (.func 72) #[.pointer (some ⟨bo, 0, none⟩)] #[])) (fun e => hne e.symm) (fun e => hnc e.symm)).only (only_set _ bo 4 (.int .i64 4)) (fun e => hne e.symm) (fun e => hnc e.symm), ((HO1.out.set1 2 (.inl rfl) (.int .u64 v)).set1 3 (.inl rfl) (.func (.func 72) #[.pointer (some ⟨bo, 0, none⟩)] #[])).set1 4 (.inl rfl) (.int .i64 4)⟩
set_option maxHeartbeats 1000000 in
set_option maxRecDepth 100000 in
theorem unwatch_no (hh : VStepAt w bo bm bc nx cell seen tc L) (hv : ¬ (at_ L cell ≠ 1)) :
    Calls Try.prog 61 #[.pointer (some ⟨bo, 0, none⟩)] w fun e w' => e = .returned (.tuple #[]) ∧ VopAt w' bo bm 72 cell (at_ L cell) 0 ∧ MemAt w' bm bc L (tc + 1) ∧ Only (S3 bo bm bc) w w' := by
  have c0 := hh.op.c0
  have c1 := hh.op.c1
  have HH := hide hh
  have hne : bo ≠ bm := Blk.ne_ hh.op hh.mem.mem (by decide)
  have hnc : bo ≠ bc := Blk.ne_ hh.op hh.mem.cells (by decide)
  clear hh
  have HV := hide hv
  have k2' := HH.out.op.c2
  obtain ⟨v, hvv⟩ : ∃ v, at_ L cell = v := ⟨_, rfl⟩
  rw [hvv] at hv
  have hb : (v != 1) = false := by simp; omega
  have HVV := hide hvv
  clear hv hvv k2'
  go_enter Try.func61, Try.ntmps61
  go_wp2_with fail
  have z0 := (show VopAt w.drew bo bm nx cell seen 0 from HH.out.op).c0
  have z1 := (show VopAt w.drew bo bm nx cell seen 0 from HH.out.op).c1
  go_region_held3 (fun w' => w'.cell? ⟨bo, 0, none⟩ = some (.pointer (some ⟨bm, 0, none⟩)) ∧ w'.cell? ⟨bo, 1, none⟩ = some (.int .i64 cell)) (first | exact ⟨z0, z1⟩ | exact ⟨k0, k1⟩ | exact ⟨y0, y1⟩) (first | (go_at_call 19; refine (Load_in cell HH.out.mem.drew HH.out.few HH.out.c0 HH.out.c1).mono ?_; rintro e w1 ⟨rfl, h1, o1⟩; rw [HVV.out]; have HP1 := hide ((show VopAt w.drew bo bm nx cell seen 0 from HH.out.op).only o1 (fun h => by unfold S1 at h; omega)); have HM1 := hide h1; have HO1 := hide (((Only.refl (S3 bo bm bc) w).drew).trans (s3_of_s1 (bo := bo) (bc := bc) o1)); have k0 := HP1.out.c0; have k1 := HP1.out.c1; have k2 := HP1.out.c2; have f2 := HP1.out.fz 2; have y0 := (HP1.out.setSeen v).c0; have y1 := (HP1.out.setSeen v).c1; clear h1 o1))
  clear z0 z1 k0 k1 y0 y1 c0 c1
  have HP2 := hide (HP1.out.setSeen v)
  have k3 := HP2.out.c3
  have f3 := HP2.out.fz 3
  have k4 := HP2.out.c4
  have f4 := HP2.out.fz 4
  go_wp2_with fail
  rw [HVV.out]
  refine bodyPost_end (results_none rfl _ _ _) rfl ?_
  exact ⟨rfl, HP2.out.setNx _, ((HM1.out.only (only_set w1 bo 2 (.int .u64 v)) (fun e => hne e.symm) (fun e => hnc e.symm)).only (only_set _ bo 3 (.func (.func 72) #[.pointer (some ⟨bo, 0, none⟩)] #[])) (fun e => hne e.symm) (fun e => hnc e.symm)), ((HO1.out.set1 2 (.inl rfl) (.int .u64 v)).set1 3 (.inl rfl) (.func (.func 72) #[.pointer (some ⟨bo, 0, none⟩)] #[]))⟩
set_option maxHeartbeats 1000000 in
set_option maxRecDepth 100000 in
theorem begin_yes (hh : VStepAt w bo bm bc nx cell seen tc L) (hv : at_ L cell = seen) :
    Calls Try.prog 70 #[.pointer (some ⟨bo, 0, none⟩)] w fun e w' => e = .returned (.tuple #[]) ∧ VopAt w' bo bm 59 cell seen 1 ∧ MemAt w' bm bc (L.set cell.toNat 1) (tc + 1) ∧ Only (S3 bo bm bc) w w' := by
  have c0 := hh.op.c0
  have c1 := hh.op.c1
  have HH := hide hh
  have hne : bo ≠ bm := Blk.ne_ hh.op hh.mem.mem (by decide)
  have hnc : bo ≠ bc := Blk.ne_ hh.op hh.mem.cells (by decide)
  clear hh
  have HV := hide hv
  have k3' := HH.out.op.c3
  have f3' := HH.out.op.fz 3
  have P0 := hide (HH.out.op.setNx 59)
  have M0 := hide (HH.out.mem.only (only_set w bo 3 (.func (.func 59) #[.pointer (some ⟨bo, 0, none⟩)] #[])) (fun e => hne e.symm) (fun e => hnc e.symm))
  have O0 := hide ((Only.refl (S3 bo bm bc) w).set1 3 (.inl rfl) (.func (.func 59) #[.pointer (some ⟨bo, 0, none⟩)] #[]))
  clear hv
  go_enter Try.func70, Try.ntmps70
  go_wp2_with fail
  clear c0 c1 k3' f3'
  generalize w.setCell ⟨bo, 3, none⟩ (.func (.func 59) #[.pointer (some ⟨bo, 0, none⟩)] #[]) = w2 at *
  have c0 := P0.out.c0
  have c1 := P0.out.c1
  have c2 := P0.out.c2
  have z0 := (show VopAt w2.drew bo bm 59 cell seen 0 from P0.out).c0
  have z1 := (show VopAt w2.drew bo bm 59 cell seen 0 from P0.out).c1
  have z2 := (show VopAt w2.drew bo bm 59 cell seen 0 from P0.out).c2
  go_region_held3 (fun w' => w'.cell? ⟨bo, 0, none⟩ = some (.pointer (some ⟨bm, 0, none⟩)) ∧ w'.cell? ⟨bo, 1, none⟩ = some (.int .i64 cell) ∧ w'.cell? ⟨bo, 2, none⟩ = some (.int .u64 seen)) (first | exact ⟨z0, z1, z2⟩ | exact ⟨k0, k1, k2⟩ | exact ⟨y0, y1⟩) (first | (go_at_call 71; refine (Swap_yes cell seen 1 M0.out.drew HH.out.few HH.out.c0 HH.out.c1 HV.out).mono ?_; rintro e w1 ⟨rfl, h1, o1⟩; have HP1 := hide ((show VopAt w2.drew bo bm 59 cell seen 0 from P0.out).only o1 (fun h => by unfold S2 at h; omega)); have HM1 := hide h1; have HO1 := hide ((O0.out.drew).trans (s3_of_s2 (bo := bo) o1)); have k0 := HP1.out.c0; have k1 := HP1.out.c1; have k4 := HP1.out.c4; have f4 := HP1.out.fz 4; have k2 := HP1.out.c2; clear h1 o1))
  clear z0 z1 k0 k1 c0 c1 c2
  go_wp2_with fail
  refine bodyPost_end (results_none rfl _ _ _) rfl ?_
  exact ⟨rfl, HP1.out.setOut 1, HM1.out.only (only_set w1 bo 4 (.int .i64 1)) (fun e => hne e.symm) (fun e => hnc e.symm), HO1.out.set1 4 (.inl rfl) (.int .i64 1)⟩
set_option maxHeartbeats 1000000 in
set_option maxRecDepth 100000 in
theorem begin_no (hh : VStepAt w bo bm bc nx cell seen tc L) (hv : at_ L cell ≠ seen) :
    Calls Try.prog 70 #[.pointer (some ⟨bo, 0, none⟩)] w fun e w' => e = .returned (.tuple #[]) ∧ VopAt w' bo bm 59 cell seen 0 ∧ MemAt w' bm bc L (tc + 1) ∧ Only (S3 bo bm bc) w w' := by
  have c0 := hh.op.c0
  have c1 := hh.op.c1
  have HH := hide hh
  have hne : bo ≠ bm := Blk.ne_ hh.op hh.mem.mem (by decide)
  have hnc : bo ≠ bc := Blk.ne_ hh.op hh.mem.cells (by decide)
  clear hh
  have HV := hide hv
  have k3' := HH.out.op.c3
  have f3' := HH.out.op.fz 3
  have P0 := hide (HH.out.op.setNx 59)
  have M0 := hide (HH.out.mem.only (only_set w bo 3 (.func (.func 59) #[.pointer (some ⟨bo, 0, none⟩)] #[])) (fun e => hne e.symm) (fun e => hnc e.symm))
  have O0 := hide ((Only.refl (S3 bo bm bc) w).set1 3 (.inl rfl) (.func (.func 59) #[.pointer (some ⟨bo, 0, none⟩)] #[]))
  clear hv
  go_enter Try.func70, Try.ntmps70
  go_wp2_with fail
  clear c0 c1 k3' f3'
  generalize w.setCell ⟨bo, 3, none⟩ (.func (.func 59) #[.pointer (some ⟨bo, 0, none⟩)] #[]) = w2 at *
  have c0 := P0.out.c0
  have c1 := P0.out.c1
  have c2 := P0.out.c2
  have z0 := (show VopAt w2.drew bo bm 59 cell seen 0 from P0.out).c0
  have z1 := (show VopAt w2.drew bo bm 59 cell seen 0 from P0.out).c1
  have z2 := (show VopAt w2.drew bo bm 59 cell seen 0 from P0.out).c2
  go_region_held3 (fun w' => w'.cell? ⟨bo, 0, none⟩ = some (.pointer (some ⟨bm, 0, none⟩)) ∧ w'.cell? ⟨bo, 1, none⟩ = some (.int .i64 cell) ∧ w'.cell? ⟨bo, 2, none⟩ = some (.int .u64 seen)) (first | exact ⟨z0, z1, z2⟩ | exact ⟨k0, k1, k2⟩ | exact ⟨y0, y1⟩) (first | (go_at_call 71; refine (Swap_no cell seen 1 M0.out.drew HH.out.few HH.out.c0 HH.out.c1 HV.out).mono ?_; rintro e w1 ⟨rfl, h1, o1⟩; have HP1 := hide ((show VopAt w2.drew bo bm 59 cell seen 0 from P0.out).only o1 (fun h => by unfold S1 at h; omega)); have HM1 := hide h1; have HO1 := hide ((O0.out.drew).trans (s3_of_s1 (bo := bo) (bc := bc) o1)); have k0 := HP1.out.c0; have k1 := HP1.out.c1; have k4 := HP1.out.c4; have f4 := HP1.out.fz 4; have k2 := HP1.out.c2; clear h1 o1))
  clear z0 z1 k0 k1 c0 c1 c2
  go_wp2_with fail
  refine bodyPost_end (results_none rfl _ _ _) rfl ?_
  exact ⟨rfl, HP1.out, HM1.out, HO1.out⟩
set_option maxHeartbeats 1000000 in
set_option maxRecDepth 100000 in
theorem end_yes (hh : VStepAt w bo bm bc nx cell seen tc L) (hv : at_ L cell = 1) :
    Calls Try.prog 72 #[.pointer (some ⟨bo, 0, none⟩)] w fun e w' => e = .returned (.tuple #[]) ∧ VopAt w' bo bm 61 cell seen 1 ∧ MemAt w' bm bc (L.set cell.toNat 0) (tc + 1) ∧ Only (S3 bo bm bc) w w' := by
  have c0 := hh.op.c0
  have c1 := hh.op.c1
  have HH := hide hh
  have hne : bo ≠ bm := Blk.ne_ hh.op hh.mem.mem (by decide)
  have hnc : bo ≠ bc := Blk.ne_ hh.op hh.mem.cells (by decide)
  clear hh
  have HV := hide hv
  have k3' := HH.out.op.c3
  have f3' := HH.out.op.fz 3
  have P0 := hide (HH.out.op.setNx 61)
  have M0 := hide (HH.out.mem.only (only_set w bo 3 (.func (.func 61) #[.pointer (some ⟨bo, 0, none⟩)] #[])) (fun e => hne e.symm) (fun e => hnc e.symm))
  have O0 := hide ((Only.refl (S3 bo bm bc) w).set1 3 (.inl rfl) (.func (.func 61) #[.pointer (some ⟨bo, 0, none⟩)] #[]))
  clear hv
  go_enter Try.func72, Try.ntmps72
  go_wp2_with fail
  clear c0 c1 k3' f3'
  generalize w.setCell ⟨bo, 3, none⟩ (.func (.func 61) #[.pointer (some ⟨bo, 0, none⟩)] #[]) = w2 at *
  have c0 := P0.out.c0
  have c1 := P0.out.c1
  have c2 := P0.out.c2
  have z0 := (show VopAt w2.drew bo bm 61 cell seen 0 from P0.out).c0
  have z1 := (show VopAt w2.drew bo bm 61 cell seen 0 from P0.out).c1
  go_region_held3 (fun w' => w'.cell? ⟨bo, 0, none⟩ = some (.pointer (some ⟨bm, 0, none⟩)) ∧ w'.cell? ⟨bo, 1, none⟩ = some (.int .i64 cell)) (first | exact ⟨z0, z1⟩ | exact ⟨k0, k1⟩ | exact ⟨y0, y1⟩) (first | (go_at_call 71; refine (Swap_yes cell 1 0 M0.out.drew HH.out.few HH.out.c0 HH.out.c1 HV.out).mono ?_; rintro e w1 ⟨rfl, h1, o1⟩; have HP1 := hide ((show VopAt w2.drew bo bm 61 cell seen 0 from P0.out).only o1 (fun h => by unfold S2 at h; omega)); have HM1 := hide h1; have HO1 := hide ((O0.out.drew).trans (s3_of_s2 (bo := bo) o1)); have k0 := HP1.out.c0; have k1 := HP1.out.c1; have k4 := HP1.out.c4; have f4 := HP1.out.fz 4; clear h1 o1))
  clear z0 z1 k0 k1 c0 c1 c2
  go_wp2_with fail
  refine bodyPost_end (results_none rfl _ _ _) rfl ?_
  exact ⟨rfl, HP1.out.setOut 1, HM1.out.only (only_set w1 bo 4 (.int .i64 1)) (fun e => hne e.symm) (fun e => hnc e.symm), HO1.out.set1 4 (.inl rfl) (.int .i64 1)⟩
set_option maxHeartbeats 1000000 in
set_option maxRecDepth 100000 in
theorem end_no (hh : VStepAt w bo bm bc nx cell seen tc L) (hv : at_ L cell ≠ 1) :
    Calls Try.prog 72 #[.pointer (some ⟨bo, 0, none⟩)] w fun e w' => e = .returned (.tuple #[]) ∧ VopAt w' bo bm 61 cell seen 0 ∧ MemAt w' bm bc L (tc + 1) ∧ Only (S3 bo bm bc) w w' := by
  have c0 := hh.op.c0
  have c1 := hh.op.c1
  have HH := hide hh
  have hne : bo ≠ bm := Blk.ne_ hh.op hh.mem.mem (by decide)
  have hnc : bo ≠ bc := Blk.ne_ hh.op hh.mem.cells (by decide)
  clear hh
  have HV := hide hv
  have k3' := HH.out.op.c3
  have f3' := HH.out.op.fz 3
  have P0 := hide (HH.out.op.setNx 61)
  have M0 := hide (HH.out.mem.only (only_set w bo 3 (.func (.func 61) #[.pointer (some ⟨bo, 0, none⟩)] #[])) (fun e => hne e.symm) (fun e => hnc e.symm))
  have O0 := hide ((Only.refl (S3 bo bm bc) w).set1 3 (.inl rfl) (.func (.func 61) #[.pointer (some ⟨bo, 0, none⟩)] #[]))
  clear hv
  go_enter Try.func72, Try.ntmps72
  go_wp2_with fail
  clear c0 c1 k3' f3'
  generalize w.setCell ⟨bo, 3, none⟩ (.func (.func 61) #[.pointer (some ⟨bo, 0, none⟩)] #[]) = w2 at *
  have c0 := P0.out.c0
  have c1 := P0.out.c1
  have c2 := P0.out.c2
  have z0 := (show VopAt w2.drew bo bm 61 cell seen 0 from P0.out).c0
  have z1 := (show VopAt w2.drew bo bm 61 cell seen 0 from P0.out).c1
  go_region_held3 (fun w' => w'.cell? ⟨bo, 0, none⟩ = some (.pointer (some ⟨bm, 0, none⟩)) ∧ w'.cell? ⟨bo, 1, none⟩ = some (.int .i64 cell)) (first | exact ⟨z0, z1⟩ | exact ⟨k0, k1⟩ | exact ⟨y0, y1⟩) (first | (go_at_call 71; refine (Swap_no cell 1 0 M0.out.drew HH.out.few HH.out.c0 HH.out.c1 HV.out).mono ?_; rintro e w1 ⟨rfl, h1, o1⟩; have HP1 := hide ((show VopAt w2.drew bo bm 61 cell seen 0 from P0.out).only o1 (fun h => by unfold S1 at h; omega)); have HM1 := hide h1; have HO1 := hide ((O0.out.drew).trans (s3_of_s1 (bo := bo) (bc := bc) o1)); have k0 := HP1.out.c0; have k1 := HP1.out.c1; have k4 := HP1.out.c4; have f4 := HP1.out.fz 4; clear h1 o1))
  clear z0 z1 k0 k1 c0 c1 c2
  go_wp2_with fail
  refine bodyPost_end (results_none rfl _ _ _) rfl ?_
  exact ⟨rfl, HP1.out, HM1.out, HO1.out⟩
set_option maxHeartbeats 1000000 in
set_option maxRecDepth 100000 in
theorem claim_yes (hh : VStepAt w bo bm bc nx cell seen tc L) (hv : at_ L cell = 1) :
    Calls Try.prog 60 #[.pointer (some ⟨bo, 0, none⟩)] w fun e w' => e = .returned (.tuple #[]) ∧ VopAt w' bo bm nx cell seen 1 ∧ MemAt w' bm bc (L.set cell.toNat 2) (tc + 1) ∧ Only (S3 bo bm bc) w w' := by
  have c0 := hh.op.c0
  have c1 := hh.op.c1
  have HH := hide hh
  have hne : bo ≠ bm := Blk.ne_ hh.op hh.mem.mem (by decide)
  have hnc : bo ≠ bc := Blk.ne_ hh.op hh.mem.cells (by decide)
  clear hh
  have HV := hide hv
  have k4' := HH.out.op.c4
  have f4' := HH.out.op.fz 4
  have P0 := hide (HH.out.op.setOut 4)
  have M0 := hide (HH.out.mem.only (only_set w bo 4 (.int .i64 4)) (fun e => hne e.symm) (fun e => hnc e.symm))
  have O0 := hide ((Only.refl (S3 bo bm bc) w).set1 4 (.inl rfl) (.int .i64 4))
  clear hv
  go_enter Try.func60, Try.ntmps60
  go_wp2_with fail
  clear c0 c1 k4' f4'
  generalize w.setCell ⟨bo, 4, none⟩ (.int .i64 4) = w2 at *
  have c0 := P0.out.c0
  have c1 := P0.out.c1
  have c2 := P0.out.c2
  have z0 := (show VopAt w2.drew bo bm nx cell seen 4 from P0.out).c0
  have z1 := (show VopAt w2.drew bo bm nx cell seen 4 from P0.out).c1
  go_region_held3 (fun w' => w'.cell? ⟨bo, 0, none⟩ = some (.pointer (some ⟨bm, 0, none⟩)) ∧ w'.cell? ⟨bo, 1, none⟩ = some (.int .i64 cell)) (first | exact ⟨z0, z1⟩ | exact ⟨k0, k1⟩ | exact ⟨y0, y1⟩) (first | (go_at_call 71; refine (Swap_yes cell 1 2 M0.out.drew HH.out.few HH.out.c0 HH.out.c1 HV.out).mono ?_; rintro e w1 ⟨rfl, h1, o1⟩; have HP1 := hide ((show VopAt w2.drew bo bm nx cell seen 4 from P0.out).only o1 (fun h => by unfold S2 at h; omega)); have HM1 := hide h1; have HO1 := hide ((O0.out.drew).trans (s3_of_s2 (bo := bo) o1)); have k0 := HP1.out.c0; have k1 := HP1.out.c1; have k4 := HP1.out.c4; have f4 := HP1.out.fz 4; clear h1 o1))
  clear z0 z1 k0 k1 c0 c1 c2
  go_wp2_with fail
  refine bodyPost_end (results_none rfl _ _ _) rfl ?_
  exact ⟨rfl, HP1.out.setOut 1, HM1.out.only (only_set w1 bo 4 (.int .i64 1)) (fun e => hne e.symm) (fun e => hnc e.symm), HO1.out.set1 4 (.inl rfl) (.int .i64 1)⟩
set_option maxHeartbeats 1000000 in
set_option maxRecDepth 100000 in
theorem claim_no (hh : VStepAt w bo bm bc nx cell seen tc L) (hv : at_ L cell ≠ 1) :
    Calls Try.prog 60 #[.pointer (some ⟨bo, 0, none⟩)] w fun e w' => e = .returned (.tuple #[]) ∧ VopAt w' bo bm nx cell seen 4 ∧ MemAt w' bm bc L (tc + 1) ∧ Only (S3 bo bm bc) w w' := by
  have c0 := hh.op.c0
  have c1 := hh.op.c1
  have HH := hide hh
  have hne : bo ≠ bm := Blk.ne_ hh.op hh.mem.mem (by decide)
  have hnc : bo ≠ bc := Blk.ne_ hh.op hh.mem.cells (by decide)
  clear hh
  have HV := hide hv
  have k4' := HH.out.op.c4
  have f4' := HH.out.op.fz 4
  have P0 := hide (HH.out.op.setOut 4)
  have M0 := hide (HH.out.mem.only (only_set w bo 4 (.int .i64 4)) (fun e => hne e.symm) (fun e => hnc e.symm))
  have O0 := hide ((Only.refl (S3 bo bm bc) w).set1 4 (.inl rfl) (.int .i64 4))
  clear hv
  go_enter Try.func60, Try.ntmps60
  go_wp2_with fail
  clear c0 c1 k4' f4'
  generalize w.setCell ⟨bo, 4, none⟩ (.int .i64 4) = w2 at *
  have c0 := P0.out.c0
  have c1 := P0.out.c1
  have c2 := P0.out.c2
  have z0 := (show VopAt w2.drew bo bm nx cell seen 4 from P0.out).c0
  have z1 := (show VopAt w2.drew bo bm nx cell seen 4 from P0.out).c1
  go_region_held3 (fun w' => w'.cell? ⟨bo, 0, none⟩ = some (.pointer (some ⟨bm, 0, none⟩)) ∧ w'.cell? ⟨bo, 1, none⟩ = some (.int .i64 cell)) (first | exact ⟨z0, z1⟩ | exact ⟨k0, k1⟩ | exact ⟨y0, y1⟩) (first | (go_at_call 71; refine (Swap_no cell 1 2 M0.out.drew HH.out.few HH.out.c0 HH.out.c1 HV.out).mono ?_; rintro e w1 ⟨rfl, h1, o1⟩; have HP1 := hide ((show VopAt w2.drew bo bm nx cell seen 4 from P0.out).only o1 (fun h => by unfold S1 at h; omega)); have HM1 := hide h1; have HO1 := hide ((O0.out.drew).trans (s3_of_s1 (bo := bo) (bc := bc) o1)); have k0 := HP1.out.c0; have k1 := HP1.out.c1; have k4 := HP1.out.c4; have f4 := HP1.out.fz 4; clear h1 o1))
  clear z0 z1 k0 k1 c0 c1 c2
  go_wp2_with fail
  refine bodyPost_end (results_none rfl _ _ _) rfl ?_
  exact ⟨rfl, HP1.out, HM1.out, HO1.out⟩

theorem VStep_over (h : VopAt w bo bm nx cell seen out) (ho : out ≠ 0) : Calls Try.prog 31 #[.pointer (some ⟨bo, 0, none⟩)] w fun e w' => e = .returned (.bool true) ∧ w = w' := by
  go_enter Try.func31, Try.ntmps31
  go_wp2_with fail
  refine (VOver_over h ho).mono ?_
  rintro e w' ⟨rfl, rfl⟩
  go_wp2_with fail
  refine (VOver_over h ho).mono ?_
  rintro e w' ⟨rfl, rfl⟩
  go_wp2_with fail
  go_ret
  exact ⟨rfl, rfl⟩
/-- A step, by what its next function does. -/
theorem VStep_watch {nx' : Nat} {cell' seen' out' tc' : Int} {L' : List Int} (h : VopAt w bo bm 59 cell seen 0)
    (hc : Calls Try.prog 59 #[.pointer (some ⟨bo, 0, none⟩)] w fun e w' => e = .returned (.tuple #[]) ∧ VopAt w' bo bm nx' cell' seen' out' ∧ MemAt w' bm bc L' tc' ∧ Only (S3 bo bm bc) w w') :
    Calls Try.prog 31 #[.pointer (some ⟨bo, 0, none⟩)] w fun e w' => e = .returned (.bool (out' != 0)) ∧ VopAt w' bo bm nx' cell' seen' out' ∧ MemAt w' bm bc L' tc' ∧ Only (S3 bo bm bc) w w' := by
  have c3 := h.c3
  have HC := Lib.hid hc
  have H := hide h
  clear hc h
  go_enter Try.func31, Try.ntmps31
  go_wp2_with fail
  refine (VOver_pend H.out).mono ?_
  rintro e w' ⟨rfl, rfl⟩
  go_wp2_with fail
  refine HC.out.mono ?_
  rintro e w1 ⟨rfl, h1, h2, h3⟩
  have H1 := hide h1
  have H2 := hide h2
  have H3 := hide h3
  clear h1 h2 h3 c3
  go_wp2_with fail
  by_cases h0 : out' = 0
  · subst h0
    refine (VOver_pend H1.out).mono ?_
    rintro e w' ⟨rfl, rfl⟩
    go_wp2_with fail
    go_ret
    exact ⟨rfl, H1.out, H2.out, H3.out⟩
  · have hb : (out' != 0) = true := by simp [h0]
    refine (VOver_over H1.out h0).mono ?_
    rintro e w' ⟨rfl, rfl⟩
    go_wp2_with fail
    go_ret
    rw [hb]
    exact ⟨rfl, H1.out, H2.out, H3.out⟩
theorem VStep_begin {nx' : Nat} {cell' seen' out' tc' : Int} {L' : List Int} (h : VopAt w bo bm 70 cell seen 0)
    (hc : Calls Try.prog 70 #[.pointer (some ⟨bo, 0, none⟩)] w fun e w' => e = .returned (.tuple #[]) ∧ VopAt w' bo bm nx' cell' seen' out' ∧ MemAt w' bm bc L' tc' ∧ Only (S3 bo bm bc) w w') :
    Calls Try.prog 31 #[.pointer (some ⟨bo, 0, none⟩)] w fun e w' => e = .returned (.bool (out' != 0)) ∧ VopAt w' bo bm nx' cell' seen' out' ∧ MemAt w' bm bc L' tc' ∧ Only (S3 bo bm bc) w w' := by
  have c3 := h.c3
  have HC := Lib.hid hc
  have H := hide h
  clear hc h
  go_enter Try.func31, Try.ntmps31
  go_wp2_with fail
  refine (VOver_pend H.out).mono ?_
  rintro e w' ⟨rfl, rfl⟩
  go_wp2_with fail
  refine HC.out.mono ?_
  rintro e w1 ⟨rfl, h1, h2, h3⟩
  have H1 := hide h1
  have H2 := hide h2
  have H3 := hide h3
  clear h1 h2 h3 c3
  go_wp2_with fail
  by_cases h0 : out' = 0
  · subst h0
    refine (VOver_pend H1.out).mono ?_
    rintro e w' ⟨rfl, rfl⟩
    go_wp2_with fail
    go_ret
    exact ⟨rfl, H1.out, H2.out, H3.out⟩
  · have hb : (out' != 0) = true := by simp [h0]
    refine (VOver_over H1.out h0).mono ?_
    rintro e w' ⟨rfl, rfl⟩
    go_wp2_with fail
    go_ret
    rw [hb]
    exact ⟨rfl, H1.out, H2.out, H3.out⟩
theorem VStep_unwatch {nx' : Nat} {cell' seen' out' tc' : Int} {L' : List Int} (h : VopAt w bo bm 61 cell seen 0)
    (hc : Calls Try.prog 61 #[.pointer (some ⟨bo, 0, none⟩)] w fun e w' => e = .returned (.tuple #[]) ∧ VopAt w' bo bm nx' cell' seen' out' ∧ MemAt w' bm bc L' tc' ∧ Only (S3 bo bm bc) w w') :
    Calls Try.prog 31 #[.pointer (some ⟨bo, 0, none⟩)] w fun e w' => e = .returned (.bool (out' != 0)) ∧ VopAt w' bo bm nx' cell' seen' out' ∧ MemAt w' bm bc L' tc' ∧ Only (S3 bo bm bc) w w' := by
  have c3 := h.c3
  have HC := Lib.hid hc
  have H := hide h
  clear hc h
  go_enter Try.func31, Try.ntmps31
  go_wp2_with fail
  refine (VOver_pend H.out).mono ?_
  rintro e w' ⟨rfl, rfl⟩
  go_wp2_with fail
  refine HC.out.mono ?_
  rintro e w1 ⟨rfl, h1, h2, h3⟩
  have H1 := hide h1
  have H2 := hide h2
  have H3 := hide h3
  clear h1 h2 h3 c3
  go_wp2_with fail
  by_cases h0 : out' = 0
  · subst h0
    refine (VOver_pend H1.out).mono ?_
    rintro e w' ⟨rfl, rfl⟩
    go_wp2_with fail
    go_ret
    exact ⟨rfl, H1.out, H2.out, H3.out⟩
  · have hb : (out' != 0) = true := by simp [h0]
    refine (VOver_over H1.out h0).mono ?_
    rintro e w' ⟨rfl, rfl⟩
    go_wp2_with fail
    go_ret
    rw [hb]
    exact ⟨rfl, H1.out, H2.out, H3.out⟩
theorem VStep_end {nx' : Nat} {cell' seen' out' tc' : Int} {L' : List Int} (h : VopAt w bo bm 72 cell seen 0)
    (hc : Calls Try.prog 72 #[.pointer (some ⟨bo, 0, none⟩)] w fun e w' => e = .returned (.tuple #[]) ∧ VopAt w' bo bm nx' cell' seen' out' ∧ MemAt w' bm bc L' tc' ∧ Only (S3 bo bm bc) w w') :
    Calls Try.prog 31 #[.pointer (some ⟨bo, 0, none⟩)] w fun e w' => e = .returned (.bool (out' != 0)) ∧ VopAt w' bo bm nx' cell' seen' out' ∧ MemAt w' bm bc L' tc' ∧ Only (S3 bo bm bc) w w' := by
  have c3 := h.c3
  have HC := Lib.hid hc
  have H := hide h
  clear hc h
  go_enter Try.func31, Try.ntmps31
  go_wp2_with fail
  refine (VOver_pend H.out).mono ?_
  rintro e w' ⟨rfl, rfl⟩
  go_wp2_with fail
  refine HC.out.mono ?_
  rintro e w1 ⟨rfl, h1, h2, h3⟩
  have H1 := hide h1
  have H2 := hide h2
  have H3 := hide h3
  clear h1 h2 h3 c3
  go_wp2_with fail
  by_cases h0 : out' = 0
  · subst h0
    refine (VOver_pend H1.out).mono ?_
    rintro e w' ⟨rfl, rfl⟩
    go_wp2_with fail
    go_ret
    exact ⟨rfl, H1.out, H2.out, H3.out⟩
  · have hb : (out' != 0) = true := by simp [h0]
    refine (VOver_over H1.out h0).mono ?_
    rintro e w' ⟨rfl, rfl⟩
    go_wp2_with fail
    go_ret
    rw [hb]
    exact ⟨rfl, H1.out, H2.out, H3.out⟩
theorem VStep_claim {nx' : Nat} {cell' seen' out' tc' : Int} {L' : List Int} (h : VopAt w bo bm 60 cell seen 0)
    (hc : Calls Try.prog 60 #[.pointer (some ⟨bo, 0, none⟩)] w fun e w' => e = .returned (.tuple #[]) ∧ VopAt w' bo bm nx' cell' seen' out' ∧ MemAt w' bm bc L' tc' ∧ Only (S3 bo bm bc) w w') :
    Calls Try.prog 31 #[.pointer (some ⟨bo, 0, none⟩)] w fun e w' => e = .returned (.bool (out' != 0)) ∧ VopAt w' bo bm nx' cell' seen' out' ∧ MemAt w' bm bc L' tc' ∧ Only (S3 bo bm bc) w w' := by
  have c3 := h.c3
  have HC := Lib.hid hc
  have H := hide h
  clear hc h
  go_enter Try.func31, Try.ntmps31
  go_wp2_with fail
  refine (VOver_pend H.out).mono ?_
  rintro e w' ⟨rfl, rfl⟩
  go_wp2_with fail
  refine HC.out.mono ?_
  rintro e w1 ⟨rfl, h1, h2, h3⟩
  have H1 := hide h1
  have H2 := hide h2
  have H3 := hide h3
  clear h1 h2 h3 c3
  go_wp2_with fail
  by_cases h0 : out' = 0
  · subst h0
    refine (VOver_pend H1.out).mono ?_
    rintro e w' ⟨rfl, rfl⟩
    go_wp2_with fail
    go_ret
    exact ⟨rfl, H1.out, H2.out, H3.out⟩
  · have hb : (out' != 0) = true := by simp [h0]
    refine (VOver_over H1.out h0).mono ?_
    rintro e w' ⟨rfl, rfl⟩
    go_wp2_with fail
    go_ret
    rw [hb]
    exact ⟨rfl, H1.out, H2.out, H3.out⟩
end
end Go.Proofs.Ytafnlmkhfonghaa
