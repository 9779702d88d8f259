/-
  Package bell: what each method does, said of the cells and of the operation's own fields.
-/
import Derived.Test.YtdoaipjdldknaaaCom
import Derived.Deep.LoopGhost
namespace Go.Proofs.Ytdoaipjdldknaaa
open Go.RowKit
set_option linter.unusedVariables false

/-- A function value without captures. -/
def fnV (f : Nat) : Value := .func (.func f) #[] #[]
/-- A bell: block bb. -/
def BellAt (w : World) (bb bm : Nat) (base n : Int) : Prop := Blk w bb 91 #[.pointer (some ⟨bm, 0, none⟩), .int .i64 base, .int .i64 n]
/-- An operation: its fields. -/
def BopAt (w : World) (bo bb nx : Nat) (who out : Int) : Prop :=
  Blk w bo 109 #[.pointer (some ⟨bb, 0, none⟩), .func (.func nx) #[] #[], .int .i64 who, .int .i64 out]

section
variable {w : World} {bo bb bm bc nx : Nat} {base n who out tc : Int} {L : List Int}
theorem BopAt.c0 (h : BopAt w bo bb nx who out) : w.cell? ⟨bo, 0, none⟩ = some (.pointer (some ⟨bb, 0, none⟩)) := Blk.cellv h rfl
theorem BopAt.c1 (h : BopAt w bo bb nx who out) : w.cell? ⟨bo, 1, none⟩ = some (.func (.func nx) #[] #[]) := Blk.cellv h rfl
theorem BopAt.c2 (h : BopAt w bo bb nx who out) : w.cell? ⟨bo, 2, none⟩ = some (.int .i64 who) := Blk.cellv h rfl
theorem BopAt.c3 (h : BopAt w bo bb nx who out) : w.cell? ⟨bo, 3, none⟩ = some (.int .i64 out) := Blk.cellv h rfl
theorem BopAt.fz (h : BopAt w bo bb nx who out) (i : Nat) : w.frozen? ⟨bo, i, none⟩ = false := Blk.frozen h i
theorem BellAt.c0 (h : BellAt w bb bm base n) : w.cell? ⟨bb, 0, none⟩ = some (.pointer (some ⟨bm, 0, none⟩)) := Blk.cellv h rfl
theorem BellAt.c1 (h : BellAt w bb bm base n) : w.cell? ⟨bb, 1, none⟩ = some (.int .i64 base) := Blk.cellv h rfl
theorem BellAt.c2 (h : BellAt w bb bm base n) : w.cell? ⟨bb, 2, none⟩ = some (.int .i64 n) := Blk.cellv h rfl
theorem BopAt.only {w' : World} {S : Nat → Prop} (h : BopAt w bo bb nx who out) (ho : Only S w w') (hs : ¬ S bo) : BopAt w' bo bb nx who out := Blk.only h ho hs
theorem BellAt.only {w' : World} {S : Nat → Prop} (h : BellAt w bb bm base n) (ho : Only S w w') (hs : ¬ S bb) : BellAt w' bb bm base n := Blk.only h ho hs
theorem BopAt.drewN (h : BopAt w bo bb nx who out) (q : Nat) : BopAt (w.drewN q) bo bb nx who out := h
theorem BellAt.drewN (h : BellAt w bb bm base n) (q : Nat) : BellAt (w.drewN q) bb bm base n := h
theorem BopAt.setNx (h : BopAt w bo bb nx who out) (x : Nat) : BopAt (w.setCell ⟨bo, 1, none⟩ (.func (.func x) #[] #[])) bo bb x who out := by simpa [BopAt] using Blk.set_ h 1 (.func (.func x) #[] #[])
theorem BopAt.setWho (h : BopAt w bo bb nx who out) (x : Int) : BopAt (w.setCell ⟨bo, 2, none⟩ (.int .i64 x)) bo bb nx x out := by simpa [BopAt] using Blk.set_ h 2 (.int .i64 x)
theorem BopAt.setOut (h : BopAt w bo bb nx who out) (x : Int) : BopAt (w.setCell ⟨bo, 3, none⟩ (.int .i64 x)) bo bb nx who x := by simpa [BopAt] using Blk.set_ h 3 (.int .i64 x)

theorem BOver_pend (h : BopAt w bo bb nx who 0) : Calls Try.prog 112 #[.pointer (some ⟨bo, 0, none⟩)] w fun e w' => e = .returned (.bool false) ∧ w = w' := by
  have c3 := h.c3
  clear h
  go_enter Try.func112, Try.ntmps112
  go_wp2_with fail
  go_ret
  exact ⟨rfl, rfl⟩
theorem BOver_over (h : BopAt w bo bb nx who out) (ho : out ≠ 0) : Calls Try.prog 112 #[.pointer (some ⟨bo, 0, none⟩)] w fun e w' => e = .returned (.bool true) ∧ w = w' := by
  have c3 := h.c3
  have hb : (out != 0) = true := by simp [ho]
  clear h ho
  go_enter Try.func112, Try.ntmps112
  go_wp2_with fail
  go_ret
  exact ⟨rfl, rfl⟩
theorem BOutcome_any (h : BopAt w bo bb nx who out) : Calls Try.prog 54 #[.pointer (some ⟨bo, 0, none⟩)] w fun e w' => e = .returned (.int .i64 out) ∧ w = w' := by
  have c3 := h.c3
  clear h
  go_enter Try.func54, Try.ntmps54
  go_wp2_with fail
  go_ret
  exact ⟨rfl, rfl⟩
/-- Who was roused. -/
def bwho (who out : Int) : Int := if out = 7 then who else -1
/-- Is there such a worker? -/
def bout0 (n x : Int) : Int := if 0 ≤ x ∧ x < n then 0 else 4
theorem one_any (x : Int) (f : Nat) (h : BellAt w bb bm base n) : Calls Try.prog 66 #[.pointer (some ⟨bb, 0, none⟩), .int .i64 x, .func (.func f) #[] #[]] w fun e w' =>
    ∃ bo, e = .returned (.pointer (some ⟨bo, 0, none⟩)) ∧ BopAt w' bo bb f x (bout0 n x) ∧ Only S0 w w' ∧ w.heap.size ≤ bo := by
  have c2 := fun o => (Blk.alloc h o).cellv (i := 2) rfl
  clear h
  by_cases h0 : x < 0
  · have hv : bout0 n x = 4 := by unfold bout0; rw [if_neg (by omega)]
    rw [hv]
    clear hv
    go_enter Try.func66, Try.ntmps66
    go_wp2_with fail
    go_ret
    exact ⟨_, rfl, Blk.new _ _ _, (Only.refl _ _).alloc _, Nat.le_refl _⟩
  · replace h0 : 0 ≤ x := by omega
    by_cases h1 : n ≤ x
    · have hv : bout0 n x = 4 := by unfold bout0; rw [if_neg (by omega)]
      rw [hv]
      clear hv
      go_enter Try.func66, Try.ntmps66
      go_wp2_with fail
      go_ret
      exact ⟨_, rfl, Blk.new _ _ _, (Only.refl _ _).alloc _, Nat.le_refl _⟩
    · have hv : bout0 n x = 0 := by unfold bout0; rw [if_pos (by omega)]
      rw [hv]
      replace h1 : x < n := by omega
      clear hv
      go_enter Try.func66, Try.ntmps66
      go_wp2_with fail
      go_ret
      exact ⟨_, rfl, Blk.new _ _ _, (Only.refl _ _).alloc _, Nat.le_refl _⟩
theorem Sleep_any (x : Int) (h : BellAt w bb bm base n) : Calls Try.prog 44 #[.pointer (some ⟨bb, 0, none⟩), .int .i64 x] w fun e w' =>
    ∃ bo, e = .returned (.pointer (some ⟨bo, 0, none⟩)) ∧ BopAt w' bo bb 67 x (bout0 n x) ∧ Only S0 w w' ∧ w.heap.size ≤ bo := by
  go_enter Try.func44, Try.ntmps44
  go_wp2_with fail
  refine (one_any x 67 h).mono ?_
  rintro e w1 ⟨bo, rfl, h1, o1, b1⟩
  go_wp2_with fail
  go_ret
  exact ⟨bo, rfl, h1, o1, b1⟩
theorem Up_any (x : Int) (h : BellAt w bb bm base n) : Calls Try.prog 49 #[.pointer (some ⟨bb, 0, none⟩), .int .i64 x] w fun e w' =>
    ∃ bo, e = .returned (.pointer (some ⟨bo, 0, none⟩)) ∧ BopAt w' bo bb 68 x (bout0 n x) ∧ Only S0 w w' ∧ w.heap.size ≤ bo := by
  go_enter Try.func49, Try.ntmps49
  go_wp2_with fail
  refine (one_any x 68 h).mono ?_
  rintro e w1 ⟨bo, rfl, h1, o1, b1⟩
  go_wp2_with fail
  go_ret
  exact ⟨bo, rfl, h1, o1, b1⟩
theorem Poll_any (x : Int) (h : BellAt w bb bm base n) : Calls Try.prog 52 #[.pointer (some ⟨bb, 0, none⟩), .int .i64 x] w fun e w' =>
    ∃ bo, e = .returned (.pointer (some ⟨bo, 0, none⟩)) ∧ BopAt w' bo bb 69 x (bout0 n x) ∧ Only S0 w w' ∧ w.heap.size ≤ bo := by
  go_enter Try.func52, Try.ntmps52
  go_wp2_with fail
  refine (one_any x 69 h).mono ?_
  rintro e w1 ⟨bo, rfl, h1, o1, b1⟩
  go_wp2_with fail
  go_ret
  exact ⟨bo, rfl, h1, o1, b1⟩
theorem Ring_any (h : BellAt w bb bm base n) : Calls Try.prog 59 #[.pointer (some ⟨bb, 0, none⟩)] w fun e w' =>
    ∃ bo, e = .returned (.pointer (some ⟨bo, 0, none⟩)) ∧ BopAt w' bo bb 74 0 (bout0 n 0) ∧ Only S0 w w' ∧ w.heap.size ≤ bo := by
  go_enter Try.func59, Try.ntmps59
  go_wp2_with fail
  refine (one_any 0 74 h).mono ?_
  rintro e w1 ⟨bo, rfl, h1, o1, b1⟩
  go_wp2_with fail
  go_ret
  exact ⟨bo, rfl, h1, o1, b1⟩

/-- All that a step starts from. -/
structure BStepAt (w : World) (bo bb bm bc nx : Nat) (base n who tc : Int) (L : List Int) : Prop where
  op : BopAt w bo bb nx who 0
  bell : BellAt w bb bm base n
  mem : MemAt w bm bc L tc
  few : Few tc
  w0 : 0 ≤ who
  w1 : who < n
  n8 : n ≤ 8
  b0 : 0 ≤ base
  b1 : base ≤ 70000
  in_ : base + n ≤ L.length
set_option maxHeartbeats 1000000 in
set_option maxRecDepth 100000 in
theorem sleep1_any (hh : BStepAt w bo bb bm bc nx base n who tc L) :
    Calls Try.prog 67 #[.pointer (some ⟨bo, 0, none⟩)] w fun e w' => e = .returned (.tuple #[]) ∧
      BopAt w' bo bb nx who 1 ∧ MemAt w' bm bc (L.set (base + who).toNat 1) (tc + 1) ∧ Only (S3 bo bm bc) w w' := by
  have c0 := hh.op.c0
  have c2 := hh.op.c2
  have g0 := hh.bell.c0
  have g1 := hh.bell.c1
  have wg0 := hh.w0
  have wlt := hh.w1
  have n8 := hh.n8
  have b0 := hh.b0
  have b1 := hh.b1
  have HH := hide hh
  have hne : bo ≠ bm := Blk.ne_ hh.op hh.mem.mem (by decide)
  have hnc : bo ≠ bc := Blk.ne_ hh.op hh.mem.cells (by decide)
  have hbm : bb ≠ bm := Blk.ne_ hh.bell hh.mem.mem (by decide)
  have hbc : bb ≠ bc := Blk.ne_ hh.bell hh.mem.cells (by decide)
  have hbo : bb ≠ bo := Blk.ne_ hh.bell hh.op (by decide)
  clear hh
  go_enter Try.func67, Try.ntmps67
  go_wp2_with fail
  go_still_tail 19, (by kernel_rfl)
  go_wp2_with fail
  refine (Store_in (base + who) 1 HH.out.mem.drew HH.out.few (by omega) (by have := HH.out.in_; omega)).mono ?_
  rintro e w1 ⟨rfl, h1, o1⟩
  have HP1 := hide ((show BopAt w.drew bo bb nx who 0 from HH.out.op).only o1 (fun h => by unfold S2 at h; omega))
  have HM1 := hide h1
  have HO1 := hide (((Only.refl (S3 bo bm bc) w).drew).trans (s3_of_s2 (bo := bo) o1))
  have k3 := HP1.out.c3
  have f3 := HP1.out.fz 3
  clear h1 o1 c0 c2 g0 g1
  go_wp2_with fail
  go_end0
  exact ⟨rfl, HP1.out.setOut 1, HM1.out.only (only_set w1 bo 3 (.int .i64 1)) (fun e => hne e.symm) (fun e => hnc e.symm), HO1.out.set1 3 (.inl rfl) (.int .i64 1)⟩
set_option maxHeartbeats 1000000 in
set_option maxRecDepth 100000 in
theorem up1_any (hh : BStepAt w bo bb bm bc nx base n who tc L) :
    Calls Try.prog 68 #[.pointer (some ⟨bo, 0, none⟩)] w fun e w' => e = .returned (.tuple #[]) ∧
      BopAt w' bo bb nx who 1 ∧ MemAt w' bm bc (L.set (base + who).toNat 0) (tc + 1) ∧ Only (S3 bo bm bc) w w' := by
  have c0 := hh.op.c0
  have c2 := hh.op.c2
  have g0 := hh.bell.c0
  have g1 := hh.bell.c1
  have wg0 := hh.w0
  have wlt := hh.w1
  have n8 := hh.n8
  have b0 := hh.b0
  have b1 := hh.b1
  have HH := hide hh
  have hne : bo ≠ bm := Blk.ne_ hh.op hh.mem.mem (by decide)
  have hnc : bo ≠ bc := Blk.ne_ hh.op hh.mem.cells (by decide)
  have hbm : bb ≠ bm := Blk.ne_ hh.bell hh.mem.mem (by decide)
  have hbc : bb ≠ bc := Blk.ne_ hh.bell hh.mem.cells (by decide)
  have hbo : bb ≠ bo := Blk.ne_ hh.bell hh.op (by decide)
  clear hh
  go_enter Try.func68, Try.ntmps68
  go_wp2_with fail
  go_still_tail 19, (by kernel_rfl)
  go_wp2_with fail
  refine (Store_in (base + who) 0 HH.out.mem.drew HH.out.few (by omega) (by have := HH.out.in_; omega)).mono ?_
  rintro e w1 ⟨rfl, h1, o1⟩
  have HP1 := hide ((show BopAt w.drew bo bb nx who 0 from HH.out.op).only o1 (fun h => by unfold S2 at h; omega))
  have HM1 := hide h1
  have HO1 := hide (((Only.refl (S3 bo bm bc) w).drew).trans (s3_of_s2 (bo := bo) o1))
  have k3 := HP1.out.c3
  have f3 := HP1.out.fz 3
  clear h1 o1 c0 c2 g0 g1
  go_wp2_with fail
  go_end0
  exact ⟨rfl, HP1.out.setOut 1, HM1.out.only (only_set w1 bo 3 (.int .i64 1)) (fun e => hne e.symm) (fun e => hnc e.symm), HO1.out.set1 3 (.inl rfl) (.int .i64 1)⟩

/-- What a look answers. -/
def pollOut (v : Int) : Int := if v = 0 then 1 else 4
set_option maxHeartbeats 1000000 in
set_option maxRecDepth 100000 in
theorem poll1_any (hh : BStepAt w bo bb bm bc nx base n who tc L) :
    Calls Try.prog 69 #[.pointer (some ⟨bo, 0, none⟩)] w fun e w' => e = .returned (.tuple #[]) ∧
      BopAt w' bo bb nx who (pollOut (at_ L (base + who))) ∧ MemAt w' bm bc L (tc + 1) ∧ Only (S3 bo bm bc) w w' := by
  have c0 := hh.op.c0
  have c2 := hh.op.c2
  have g0 := hh.bell.c0
  have g1 := hh.bell.c1
  have wg0 := hh.w0
  have wlt := hh.w1
  have n8 := hh.n8
  have b0 := hh.b0
  have b1 := hh.b1
  have HH := hide hh
  have hne : bo ≠ bm := Blk.ne_ hh.op hh.mem.mem (by decide)
  have hnc : bo ≠ bc := Blk.ne_ hh.op hh.mem.cells (by decide)
  have hbm : bb ≠ bm := Blk.ne_ hh.bell hh.mem.mem (by decide)
  have hbc : bb ≠ bc := Blk.ne_ hh.bell hh.mem.cells (by decide)
  have hbo : bb ≠ bo := Blk.ne_ hh.bell hh.op (by decide)
  clear hh
  have c3 := HH.out.op.c3
  have f3 := HH.out.op.fz 3
  have M0 := hide (HH.out.mem.only (only_set w bo 3 (.int .i64 4)) (fun e => hne e.symm) (fun e => hnc e.symm))
  have P0 := hide (HH.out.op.setOut 4)
  have O0 := hide ((Only.refl (S3 bo bm bc) w).set1 3 (.inl rfl) (.int .i64 4))
  have B0 := hide (HH.out.bell.only (only_set w bo 3 (.int .i64 4)) hbo)
  obtain ⟨v, hv⟩ : ∃ v, at_ L (base + who) = v := ⟨_, rfl⟩
  have HV := hide hv
  clear hv
  go_enter Try.func69, Try.ntmps69
  go_wp2_with fail
  clear c0 c2 g0 g1 c3 f3
  generalize w.setCell ⟨bo, 3, none⟩ (.int .i64 4) = w2 at *
  have z0 := (show BopAt w2.drew bo bb nx who 4 from P0.out).c0
  have z2 := (show BopAt w2.drew bo bb nx who 4 from P0.out).c2
  have y0 := (show BellAt w2.drew bb bm base n from B0.out).c0
  have y1 := (show BellAt w2.drew bb bm base n from B0.out).c1
  have hwr : IntKind.i64.wrap (base + who) = base + who := IntWalk.i64_in _ (by omega)
  go_region_held3 (fun w' => w'.cell? ⟨bo, 0, none⟩ = some (.pointer (some ⟨bb, 0, none⟩)) ∧ w'.cell? ⟨bo, 2, none⟩ = some (.int .i64 who) ∧ w'.cell? ⟨bb, 0, none⟩ = some (.pointer (some ⟨bm, 0, none⟩)) ∧ w'.cell? ⟨bb, 1, none⟩ = some (.int .i64 base)) (first | exact ⟨z0, z2, y0, y1⟩ | exact ⟨k0, k2, j0, j1⟩) (first | (go_at_call 70; refine (Load_in (base + who) M0.out.drew HH.out.few (by omega) (by have := HH.out.in_; omega)).mono ?_; rintro e w1 ⟨rfl, h1, o1⟩; rw [HV.out]; have HP1 := hide ((show BopAt w2.drew bo bb nx who 4 from P0.out).only o1 (fun h => by unfold S1 at h; omega)); have HB1 := hide ((show BellAt w2.drew bb bm base n from B0.out).only o1 (fun h => by unfold S1 at h; omega)); have HM1 := hide h1; have HO1 := hide ((O0.out.drew).trans (s3_of_s1 (bo := bo) (bc := bc) o1)); have k0 := HP1.out.c0; have k2 := HP1.out.c2; have j0 := HB1.out.c0; have j1 := HB1.out.c1; have k3 := HP1.out.c3; have f3 := HP1.out.fz 3; clear h1 o1))
  clear hwr z0 z2 y0 y1 k0 k2 j0 j1
  by_cases h0 : v = 0
  · have HR := hide (show pollOut v = 1 by simp [pollOut, h0])
    have hb : (v == 0) = true := by simp [h0]
    clear h0
    go_wp2_with fail
    go_end0
    rw [HV.out, HR.out]
    exact ⟨rfl, HP1.out.setOut 1, HM1.out.only (only_set w1 bo 3 (.int .i64 1)) (fun e => hne e.symm) (fun e => hnc e.symm), HO1.out.set1 3 (.inl rfl) (.int .i64 1)⟩
  · have HR := hide (show pollOut v = 4 by simp [pollOut, h0])
    have hb : (v == 0) = false := by simp [h0]
    clear h0
    go_wp2_with fail
    go_end0
    rw [HV.out, HR.out]
    exact ⟨rfl, HP1.out, HM1.out, HO1.out⟩

/-- On to the next worker. -/
def onOut (n x : Int) : Int := if x = n then 4 else 0
theorem on_any (h : BopAt w bo bb nx who 0) (hb : BellAt w bb bm base n) (w0 : 0 ≤ who) (w1 : who < n) (n8 : n ≤ 8) :
    Calls Try.prog 79 #[.pointer (some ⟨bo, 0, none⟩)] w fun e w' => e = .returned (.tuple #[]) ∧
      BopAt w' bo bb nx (who + 1) (onOut n (who + 1)) ∧ Only (S1 bo) w w' := by
  have c2 := h.c2
  have f2 := h.fz 2
  have hbo : bb ≠ bo := Blk.ne_ hb h (by decide)
  have P0 := hide (h.setWho (who + 1))
  have O0 := hide ((Only.refl (S1 bo) w).set1 2 rfl (.int .i64 (who + 1)))
  have B0 := hide (hb.only (only_set w bo 2 (.int .i64 (who + 1))) hbo)
  clear h hb
  go_enter Try.func79, Try.ntmps79
  go_wp2_with fail
  clear c2 f2
  generalize w.setCell ⟨bo, 2, none⟩ (.int .i64 (who + 1)) = w2 at *
  have c0 := P0.out.c0
  have c2 := P0.out.c2
  have c3 := P0.out.c3
  have f3 := P0.out.fz 3
  have g2 := B0.out.c2
  go_quiet (fail)
  by_cases he : who + 1 = n
  · have HR := hide (show onOut n (who + 1) = 4 by simp [onOut, he])
    have hb : ((who + 1) == n) = true := by simp [he]
    clear he
    go_wp2_with fail
    go_end0
    rw [HR.out]
    exact ⟨rfl, (P0.out.setOut 4).drewN _, (O0.out.set1 3 rfl (.int .i64 4)).drewN _⟩
  · have HR := hide (show onOut n (who + 1) = 0 by simp [onOut, he])
    have hb : ((who + 1) == n) = false := by simp [he]
    clear he
    go_wp2_with fail
    go_end0
    rw [HR.out]
    exact ⟨rfl, P0.out.drewN _, O0.out.drewN _⟩

set_option maxHeartbeats 1000000 in
set_option maxRecDepth 100000 in
theorem look_yes (hh : BStepAt w bo bb bm bc nx base n who tc L) (hv : at_ L (base + who) = 1) :
    Calls Try.prog 74 #[.pointer (some ⟨bo, 0, none⟩)] w fun e w' => e = .returned (.tuple #[]) ∧
      BopAt w' bo bb 78 who 0 ∧ MemAt w' bm bc L (tc + 1) ∧ Only (S3 bo bm bc) w w' := by
  have c0 := hh.op.c0
  have c2 := hh.op.c2
  have g0 := hh.bell.c0
  have g1 := hh.bell.c1
  have wg0 := hh.w0
  have wlt := hh.w1
  have n8 := hh.n8
  have b0 := hh.b0
  have b1 := hh.b1
  have HH := hide hh
  have hne : bo ≠ bm := Blk.ne_ hh.op hh.mem.mem (by decide)
  have hnc : bo ≠ bc := Blk.ne_ hh.op hh.mem.cells (by decide)
  have hbm : bb ≠ bm := Blk.ne_ hh.bell hh.mem.mem (by decide)
  have hbc : bb ≠ bc := Blk.ne_ hh.bell hh.mem.cells (by decide)
  have hbo : bb ≠ bo := Blk.ne_ hh.bell hh.op (by decide)
  clear hh
  have HV := hide hv
  clear hv
  go_enter Try.func74, Try.ntmps74
  go_wp2_with fail
  have z0 := (show BopAt w.drew bo bb nx who 0 from HH.out.op).c0
  have z2 := (show BopAt w.drew bo bb nx who 0 from HH.out.op).c2
  have y0 := (show BellAt w.drew bb bm base n from HH.out.bell).c0
  have y1 := (show BellAt w.drew bb bm base n from HH.out.bell).c1
  clear c0 c2 g0 g1
  have hwr : IntKind.i64.wrap (base + who) = base + who := IntWalk.i64_in _ (by omega)
  go_region_held3 (fun w' => w'.cell? ⟨bo, 0, none⟩ = some (.pointer (some ⟨bb, 0, none⟩)) ∧ w'.cell? ⟨bo, 2, none⟩ = some (.int .i64 who) ∧ w'.cell? ⟨bb, 0, none⟩ = some (.pointer (some ⟨bm, 0, none⟩)) ∧ w'.cell? ⟨bb, 1, none⟩ = some (.int .i64 base)) (first | exact ⟨z0, z2, y0, y1⟩ | exact ⟨k0, k2, j0, j1⟩) (first | (go_at_call 70; refine (Load_in (base + who) HH.out.mem.drew HH.out.few (by omega) (by have := HH.out.in_; omega)).mono ?_; rintro e w1 ⟨rfl, h1, o1⟩; rw [HV.out]; have HP1 := hide ((show BopAt w.drew bo bb nx who 0 from HH.out.op).only o1 (fun h => by unfold S1 at h; omega)); have HB1 := hide ((show BellAt w.drew bb bm base n from HH.out.bell).only o1 (fun h => by unfold S1 at h; omega)); have HM1 := hide h1; have HO1 := hide (((Only.refl (S3 bo bm bc) w).drew).trans (s3_of_s1 (bo := bo) (bc := bc) o1)); have k0 := HP1.out.c0; have k2 := HP1.out.c2; have j0 := HB1.out.c0; have j1 := HB1.out.c1; have k1 := HP1.out.c1; have f1 := HP1.out.fz 1; clear h1 o1))
  clear hwr z0 z2 y0 y1 k0 k2 j0 j1
  go_wp2_with fail
  refine bodyPost_ret (results_none rfl _ _ _) rfl ?_
  exact ⟨rfl, HP1.out.setNx _, HM1.out.only (only_set w1 bo 1 (.func (.func 78) #[] #[])) (fun e => hne e.symm) (fun e => hnc e.symm), HO1.out.set1 1 (.inl rfl) _⟩
set_option maxHeartbeats 1000000 in
set_option maxRecDepth 100000 in
theorem look_no (hh : BStepAt w bo bb bm bc nx base n who tc L) (hv : at_ L (base + who) ≠ 1) :
    Calls Try.prog 74 #[.pointer (some ⟨bo, 0, none⟩)] w fun e w' => e = .returned (.tuple #[]) ∧
      BopAt w' bo bb nx (who + 1) (onOut n (who + 1)) ∧ MemAt w' bm bc L (tc + 1) ∧ Only (S3 bo bm bc) w w' := by
  have c0 := hh.op.c0
  have c2 := hh.op.c2
  have g0 := hh.bell.c0
  have g1 := hh.bell.c1
  have wg0 := hh.w0
  have wlt := hh.w1
  have n8 := hh.n8
  have b0 := hh.b0
  have b1 := hh.b1
  have HH := hide hh
  have hne : bo ≠ bm := Blk.ne_ hh.op hh.mem.mem (by decide)
  have hnc : bo ≠ bc := Blk.ne_ hh.op hh.mem.cells (by decide)
  have hbm : bb ≠ bm := Blk.ne_ hh.bell hh.mem.mem (by decide)
  have hbc : bb ≠ bc := Blk.ne_ hh.bell hh.mem.cells (by decide)
  have hbo : bb ≠ bo := Blk.ne_ hh.bell hh.op (by decide)
  clear hh
  have HV := hide hv
  have hb : (at_ L (base + who) == 1) = false := by simp [hv]
  clear hv
  go_enter Try.func74, Try.ntmps74
  go_wp2_with fail
  have z0 := (show BopAt w.drew bo bb nx who 0 from HH.out.op).c0
  have z2 := (show BopAt w.drew bo bb nx who 0 from HH.out.op).c2
  have y0 := (show BellAt w.drew bb bm base n from HH.out.bell).c0
  have y1 := (show BellAt w.drew bb bm base n from HH.out.bell).c1
  clear c0 c2 g0 g1
  have hwr : IntKind.i64.wrap (base + who) = base + who := IntWalk.i64_in _ (by omega)
  go_region_held3 (fun w' => w'.cell? ⟨bo, 0, none⟩ = some (.pointer (some ⟨bb, 0, none⟩)) ∧ w'.cell? ⟨bo, 2, none⟩ = some (.int .i64 who) ∧ w'.cell? ⟨bb, 0, none⟩ = some (.pointer (some ⟨bm, 0, none⟩)) ∧ w'.cell? ⟨bb, 1, none⟩ = some (.int .i64 base)) (first | exact ⟨z0, z2, y0, y1⟩ | exact ⟨k0, k2, j0, j1⟩) (first | (go_at_call 70; refine (Load_in (base + who) HH.out.mem.drew HH.out.few (by omega) (by have := HH.out.in_; omega)).mono ?_; rintro e w1 ⟨rfl, h1, o1⟩; generalize at_ L (base + who) = vv at hb; have HP1 := hide ((show BopAt w.drew bo bb nx who 0 from HH.out.op).only o1 (fun h => by unfold S1 at h; omega)); have HB1 := hide ((show BellAt w.drew bb bm base n from HH.out.bell).only o1 (fun h => by unfold S1 at h; omega)); have HM1 := hide h1; have HO1 := hide (((Only.refl (S3 bo bm bc) w).drew).trans (s3_of_s1 (bo := bo) (bc := bc) o1)); have k0 := HP1.out.c0; have k2 := HP1.out.c2; have j0 := HB1.out.c0; have j1 := HB1.out.c1; skip; clear h1 o1))
  clear hwr z0 z2 y0 y1 k0 k2 j0 j1
  go_wp2_with fail
  refine (on_any HP1.out HB1.out wg0 wlt n8).mono ?_
  rintro e w2 ⟨rfl, h2, o2⟩
  have H2 := hide h2
  have HM2 := hide (HM1.out.only o2 (fun e => hne e.symm) (fun e => hnc e.symm))
  have HO2 := hide (HO1.out.trans (o2.mono fun k hk => .inl hk))
  clear h2 o2
  go_wp2_with fail
  go_end0
  exact ⟨rfl, H2.out, HM2.out, HO2.out⟩
set_option maxHeartbeats 1000000 in
set_option maxRecDepth 100000 in
theorem rouse_yes (hh : BStepAt w bo bb bm bc nx base n who tc L) (hv : at_ L (base + who) = 1) :
    Calls Try.prog 78 #[.pointer (some ⟨bo, 0, none⟩)] w fun e w' => e = .returned (.tuple #[]) ∧
      BopAt w' bo bb nx who 7 ∧ MemAt w' bm bc (L.set (base + who).toNat 0) (tc + 1) ∧ Only (S3 bo bm bc) w w' := by
  have c0 := hh.op.c0
  have c2 := hh.op.c2
  have g0 := hh.bell.c0
  have g1 := hh.bell.c1
  have wg0 := hh.w0
  have wlt := hh.w1
  have n8 := hh.n8
  have b0 := hh.b0
  have b1 := hh.b1
  have HH := hide hh
  have hne : bo ≠ bm := Blk.ne_ hh.op hh.mem.mem (by decide)
  have hnc : bo ≠ bc := Blk.ne_ hh.op hh.mem.cells (by decide)
  have hbm : bb ≠ bm := Blk.ne_ hh.bell hh.mem.mem (by decide)
  have hbc : bb ≠ bc := Blk.ne_ hh.bell hh.mem.cells (by decide)
  have hbo : bb ≠ bo := Blk.ne_ hh.bell hh.op (by decide)
  clear hh
  have HV := hide hv
  clear hv
  go_enter Try.func78, Try.ntmps78
  go_wp2_with fail
  have z0 := (show BopAt w.drew bo bb nx who 0 from HH.out.op).c0
  have z2 := (show BopAt w.drew bo bb nx who 0 from HH.out.op).c2
  have y0 := (show BellAt w.drew bb bm base n from HH.out.bell).c0
  have y1 := (show BellAt w.drew bb bm base n from HH.out.bell).c1
  clear c0 c2 g0 g1
  have hwr : IntKind.i64.wrap (base + who) = base + who := IntWalk.i64_in _ (by omega)
  go_region_held3 (fun w' => w'.cell? ⟨bo, 0, none⟩ = some (.pointer (some ⟨bb, 0, none⟩)) ∧ w'.cell? ⟨bo, 2, none⟩ = some (.int .i64 who) ∧ w'.cell? ⟨bb, 0, none⟩ = some (.pointer (some ⟨bm, 0, none⟩)) ∧ w'.cell? ⟨bb, 1, none⟩ = some (.int .i64 base)) (first | exact ⟨z0, z2, y0, y1⟩ | exact ⟨k0, k2, j0, j1⟩) (first | (go_at_call 84; refine (Swap_yes (base + who) 1 0 HH.out.mem.drew HH.out.few (by omega) (by have := HH.out.in_; omega) HV.out).mono ?_; rintro e w1 ⟨rfl, h1, o1⟩; have HP1 := hide ((show BopAt w.drew bo bb nx who 0 from HH.out.op).only o1 (fun h => by unfold S2 at h; omega)); have HB1 := hide ((show BellAt w.drew bb bm base n from HH.out.bell).only o1 (fun h => by unfold S2 at h; omega)); have HM1 := hide h1; have HO1 := hide (((Only.refl (S3 bo bm bc) w).drew).trans (s3_of_s2 (bo := bo) o1)); have k0 := HP1.out.c0; have k2 := HP1.out.c2; have j0 := HB1.out.c0; have j1 := HB1.out.c1; have k3 := HP1.out.c3; have f3 := HP1.out.fz 3; clear h1 o1))
  clear hwr z0 z2 y0 y1 k0 k2 j0 j1
  go_wp2_with fail
  refine bodyPost_ret (results_none rfl _ _ _) rfl ?_
  exact ⟨rfl, HP1.out.setOut 7, HM1.out.only (only_set w1 bo 3 (.int .i64 7)) (fun e => hne e.symm) (fun e => hnc e.symm), HO1.out.set1 3 (.inl rfl) (.int .i64 7)⟩
set_option maxHeartbeats 1000000 in
set_option maxRecDepth 100000 in
theorem rouse_no (hh : BStepAt w bo bb bm bc nx base n who tc L) (hv : at_ L (base + who) ≠ 1) :
    Calls Try.prog 78 #[.pointer (some ⟨bo, 0, none⟩)] w fun e w' => e = .returned (.tuple #[]) ∧
      BopAt w' bo bb 74 (who + 1) (onOut n (who + 1)) ∧ MemAt w' bm bc L (tc + 1) ∧ Only (S3 bo bm bc) w w' := by
  have c0 := hh.op.c0
  have c2 := hh.op.c2
  have g0 := hh.bell.c0
  have g1 := hh.bell.c1
  have wg0 := hh.w0
  have wlt := hh.w1
  have n8 := hh.n8
  have b0 := hh.b0
  have b1 := hh.b1
  have HH := hide hh
  have hne : bo ≠ bm := Blk.ne_ hh.op hh.mem.mem (by decide)
  have hnc : bo ≠ bc := Blk.ne_ hh.op hh.mem.cells (by decide)
  have hbm : bb ≠ bm := Blk.ne_ hh.bell hh.mem.mem (by decide)
  have hbc : bb ≠ bc := Blk.ne_ hh.bell hh.mem.cells (by decide)
  have hbo : bb ≠ bo := Blk.ne_ hh.bell hh.op (by decide)
  clear hh
  have HV := hide hv
  clear hv
  go_enter Try.func78, Try.ntmps78
  go_wp2_with fail
  have z0 := (show BopAt w.drew bo bb nx who 0 from HH.out.op).c0
  have z2 := (show BopAt w.drew bo bb nx who 0 from HH.out.op).c2
  have y0 := (show BellAt w.drew bb bm base n from HH.out.bell).c0
  have y1 := (show BellAt w.drew bb bm base n from HH.out.bell).c1
  clear c0 c2 g0 g1
  have hwr : IntKind.i64.wrap (base + who) = base + who := IntWalk.i64_in _ (by omega)
  go_region_held3 (fun w' => w'.cell? ⟨bo, 0, none⟩ = some (.pointer (some ⟨bb, 0, none⟩)) ∧ w'.cell? ⟨bo, 2, none⟩ = some (.int .i64 who) ∧ w'.cell? ⟨bb, 0, none⟩ = some (.pointer (some ⟨bm, 0, none⟩)) ∧ w'.cell? ⟨bb, 1, none⟩ = some (.int .i64 base)) (first | exact ⟨z0, z2, y0, y1⟩ | exact ⟨k0, k2, j0, j1⟩) (first | (go_at_call 84; refine (Swap_no (base + who) 1 0 HH.out.mem.drew HH.out.few (by omega) (by have := HH.out.in_; omega) HV.out).mono ?_; rintro e w1 ⟨rfl, h1, o1⟩; have HP1 := hide ((show BopAt w.drew bo bb nx who 0 from HH.out.op).only o1 (fun h => by unfold S1 at h; omega)); have HB1 := hide ((show BellAt w.drew bb bm base n from HH.out.bell).only o1 (fun h => by unfold S1 at h; omega)); have HM1 := hide h1; have HO1 := hide (((Only.refl (S3 bo bm bc) w).drew).trans (s3_of_s1 (bo := bo) (bc := bc) o1)); have k0 := HP1.out.c0; have k2 := HP1.out.c2; have j0 := HB1.out.c0; have j1 := HB1.out.c1; have k1 := HP1.out.c1; have f1 := HP1.out.fz 1; clear h1 o1))
  clear hwr z0 z2 y0 y1 k0 k2 j0 j1
  go_wp2_with fail
  have HP2 := hide (HP1.out.setNx 74)
  have HB2 := hide (HB1.out.only (only_set w1 bo 1 (.func (.func 74) #[] #[])) hbo)
  have HM2 := hide (HM1.out.only (only_set w1 bo 1 (.func (.func 74) #[] #[])) (fun e => hne e.symm) (fun e => hnc e.symm))
  have HO2 := hide (HO1.out.set1 1 (.inl rfl) (.func (.func 74) #[] #[]))
  clear k1 f1
  refine (on_any HP2.out HB2.out wg0 wlt n8).mono ?_
  rintro e w2 ⟨rfl, h2, o2⟩
  have H2 := hide h2
  have HM3 := hide (HM2.out.only o2 (fun e => hne e.symm) (fun e => hnc e.symm))
  have HO3 := hide (HO2.out.trans (o2.mono fun k hk => .inl hk))
  clear h2 o2
  go_wp2_with fail
  go_end0
  exact ⟨rfl, H2.out, HM3.out, HO3.out⟩

theorem BStep_over (h : BopAt w bo bb nx who out) (ho : out ≠ 0) : Calls Try.prog 113 #[.pointer (some ⟨bo, 0, none⟩)] w fun e w' => e = .returned (.bool true) ∧ w = w' := by
  go_enter Try.func113, Try.ntmps113
  go_wp2_with fail
  refine (BOver_over h ho).mono ?_
  rintro e w' ⟨rfl, rfl⟩
  go_wp2_with fail
  refine (BOver_over h ho).mono ?_
  rintro e w' ⟨rfl, rfl⟩
  go_wp2_with fail
  go_ret
  exact ⟨rfl, rfl⟩
/-- A step, by what its next function does. -/
theorem BStep_sleep {nx' : Nat} {who' out' tc' : Int} {L' : List Int} (h : BopAt w bo bb 67 who 0)
    (hc : Calls Try.prog 67 #[.pointer (some ⟨bo, 0, none⟩)] w fun e w' => e = .returned (.tuple #[]) ∧ BopAt w' bo bb nx' who' out' ∧ MemAt w' bm bc L' tc' ∧ Only (S3 bo bm bc) w w') :
    Calls Try.prog 113 #[.pointer (some ⟨bo, 0, none⟩)] w fun e w' => e = .returned (.bool (out' != 0)) ∧ BopAt w' bo bb nx' who' out' ∧ MemAt w' bm bc L' tc' ∧ Only (S3 bo bm bc) w w' := by
  have c1 := h.c1
  have HC := Lib.hid hc
  have H := hide h
  clear hc h
  go_enter Try.func113, Try.ntmps113
  go_wp2_with fail
  refine (BOver_pend H.out).mono ?_
  rintro e w' ⟨rfl, rfl⟩
  go_wp2_with fail
  refine HC.out.mono ?_
  rintro e w1 ⟨rfl, h1, h2, h3⟩
  have H1 := hide h1
  have H2 := hide h2
  have H3 := hide h3
  clear h1 h2 h3 c1
  go_wp2_with fail
  by_cases h0 : out' = 0
  · subst h0
    refine (BOver_pend H1.out).mono ?_
    rintro e w' ⟨rfl, rfl⟩
    go_wp2_with fail
    go_ret
    exact ⟨rfl, H1.out, H2.out, H3.out⟩
  · have hb : (out' != 0) = true := by simp [h0]
    refine (BOver_over H1.out h0).mono ?_
    rintro e w' ⟨rfl, rfl⟩
    go_wp2_with fail
    go_ret
    rw [hb]
    exact ⟨rfl, H1.out, H2.out, H3.out⟩
theorem BStep_poll {nx' : Nat} {who' out' tc' : Int} {L' : List Int} (h : BopAt w bo bb 69 who 0)
    (hc : Calls Try.prog 69 #[.pointer (some ⟨bo, 0, none⟩)] w fun e w' => e = .returned (.tuple #[]) ∧ BopAt w' bo bb nx' who' out' ∧ MemAt w' bm bc L' tc' ∧ Only (S3 bo bm bc) w w') :
    Calls Try.prog 113 #[.pointer (some ⟨bo, 0, none⟩)] w fun e w' => e = .returned (.bool (out' != 0)) ∧ BopAt w' bo bb nx' who' out' ∧ MemAt w' bm bc L' tc' ∧ Only (S3 bo bm bc) w w' := by
  have c1 := h.c1
  have HC := Lib.hid hc
  have H := hide h
  clear hc h
  go_enter Try.func113, Try.ntmps113
  go_wp2_with fail
  refine (BOver_pend H.out).mono ?_
  rintro e w' ⟨rfl, rfl⟩
  go_wp2_with fail
  refine HC.out.mono ?_
  rintro e w1 ⟨rfl, h1, h2, h3⟩
  have H1 := hide h1
  have H2 := hide h2
  have H3 := hide h3
  clear h1 h2 h3 c1
  go_wp2_with fail
  by_cases h0 : out' = 0
  · subst h0
    refine (BOver_pend H1.out).mono ?_
    rintro e w' ⟨rfl, rfl⟩
    go_wp2_with fail
    go_ret
    exact ⟨rfl, H1.out, H2.out, H3.out⟩
  · have hb : (out' != 0) = true := by simp [h0]
    refine (BOver_over H1.out h0).mono ?_
    rintro e w' ⟨rfl, rfl⟩
    go_wp2_with fail
    go_ret
    rw [hb]
    exact ⟨rfl, H1.out, H2.out, H3.out⟩
theorem BStep_look {nx' : Nat} {who' out' tc' : Int} {L' : List Int} (h : BopAt w bo bb 74 who 0)
    (hc : Calls Try.prog 74 #[.pointer (some ⟨bo, 0, none⟩)] w fun e w' => e = .returned (.tuple #[]) ∧ BopAt w' bo bb nx' who' out' ∧ MemAt w' bm bc L' tc' ∧ Only (S3 bo bm bc) w w') :
    Calls Try.prog 113 #[.pointer (some ⟨bo, 0, none⟩)] w fun e w' => e = .returned (.bool (out' != 0)) ∧ BopAt w' bo bb nx' who' out' ∧ MemAt w' bm bc L' tc' ∧ Only (S3 bo bm bc) w w' := by
  have c1 := h.c1
  have HC := Lib.hid hc
  have H := hide h
  clear hc h
  go_enter Try.func113, Try.ntmps113
  go_wp2_with fail
  refine (BOver_pend H.out).mono ?_
  rintro e w' ⟨rfl, rfl⟩
  go_wp2_with fail
  refine HC.out.mono ?_
  rintro e w1 ⟨rfl, h1, h2, h3⟩
  have H1 := hide h1
  have H2 := hide h2
  have H3 := hide h3
  clear h1 h2 h3 c1
  go_wp2_with fail
  by_cases h0 : out' = 0
  · subst h0
    refine (BOver_pend H1.out).mono ?_
    rintro e w' ⟨rfl, rfl⟩
    go_wp2_with fail
    go_ret
    exact ⟨rfl, H1.out, H2.out, H3.out⟩
  · have hb : (out' != 0) = true := by simp [h0]
    refine (BOver_over H1.out h0).mono ?_
    rintro e w' ⟨rfl, rfl⟩
    go_wp2_with fail
    go_ret
    rw [hb]
    exact ⟨rfl, H1.out, H2.out, H3.out⟩
theorem BStep_rouse {nx' : Nat} {who' out' tc' : Int} {L' : List Int} (h : BopAt w bo bb 78 who 0)
    (hc : Calls Try.prog 78 #[.pointer (some ⟨bo, 0, none⟩)] w fun e w' => e = .returned (.tuple #[]) ∧ BopAt w' bo bb nx' who' out' ∧ MemAt w' bm bc L' tc' ∧ Only (S3 bo bm bc) w w') :
    Calls Try.prog 113 #[.pointer (some ⟨bo, 0, none⟩)] w fun e w' => e = .returned (.bool (out' != 0)) ∧ BopAt w' bo bb nx' who' out' ∧ MemAt w' bm bc L' tc' ∧ Only (S3 bo bm bc) w w' := by
  have c1 := h.c1
  have HC := Lib.hid hc
  have H := hide h
  clear hc h
  go_enter Try.func113, Try.ntmps113
  go_wp2_with fail
  refine (BOver_pend H.out).mono ?_
  rintro e w' ⟨rfl, rfl⟩
  go_wp2_with fail
  refine HC.out.mono ?_
  rintro e w1 ⟨rfl, h1, h2, h3⟩
  have H1 := hide h1
  have H2 := hide h2
  have H3 := hide h3
  clear h1 h2 h3 c1
  go_wp2_with fail
  by_cases h0 : out' = 0
  · subst h0
    refine (BOver_pend H1.out).mono ?_
    rintro e w' ⟨rfl, rfl⟩
    go_wp2_with fail
    go_ret
    exact ⟨rfl, H1.out, H2.out, H3.out⟩
  · have hb : (out' != 0) = true := by simp [h0]
    refine (BOver_over H1.out h0).mono ?_
    rintro e w' ⟨rfl, rfl⟩
    go_wp2_with fail
    go_ret
    rw [hb]
    exact ⟨rfl, H1.out, H2.out, H3.out⟩
theorem BStep_up {nx' : Nat} {who' out' tc' : Int} {L' : List Int} (h : BopAt w bo bb 68 who 0)
    (hc : Calls Try.prog 68 #[.pointer (some ⟨bo, 0, none⟩)] w fun e w' => e = .returned (.tuple #[]) ∧ BopAt w' bo bb nx' who' out' ∧ MemAt w' bm bc L' tc' ∧ Only (S3 bo bm bc) w w') :
    Calls Try.prog 113 #[.pointer (some ⟨bo, 0, none⟩)] w fun e w' => e = .returned (.bool (out' != 0)) ∧ BopAt w' bo bb nx' who' out' ∧ MemAt w' bm bc L' tc' ∧ Only (S3 bo bm bc) w w' := by
  have c1 := h.c1
  have HC := Lib.hid hc
  have H := hide h
  clear hc h
  go_enter Try.func113, Try.ntmps113
  go_wp2_with fail
  refine (BOver_pend H.out).mono ?_
  rintro e w' ⟨rfl, rfl⟩
  go_wp2_with fail
  refine HC.out.mono ?_
  rintro e w1 ⟨rfl, h1, h2, h3⟩
  have H1 := hide h1
  have H2 := hide h2
  have H3 := hide h3
  clear h1 h2 h3 c1
  go_wp2_with fail
  by_cases h0 : out' = 0
  · subst h0
    refine (BOver_pend H1.out).mono ?_
    rintro e w' ⟨rfl, rfl⟩
    go_wp2_with fail
    go_ret
    exact ⟨rfl, H1.out, H2.out, H3.out⟩
  · have hb : (out' != 0) = true := by simp [h0]
    refine (BOver_over H1.out h0).mono ?_
    rintro e w' ⟨rfl, rfl⟩
    go_wp2_with fail
    go_ret
    rw [hb]
    exact ⟨rfl, H1.out, H2.out, H3.out⟩
end
end Go.Proofs.Ytdoaipjdldknaaa
/-
  Package bell: a step as one function of the cells and the operation; operations done at once; Size and Make.
-/
namespace Go.Proofs.Ytdoaipjdldknaaa
open Go.RowKit
set_option linter.unusedVariables false

/-- An operation: which function is next, which worker, the outcome. -/
structure Bop where
  k : Nat
  who : Int
  out : Int
/-- The function that is next. -/
def nxF (k : Nat) : Nat := if k = 0 then 67 else if k = 1 then 68 else if k = 2 then 69 else if k = 3 then 74 else 78
/-- One step: the cells and the operation behind it. -/
def bstep (base n : Int) (L : List Int) (o : Bop) : List Int × Bop :=
  if o.out ≠ 0 then (L, o)
  else if o.k = 0 then (L.set (base + o.who).toNat 1, { o with out := 1 })
  else if o.k = 1 then (L.set (base + o.who).toNat 0, { o with out := 1 })
  else if o.k = 2 then (L, { o with out := pollOut (at_ L (base + o.who)) })
  else if o.k = 3 then (if at_ L (base + o.who) = 1 then (L, { o with k := 4 }) else (L, { o with who := o.who + 1, out := onOut n (o.who + 1) }))
  else if at_ L (base + o.who) = 1 then (L.set (base + o.who).toNat 0, { o with out := 7 }) else (L, { k := 3, who := o.who + 1, out := onOut n (o.who + 1) })
def btick (o : Bop) : Int := if o.out ≠ 0 then 0 else 1
/-- An operation that fits. -/
structure BopOk (n : Int) (o : Bop) : Prop where
  k : o.k = 0 ∨ o.k = 1 ∨ o.k = 2 ∨ o.k = 3 ∨ o.k = 4
  w0 : o.out = 0 → 0 ≤ o.who
  w1 : o.out = 0 → o.who < n
def BopIs (w : World) (bo bb : Nat) (o : Bop) : Prop := BopAt w bo bb (nxF o.k) o.who o.out

/-- A bell and its memory. -/
structure BellEnv (w : World) (bb bm bc : Nat) (base n tc : Int) (L : List Int) : Prop where
  bell : BellAt w bb bm base n
  mem : MemAt w bm bc L tc
  few : Few tc
  n1 : 1 ≤ n
  n8 : n ≤ 8
  b0 : 0 ≤ base
  b1 : base ≤ 70000
  in_ : base + n ≤ L.length

theorem bstep_len (base n : Int) (L : List Int) (o : Bop) : (bstep base n L o).1.length = L.length := by
  unfold bstep
  (repeat' split) <;> simp
theorem onOut_lt {n x : Int} (h : onOut n (x + 1) = 0) (hx : x < n) : x + 1 < n := by
  unfold onOut at h
  split at h
  · cases h
  · omega
theorem bstep_ok (base n : Int) (L : List Int) (o : Bop) (ho : BopOk n o) : BopOk n (bstep base n L o).2 := by
  unfold bstep
  split
  · exact ho
  rename_i h0
  simp only [ne_eq, Decidable.not_not] at h0
  have w0 := ho.w0 h0
  have w1 := ho.w1 h0
  (repeat' split)
  · exact ⟨ho.k, fun _ => w0, fun _ => w1⟩
  · exact ⟨ho.k, fun _ => w0, fun _ => w1⟩
  · exact ⟨ho.k, fun _ => w0, fun _ => w1⟩
  · exact ⟨by simp, fun _ => w0, fun _ => w1⟩
  · exact ⟨ho.k, fun _ => by show 0 ≤ o.who + 1; omega, fun h => onOut_lt h w1⟩
  · exact ⟨ho.k, fun _ => w0, fun _ => w1⟩
  · exact ⟨by simp, fun _ => by show 0 ≤ o.who + 1; omega, fun h => onOut_lt h w1⟩

section
variable {w : World} {bo bb bm bc : Nat} {base n tc : Int} {L : List Int} {o : Bop}
theorem BellEnv.next {w' : World} (h : BellEnv w bb bm bc base n tc L) {L' : List Int} {tc' : Int} (hm : MemAt w' bm bc L' tc') (hf : Few tc') (hl : L'.length = L.length) (hg : BellAt w' bb bm base n) : BellEnv w' bb bm bc base n tc' L' :=
  ⟨hg, hm, hf, h.n1, h.n8, h.b0, h.b1, by rw [hl]; exact h.in_⟩
theorem BellEnv.only {w' : World} {S : Nat → Prop} (he : BellEnv w bb bm bc base n tc L) (ho : Only S w w') (h1 : ¬ S bb) (h2 : ¬ S bm) (h3 : ¬ S bc) : BellEnv w' bb bm bc base n tc L :=
  ⟨he.bell.only ho h1, he.mem.only ho h2 h3, he.few, he.n1, he.n8, he.b0, he.b1, he.in_⟩
theorem BellEnv.only0 {w' : World} (he : BellEnv w bb bm bc base n tc L) (ho : Only S0 w w') : BellEnv w' bb bm bc base n tc L := he.only ho (fun h => h) (fun h => h) (fun h => h)
theorem BopIs.only {w' : World} {S : Nat → Prop} (h : BopIs w bo bb o) (ho : Only S w w') (h1 : ¬ S bo) : BopIs w' bo bb o := BopAt.only h ho h1

/-- A step of a bell's operation. -/
theorem BStep_all (he : BellEnv w bb bm bc base n tc L) (ho : BopOk n o) (h : BopIs w bo bb o) (hf : Few (tc + 1)) :
    Calls Try.prog 113 #[.pointer (some ⟨bo, 0, none⟩)] w fun e w' => e = .returned (.bool ((bstep base n L o).2.out != 0)) ∧ BopIs w' bo bb (bstep base n L o).2 ∧
      BellEnv w' bb bm bc base n (tc + btick o) (bstep base n L o).1 ∧ Only (S3 bo bm bc) w w' := by
  have hne : bb ≠ bo := Blk.ne_ he.bell h (by decide)
  have hnm : bb ≠ bm := Blk.ne_ he.bell he.mem.mem (by decide)
  have hnc : bb ≠ bc := Blk.ne_ he.bell he.mem.cells (by decide)
  have hS : ¬ S3 bo bm bc bb := fun k => by unfold S3 at k; omega
  have hl := bstep_len base n L o
  by_cases h0 : o.out = 0
  · have hS2 : ∀ {k}, o.k = k → BStepAt w bo bb bm bc (nxF k) base n o.who tc L := by
      intro k hk
      refine ⟨?_, he.bell, he.mem, he.few, ho.w0 h0, ho.w1 h0, he.n8, he.b0, he.b1, he.in_⟩
      unfold BopIs at h
      rw [h0, hk] at h
      exact h
    have htk : btick o = 1 := by simp [btick, h0]
    rw [htk]
    rcases ho.k with hp | hp | hp | hp | hp
    · have hg : bstep base n L o = (L.set (base + o.who).toNat 1, { o with out := 1 }) := by simp [bstep, h0, hp]
      rw [hg] at hl ⊢
      refine (BStep_sleep (hS2 hp).op (sleep1_any (hS2 hp))).mono ?_
      rintro e w' ⟨rfl, h1, h2, h3⟩
      refine ⟨rfl, ?_, he.next h2 hf hl (he.bell.only h3 hS), h3⟩
      unfold BopIs
      rw [hp]
      exact h1
    · have hg : bstep base n L o = (L.set (base + o.who).toNat 0, { o with out := 1 }) := by simp [bstep, h0, hp]
      rw [hg] at hl ⊢
      refine (BStep_up (hS2 hp).op (up1_any (hS2 hp))).mono ?_
      rintro e w' ⟨rfl, h1, h2, h3⟩
      refine ⟨rfl, ?_, he.next h2 hf hl (he.bell.only h3 hS), h3⟩
      unfold BopIs
      rw [hp]
      exact h1
    · have hg : bstep base n L o = (L, { o with out := pollOut (at_ L (base + o.who)) }) := by simp [bstep, h0, hp]
      rw [hg] at hl ⊢
      refine (BStep_poll (hS2 hp).op (poll1_any (hS2 hp))).mono ?_
      rintro e w' ⟨rfl, h1, h2, h3⟩
      refine ⟨rfl, ?_, he.next h2 hf hl (he.bell.only h3 hS), h3⟩
      unfold BopIs
      rw [hp]
      exact h1
    · by_cases hv : at_ L (base + o.who) = 1
      · have hg : bstep base n L o = (L, { o with k := 4 }) := by simp [bstep, h0, hp, hv]
        rw [hg] at hl ⊢
        refine (BStep_look (hS2 hp).op (look_yes (hS2 hp) hv)).mono ?_
        rintro e w' ⟨rfl, h1, h2, h3⟩
        refine ⟨by simp [h0], ?_, he.next h2 hf hl (he.bell.only h3 hS), h3⟩
        unfold BopIs
        rw [h0]
        exact h1
      · have hg : bstep base n L o = (L, { o with who := o.who + 1, out := onOut n (o.who + 1) }) := by simp [bstep, h0, hp, hv]
        rw [hg] at hl ⊢
        refine (BStep_look (hS2 hp).op (look_no (hS2 hp) hv)).mono ?_
        rintro e w' ⟨rfl, h1, h2, h3⟩
        refine ⟨rfl, ?_, he.next h2 hf hl (he.bell.only h3 hS), h3⟩
        unfold BopIs
        rw [hp]
        exact h1
    · by_cases hv : at_ L (base + o.who) = 1
      · have hg : bstep base n L o = (L.set (base + o.who).toNat 0, { o with out := 7 }) := by simp [bstep, h0, hp, hv]
        rw [hg] at hl ⊢
        refine (BStep_rouse (hS2 hp).op (rouse_yes (hS2 hp) hv)).mono ?_
        rintro e w' ⟨rfl, h1, h2, h3⟩
        refine ⟨rfl, ?_, he.next h2 hf hl (he.bell.only h3 hS), h3⟩
        unfold BopIs
        rw [hp]
        exact h1
      · have hg : bstep base n L o = (L, { k := 3, who := o.who + 1, out := onOut n (o.who + 1) }) := by simp [bstep, h0, hp, hv]
        rw [hg] at hl ⊢
        refine (BStep_rouse (hS2 hp).op (rouse_no (hS2 hp) hv)).mono ?_
        rintro e w' ⟨rfl, h1, h2, h3⟩
        exact ⟨rfl, h1, he.next h2 hf hl (he.bell.only h3 hS), h3⟩
  · have hg : bstep base n L o = (L, o) := by simp [bstep, h0]
    have htk : btick o = 0 := by simp [btick, h0]
    rw [hg, htk]
    refine (BStep_over h h0).mono ?_
    rintro e w' ⟨rfl, rfl⟩
    have hb : (o.out != 0) = true := by simp [h0]
    refine ⟨by rw [hb], h, ?_, Only.refl _ _⟩
    rw [Int.add_zero]
    exact he

/-- An operation that is done at once: the cells, the operation, how many steps. -/
def bdone (base n : Int) : Nat → List Int → Bop → List Int × Bop × Nat
  | 0, L, o => (L, o, 0)
  | k + 1, L, o => if o.out ≠ 0 then (L, o, 0) else
    ((bdone base n k (bstep base n L o).1 (bstep base n L o).2).1, (bdone base n k (bstep base n L o).1 (bstep base n L o).2).2.1, (bdone base n k (bstep base n L o).1 (bstep base n L o).2).2.2 + 1)
theorem bdone_over (base n : Int) (k : Nat) (L : List Int) (o : Bop) (h : o.out ≠ 0) : bdone base n k L o = (L, o, 0) := by
  cases k <;> simp [bdone, h]
theorem bdone_succ (base n : Int) (k : Nat) (L : List Int) (o : Bop) (h : o.out = 0) : bdone base n (k + 1) L o =
    ((bdone base n k (bstep base n L o).1 (bstep base n L o).2).1, (bdone base n k (bstep base n L o).1 (bstep base n L o).2).2.1, (bdone base n k (bstep base n L o).1 (bstep base n L o).2).2.2 + 1) := by
  simp [bdone, h]
theorem bdone_cons {base n : Int} {k j : Nat} {L L1 L2 : List Int} {o o1 o2 : Bop} (h : o.out = 0) (hs : bstep base n L o = (L1, o1)) (hr : bdone base n k L1 o1 = (L2, o2, j)) :
    bdone base n (k + 1) L o = (L2, o2, j + 1) := by
  rw [bdone_succ _ _ _ _ _ h, hs, hr]
theorem BopIs.over0 (h : BopIs w bo bb o) (ho : o.out = 0) : Calls Try.prog 112 #[.pointer (some ⟨bo, 0, none⟩)] w fun e w' => e = .returned (.bool false) ∧ w = w' := by
  unfold BopIs at h
  rw [ho] at h
  exact BOver_pend h
theorem BopIs.over1 (h : BopIs w bo bb o) (ho : o.out ≠ 0) : Calls Try.prog 112 #[.pointer (some ⟨bo, 0, none⟩)] w fun e w' => e = .returned (.bool true) ∧ w = w' := BOver_over h ho
theorem BopIs.outcome (h : BopIs w bo bb o) : Calls Try.prog 54 #[.pointer (some ⟨bo, 0, none⟩)] w fun e w' => e = .returned (.int .i64 o.out) ∧ w = w' := BOutcome_any h
end
end Go.Proofs.Ytdoaipjdldknaaa
/-
  Package bell: Size and Make.
-/
namespace Go.Proofs.Ytdoaipjdldknaaa
open Go.RowKit
set_option linter.unusedVariables false

/-- How many cells a bell takes. -/
def bsize (n : Int) : Int := if 1 ≤ n ∧ n ≤ 8 then n else 0
theorem BSize_any (n : Int) (w : World) : Calls Try.prog 20 #[.int .i64 n] w fun e w' => e = .returned (.int .i64 (bsize n)) ∧ w = w' := by
  by_cases h : 1 ≤ n ∧ n ≤ 8
  · have hs : bsize n = n := by simp [bsize, h]
    rw [hs]
    obtain ⟨h1, h2⟩ := h
    clear hs
    go_enter Try.func20, Try.ntmps20
    go_wp2_with fail
    go_ret
    exact ⟨rfl, rfl⟩
  · have hs : bsize n = 0 := by simp [bsize, h]
    rw [hs]
    clear hs
    by_cases h1 : n < 1
    · clear h
      go_enter Try.func20, Try.ntmps20
      go_wp2_with fail
      go_ret
      exact ⟨rfl, rfl⟩
    · have h2 : 8 < n := by omega
      clear h
      go_enter Try.func20, Try.ntmps20
      go_wp2_with fail
      go_ret
      exact ⟨rfl, rfl⟩

theorem BMake_nil (base n : Int) (w : World) : Calls Try.prog 19 #[.pointer none, .int .i64 base, .int .i64 n] w fun e w' => e = .returned (.tuple #[.pointer none, .int .i64 1]) ∧ w = w' := by
  go_enter Try.func19, Try.ntmps19
  go_wp2_with fail
  refine (BSize_any n w).mono ?_
  rintro e w1 ⟨rfl, rfl⟩
  go_wp2_with fail
  go_ret2
  exact ⟨rfl, rfl⟩
section
variable {w : World} {bm bc : Nat} {L : List Int} {tc : Int}
theorem BMake_bad (base n : Int) (h : MemAt w bm bc L tc) (hb : bsize n = 0 ∨ base < 0 ∨ (L.length : Int) - bsize n < base) :
    Calls Try.prog 19 #[.pointer (some ⟨bm, 0, none⟩), .int .i64 base, .int .i64 n] w fun e w' => e = .returned (.tuple #[.pointer none, .int .i64 1]) ∧ w = w' := by
  obtain ⟨sz, hsz⟩ : ∃ sz, bsize n = sz := ⟨_, rfl⟩
  have hs0 : 0 ≤ sz ∧ sz ≤ 200 := by rw [← hsz]; unfold bsize; split <;> omega
  rw [hsz] at hb
  have HSZ := hide hsz
  have H := hide h
  obtain ⟨s1, s2⟩ := hs0
  have hl := h.len
  clear hsz h
  by_cases c1 : sz = 0
  · subst c1
    clear hb
    go_enter Try.func19, Try.ntmps19
    go_wp2_with fail
    refine (BSize_any n w).mono ?_
    rintro e w1 ⟨rfl, rfl⟩
    rw [HSZ.out]
    go_wp2_with fail
    go_ret2
    exact ⟨rfl, rfl⟩
  · have c1' : (sz == 0) = false := by simp [c1]
    by_cases c2 : base < 0
    · clear hb
      go_enter Try.func19, Try.ntmps19
      go_wp2_with fail
      refine (BSize_any n w).mono ?_
      rintro e w1 ⟨rfl, rfl⟩
      rw [HSZ.out]
      go_wp2_with fail
      go_ret2
      exact ⟨rfl, rfl⟩
    · have c3 : (L.length : Int) - sz < base := by omega
      clear hb
      go_enter Try.func19, Try.ntmps19
      go_wp2_with fail
      refine (BSize_any n w).mono ?_
      rintro e w1 ⟨rfl, rfl⟩
      rw [HSZ.out]
      go_wp2_with fail
      refine (Len_any H.out).mono ?_
      rintro e w1 ⟨rfl, rfl⟩
      go_wp2_with fail
      go_ret2
      exact ⟨rfl, rfl⟩

set_option maxHeartbeats 1000000 in
theorem BMake_good (b n : Nat) (h : MemAt w bm bc L tc) (hf : Few (tc + 200)) (h1 : 1 ≤ n) (h8 : n ≤ 8) (hin : b + n ≤ L.length) :
    Calls Try.prog 19 #[.pointer (some ⟨bm, 0, none⟩), .int .i64 b, .int .i64 n] w fun e w' => ∃ bb, e = .returned (.tuple #[.pointer (some ⟨bb, 0, none⟩), .int .i64 0]) ∧
      BellAt w' bb bm b n ∧ MemAt w' bm bc (zeroL L b n) (tc + (n : Nat)) ∧ Only (S2 bm bc) w w' ∧ w.heap.size ≤ bb := by
  have hn : bsize n = (n : Nat) := by unfold bsize; rw [if_pos (by omega)]
  have hl := h.len
  have hz2 : n ≤ 130 := by omega
  have c1 : ((n : Int) == 0) = false := by simp; omega
  have c3 : ¬ (L.length : Int) - (n : Int) < (b : Int) := by omega
  have HSZ := hide hn
  have H := hide h
  have HF := hide hf
  clear hn h hf
  go_enter Try.func19, Try.ntmps19
  go_wp2_with fail
  refine (BSize_any n w).mono ?_
  rintro e w1 ⟨rfl, rfl⟩
  rw [HSZ.out]
  go_wp2_with fail
  refine (Len_any H.out).mono ?_
  rintro e w1 ⟨rfl, rfl⟩
  go_wp2_with fail
  go_loopg [31] n (fun q iv wr => ∃ (k : Nat), q = n - k ∧ k ≤ n ∧ iv = .int .i64 k ∧ MemAt wr bm bc (zeroL L b k) (tc + k) ∧ Only (S2 bm bc) w wr)
  case atStart => exact ⟨0, rfl, Nat.zero_le _, rfl, by simpa [zeroL] using H.out, Only.refl _ _⟩
  case round =>
    obtain ⟨k, rfl, hk, rfl, hm, ho⟩ := hrel
    have HM := hide hm
    have HO := hide ho
    clear hm ho
    by_cases hlt : k < n
    · go_wp2_with fail
      refine (Store_in ((b : Int) + (k : Int)) 0 HM.out (HF.out.le_ (by omega)) (by omega) (by rw [zeroL_len]; omega)).mono ?_
      rintro e w2 ⟨rfl, h2, o2⟩
      rw [show ((b : Int) + (k : Int)).toNat = b + k by omega] at h2
      have H2 := hide h2
      have O2 := hide (HO.out.trans o2)
      clear h2 o2
      go_wp2_with fail
      go_roundg (n - (k + 1))
      case rel => exact ⟨k + 1, rfl, by omega, by go_num, by rw [show tc + ((k + 1 : Nat) : Int) = tc + k + 1 by omega]; exact H2.out, O2.out⟩
      case measure => omega
    · obtain rfl : k = n := by omega
      go_wp2_with fail
      go_ret2
      refine ⟨_, rfl, Blk.new _ _ _, ?_, HO.out.alloc _, HO.out.size⟩
      exact ⟨HM.out.mem.alloc _, HM.out.cells.alloc _, HM.out.len, HM.out.tc0⟩

theorem bok_new (k : Nat) (hk : k = 0 ∨ k = 1 ∨ k = 2 ∨ k = 3 ∨ k = 4) (n x : Int) : BopOk n ⟨k, x, bout0 n x⟩ := by
  refine ⟨hk, fun h => ?_, fun h => ?_⟩
  all_goals
    show _
    unfold bout0 at h
    by_cases c : 0 ≤ x ∧ x < n
    · first | exact c.1 | exact c.2
    · rw [if_neg c] at h; cases h
theorem BSleep_all (x : Int) {bb : Nat} {base n : Int} (he : BellEnv w bb bm bc base n tc L) : Calls Try.prog 44 #[.pointer (some ⟨bb, 0, none⟩), .int .i64 x] w fun e w' =>
    ∃ bo, e = .returned (.pointer (some ⟨bo, 0, none⟩)) ∧ BopIs w' bo bb ⟨0, x, bout0 n x⟩ ∧ BellEnv w' bb bm bc base n tc L ∧ Only S0 w w' ∧ w.heap.size ≤ bo := by
  refine (Sleep_any x he.bell).mono ?_
  rintro e w' ⟨bo, rfl, h1, h2, h3⟩
  exact ⟨bo, rfl, h1, he.only0 h2, h2, h3⟩
theorem BUp_all (x : Int) {bb : Nat} {base n : Int} (he : BellEnv w bb bm bc base n tc L) : Calls Try.prog 49 #[.pointer (some ⟨bb, 0, none⟩), .int .i64 x] w fun e w' =>
    ∃ bo, e = .returned (.pointer (some ⟨bo, 0, none⟩)) ∧ BopIs w' bo bb ⟨1, x, bout0 n x⟩ ∧ BellEnv w' bb bm bc base n tc L ∧ Only S0 w w' ∧ w.heap.size ≤ bo := by
  refine (Up_any x he.bell).mono ?_
  rintro e w' ⟨bo, rfl, h1, h2, h3⟩
  exact ⟨bo, rfl, h1, he.only0 h2, h2, h3⟩
theorem BPoll_all (x : Int) {bb : Nat} {base n : Int} (he : BellEnv w bb bm bc base n tc L) : Calls Try.prog 52 #[.pointer (some ⟨bb, 0, none⟩), .int .i64 x] w fun e w' =>
    ∃ bo, e = .returned (.pointer (some ⟨bo, 0, none⟩)) ∧ BopIs w' bo bb ⟨2, x, bout0 n x⟩ ∧ BellEnv w' bb bm bc base n tc L ∧ Only S0 w w' ∧ w.heap.size ≤ bo := by
  refine (Poll_any x he.bell).mono ?_
  rintro e w' ⟨bo, rfl, h1, h2, h3⟩
  exact ⟨bo, rfl, h1, he.only0 h2, h2, h3⟩
theorem BRing_all {bb : Nat} {base n : Int} (he : BellEnv w bb bm bc base n tc L) : Calls Try.prog 59 #[.pointer (some ⟨bb, 0, none⟩)] w fun e w' =>
    ∃ bo, e = .returned (.pointer (some ⟨bo, 0, none⟩)) ∧ BopIs w' bo bb ⟨3, 0, bout0 n 0⟩ ∧ BellEnv w' bb bm bc base n tc L ∧ Only S0 w w' ∧ w.heap.size ≤ bo := by
  refine (Ring_any he.bell).mono ?_
  rintro e w' ⟨bo, rfl, h1, h2, h3⟩
  exact ⟨bo, rfl, h1, he.only0 h2, h2, h3⟩
end
end Go.Proofs.Ytdoaipjdldknaaa
