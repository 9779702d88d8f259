/-
  Package bell: what each method does, said of the cells and of the operation's own fields.
-/
import Derived.Test.YtafnlmkhfonghaaCom
namespace Go.Proofs.Ytafnlmkhfonghaa
open Go.RowKit
set_option linter.unusedVariables false

/-- A function value without captures. -/
def fnV (f : Nat) : Value := .func (.func f) #[] #[]
/-- A bell: block bb. -/
def BellAt (w : World) (bb bm : Nat) (base n : Int) : Prop := Blk w bb 98 #[.pointer (some ⟨bm, 0, none⟩), .int .i64 base, .int .i64 n]
/-- An operation: its fields. -/
def BopAt (w : World) (bo bb nx : Nat) (who out : Int) : Prop :=
  Blk w bo 101 #[.pointer (some ⟨bb, 0, none⟩), .func (.func nx) #[] #[], .int .i64 who, .int .i64 out]

section
variable {w : World} {bo bb bm bc nx : Nat} {base n who out tc : Int} {L : List Int}
theorem BopAt.c0 (h : BopAt w bo bb nx who out) : w.cell? ⟨bo, 0, none⟩ = some (.pointer (some ⟨bb, 0, none⟩)) := Blk.cellv h rfl
theorem BopAt.c1 (h : BopAt w bo bb nx who out) : w.cell? ⟨bo, 1, none⟩ = some (.func (.func nx) #[] #[]) := Blk.cellv h rfl
theorem BopAt.c2 (h : BopAt w bo bb nx who out) : w.cell? ⟨bo, 2, none⟩ = some (.int .i64 who) := Blk.cellv h rfl
theorem BopAt.c3 (h : BopAt w bo bb nx who out) : w.cell? ⟨bo, 3, none⟩ = some (.int .i64 out) := Blk.cellv h rfl
theorem BopAt.fz (h : BopAt w bo bb nx who out) (i : Nat) : w.frozen? ⟨bo, i, none⟩ = false := Blk.frozen h i
theorem BellAt.c0 (h : BellAt w bb bm base n) : w.cell? ⟨bb, 0, none⟩ = some (.pointer (some ⟨bm, 0, none⟩)) := Blk.cellv h rfl
theorem BellAt.c1 (h : BellAt w bb bm base n) : w.cell? ⟨bb, 1, none⟩ = some (.int .i64 base) := Blk.cellv h rfl
theorem BellAt.c2 (h : BellAt w bb bm base n) : w.cell? ⟨bb, 2, none⟩ = some (.int .i64 n) := Blk.cellv h rfl
theorem BopAt.only {w' : World} {S : Nat → Prop} (h : BopAt w bo bb nx who out) (ho : Only S w w') (hs : ¬ S bo) : BopAt w' bo bb nx who out := Blk.only h ho hs
theorem BellAt.only {w' : World} {S : Nat → Prop} (h : BellAt w bb bm base n) (ho : Only S w w') (hs : ¬ S bb) : BellAt w' bb bm base n := Blk.only h ho hs
theorem BopAt.drewN (h : BopAt w bo bb nx who out) (q : Nat) : BopAt (w.drewN q) bo bb nx who out := h
theorem BellAt.drewN (h : BellAt w bb bm base n) (q : Nat) : BellAt (w.drewN q) bb bm base n := h
theorem BopAt.setNx (h : BopAt w bo bb nx who out) (x : Nat) : BopAt (w.setCell ⟨bo, 1, none⟩ (.func (.func x) #[] #[])) bo bb x who out := by simpa [BopAt] using Blk.set_ h 1 (.func (.func x) #[] #[])
theorem BopAt.setWho (h : BopAt w bo bb nx who out) (x : Int) : BopAt (w.setCell ⟨bo, 2, none⟩ (.int .i64 x)) bo bb nx x out := by simpa [BopAt] using Blk.set_ h 2 (.int .i64 x)
theorem BopAt.setOut (h : BopAt w bo bb nx who out) (x : Int) : BopAt (w.setCell ⟨bo, 3, none⟩ (.int .i64 x)) bo bb nx who x := by simpa [BopAt] using Blk.set_ h 3 (.int .i64 x)

theorem BOver_pend (h : BopAt w bo bb nx who 0) : Calls Try.prog 17 #[.pointer (some ⟨bo, 0, none⟩)] w fun e w' => e = .returned (.bool false) ∧ w = w' := by
  have c3 := h.c3
  clear h
  go_enter Try.func17, Try.ntmps17
  go_wp2_with fail
  go_ret
  exact ⟨rfl, rfl⟩
theorem BOver_over (h : BopAt w bo bb nx who out) (ho : out ≠ 0) : Calls Try.prog 17 #[.pointer (some ⟨bo, 0, none⟩)] w fun e w' => e = .returned (.bool true) ∧ w = w' := by
  have c3 := h.c3
  have hb : (out != 0) = true := by simp [ho]
  clear h ho
  go_enter Try.func17, Try.ntmps17
  go_wp2_with fail
  go_ret
  exact ⟨rfl, rfl⟩
theorem BOutcome_any (h : BopAt w bo bb nx who out) : Calls Try.prog 25 #[.pointer (some ⟨bo, 0, none⟩)] w fun e w' => e = .returned (.int .i64 out) ∧ w = w' := by
  have c3 := h.c3
  clear h
  go_enter Try.func25, Try.ntmps25
  go_wp2_with fail
  go_ret
  exact ⟨rfl, rfl⟩
/-- Who was roused. -/
def bwho (who out : Int) : Int := if out = 7 then who else -1
theorem BWho_any (h : BopAt w bo bb nx who out) : Calls Try.prog 23 #[.pointer (some ⟨bo, 0, none⟩)] w fun e w' => e = .returned (.int .i64 (bwho who out)) ∧ w = w' := by
  have c2 := h.c2
  have c3 := h.c3
  clear h
  by_cases ho : out = 7
  · have hv : bwho who out = who := by simp [bwho, ho]
    rw [hv]
    subst ho
    clear hv
    go_enter Try.func23, Try.ntmps23
    go_wp2_with fail
    go_ret
    exact ⟨rfl, rfl⟩
  · have hv : bwho who out = -1 := by simp [bwho, ho]
    rw [hv]
    have hb : (out != 7) = true := by simp [ho]
    clear hv ho
    go_enter Try.func23, Try.ntmps23
    go_wp2_with fail
    go_ret
    exact ⟨rfl, rfl⟩

/-- Is there such a worker? -/
def bout0 (n x : Int) : Int := if 0 ≤ x ∧ x < n then 0 else 4
theorem one_any (x : Int) (f : Nat) (h : BellAt w bb bm base n) : Calls Try.prog 53 #[.pointer (some ⟨bb, 0, none⟩), .int .i64 x, .func (.func f) #[] #[]] w fun e w' =>
    ∃ bo, e = .returned (.pointer (some ⟨bo, 0, none⟩)) ∧ BopAt w' bo bb f x (bout0 n x) ∧ Only S0 w w' ∧ w.heap.size ≤ bo := by
  have c2 := fun o => (Blk.alloc h o).cellv (i := 2) rfl
  clear h
  by_cases h0 : x < 0
  · have hv : bout0 n x = 4 := by unfold bout0; rw [if_neg (by omega)]
    rw [hv]
    clear hv
    go_enter Try.func53, Try.ntmps53
    go_wp2_with fail
    go_ret
    exact ⟨_, rfl, Blk.new _ _ _, (Only.refl _ _).alloc _, Nat.le_refl _⟩
  · replace h0 : 0 ≤ x := by omega
    by_cases h1 : n ≤ x
    · have hv : bout0 n x = 4 := by unfold bout0; rw [if_neg (by omega)]
      rw [hv]
      clear hv
      go_enter Try.func53, Try.ntmps53
      go_wp2_with fail
      go_ret
      exact ⟨_, rfl, Blk.new _ _ _, (Only.refl _ _).alloc _, Nat.le_refl _⟩
    · have hv : bout0 n x = 0 := by unfold bout0; rw [if_pos (by omega)]
      rw [hv]
      replace h1 : x < n := by omega
      clear hv
      go_enter Try.func53, Try.ntmps53
      go_wp2_with fail
      go_ret
      exact ⟨_, rfl, Blk.new _ _ _, (Only.refl _ _).alloc _, Nat.le_refl _⟩
theorem Sleep_any (x : Int) (h : BellAt w bb bm base n) : Calls Try.prog 15 #[.pointer (some ⟨bb, 0, none⟩), .int .i64 x] w fun e w' =>
    ∃ bo, e = .returned (.pointer (some ⟨bo, 0, none⟩)) ∧ BopAt w' bo bb 54 x (bout0 n x) ∧ Only S0 w w' ∧ w.heap.size ≤ bo := by
  go_enter Try.func15, Try.ntmps15
  go_wp2_with fail
  refine (one_any x 54 h).mono ?_
  rintro e w1 ⟨bo, rfl, h1, o1, b1⟩
  go_wp2_with fail
  go_ret
  exact ⟨bo, rfl, h1, o1, b1⟩
theorem Up_any (x : Int) (h : BellAt w bb bm base n) : Calls Try.prog 63 #[.pointer (some ⟨bb, 0, none⟩), .int .i64 x] w fun e w' =>
    ∃ bo, e = .returned (.pointer (some ⟨bo, 0, none⟩)) ∧ BopAt w' bo bb 73 x (bout0 n x) ∧ Only S0 w w' ∧ w.heap.size ≤ bo := by
  go_enter Try.func63, Try.ntmps63
  go_wp2_with fail
  refine (one_any x 73 h).mono ?_
  rintro e w1 ⟨bo, rfl, h1, o1, b1⟩
  go_wp2_with fail
  go_ret
  exact ⟨bo, rfl, h1, o1, b1⟩
theorem Poll_any (x : Int) (h : BellAt w bb bm base n) : Calls Try.prog 22 #[.pointer (some ⟨bb, 0, none⟩), .int .i64 x] w fun e w' =>
    ∃ bo, e = .returned (.pointer (some ⟨bo, 0, none⟩)) ∧ BopAt w' bo bb 57 x (bout0 n x) ∧ Only S0 w w' ∧ w.heap.size ≤ bo := by
  go_enter Try.func22, Try.ntmps22
  go_wp2_with fail
  refine (one_any x 57 h).mono ?_
  rintro e w1 ⟨bo, rfl, h1, o1, b1⟩
  go_wp2_with fail
  go_ret
  exact ⟨bo, rfl, h1, o1, b1⟩
theorem Ring_any (h : BellAt w bb bm base n) : Calls Try.prog 16 #[.pointer (some ⟨bb, 0, none⟩)] w fun e w' =>
    ∃ bo, e = .returned (.pointer (some ⟨bo, 0, none⟩)) ∧ BopAt w' bo bb 55 0 (bout0 n 0) ∧ Only S0 w w' ∧ w.heap.size ≤ bo := by
  go_enter Try.func16, Try.ntmps16
  go_wp2_with fail
  refine (one_any 0 55 h).mono ?_
  rintro e w1 ⟨bo, rfl, h1, o1, b1⟩
  go_wp2_with fail
  go_ret
  exact ⟨bo, rfl, h1, o1, b1⟩

/-- All that a step starts from. -/
structure BStepAt (w : World) (bo bb bm bc nx : Nat) (base n who tc : Int) (L : List Int) : Prop where
  op : BopAt w bo bb nx who 0
  bell : BellAt w bb bm base n
  mem : MemAt w bm bc L tc
  few : Few tc
  w0 : 0 ≤ who
  w1 : who < n
  n8 : n ≤ 8
  b0 : 0 ≤ base
  b1 : base ≤ 70000
  in_ : base + n ≤ L.length
set_option maxHeartbeats 1000000 in
set_option maxRecDepth 100000 in
theorem sleep1_any (hh : BStepAt w bo bb bm bc nx base n who tc L) :
    Calls Try.prog 54 #[.pointer (some ⟨bo, 0, none⟩)] w fun e w' => e = .returned (.tuple #[]) ∧
      BopAt w' bo bb nx who 1 ∧ MemAt w' bm bc (L.set (base + who).toNat 1) (tc + 1) ∧ Only (S3 bo bm bc) w w' := by
  have c0 := hh.op.c0
  have c2 := hh.op.c2
  have g0 := hh.bell.c0
  have g1 := hh.bell.c1
  have wg0 := hh.w0
  have wlt := hh.w1
  have n8 := hh.n8
  have b0 := hh.b0
  have b1 := hh.b1
  have HH := hide hh
  have hne : bo ≠ bm := Blk.ne_ hh.op hh.mem.mem (by decide)
  have hnc : bo ≠ bc := Blk.ne_ hh.op hh.mem.cells (by decide)
  have hbm : bb ≠ bm := Blk.ne_ hh.bell hh.mem.mem (by decide)
  have hbc : bb ≠ bc := Blk.ne_ hh.bell hh.mem.cells (by decide)
  have hbo : bb ≠ bo := Blk.ne_ hh.bell hh.op (by decide)
  clear hh
  go_enter Try.func54, Try.ntmps54
  go_wp2_with fail
  go_still_tail 19, (by kernel_rfl)
  go_wp2_with fail
  refine (Store_in (base + who) 1 HH.out.mem.drew HH.out.few (by omega) (by have := HH.out.in_; omega)).mono ?_
  rintro e w1 ⟨rfl, h1, o1⟩
  have HP1 := hide ((show BopAt w.drew bo bb nx who 0 from HH.out.op).only o1 (fun h => by unfold S2 at h; omega))
  have HM1 := hide h1
  have HO1 := hide (((Only.refl (S3 bo bm bc) w).drew).trans (s3_of_s2 (bo := bo) o1))
  have k3 := HP1.out.c3
  have f3 := HP1.out.fz 3
  clear h1 o1 c0 c2 g0 g1
  go_wp2_with fail
  go_end0
  exact ⟨rfl, HP1.out.setOut 1, HM1.out.only (only_set w1 bo 3 (.int .i64 1)) (fun e => hne e.symm) (fun e => hnc e.symm), HO1.out.set1 3 (.inl rfl) (.int .i64 1)⟩
set_option maxHeartbeats 1000000 in
set_option maxRecDepth 100000 in
theorem up1_any (hh : BStepAt w bo bb bm bc nx base n who tc L) :
    Calls Try.prog 73 #[.pointer (some ⟨bo, 0, none⟩)] w fun e w' => e = .returned (.tuple #[]) ∧
      BopAt w' bo bb nx who 1 ∧ MemAt w' bm bc (L.set (base + who).toNat 0) (tc + 1) ∧ Only (S3 bo bm bc) w w' := by
  have c0 := hh.op.c0
  have c2 := hh.op.c2
  have g0 := hh.bell.c0
  have g1 := hh.bell.c1
  have wg0 := hh.w0
  have wlt := hh.w1
  have n8 := hh.n8
  have b0 := hh.b0
  have b1 := hh.b1
  have HH := hide hh
  have hne : bo ≠ bm := Blk.ne_ hh.op hh.mem.mem (by decide)
  have hnc : bo ≠ bc := Blk.ne_ hh.op hh.mem.cells (by decide)
  have hbm : bb ≠ bm := Blk.ne_ hh.bell hh.mem.mem (by decide)
  have hbc : bb ≠ bc := Blk.ne_ hh.bell hh.mem.cells (by decide)
  have hbo : bb ≠ bo := Blk.ne_ hh.bell hh.op (by decide)
  clear hh
  go_enter Try.func73, Try.ntmps73
  go_wp2_with fail
  go_still_tail 19, (by kernel_rfl)
  go_wp2_with fail
  refine (Store_in (base + who) 0 HH.out.mem.drew HH.out.few (by omega) (by have := HH.out.in_; omega)).mono ?_
  rintro e w1 ⟨rfl, h1, o1⟩
  have HP1 := hide ((show BopAt w.drew bo bb nx who 0 from HH.out.op).only o1 (fun h => by unfold S2 at h; omega))
  have HM1 := hide h1
  have HO1 := hide (((Only.refl (S3 bo bm bc) w).drew).trans (s3_of_s2 (bo := bo) o1))
  have k3 := HP1.out.c3
  have f3 := HP1.out.fz 3
  clear h1 o1 c0 c2 g0 g1
  go_wp2_with fail
  go_end0
  exact ⟨rfl, HP1.out.setOut 1, HM1.out.only (only_set w1 bo 3 (.int .i64 1)) (fun e => hne e.symm) (fun e => hnc e.symm), HO1.out.set1 3 (.inl rfl) (.int .i64 1)⟩

/-- What a look answers. -/
def pollOut (v : Int) : Int := if v = 0 then 1 else 4
set_option maxHeartbeats 1000000 in
set_option maxRecDepth 100000 in
theorem poll1_any (hh : BStepAt w bo bb bm bc nx base n who tc L) :
    Calls Try.prog 57 #[.pointer (some ⟨bo, 0, none⟩)] w fun e w' => e = .returned (.tuple #[]) ∧
      BopAt w' bo bb nx who (pollOut (at_ L (base + who))) ∧ MemAt w' bm bc L (tc + 1) ∧ Only (S3 bo bm bc) w w' := by
  have c0 := hh.op.c0
  have c2 := hh.op.c2
  have g0 := hh.bell.c0
  have g1 := hh.bell.c1
  have wg0 := hh.w0
  have wlt := hh.w1
  have n8 := hh.n8
  have b0 := hh.b0
  have b1 := hh.b1
  have HH := hide hh
  have hne : bo ≠ bm := Blk.ne_ hh.op hh.mem.mem (by decide)
  have hnc : bo ≠ bc := Blk.ne_ hh.op hh.mem.cells (by decide)
  have hbm : bb ≠ bm := Blk.ne_ hh.bell hh.mem.mem (by decide)
  have hbc : bb ≠ bc := Blk.ne_ hh.bell hh.mem.cells (by decide)
  have hbo : bb ≠ bo := Blk.ne_ hh.bell hh.op (by decide)
  clear hh
  have c3 := HH.out.op.c3
  have f3 := HH.out.op.fz 3
  have M0 := hide (HH.out.mem.only (only_set w bo 3 (.int .i64 4)) (fun e => hne e.symm) (fun e => hnc e.symm))
  have P0 := hide (HH.out.op.setOut 4)
  have O0 := hide ((Only.refl (S3 bo bm bc) w).set1 3 (.inl rfl) (.int .i64 4))
  have B0 := hide (HH.out.bell.only (only_set w bo 3 (.int .i64 4)) hbo)
  obtain ⟨v, hv⟩ : ∃ v, at_ L (base + who) = v := ⟨_, rfl⟩
  have HV := hide hv
  clear hv
  go_enter Try.func57, Try.ntmps57
  go_wp2_with fail
  clear c0 c2 g0 g1 c3 f3
  generalize w.setCell ⟨bo, 3, none⟩ (.int .i64 4) = w2 at *
  have z0 := (show BopAt w2.drew bo bb nx who 4 from P0.out).c0
  have z2 := (show BopAt w2.drew bo bb nx who 4 from P0.out).c2
  have y0 := (show BellAt w2.drew bb bm base n from B0.out).c0
  have y1 := (show BellAt w2.drew bb bm base n from B0.out).c1
  have hwr : IntKind.i64.wrap (base + who) = base + who := IntWalk.i64_in _ (by omega)
  go_region_held3 (fun w' => w'.cell? ⟨bo, 0, none⟩ = some (.pointer (some ⟨bb, 0, none⟩)) ∧ w'.cell? ⟨bo, 2, none⟩ = some (.int .i64 who) ∧ w'.cell? ⟨bb, 0, none⟩ = some (.pointer (some ⟨bm, 0, none⟩)) ∧ w'.cell? ⟨bb, 1, none⟩ = some (.int .i64 base)) (first | exact ⟨z0, z2, y0, y1⟩ | exact ⟨k0, k2, j0, j1⟩) (first | (go_at_call 19; refine (Load_in (base + who) M0.out.drew HH.out.few (by omega) (by have := HH.out.in_; omega)).mono ?_; rintro e w1 ⟨rfl, h1, o1⟩; rw [HV.out]; have HP1 := hide ((show BopAt w2.drew bo bb nx who 4 from P0.out).only o1 (fun h => by unfold S1 at h; omega)); have HB1 := hide ((show BellAt w2.drew bb bm base n from B0.out).only o1 (fun h => by unfold S1 at h; omega)); have HM1 := hide h1; have HO1 := hide ((O0.out.drew).trans (s3_of_s1 (bo := bo) (bc := bc) o1)); have k0 := HP1.out.c0; have k2 := HP1.out.c2; have j0 := HB1.out.c0; have j1 := HB1.out.c1; have k3 := HP1.out.c3; have f3 := HP1.out.fz 3; clear h1 o1))
  clear hwr z0 z2 y0 y1 k0 k2 j0 j1
  by_cases h0 : v = 0
  · have HR := hide (show pollOut v = 1 by simp [pollOut, h0])
    have hb : (v == 0) = true := by simp [h0]
    clear h0
    go_wp2_with fail
    go_end0
    rw [HV.out, HR.out]
    exact ⟨rfl, HP1.out.setOut 1, HM1.out.only (only_set w1 bo 3 (.int .i64 1)) (fun e => hne e.symm) (fun e => hnc e.symm), HO1.out.set1 3 (.inl rfl) (.int .i64 1)⟩
  · have HR := hide (show pollOut v = 4 by simp [pollOut, h0])
    have hb : (v == 0) = false := by simp [h0]
    clear h0
    go_wp2_with fail
    go_end0
    rw [HV.out, HR.out]
    exact ⟨rfl, HP1.out, HM1.out, HO1.out⟩

/-- On to the next worker. -/
def onOut (n x : Int) : Int := if x = n then 4 else 0
theorem on_any (h : BopAt w bo bb nx who 0) (hb : BellAt w bb bm base n) (w0 : 0 ≤ who) (w1 : who < n) (n8 : n ≤ 8) :
    Calls Try.prog 69 #[.pointer (some ⟨bo, 0, none⟩)] w fun e w' => e = .returned (.tuple #[]) ∧
      BopAt w' bo bb nx (who + 1) (onOut n (who + 1)) ∧ Only (S1 bo) w w' := by
  have c2 := h.c2
  have f2 := h.fz 2
  have hbo : bb ≠ bo := Blk.ne_ hb h (by decide)
  have P0 := hide (h.setWho (who + 1))
  have O0 := hide ((Only.refl (S1 bo) w).set1 2 rfl (.int .i64 (who + 1)))
  have B0 := hide (hb.only (only_set w bo 2 (.int .i64 (who + 1))) hbo)
  clear h hb
  go_enter Try.func69, Try.ntmps69
  go_wp2_with fail
  clear c2 f2
  generalize w.setCell ⟨bo, 2, none⟩ (.int .i64 (who + 1)) = w2 at *
  have c0 := P0.out.c0
  have c2 := P0.out.c2
  have c3 := P0.out.c3
  have f3 := P0.out.fz 3
  have g2 := B0.out.c2
  go_quiet (fail)
  by_cases he : who + 1 = n
  · have HR := hide (show onOut n (who + 1) = 4 by simp [onOut, he])
    have hb : ((who + 1) == n) = true := by simp [he]
    clear he
    go_wp2_with fail
    go_end0
    rw [HR.out]
    exact ⟨rfl, (P0.out.setOut 4).drewN _, (O0.out.set1 3 rfl (.int .i64 4)).drewN _⟩
  · have HR := hide (show onOut n (who + 1) = 0 by simp [onOut, he])
    have hb : ((who + 1) == n) = false := by simp [he]
    clear he
    go_wp2_with fail
    go_end0
    rw [HR.out]
    exact ⟨rfl, P0.out.drewN _, O0.out.drewN _⟩

set_option maxHeartbeats 1000000 in
set_option maxRecDepth 100000 in
theorem look_yes (hh : BStepAt w bo bb bm bc nx base n who tc L) (hv : at_ L (base + who) = 1) :
    Calls Try.prog 55 #[.pointer (some ⟨bo, 0, none⟩)] w fun e w' => e = .returned (.tuple #[]) ∧
      BopAt w' bo bb 68 who 0 ∧ MemAt w' bm bc L (tc + 1) ∧ Only (S3 bo bm bc) w w' := by
  have c0 := hh.op.c0
  have c2 := hh.op.c2
  have g0 := hh.bell.c0
  have g1 := hh.bell.c1
  have wg0 := hh.w0
  have wlt := hh.w1
  have n8 := hh.n8
  have b0 := hh.b0
  have b1 := hh.b1
  have HH := hide hh
  have hne : bo ≠ bm := Blk.ne_ hh.op hh.mem.mem (by decide)
  have hnc : bo ≠ bc := Blk.ne_ hh.op hh.mem.cells (by decide)
  have hbm : bb ≠ bm := Blk.ne_ hh.bell hh.mem.mem (by decide)
  have hbc : bb ≠ bc := Blk.ne_ hh.bell hh.mem.cells (by decide)
  have hbo : bb ≠ bo := Blk.ne_ hh.bell hh.op (by decide)
  clear hh
  have HV := hide hv
  clear hv
  go_enter Try.func55, Try.ntmps55
  go_wp2_with fail
  have z0 := (show BopAt w.drew bo bb nx who 0 from HH.out.op).c0
  have z2 := (show BopAt w.drew bo bb nx who 0 from HH.out.op).c2
  have y0 := (show BellAt w.drew bb bm base n from HH.out.bell).c0
  have y1 := (show BellAt w.drew bb bm base n from HH.out.bell).c1
  clear c0 c2 g0 g1
  have hwr : IntKind.i64.wrap (base + who) = base + who := IntWalk.i64_in _ (by omega)
  go_region_held3 (fun w' => w'.cell? ⟨bo, 0, none⟩ = some (.pointer (some ⟨bb, 0, none⟩)) ∧ w'.cell? ⟨bo, 2, none⟩ = some (.int .i64 who) ∧ w'.cell? ⟨bb, 0, none⟩ = some (.pointer (some ⟨bm, 0, none⟩)) ∧ w'.cell? ⟨bb, 1, none⟩ = some (.int .i64 base)) (first | exact ⟨z0, z2, y0, y1⟩ | exact ⟨k0, k2, j0, j1⟩) (first | (go_at_call 19; refine (Load_in (base + who) HH.out.mem.drew HH.out.few (by omega) (by have := HH.out.in_; omega)).mono ?_; rintro e w1 ⟨rfl, h1, o1⟩; rw [HV.out]; have HP1 := hide ((show BopAt w.drew bo bb nx who 0 from HH.out.op).only o1 (fun h => by unfold S1 at h; omega)); have HB1 := hide ((show BellAt w.drew bb bm base n from HH.out.bell).only o1 (fun h => by unfold S1 at h; omega)); have HM1 := hide h1; have HO1 := hide (((Only.refl (S3 bo bm bc) w).drew).trans (s3_of_s1 (bo := bo) (bc := bc) o1)); have k0 := HP1.out.c0; have k2 := HP1.out.c2; have j0 := HB1.out.c0; have j1 := HB1.out.c1; have k1 := HP1.out.c1; have f1 := HP1.out.fz 1; clear h1 o1))
  clear hwr z0 z2 y0 y1 k0 k2 j0 j1
  go_wp2_with fail
  refine bodyPost_ret (results_none rfl _ _ _) rfl ?_
  exact ⟨rfl, HP1.out.setNx _, HM1.out.only (only_set w1 bo 1 (.func (.func 68) #[] #[])) (fun e => hne e.symm) (fun e => hnc e.symm), HO1.out.set1 1 (.inl rfl) _⟩
set_option maxHeartbeats 1000000 in
set_option maxRecDepth 100000 in
theorem look_no (hh : BStepAt w bo bb bm bc nx base n who tc L) (hv : at_ L (base + who) ≠ 1) :
    Calls Try.prog 55 #[.pointer (some ⟨bo, 0, none⟩)] w fun e w' => e = .returned (.tuple #[]) ∧
      BopAt w' bo bb nx (who + 1) (onOut n (who + 1)) ∧ MemAt w' bm bc L (tc + 1) ∧ Only (S3 bo bm bc) w w' := by
  have c0 := hh.op.c0
  have c2 := hh.op.c2
  have g0 := hh.bell.c0
  have g1 := hh.bell.c1
  have wg0 := hh.w0
  have wlt := hh.w1
  have n8 := hh.n8
  have b0 := hh.b0
  have b1 := hh.b1
  have HH := hide hh
  have hne : bo ≠ bm := Blk.ne_ hh.op hh.mem.mem (by decide)
  have hnc : bo ≠ bc := Blk.ne_ hh.op hh.mem.cells (by decide)
  have hbm : bb ≠ bm := Blk.ne_ hh.bell hh.mem.mem (by decide)
  have hbc : bb ≠ bc := Blk.ne_ hh.bell hh.mem.cells (by decide)
  have hbo : bb ≠ bo := Blk.ne_ hh.bell hh.op (by decide)
  clear hh
  have HV := hide hv
  have hb : (at_ L (base + who) == 1) = false := by simp [hv]
  clear hv
  go_enter Try.func55, Try.ntmps55
  go_wp2_with fail
  have z0 := (show BopAt w.drew bo bb nx who 0 from HH.out.op).c0
  have z2 := (show BopAt w.drew bo bb nx who 0 from HH.out.op).c2
  have y0 := (show BellAt w.drew bb bm base n from HH.out.bell).c0
  have y1 := (show BellAt w.drew bb bm base n from HH.out.bell).c1
  clear c0 c2 g0 g1
  have hwr : IntKind.i64.wrap (base + who) = base + who := IntWalk.i64_in _ (by omega)
  go_region_held3 (fun w' => w'.cell? ⟨bo, 0, none⟩ = some (.pointer (some ⟨bb, 0, none⟩)) ∧ w'.cell? ⟨bo, 2, none⟩ = some (.int .i64 who) ∧ w'.cell? ⟨bb, 0, none⟩ = some (.pointer (some ⟨bm, 0, none⟩)) ∧ w'.cell? ⟨bb, 1, none⟩ = some (.int .i64 base)) (first | exact ⟨z0, z2, y0, y1⟩ | exact ⟨k0, k2, j0, j1⟩) (first | (go_at_call 19; refine (Load_in (base + who) HH.out.mem.drew HH.out.few (by omega) (by have := HH.out.in_; omega)).mono ?_; rintro e w1 ⟨rfl, h1, o1⟩; generalize at_ L (base + who) = vv at hb; have HP1 := hide ((show BopAt w.drew bo bb nx who 0 from HH.out.op).only o1 (fun h => by unfold S1 at h; omega)); have HB1 := hide ((show BellAt w.drew bb bm base n from HH.out.bell).only o1 (fun h => by unfold S1 at h; omega)); have HM1 := hide h1; have HO1 := hide (((Only.refl (S3 bo bm bc) w).drew).trans (s3_of_s1 (bo := bo) (bc := bc) o1)); have k0 := HP1.out.c0; have k2 := HP1.out.c2; have j0 := HB1.out.c0; have j1 := HB1.out.c1; skip; clear h1 o1))
  clear hwr z0 z2 y0 y1 k0 k2 j0 j1
  go_wp2_with fail
  refine (on_any HP1.out HB1.out wg0 wlt n8).mono ?_
  rintro e w2 ⟨rfl, h2, o2⟩
  have H2 := hide h2
  have HM2 := hide (HM1.out.only o2 (fun e => hne e.symm) (fun e => hnc e.symm))
  have HO2 := hide (HO1.out.trans (o2.mono fun k hk => .inl hk))
  clear h2 o2
  go_wp2_with fail
  go_end0
  exact ⟨rfl, H2.out, HM2.out, HO2.out⟩
set_option maxHeartbeats 1000000 in
set_option maxRecDepth 100000 in
theorem rouse_yes (hh : BStepAt w bo bb bm bc nx base n who tc L) (hv : at_ L (base + who) = 1) :
    Calls Try.prog 68 #[.pointer (some ⟨bo, 0, none⟩)] w fun e w' => e = .returned (.tuple #[]) ∧
      BopAt w' bo bb nx who 7 ∧ MemAt w' bm bc (L.set (base + who).toNat 0) (tc + 1) ∧ Only (S3 bo bm bc) w w' := by
  have c0 := hh.op.c0
  have c2 := hh.op.c2
  have g0 := hh.bell.c0
  have g1 := hh.bell.c1
  have wg0 := hh.w0
  have wlt := hh.w1
  have n8 := hh.n8
  have b0 := hh.b0
  have b1 := hh.b1
  have HH := hide hh
  have hne : bo ≠ bm := Blk.ne_ hh.op hh.mem.mem (by decide)
  have hnc : bo ≠ bc := Blk.ne_ hh.op hh.mem.cells (by decide)
  have hbm : bb ≠ bm := Blk.ne_ hh.bell hh.mem.mem (by decide)
  have hbc : bb ≠ bc := Blk.ne_ hh.bell hh.mem.cells (by decide)
  have hbo : bb ≠ bo := Blk.ne_ hh.bell hh.op (by decide)
  clear hh
  have HV := hide hv
  clear hv
  go_enter Try.func68, Try.ntmps68
  go_wp2_with fail
  have z0 := (show BopAt w.drew bo bb nx who 0 from HH.out.op).c0
  have z2 := (show BopAt w.drew bo bb nx who 0 from HH.out.op).c2
  have y0 := (show BellAt w.drew bb bm base n from HH.out.bell).c0
  have y1 := (show BellAt w.drew bb bm base n from HH.out.bell).c1
  clear c0 c2 g0 g1
  have hwr : IntKind.i64.wrap (base + who) = base + who := IntWalk.i64_in _ (by omega)
  go_region_held3 (fun w' => w'.cell? ⟨bo, 0, none⟩ = some (.pointer (some ⟨bb, 0, none⟩)) ∧ w'.cell? ⟨bo, 2, none⟩ = some (.int .i64 who) ∧ w'.cell? ⟨bb, 0, none⟩ = some (.pointer (some ⟨bm, 0, none⟩)) ∧ w'.cell? ⟨bb, 1, none⟩ = some (.int .i64 base)) (first | exact ⟨z0, z2, y0, y1⟩ | exact ⟨k0, k2, j0, j1⟩) (first | (go_at_call 71; refine (Swap_yes (base + who) 1 0 HH.out.mem.drew HH.out.few (by omega) (by have := HH.out.in_; omega) HV.out).mono ?_; rintro e w1 ⟨rfl, h1, o1⟩; have HP1 := hide ((show BopAt w.drew bo bb nx who 0 from HH.out.op).only o1 (fun h => by unfold S2 at h; omega)); have HB1 := hide ((show BellAt w.drew bb bm base n from HH.out.bell).only o1 (fun h => by unfold S2 at h; omega)); have HM1 := hide h1; have HO1 := hide (((Only.refl (S3 bo bm bc) w).drew).trans (s3_of_s2 (bo := bo) o1)); have k0 := HP1.out.c0; have k2 := HP1.out.c2; have j0 := HB1.out.c0; have j1 := HB1.out.c1; have k3 := HP1.out.c3; have f3 := HP1.out.fz 3; clear h1 o1))
  clear hwr z0 z2 y0 y1 k0 k2 j0 j1
  go_wp2_with fail
  refine bodyPost_ret (results_none rfl _ _ _) rfl ?_
  exact ⟨rfl, HP1.out.setOut 7, HM1.out.only (only_set w1 bo 3 (.int .i64 7)) (fun e => hne e.symm) (fun e => hnc e.symm), HO1.out.set1 3 (.inl rfl) (.int .i64 7)⟩
set_option maxHeartbeats 1000000 in
set_option maxRecDepth 100000 in
theorem rouse_no (hh : BStepAt w bo bb bm bc nx base n who tc L) (hv : at_ L (base + who) ≠ 1) :
    Calls Try.prog 68 #[.pointer (some ⟨bo, 0, none⟩)] w fun e w' => e = .returned (.tuple #[]) ∧
      BopAt w' bo bb 55 (who + 1) (onOut n (who + 1)) ∧ MemAt w' bm bc L (tc + 1) ∧ Only (S3 bo bm bc) w w' := by
  have c0 := hh.op.c0
  have c2 := hh.op.c2
  have g0 := hh.bell.c0
  have g1 := hh.bell.c1
  have wg0 := hh.w0
  have wlt := hh.w1
  have n8 := hh.n8
  have b0 := hh.b0
  have b1 := hh.b1
  have HH := hide hh
  have hne : bo ≠ bm := Blk.ne_ hh.op hh.mem.mem (by decide)
  have hnc : bo ≠ bc := Blk.ne_ hh.op hh.mem.cells (by decide)
  have hbm : bb ≠ bm := Blk.ne_ hh.bell hh.mem.mem (by decide)
  have hbc : bb ≠ bc := Blk.ne_ hh.bell hh.mem.cells (by decide)
  have hbo : bb ≠ bo := Blk.ne_ hh.bell hh.op (by decide)
  clear hh
  have HV := hide hv
  clear hv
  go_enter Try.func68, Try.ntmps68
  go_wp2_with fail
  have z0 := (show BopAt w.drew bo bb nx who 0 from HH.out.op).c0
  have z2 := (show BopAt w.drew bo bb nx who 0 from HH.out.op).c2
  have y0 := (show BellAt w.drew bb bm base n from HH.out.bell).c0
  have y1 := (show BellAt w.drew bb bm base n from HH.out.bell).c1
  clear c0 c2 g0 g1
  have hwr : IntKind.i64.wrap (base + who) = base + who := IntWalk.i64_in _ (by omega)
  go_region_held3 (fun w' => w'.cell? ⟨bo, 0, none⟩ = some (.pointer (some ⟨bb, 0, none⟩)) ∧ w'.cell? ⟨bo, 2, none⟩ = some (.int .i64 who) ∧ w'.cell? ⟨bb, 0, none⟩ = some (.pointer (some ⟨bm, 0, none⟩)) ∧ w'.cell? ⟨bb, 1, none⟩ = some (.int .i64 base)) (first | exact ⟨z0, z2, y0, y1⟩ | exact ⟨k0, k2, j0, j1⟩) (first | (go_at_call 71; refine (Swap_no (base + who) 1 0 HH.out.mem.drew HH.out.few (by omega) (by have := HH.out.in_; omega) HV.out).mono ?_; rintro e w1 ⟨rfl, h1, o1⟩; have HP1 := hide ((show BopAt w.drew bo bb nx who 0 from HH.out.op).only o1 (fun h => by unfold S1 at h; omega)); have HB1 := hide ((show BellAt w.drew bb bm base n from HH.out.bell).only o1 (fun h => by unfold S1 at h; omega)); have HM1 := hide h1; have HO1 := hide (((Only.refl (S3 bo bm bc) w).drew).trans (s3_of_s1 (bo := bo) (bc := bc) o1)); have k0 := HP1.out.c0; have k2 := HP1.out.c2; have j0 := HB1.out.c0; have j1 := HB1.out.c1; have k1 := HP1.out.c1; have f1 := HP1.out.fz 1; clear h1 o1))
  clear hwr z0 z2 y0 y1 k0 k2 j0 j1
  go_wp2_with fail
  have HP2 := hide (HP1.out.setNx 55)
  have HB2 := hide (HB1.out.only (only_set w1 bo 1 (.func (.func 55) #[] #[])) hbo)
  have HM2 := hide (HM1.out.only (only_set w1 bo 1 (.func (.func 55) #[] #[])) (fun e => hne e.symm) (fun e => hnc e.symm))
  have HO2 := hide (HO1.out.set1 1 (.inl rfl) (.func (.func 55) #[] #[]))
  clear k1 f1
  refine (on_any HP2.out HB2.out wg0 wlt n8).mono ?_
  rintro e w2 ⟨rfl, h2, o2⟩
  have H2 := hide h2
  have HM3 := hide (HM2.out.only o2 (fun e => hne e.symm) (fun e => hnc e.symm))
  have HO3 := hide (HO2.out.trans (o2.mono fun k hk => .inl hk))
  clear h2 o2
  go_wp2_with fail
  go_end0
  exact ⟨rfl, H2.out, HM3.out, HO3.out⟩

theorem BStep_over (h : BopAt w bo bb nx who out) (ho : out ≠ 0) : Calls Try.prog 18 #[.pointer (some ⟨bo, 0, none⟩)] w fun e w' => e = .returned (.bool true) ∧ w = w' := by
  go_enter Try.func18, Try.ntmps18
  go_wp2_with fail
  refine (BOver_over h ho).mono ?_
  rintro e w' ⟨rfl, rfl⟩
  go_wp2_with fail
  refine (BOver_over h ho).mono ?_
  rintro e w' ⟨rfl, rfl⟩
  go_wp2_with fail
  go_ret
  exact ⟨rfl, rfl⟩
/-- A step, by what its next function does. -/
theorem BStep_sleep {nx' : Nat} {who' out' tc' : Int} {L' : List Int} (h : BopAt w bo bb 54 who 0)
    (hc : Calls Try.prog 54 #[.pointer (some ⟨bo, 0, none⟩)] w fun e w' => e = .returned (.tuple #[]) ∧ BopAt w' bo bb nx' who' out' ∧ MemAt w' bm bc L' tc' ∧ Only (S3 bo bm bc) w w') :
    Calls Try.prog 18 #[.pointer (some ⟨bo, 0, none⟩)] w fun e w' => e = .returned (.bool (out' != 0)) ∧ BopAt w' bo bb nx' who' out' ∧ MemAt w' bm bc L' tc' ∧ Only (S3 bo bm bc) w w' := by
  have c1 := h.c1
  have HC := Lib.hid hc
  have H := hide h
  clear hc h
  go_enter Try.func18, Try.ntmps18
  go_wp2_with fail
  refine (BOver_pend H.out).mono ?_
  rintro e w' ⟨rfl, rfl⟩
  go_wp2_with fail
  refine HC.out.mono ?_
  rintro e w1 ⟨rfl, h1, h2, h3⟩
  have H1 := hide h1
  have H2 := hide h2
  have H3 := hide h3
  clear h1 h2 h3 c1
  go_wp2_with fail
  by_cases h0 : out' = 0
  · subst h0
    refine (BOver_pend H1.out).mono ?_
    rintro e w' ⟨rfl, rfl⟩
    go_wp2_with fail
    go_ret
    exact ⟨rfl, H1.out, H2.out, H3.out⟩
  · have hb : (out' != 0) = true := by simp [h0]
    refine (BOver_over H1.out h0).mono ?_
    rintro e w' ⟨rfl, rfl⟩
    go_wp2_with fail
    go_ret
    rw [hb]
    exact ⟨rfl, H1.out, H2.out, H3.out⟩
theorem BStep_poll {nx' : Nat} {who' out' tc' : Int} {L' : List Int} (h : BopAt w bo bb 57 who 0)
    (hc : Calls Try.prog 57 #[.pointer (some ⟨bo, 0, none⟩)] w fun e w' => e = .returned (.tuple #[]) ∧ BopAt w' bo bb nx' who' out' ∧ MemAt w' bm bc L' tc' ∧ Only (S3 bo bm bc) w w') :
    Calls Try.prog 18 #[.pointer (some ⟨bo, 0, none⟩)] w fun e w' => e = .returned (.bool (out' != 0)) ∧ BopAt w' bo bb nx' who' out' ∧ MemAt w' bm bc L' tc' ∧ Only (S3 bo bm bc) w w' := by
  have c1 := h.c1
  have HC := Lib.hid hc
  have H := hide h
  clear hc h
  go_enter Try.func18, Try.ntmps18
  go_wp2_with fail
  refine (BOver_pend H.out).mono ?_
  rintro e w' ⟨rfl, rfl⟩
  go_wp2_with fail
  refine HC.out.mono ?_
  rintro e w1 ⟨rfl, h1, h2, h3⟩
  have H1 := hide h1
  have H2 := hide h2
  have H3 := hide h3
  clear h1 h2 h3 c1
  go_wp2_with fail
  by_cases h0 : out' = 0
  · subst h0
    refine (BOver_pend H1.out).mono ?_
    rintro e w' ⟨rfl, rfl⟩
    go_wp2_with fail
    go_ret
    exact ⟨rfl, H1.out, H2.out, H3.out⟩
  · have hb : (out' != 0) = true := by simp [h0]
    refine (BOver_over H1.out h0).mono ?_
    rintro e w' ⟨rfl, rfl⟩
    go_wp2_with fail
    go_ret
    rw [hb]
    exact ⟨rfl, H1.out, H2.out, H3.out⟩
theorem BStep_look {nx' : Nat} {who' out' tc' : Int} {L' : List Int} (h : BopAt w bo bb 55 who 0)
    (hc : Calls Try.prog 55 #[.pointer (some ⟨bo, 0, none⟩)] w fun e w' => e = .returned (.tuple #[]) ∧ BopAt w' bo bb nx' who' out' ∧ MemAt w' bm bc L' tc' ∧ Only (S3 bo bm bc) w w') :
    Calls Try.prog 18 #[.pointer (some ⟨bo, 0, none⟩)] w fun e w' => e = .returned (.bool (out' != 0)) ∧ BopAt w' bo bb nx' who' out' ∧ MemAt w' bm bc L' tc' ∧ Only (S3 bo bm bc) w w' := by
  have c1 := h.c1
  have HC := Lib.hid hc
  have H := hide h
  clear hc h
  go_enter Try.func18, Try.ntmps18
  go_wp2_with fail
  refine (BOver_pend H.out).mono ?_
  rintro e w' ⟨rfl, rfl⟩
  go_wp2_with fail
  refine HC.out.mono ?_
  rintro e w1 ⟨rfl, h1, h2, h3⟩
  have H1 := hide h1
  have H2 := hide h2
  have H3 := hide h3
  clear h1 h2 h3 c1
  go_wp2_with fail
  by_cases h0 : out' = 0
  · subst h0
    refine (BOver_pend H1.out).mono ?_
    rintro e w' ⟨rfl, rfl⟩
    go_wp2_with fail
    go_ret
    exact ⟨rfl, H1.out, H2.out, H3.out⟩
  · have hb : (out' != 0) = true := by simp [h0]
    refine (BOver_over H1.out h0).mono ?_
    rintro e w' ⟨rfl, rfl⟩
    go_wp2_with fail
    go_ret
    rw [hb]
    exact ⟨rfl, H1.out, H2.out, H3.out⟩
theorem BStep_rouse {nx' : Nat} {who' out' tc' : Int} {L' : List Int} (h : BopAt w bo bb 68 who 0)
    (hc : Calls Try.prog 68 #[.pointer (some ⟨bo, 0, none⟩)] w fun e w' => e = .returned (.tuple #[]) ∧ BopAt w' bo bb nx' who' out' ∧ MemAt w' bm bc L' tc' ∧ Only (S3 bo bm bc) w w') :
    Calls Try.prog 18 #[.pointer (some ⟨bo, 0, none⟩)] w fun e w' => e = .returned (.bool (out' != 0)) ∧ BopAt w' bo bb nx' who' out' ∧ MemAt w' bm bc L' tc' ∧ Only (S3 bo bm bc) w w' := by
  have c1 := h.c1
  have HC := Lib.hid hc
  have H := hide h
  clear hc h
  go_enter Try.func18, Try.ntmps18
  go_wp2_with fail
  refine (BOver_pend H.out).mono ?_
  rintro e w' ⟨rfl, rfl⟩
  go_wp2_with fail
  refine HC.out.mono ?_
  rintro e w1 ⟨rfl, h1, h2, h3⟩
  have H1 := hide h1
  have H2 := hide h2
  have H3 := hide h3
  clear h1 h2 h3 c1
  go_wp2_with fail
  by_cases h0 : out' = 0
  · subst h0
    refine (BOver_pend H1.out).mono ?_
    rintro e w' ⟨rfl, rfl⟩
    go_wp2_with fail
    go_ret
    exact ⟨rfl, H1.out, H2.out, H3.out⟩
  · have hb : (out' != 0) = true := by simp [h0]
    refine (BOver_over H1.out h0).mono ?_
    rintro e w' ⟨rfl, rfl⟩
    go_wp2_with fail
    go_ret
    rw [hb]
    exact ⟨rfl, H1.out, H2.out, H3.out⟩
theorem BStep_up {nx' : Nat} {who' out' tc' : Int} {L' : List Int} (h : BopAt w bo bb 73 who 0)
    (hc : Calls Try.prog 73 #[.pointer (some ⟨bo, 0, none⟩)] w fun e w' => e = .returned (.tuple #[]) ∧ BopAt w' bo bb nx' who' out' ∧ MemAt w' bm bc L' tc' ∧ Only (S3 bo bm bc) w w') :
    Calls Try.prog 18 #[.pointer (some ⟨bo, 0, none⟩)] w fun e w' => e = .returned (.bool (out' != 0)) ∧ BopAt w' bo bb nx' who' out' ∧ MemAt w' bm bc L' tc' ∧ Only (S3 bo bm bc) w w' := by
  have c1 := h.c1
  have HC := Lib.hid hc
  have H := hide h
  clear hc h
  go_enter Try.func18, Try.ntmps18
  go_wp2_with fail
  refine (BOver_pend H.out).mono ?_
  rintro e w' ⟨rfl, rfl⟩
  go_wp2_with fail
  refine HC.out.mono ?_
  rintro e w1 ⟨rfl, h1, h2, h3⟩
  have H1 := hide h1
  have H2 := hide h2
  have H3 := hide h3
  clear h1 h2 h3 c1
  go_wp2_with fail
  by_cases h0 : out' = 0
  · subst h0
    refine (BOver_pend H1.out).mono ?_
    rintro e w' ⟨rfl, rfl⟩
    go_wp2_with fail
    go_ret
    exact ⟨rfl, H1.out, H2.out, H3.out⟩
  · have hb : (out' != 0) = true := by simp [h0]
    refine (BOver_over H1.out h0).mono ?_
    rintro e w' ⟨rfl, rfl⟩
    go_wp2_with fail
    go_ret
    rw [hb]
    exact ⟨rfl, H1.out, H2.out, H3.out⟩
end
end Go.Proofs.Ytafnlmkhfonghaa
