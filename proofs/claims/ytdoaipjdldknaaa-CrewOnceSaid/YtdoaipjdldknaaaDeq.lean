/-
  Package deque: what each method does, said of the cells and of the operation's own fields.
-/
import Derived.Test.YtdoaipjdldknaaaCom
import Derived.Deep.DeepCutAuto
namespace Go.Proofs.Ytdoaipjdldknaaa
open Go.RowKit
set_option linter.unusedVariables false

/-- A deque: block bd. -/
def DeqAt (w : World) (bd bm : Nat) (base n : Int) : Prop := Blk w bd 95 #[.pointer (some ⟨bm, 0, none⟩), .int .i64 base, .int .u64 n]
/-- A method value. -/
def mvV (f bo : Nat) : Value := .func (.func f) #[.pointer (some ⟨bo, 0, none⟩)] #[]
/-- An operation: its fields. -/
def DopAt (w : World) (bo bd nx : Nat) (out v t b : Int) (won : Bool) : Prop :=
  Blk w bo 99 #[.pointer (some ⟨bd, 0, none⟩), .func (.func nx) #[.pointer (some ⟨bo, 0, none⟩)] #[], .int .i64 out, .int .u64 v, .int .u64 t, .int .u64 b, .bool won]
section
variable {w : World} {bo bd bm bc nx : Nat} {base n out v t b tc : Int} {won : Bool} {L : List Int}
theorem DopAt.c0 (h : DopAt w bo bd nx out v t b won) : w.cell? ⟨bo, 0, none⟩ = some (.pointer (some ⟨bd, 0, none⟩)) := Blk.cellv h rfl
theorem DopAt.c1 (h : DopAt w bo bd nx out v t b won) : w.cell? ⟨bo, 1, none⟩ = some (.func (.func nx) #[.pointer (some ⟨bo, 0, none⟩)] #[]) := Blk.cellv h rfl
theorem DopAt.c2 (h : DopAt w bo bd nx out v t b won) : w.cell? ⟨bo, 2, none⟩ = some (.int .i64 out) := Blk.cellv h rfl
theorem DopAt.c3 (h : DopAt w bo bd nx out v t b won) : w.cell? ⟨bo, 3, none⟩ = some (.int .u64 v) := Blk.cellv h rfl
theorem DopAt.c4 (h : DopAt w bo bd nx out v t b won) : w.cell? ⟨bo, 4, none⟩ = some (.int .u64 t) := Blk.cellv h rfl
theorem DopAt.c5 (h : DopAt w bo bd nx out v t b won) : w.cell? ⟨bo, 5, none⟩ = some (.int .u64 b) := Blk.cellv h rfl
theorem DopAt.c6 (h : DopAt w bo bd nx out v t b won) : w.cell? ⟨bo, 6, none⟩ = some (.bool won) := Blk.cellv h rfl
theorem DopAt.fz (h : DopAt w bo bd nx out v t b won) (i : Nat) : w.frozen? ⟨bo, i, none⟩ = false := Blk.frozen h i
theorem DeqAt.c0 (h : DeqAt w bd bm base n) : w.cell? ⟨bd, 0, none⟩ = some (.pointer (some ⟨bm, 0, none⟩)) := Blk.cellv h rfl
theorem DeqAt.c1 (h : DeqAt w bd bm base n) : w.cell? ⟨bd, 1, none⟩ = some (.int .i64 base) := Blk.cellv h rfl
theorem DeqAt.c2 (h : DeqAt w bd bm base n) : w.cell? ⟨bd, 2, none⟩ = some (.int .u64 n) := Blk.cellv h rfl
theorem DopAt.only {w' : World} {S : Nat → Prop} (h : DopAt w bo bd nx out v t b won) (ho : Only S w w') (hs : ¬ S bo) : DopAt w' bo bd nx out v t b won := Blk.only h ho hs
theorem DeqAt.only {w' : World} {S : Nat → Prop} (h : DeqAt w bd bm base n) (ho : Only S w w') (hs : ¬ S bd) : DeqAt w' bd bm base n := Blk.only h ho hs
theorem DopAt.drewN (h : DopAt w bo bd nx out v t b won) (q : Nat) : DopAt (w.drewN q) bo bd nx out v t b won := h
theorem DopAt.drew (h : DopAt w bo bd nx out v t b won) : DopAt w.drew bo bd nx out v t b won := h
theorem DeqAt.drewN (h : DeqAt w bd bm base n) (q : Nat) : DeqAt (w.drewN q) bd bm base n := h
theorem DeqAt.drew (h : DeqAt w bd bm base n) : DeqAt w.drew bd bm base n := h
theorem DopAt.setNx (h : DopAt w bo bd nx out v t b won) (x : Nat) : DopAt (w.setCell ⟨bo, 1, none⟩ (.func (.func x) #[.pointer (some ⟨bo, 0, none⟩)] #[])) bo bd x out v t b won := by simpa [DopAt] using Blk.set_ h 1 (.func (.func x) #[.pointer (some ⟨bo, 0, none⟩)] #[])
theorem DopAt.setOut (h : DopAt w bo bd nx out v t b won) (x : Int) : DopAt (w.setCell ⟨bo, 2, none⟩ (.int .i64 x)) bo bd nx x v t b won := by simpa [DopAt] using Blk.set_ h 2 (.int .i64 x)
theorem DopAt.setV (h : DopAt w bo bd nx out v t b won) (x : Int) : DopAt (w.setCell ⟨bo, 3, none⟩ (.int .u64 x)) bo bd nx out x t b won := by simpa [DopAt] using Blk.set_ h 3 (.int .u64 x)
theorem DopAt.setT (h : DopAt w bo bd nx out v t b won) (x : Int) : DopAt (w.setCell ⟨bo, 4, none⟩ (.int .u64 x)) bo bd nx out v x b won := by simpa [DopAt] using Blk.set_ h 4 (.int .u64 x)
theorem DopAt.setB (h : DopAt w bo bd nx out v t b won) (x : Int) : DopAt (w.setCell ⟨bo, 5, none⟩ (.int .u64 x)) bo bd nx out v t x won := by simpa [DopAt] using Blk.set_ h 5 (.int .u64 x)
theorem DopAt.setWon (h : DopAt w bo bd nx out v t b won) (x : Bool) : DopAt (w.setCell ⟨bo, 6, none⟩ (.bool x)) bo bd nx out v t b x := by simpa [DopAt] using Blk.set_ h 6 (.bool x)

theorem DOver_pend (h : DopAt w bo bd nx 0 v t b won) : Calls Try.prog 105 #[.pointer (some ⟨bo, 0, none⟩)] w fun e w' => e = .returned (.bool false) ∧ w = w' := by
  have c2 := h.c2
  clear h
  go_enter Try.func105, Try.ntmps105
  go_wp2_with fail
  go_ret
  exact ⟨rfl, rfl⟩
theorem DOver_over (h : DopAt w bo bd nx out v t b won) (ho : out ≠ 0) : Calls Try.prog 105 #[.pointer (some ⟨bo, 0, none⟩)] w fun e w' => e = .returned (.bool true) ∧ w = w' := by
  have c2 := h.c2
  have hb : (out != 0) = true := by simp [ho]
  clear h ho
  go_enter Try.func105, Try.ntmps105
  go_wp2_with fail
  go_ret
  exact ⟨rfl, rfl⟩
theorem DOutcome_any (h : DopAt w bo bd nx out v t b won) : Calls Try.prog 33 #[.pointer (some ⟨bo, 0, none⟩)] w fun e w' => e = .returned (.int .i64 out) ∧ w = w' := by
  have c2 := h.c2
  clear h
  go_enter Try.func33, Try.ntmps33
  go_wp2_with fail
  go_ret
  exact ⟨rfl, rfl⟩
/-- What Value answers. -/
def dvalue (v out : Int) : Int := if out = 1 then v else 0
theorem DValue_any (h : DopAt w bo bd nx out v t b won) : Calls Try.prog 107 #[.pointer (some ⟨bo, 0, none⟩)] w fun e w' => e = .returned (.int .u64 (dvalue v out)) ∧ w = w' := by
  have c2 := h.c2
  have c3 := h.c3
  clear h
  by_cases ho : out = 1
  · have hv : dvalue v out = v := by simp [dvalue, ho]
    rw [hv]
    subst ho
    clear hv
    go_enter Try.func107, Try.ntmps107
    go_wp2_with fail
    go_ret
    exact ⟨rfl, rfl⟩
  · have hv : dvalue v out = 0 := by simp [dvalue, ho]
    rw [hv]
    have hb : (out != 1) = true := by simp [ho]
    clear hv ho
    go_enter Try.func107, Try.ntmps107
    go_wp2_with fail
    go_ret
    exact ⟨rfl, rfl⟩
theorem DPush_any (x : Int) (w : World) (bd : Nat) : Calls Try.prog 30 #[.pointer (some ⟨bd, 0, none⟩), .int .u64 x] w fun e w' =>
    ∃ bo, e = .returned (.pointer (some ⟨bo, 0, none⟩)) ∧ DopAt w' bo bd 58 0 x 0 0 false ∧ Only S0 w w' ∧ w.heap.size ≤ bo := by
  go_enter Try.func30, Try.ntmps30
  go_wp2_with fail
  go_ret
  exact ⟨_, rfl, Blk.new _ _ _, (Only.refl _ _).alloc _, Nat.le_refl _⟩
theorem DPop_any (w : World) (bd : Nat) : Calls Try.prog 37 #[.pointer (some ⟨bd, 0, none⟩)] w fun e w' =>
    ∃ bo, e = .returned (.pointer (some ⟨bo, 0, none⟩)) ∧ DopAt w' bo bd 61 0 0 0 0 false ∧ Only S0 w w' ∧ w.heap.size ≤ bo := by
  go_enter Try.func37, Try.ntmps37
  go_wp2_with fail
  go_ret
  exact ⟨_, rfl, Blk.new _ _ _, (Only.refl _ _).alloc _, Nat.le_refl _⟩
theorem DSteal_any (w : World) (bd : Nat) : Calls Try.prog 42 #[.pointer (some ⟨bd, 0, none⟩)] w fun e w' =>
    ∃ bo, e = .returned (.pointer (some ⟨bo, 0, none⟩)) ∧ DopAt w' bo bd 64 0 0 0 0 false ∧ Only S0 w w' ∧ w.heap.size ≤ bo := by
  go_enter Try.func42, Try.ntmps42
  go_wp2_with fail
  go_ret
  exact ⟨_, rfl, Blk.new _ _ _, (Only.refl _ _).alloc _, Nat.le_refl _⟩

set_option maxRecDepth 100000 in
theorem dload_any (c : Int) (h : DeqAt w bd bm base n) (hm : MemAt w bm bc L tc) (hf : Few tc) (c0 : 0 ≤ c) (c1 : c ≤ 1) (b0 : 0 ≤ base) (b1 : base ≤ 70000) (hi : base + 2 ≤ L.length) :
    Calls Try.prog 72 #[.pointer (some ⟨bd, 0, none⟩), .int .i64 c] w fun e w' => e = .returned (.int .u64 (at_ L (base + c))) ∧ MemAt w' bm bc L (tc + 1) ∧ Only (S1 bm) w w' := by
  have g0 := h.c0
  have g1 := h.c1
  have hne : bd ≠ bm := Blk.ne_ h hm.mem (by decide)
  have H := hide h
  have HM := hide hm
  clear h hm
  obtain ⟨x, hx⟩ : ∃ x, at_ L (base + c) = x := ⟨_, rfl⟩
  have HX := hide hx
  clear hx
  go_enter Try.func72, Try.ntmps72
  go_wp2_with fail
  have z0 := H.out.drew.c0
  have z1 := H.out.drew.c1
  clear g0 g1
  have hwr : IntKind.i64.wrap (base + c) = base + c := IntWalk.i64_in _ (by omega)
  go_region_held3 (fun w' => w'.cell? ⟨bd, 0, none⟩ = some (.pointer (some ⟨bm, 0, none⟩)) ∧ w'.cell? ⟨bd, 1, none⟩ = some (.int .i64 base)) (first | exact ⟨z0, z1⟩ | exact ⟨j0, j1⟩) (first | (go_at_call 70; refine (Load_in (base + c) HM.out.drew hf (by omega) (by omega)).mono ?_; rintro e w1 ⟨rfl, h1, o1⟩; rw [HX.out]; have D1 := hide (H.out.drew.only o1 (fun h => hne h)); have HM1 := hide h1; have HO1 := hide ((Only.refl (S1 bm) w).drew.trans o1); have j0 := D1.out.c0; have j1 := D1.out.c1; clear h1 o1))
  clear hwr z0 z1 j0 j1
  go_wp2_with fail
  go_ret
  rw [HX.out]
  exact ⟨rfl, HM1.out, HO1.out⟩

/-- The cell of a number. -/
def dslotOf (base n t : Int) : Int := base + 2 + t % n
theorem dslot_any (h : DeqAt w bd bm base n) (ht : U64 t) (h1 : 1 ≤ n) (h64 : n ≤ 64) (b0 : 0 ≤ base) (b1 : base ≤ 70000) :
    Calls Try.prog 82 #[.pointer (some ⟨bd, 0, none⟩), .int .u64 t] w fun e w' => e = .returned (.int .i64 (dslotOf base n t)) ∧ ∃ q, w' = w.drewN q := by
  have g1 := h.c1
  have g2 := h.c2
  have hn : (n == 0) = false := by simp; omega
  obtain ⟨d1, d2, d3⟩ := u64_mod ht h1
  have e1 : IntKind.i64.wrap (base + 2) = base + 2 := IntWalk.i64_in _ (by omega)
  have e2 : IntKind.i64.wrap (t % n) = t % n := IntWalk.i64_in _ (by omega)
  have e3 : IntKind.i64.wrap (base + 2 + t % n) = base + 2 + t % n := IntWalk.i64_in _ (by omega)
  have e4 : IntKind.u64.wrap (t % n) = t % n := IntWalk.u64_in _ (by omega)
  clear h ht
  go_enter Try.func82, Try.ntmps82
  go_wp2_with fail
  go_quiet (fail)
  go_wp2_with fail
  go_ret
  exact ⟨rfl, _, rfl⟩

/-- All that a step starts from. -/
structure DStepAt (w : World) (bo bd bm bc nx : Nat) (base n v t b : Int) (won : Bool) (tc : Int) (L : List Int) : Prop where
  op : DopAt w bo bd nx 0 v t b won
  deq : DeqAt w bd bm base n
  mem : MemAt w bm bc L tc
  few : Few tc
  t64 : U64 t
  b64 : U64 b
  n1 : 1 ≤ n
  n64 : n ≤ 64
  b0 : 0 ≤ base
  b1 : base ≤ 70000
  in_ : base + 2 + n ≤ L.length
theorem DStepAt.slot (h : DStepAt w bo bd bm bc nx base n v t b won tc L) {x : Int} (hx : U64 x) : 0 ≤ dslotOf base n x ∧ dslotOf base n x < L.length := by
  obtain ⟨_, h2, h3⟩ := u64_mod hx h.n1
  have := h.in_; have := h.b0
  unfold dslotOf
  omega
set_option maxHeartbeats 2000000 in
set_option maxRecDepth 100000 in
theorem dPushBottom (hh : DStepAt w bo bd bm bc nx base n v t b won tc L) :
    Calls Try.prog 58 #[.pointer (some ⟨bo, 0, none⟩)] w fun e w' => e = .returned (.tuple #[]) ∧ DopAt w' bo bd 73 0 v t (at_ L (base + 1)) won ∧ MemAt w' bm bc L (tc + 1) ∧ Only (S3 bo bm bc) w w' := by
  have c0 := hh.op.c0
  have c1 := hh.op.c1
  have c2 := hh.op.c2
  have c3 := hh.op.c3
  have c4 := hh.op.c4
  have c5 := hh.op.c5
  have c6 := hh.op.c6
  have g0 := hh.deq.c0
  have g1 := hh.deq.c1
  have g2 := hh.deq.c2
  have n1 := hh.n1
  have n64 := hh.n64
  have b0 := hh.b0
  have b1 := hh.b1
  have HH := hide hh
  have hne : bo ≠ bm := Blk.ne_ hh.op hh.mem.mem (by decide)
  have hnc : bo ≠ bc := Blk.ne_ hh.op hh.mem.cells (by decide)
  have hdm : bd ≠ bm := Blk.ne_ hh.deq hh.mem.mem (by decide)
  have hdc : bd ≠ bc := Blk.ne_ hh.deq hh.mem.cells (by decide)
  have hdo : bd ≠ bo := Blk.ne_ hh.deq hh.op (by decide)
  clear hh
  go_enter Try.func58, Try.ntmps58
  go_wp2_with fail
  refine (dload_any 1 HH.out.deq HH.out.mem HH.out.few (by omega) (by omega) b0 b1 (by have := HH.out.in_; omega)).mono ?_
  rintro e w1 ⟨rfl, h1, o1⟩
  have P1 := hide (HH.out.op.only o1 (fun h => hne h))
  have D1 := hide (HH.out.deq.only o1 (fun h => hdm h))
  have M1 := hide h1
  have O1 := hide (s3_of_s1 (bo := bo) (bc := bc) o1)
  clear h1 o1 c0 c1 c2 c3 c4 c5 c6 g0 g1 g2
  have c0 := P1.out.c0
  have c1 := P1.out.c1
  have c2 := P1.out.c2
  have c3 := P1.out.c3
  have c4 := P1.out.c4
  have c5 := P1.out.c5
  have c6 := P1.out.c6
  have f1 := P1.out.fz 1
  have f2 := P1.out.fz 2
  have f3 := P1.out.fz 3
  have f4 := P1.out.fz 4
  have f5 := P1.out.fz 5
  have f6 := P1.out.fz 6
  have g0 := D1.out.c0
  have g1 := D1.out.c1
  have g2 := D1.out.c2
  go_wp2_with fail
  go_end0
  exact ⟨rfl, ((P1.out).setB (at_ L (base + 1))).setNx 73, ((M1.out).only (only_set w1 bo 5 (.int .u64 (at_ L (base + 1)))) (fun e => hne e.symm) (fun e => hnc e.symm)).only (only_set _ bo 1 (.func (.func 73) #[.pointer (some ⟨bo, 0, none⟩)] #[])) (fun e => hne e.symm) (fun e => hnc e.symm), ((O1.out).set1 5 (.inl rfl) (.int .u64 (at_ L (base + 1)))).set1 1 (.inl rfl) (.func (.func 73) #[.pointer (some ⟨bo, 0, none⟩)] #[])⟩

set_option maxHeartbeats 2000000 in
set_option maxRecDepth 100000 in
theorem dPopBottom (hh : DStepAt w bo bd bm bc nx base n v t b won tc L) :
    Calls Try.prog 61 #[.pointer (some ⟨bo, 0, none⟩)] w fun e w' => e = .returned (.tuple #[]) ∧ DopAt w' bo bd 75 0 v t (at_ L (base + 1)) won ∧ MemAt w' bm bc L (tc + 1) ∧ Only (S3 bo bm bc) w w' := by
  have c0 := hh.op.c0
  have c1 := hh.op.c1
  have c2 := hh.op.c2
  have c3 := hh.op.c3
  have c4 := hh.op.c4
  have c5 := hh.op.c5
  have c6 := hh.op.c6
  have g0 := hh.deq.c0
  have g1 := hh.deq.c1
  have g2 := hh.deq.c2
  have n1 := hh.n1
  have n64 := hh.n64
  have b0 := hh.b0
  have b1 := hh.b1
  have HH := hide hh
  have hne : bo ≠ bm := Blk.ne_ hh.op hh.mem.mem (by decide)
  have hnc : bo ≠ bc := Blk.ne_ hh.op hh.mem.cells (by decide)
  have hdm : bd ≠ bm := Blk.ne_ hh.deq hh.mem.mem (by decide)
  have hdc : bd ≠ bc := Blk.ne_ hh.deq hh.mem.cells (by decide)
  have hdo : bd ≠ bo := Blk.ne_ hh.deq hh.op (by decide)
  clear hh
  go_enter Try.func61, Try.ntmps61
  go_wp2_with fail
  refine (dload_any 1 HH.out.deq HH.out.mem HH.out.few (by omega) (by omega) b0 b1 (by have := HH.out.in_; omega)).mono ?_
  rintro e w1 ⟨rfl, h1, o1⟩
  have P1 := hide (HH.out.op.only o1 (fun h => hne h))
  have D1 := hide (HH.out.deq.only o1 (fun h => hdm h))
  have M1 := hide h1
  have O1 := hide (s3_of_s1 (bo := bo) (bc := bc) o1)
  clear h1 o1 c0 c1 c2 c3 c4 c5 c6 g0 g1 g2
  have c0 := P1.out.c0
  have c1 := P1.out.c1
  have c2 := P1.out.c2
  have c3 := P1.out.c3
  have c4 := P1.out.c4
  have c5 := P1.out.c5
  have c6 := P1.out.c6
  have f1 := P1.out.fz 1
  have f2 := P1.out.fz 2
  have f3 := P1.out.fz 3
  have f4 := P1.out.fz 4
  have f5 := P1.out.fz 5
  have f6 := P1.out.fz 6
  have g0 := D1.out.c0
  have g1 := D1.out.c1
  have g2 := D1.out.c2
  go_wp2_with fail
  go_end0
  exact ⟨rfl, ((P1.out).setB (at_ L (base + 1))).setNx 75, ((M1.out).only (only_set w1 bo 5 (.int .u64 (at_ L (base + 1)))) (fun e => hne e.symm) (fun e => hnc e.symm)).only (only_set _ bo 1 (.func (.func 75) #[.pointer (some ⟨bo, 0, none⟩)] #[])) (fun e => hne e.symm) (fun e => hnc e.symm), ((O1.out).set1 5 (.inl rfl) (.int .u64 (at_ L (base + 1)))).set1 1 (.inl rfl) (.func (.func 75) #[.pointer (some ⟨bo, 0, none⟩)] #[])⟩

set_option maxHeartbeats 2000000 in
set_option maxRecDepth 100000 in
theorem dStealTop (hh : DStepAt w bo bd bm bc nx base n v t b won tc L) :
    Calls Try.prog 64 #[.pointer (some ⟨bo, 0, none⟩)] w fun e w' => e = .returned (.tuple #[]) ∧ DopAt w' bo bd 76 0 v (at_ L base) b won ∧ MemAt w' bm bc L (tc + 1) ∧ Only (S3 bo bm bc) w w' := by
  have c0 := hh.op.c0
  have c1 := hh.op.c1
  have c2 := hh.op.c2
  have c3 := hh.op.c3
  have c4 := hh.op.c4
  have c5 := hh.op.c5
  have c6 := hh.op.c6
  have g0 := hh.deq.c0
  have g1 := hh.deq.c1
  have g2 := hh.deq.c2
  have n1 := hh.n1
  have n64 := hh.n64
  have b0 := hh.b0
  have b1 := hh.b1
  have HH := hide hh
  have hne : bo ≠ bm := Blk.ne_ hh.op hh.mem.mem (by decide)
  have hnc : bo ≠ bc := Blk.ne_ hh.op hh.mem.cells (by decide)
  have hdm : bd ≠ bm := Blk.ne_ hh.deq hh.mem.mem (by decide)
  have hdc : bd ≠ bc := Blk.ne_ hh.deq hh.mem.cells (by decide)
  have hdo : bd ≠ bo := Blk.ne_ hh.deq hh.op (by decide)
  clear hh
  go_enter Try.func64, Try.ntmps64
  go_wp2_with fail
  refine (dload_any 0 HH.out.deq HH.out.mem HH.out.few (by omega) (by omega) b0 b1 (by have := HH.out.in_; omega)).mono ?_
  rintro e w1 ⟨rfl, h1, o1⟩
  rw [Int.add_zero]
  have P1 := hide (HH.out.op.only o1 (fun h => hne h))
  have D1 := hide (HH.out.deq.only o1 (fun h => hdm h))
  have M1 := hide h1
  have O1 := hide (s3_of_s1 (bo := bo) (bc := bc) o1)
  clear h1 o1 c0 c1 c2 c3 c4 c5 c6 g0 g1 g2
  have c0 := P1.out.c0
  have c1 := P1.out.c1
  have c2 := P1.out.c2
  have c3 := P1.out.c3
  have c4 := P1.out.c4
  have c5 := P1.out.c5
  have c6 := P1.out.c6
  have f1 := P1.out.fz 1
  have f2 := P1.out.fz 2
  have f3 := P1.out.fz 3
  have f4 := P1.out.fz 4
  have f5 := P1.out.fz 5
  have f6 := P1.out.fz 6
  have g0 := D1.out.c0
  have g1 := D1.out.c1
  have g2 := D1.out.c2
  go_wp2_with fail
  go_end0
  exact ⟨rfl, ((P1.out).setT (at_ L base)).setNx 76, ((M1.out).only (only_set w1 bo 4 (.int .u64 (at_ L base))) (fun e => hne e.symm) (fun e => hnc e.symm)).only (only_set _ bo 1 (.func (.func 76) #[.pointer (some ⟨bo, 0, none⟩)] #[])) (fun e => hne e.symm) (fun e => hnc e.symm), ((O1.out).set1 4 (.inl rfl) (.int .u64 (at_ L base))).set1 1 (.inl rfl) (.func (.func 76) #[.pointer (some ⟨bo, 0, none⟩)] #[])⟩

/-- Is there no room? -/
def dfull (n b t : Int) : Int := if n ≤ IntKind.u64.wrap (b - t) then 2 else 0
theorem u64_wrap (x : Int) : U64 (IntKind.u64.wrap x) := by unfold U64; rw [IntKind.wrap_u64]; omega
set_option maxHeartbeats 2000000 in
set_option maxRecDepth 100000 in
theorem dPushTop (hh : DStepAt w bo bd bm bc nx base n v t b won tc L) :
    Calls Try.prog 73 #[.pointer (some ⟨bo, 0, none⟩)] w fun e w' => e = .returned (.tuple #[]) ∧ DopAt w' bo bd 77 (dfull n b (at_ L base)) v (at_ L base) b won ∧ MemAt w' bm bc L (tc + 1) ∧ Only (S3 bo bm bc) w w' := by
  have c0 := hh.op.c0
  have c1 := hh.op.c1
  have c2 := hh.op.c2
  have c3 := hh.op.c3
  have c4 := hh.op.c4
  have c5 := hh.op.c5
  have c6 := hh.op.c6
  have g0 := hh.deq.c0
  have g1 := hh.deq.c1
  have g2 := hh.deq.c2
  have n1 := hh.n1
  have n64 := hh.n64
  have b0 := hh.b0
  have b1 := hh.b1
  have HH := hide hh
  have hne : bo ≠ bm := Blk.ne_ hh.op hh.mem.mem (by decide)
  have hnc : bo ≠ bc := Blk.ne_ hh.op hh.mem.cells (by decide)
  have hdm : bd ≠ bm := Blk.ne_ hh.deq hh.mem.mem (by decide)
  have hdc : bd ≠ bc := Blk.ne_ hh.deq hh.mem.cells (by decide)
  have hdo : bd ≠ bo := Blk.ne_ hh.deq hh.op (by decide)
  clear hh
  go_enter Try.func73, Try.ntmps73
  go_wp2_with fail
  refine (dload_any 0 HH.out.deq HH.out.mem HH.out.few (by omega) (by omega) b0 b1 (by have := HH.out.in_; omega)).mono ?_
  rintro e w1 ⟨rfl, h1, o1⟩
  rw [Int.add_zero]
  have P1 := hide (HH.out.op.only o1 (fun h => hne h))
  have D1 := hide (HH.out.deq.only o1 (fun h => hdm h))
  have M1 := hide h1
  have O1 := hide (s3_of_s1 (bo := bo) (bc := bc) o1)
  clear h1 o1 c0 c1 c2 c3 c4 c5 c6 g0 g1 g2
  have c0 := P1.out.c0
  have c1 := P1.out.c1
  have c2 := P1.out.c2
  have c3 := P1.out.c3
  have c4 := P1.out.c4
  have c5 := P1.out.c5
  have c6 := P1.out.c6
  have f1 := P1.out.fz 1
  have f2 := P1.out.fz 2
  have f3 := P1.out.fz 3
  have f4 := P1.out.fz 4
  have f5 := P1.out.fz 5
  have f6 := P1.out.fz 6
  have g0 := D1.out.c0
  have g1 := D1.out.c1
  have g2 := D1.out.c2
  obtain ⟨x, hx⟩ : ∃ x, at_ L base = x := ⟨_, rfl⟩
  rw [hx]
  have HX := hide hx
  clear hx
  go_upto_region 1 with fail
  clear c0 c1 c2 c3 c4 c5 c6 f1 f2 f3 f4 f5 f6 g0 g1 g2
  have AP0 := hide (P1.out.setT x)
  have AD0 := hide (D1.out.only (only_set (w1) bo 4 (.int .u64 x)) hdo)
  have AM0 := hide (M1.out.only (only_set (w1) bo 4 (.int .u64 x)) (fun e => hne e.symm) (fun e => hnc e.symm))
  have AO0 := hide (O1.out.set1 4 (.inl rfl) (.int .u64 x))
  have AP1 := hide (AP0.out.setNx 77)
  have AD1 := hide (AD0.out.only (only_set ((w1).setCell ⟨bo, 4, none⟩ (.int .u64 x)) bo 1 (.func (.func 77) #[.pointer (some ⟨bo, 0, none⟩)] #[])) hdo)
  have AM1 := hide (AM0.out.only (only_set ((w1).setCell ⟨bo, 4, none⟩ (.int .u64 x)) bo 1 (.func (.func 77) #[.pointer (some ⟨bo, 0, none⟩)] #[])) (fun e => hne e.symm) (fun e => hnc e.symm))
  have AO1 := hide (AO0.out.set1 1 (.inl rfl) (.func (.func 77) #[.pointer (some ⟨bo, 0, none⟩)] #[]))
  generalize ((w1).setCell ⟨bo, 4, none⟩ (.int .u64 x)).setCell ⟨bo, 1, none⟩ (.func (.func 77) #[.pointer (some ⟨bo, 0, none⟩)] #[]) = w2 at AP1 AD1 AM1 AO1 ⊢
  have c0 := AP1.out.c0
  have c1 := AP1.out.c1
  have c2 := AP1.out.c2
  have c3 := AP1.out.c3
  have c4 := AP1.out.c4
  have c5 := AP1.out.c5
  have c6 := AP1.out.c6
  have f1 := AP1.out.fz 1
  have f2 := AP1.out.fz 2
  have f3 := AP1.out.fz 3
  have f4 := AP1.out.fz 4
  have f5 := AP1.out.fz 5
  have f6 := AP1.out.fz 6
  have g0 := AD1.out.c0
  have g1 := AD1.out.c1
  have g2 := AD1.out.c2
  by_cases hge : n ≤ IntKind.u64.wrap (b - x)
  · obtain ⟨d, hd⟩ : ∃ d, IntKind.u64.wrap (b - x) = d := ⟨_, rfl⟩
    have HR := hide (show dfull n b x = 2 by unfold dfull; rw [if_pos hge])
    go_quiet (fail)
    go_wp2_with fail
    go_end0
    rw [HX.out, HR.out]
    exact ⟨rfl, ((AP1.out.drewN _)).setOut 2, ((AM1.out.drewN _)).only (only_set _ bo 2 (.int .i64 2)) (fun e => hne e.symm) (fun e => hnc e.symm), ((AO1.out.drewN _)).set1 2 (.inl rfl) (.int .i64 2)⟩
  · replace hge : IntKind.u64.wrap (b - x) < n := by omega
    have HR := hide (show dfull n b x = 0 by unfold dfull; rw [if_neg (by omega)])
    go_quiet (fail)
    go_wp2_with fail
    go_end0
    rw [HX.out, HR.out]
    exact ⟨rfl, (AP1.out.drewN _), (AM1.out.drewN _), (AO1.out.drewN _)⟩

/-- Is there nothing? -/
def dnone (t b : Int) : Int := if b ≤ t then 4 else 0
set_option maxHeartbeats 2000000 in
set_option maxRecDepth 100000 in
theorem dStealBottom (hh : DStepAt w bo bd bm bc nx base n v t b won tc L) :
    Calls Try.prog 76 #[.pointer (some ⟨bo, 0, none⟩)] w fun e w' => e = .returned (.tuple #[]) ∧ DopAt w' bo bd 81 (dnone t (at_ L (base + 1))) v t (at_ L (base + 1)) won ∧ MemAt w' bm bc L (tc + 1) ∧ Only (S3 bo bm bc) w w' := by
  have c0 := hh.op.c0
  have c1 := hh.op.c1
  have c2 := hh.op.c2
  have c3 := hh.op.c3
  have c4 := hh.op.c4
  have c5 := hh.op.c5
  have c6 := hh.op.c6
  have g0 := hh.deq.c0
  have g1 := hh.deq.c1
  have g2 := hh.deq.c2
  have n1 := hh.n1
  have n64 := hh.n64
  have b0 := hh.b0
  have b1 := hh.b1
  have HH := hide hh
  have hne : bo ≠ bm := Blk.ne_ hh.op hh.mem.mem (by decide)
  have hnc : bo ≠ bc := Blk.ne_ hh.op hh.mem.cells (by decide)
  have hdm : bd ≠ bm := Blk.ne_ hh.deq hh.mem.mem (by decide)
  have hdc : bd ≠ bc := Blk.ne_ hh.deq hh.mem.cells (by decide)
  have hdo : bd ≠ bo := Blk.ne_ hh.deq hh.op (by decide)
  clear hh
  go_enter Try.func76, Try.ntmps76
  go_wp2_with fail
  refine (dload_any 1 HH.out.deq HH.out.mem HH.out.few (by omega) (by omega) b0 b1 (by have := HH.out.in_; omega)).mono ?_
  rintro e w1 ⟨rfl, h1, o1⟩
  have P1 := hide (HH.out.op.only o1 (fun h => hne h))
  have D1 := hide (HH.out.deq.only o1 (fun h => hdm h))
  have M1 := hide h1
  have O1 := hide (s3_of_s1 (bo := bo) (bc := bc) o1)
  clear h1 o1 c0 c1 c2 c3 c4 c5 c6 g0 g1 g2
  have c0 := P1.out.c0
  have c1 := P1.out.c1
  have c2 := P1.out.c2
  have c3 := P1.out.c3
  have c4 := P1.out.c4
  have c5 := P1.out.c5
  have c6 := P1.out.c6
  have f1 := P1.out.fz 1
  have f2 := P1.out.fz 2
  have f3 := P1.out.fz 3
  have f4 := P1.out.fz 4
  have f5 := P1.out.fz 5
  have f6 := P1.out.fz 6
  have g0 := D1.out.c0
  have g1 := D1.out.c1
  have g2 := D1.out.c2
  obtain ⟨x, hx⟩ : ∃ x, at_ L (base + 1) = x := ⟨_, rfl⟩
  rw [hx]
  have HX := hide hx
  clear hx
  go_upto_region 1 with fail
  clear c0 c1 c2 c3 c4 c5 c6 f1 f2 f3 f4 f5 f6 g0 g1 g2
  have AP0 := hide (P1.out.setB x)
  have AD0 := hide (D1.out.only (only_set (w1) bo 5 (.int .u64 x)) hdo)
  have AM0 := hide (M1.out.only (only_set (w1) bo 5 (.int .u64 x)) (fun e => hne e.symm) (fun e => hnc e.symm))
  have AO0 := hide (O1.out.set1 5 (.inl rfl) (.int .u64 x))
  have AP1 := hide (AP0.out.setNx 81)
  have AD1 := hide (AD0.out.only (only_set ((w1).setCell ⟨bo, 5, none⟩ (.int .u64 x)) bo 1 (.func (.func 81) #[.pointer (some ⟨bo, 0, none⟩)] #[])) hdo)
  have AM1 := hide (AM0.out.only (only_set ((w1).setCell ⟨bo, 5, none⟩ (.int .u64 x)) bo 1 (.func (.func 81) #[.pointer (some ⟨bo, 0, none⟩)] #[])) (fun e => hne e.symm) (fun e => hnc e.symm))
  have AO1 := hide (AO0.out.set1 1 (.inl rfl) (.func (.func 81) #[.pointer (some ⟨bo, 0, none⟩)] #[]))
  generalize ((w1).setCell ⟨bo, 5, none⟩ (.int .u64 x)).setCell ⟨bo, 1, none⟩ (.func (.func 81) #[.pointer (some ⟨bo, 0, none⟩)] #[]) = w2 at AP1 AD1 AM1 AO1 ⊢
  have c0 := AP1.out.c0
  have c1 := AP1.out.c1
  have c2 := AP1.out.c2
  have c3 := AP1.out.c3
  have c4 := AP1.out.c4
  have c5 := AP1.out.c5
  have c6 := AP1.out.c6
  have f1 := AP1.out.fz 1
  have f2 := AP1.out.fz 2
  have f3 := AP1.out.fz 3
  have f4 := AP1.out.fz 4
  have f5 := AP1.out.fz 5
  have f6 := AP1.out.fz 6
  have g0 := AD1.out.c0
  have g1 := AD1.out.c1
  have g2 := AD1.out.c2
  by_cases hge : x ≤ t
  · skip
    have HR := hide (show dnone t x = 4 by unfold dnone; rw [if_pos hge])
    go_quiet (fail)
    go_wp2_with fail
    go_end0
    rw [HX.out, HR.out]
    exact ⟨rfl, ((AP1.out.drewN _)).setOut 4, ((AM1.out.drewN _)).only (only_set _ bo 2 (.int .i64 4)) (fun e => hne e.symm) (fun e => hnc e.symm), ((AO1.out.drewN _)).set1 2 (.inl rfl) (.int .i64 4)⟩
  · replace hge : t < x := by omega
    have HR := hide (show dnone t x = 0 by unfold dnone; rw [if_neg (by omega)])
    go_quiet (fail)
    go_wp2_with fail
    go_end0
    rw [HX.out, HR.out]
    exact ⟨rfl, (AP1.out.drewN _), (AM1.out.drewN _), (AO1.out.drewN _)⟩

/-- Where a Pop goes on. -/
def dback (t b : Int) : Nat := if IntKind.u64.wrap (b - 1) < t then 86 else 85
set_option maxHeartbeats 2000000 in
set_option maxRecDepth 100000 in
theorem dPopTop (hh : DStepAt w bo bd bm bc nx base n v t b won tc L) :
    Calls Try.prog 80 #[.pointer (some ⟨bo, 0, none⟩)] w fun e w' => e = .returned (.tuple #[]) ∧ DopAt w' bo bd (dback (at_ L base) b) 0 v (at_ L base) b won ∧ MemAt w' bm bc L (tc + 1) ∧ Only (S3 bo bm bc) w w' := by
  have c0 := hh.op.c0
  have c1 := hh.op.c1
  have c2 := hh.op.c2
  have c3 := hh.op.c3
  have c4 := hh.op.c4
  have c5 := hh.op.c5
  have c6 := hh.op.c6
  have g0 := hh.deq.c0
  have g1 := hh.deq.c1
  have g2 := hh.deq.c2
  have n1 := hh.n1
  have n64 := hh.n64
  have b0 := hh.b0
  have b1 := hh.b1
  have HH := hide hh
  have hne : bo ≠ bm := Blk.ne_ hh.op hh.mem.mem (by decide)
  have hnc : bo ≠ bc := Blk.ne_ hh.op hh.mem.cells (by decide)
  have hdm : bd ≠ bm := Blk.ne_ hh.deq hh.mem.mem (by decide)
  have hdc : bd ≠ bc := Blk.ne_ hh.deq hh.mem.cells (by decide)
  have hdo : bd ≠ bo := Blk.ne_ hh.deq hh.op (by decide)
  clear hh
  go_enter Try.func80, Try.ntmps80
  go_wp2_with fail
  refine (dload_any 0 HH.out.deq HH.out.mem HH.out.few (by omega) (by omega) b0 b1 (by have := HH.out.in_; omega)).mono ?_
  rintro e w1 ⟨rfl, h1, o1⟩
  rw [Int.add_zero]
  have P1 := hide (HH.out.op.only o1 (fun h => hne h))
  have D1 := hide (HH.out.deq.only o1 (fun h => hdm h))
  have M1 := hide h1
  have O1 := hide (s3_of_s1 (bo := bo) (bc := bc) o1)
  clear h1 o1 c0 c1 c2 c3 c4 c5 c6 g0 g1 g2
  have c0 := P1.out.c0
  have c1 := P1.out.c1
  have c2 := P1.out.c2
  have c3 := P1.out.c3
  have c4 := P1.out.c4
  have c5 := P1.out.c5
  have c6 := P1.out.c6
  have f1 := P1.out.fz 1
  have f2 := P1.out.fz 2
  have f3 := P1.out.fz 3
  have f4 := P1.out.fz 4
  have f5 := P1.out.fz 5
  have f6 := P1.out.fz 6
  have g0 := D1.out.c0
  have g1 := D1.out.c1
  have g2 := D1.out.c2
  obtain ⟨x, hx⟩ : ∃ x, at_ L base = x := ⟨_, rfl⟩
  rw [hx]
  have HX := hide hx
  clear hx
  go_upto_region 2 with fail
  clear c0 c1 c2 c3 c4 c5 c6 f1 f2 f3 f4 f5 f6 g0 g1 g2
  have AP0 := hide (P1.out.setT x)
  have AD0 := hide (D1.out.only (only_set (w1) bo 4 (.int .u64 x)) hdo)
  have AM0 := hide (M1.out.only (only_set (w1) bo 4 (.int .u64 x)) (fun e => hne e.symm) (fun e => hnc e.symm))
  have AO0 := hide (O1.out.set1 4 (.inl rfl) (.int .u64 x))
  have AP1 := hide (AP0.out.setNx 85)
  have AD1 := hide (AD0.out.only (only_set ((w1).setCell ⟨bo, 4, none⟩ (.int .u64 x)) bo 1 (.func (.func 85) #[.pointer (some ⟨bo, 0, none⟩)] #[])) hdo)
  have AM1 := hide (AM0.out.only (only_set ((w1).setCell ⟨bo, 4, none⟩ (.int .u64 x)) bo 1 (.func (.func 85) #[.pointer (some ⟨bo, 0, none⟩)] #[])) (fun e => hne e.symm) (fun e => hnc e.symm))
  have AO1 := hide (AO0.out.set1 1 (.inl rfl) (.func (.func 85) #[.pointer (some ⟨bo, 0, none⟩)] #[]))
  generalize ((w1).setCell ⟨bo, 4, none⟩ (.int .u64 x)).setCell ⟨bo, 1, none⟩ (.func (.func 85) #[.pointer (some ⟨bo, 0, none⟩)] #[]) = w2 at AP1 AD1 AM1 AO1 ⊢
  have c0 := AP1.out.c0
  have c1 := AP1.out.c1
  have c2 := AP1.out.c2
  have c3 := AP1.out.c3
  have c4 := AP1.out.c4
  have c5 := AP1.out.c5
  have c6 := AP1.out.c6
  have f1 := AP1.out.fz 1
  have f2 := AP1.out.fz 2
  have f3 := AP1.out.fz 3
  have f4 := AP1.out.fz 4
  have f5 := AP1.out.fz 5
  have f6 := AP1.out.fz 6
  have g0 := AD1.out.c0
  have g1 := AD1.out.c1
  have g2 := AD1.out.c2
  by_cases hge : IntKind.u64.wrap (b - 1) < x
  · skip
    have HR := hide (show dback x b = 86 by unfold dback; rw [if_pos hge])
    go_quiet (fail)
    go_wp2_with fail
    go_end0
    rw [HX.out, HR.out]
    exact ⟨rfl, ((AP1.out.drewN _)).setNx 86, ((AM1.out.drewN _)).only (only_set _ bo 1 (.func (.func 86) #[.pointer (some ⟨bo, 0, none⟩)] #[])) (fun e => hne e.symm) (fun e => hnc e.symm), ((AO1.out.drewN _)).set1 1 (.inl rfl) (.func (.func 86) #[.pointer (some ⟨bo, 0, none⟩)] #[])⟩
  · replace hge : x ≤ IntKind.u64.wrap (b - 1) := by omega
    have HR := hide (show dback x b = 85 by unfold dback; rw [if_neg (by omega)])
    go_quiet (fail)
    go_wp2_with fail
    go_end0
    rw [HX.out, HR.out]
    exact ⟨rfl, (AP1.out.drewN _), (AM1.out.drewN _), (AO1.out.drewN _)⟩

set_option maxHeartbeats 2000000 in
set_option maxRecDepth 100000 in
theorem dPushDone (hh : DStepAt w bo bd bm bc nx base n v t b won tc L) :
    Calls Try.prog 83 #[.pointer (some ⟨bo, 0, none⟩)] w fun e w' => e = .returned (.tuple #[]) ∧ DopAt w' bo bd nx 1 0 t b won ∧ MemAt w' bm bc (L.set (base + 1).toNat (IntKind.u64.wrap (b + 1))) (tc + 1) ∧ Only (S3 bo bm bc) w w' := by
  have c0 := hh.op.c0
  have c1 := hh.op.c1
  have c2 := hh.op.c2
  have c3 := hh.op.c3
  have c4 := hh.op.c4
  have c5 := hh.op.c5
  have c6 := hh.op.c6
  have g0 := hh.deq.c0
  have g1 := hh.deq.c1
  have g2 := hh.deq.c2
  have n1 := hh.n1
  have n64 := hh.n64
  have b0 := hh.b0
  have b1 := hh.b1
  have HH := hide hh
  have hne : bo ≠ bm := Blk.ne_ hh.op hh.mem.mem (by decide)
  have hnc : bo ≠ bc := Blk.ne_ hh.op hh.mem.cells (by decide)
  have hdm : bd ≠ bm := Blk.ne_ hh.deq hh.mem.mem (by decide)
  have hdc : bd ≠ bc := Blk.ne_ hh.deq hh.mem.cells (by decide)
  have hdo : bd ≠ bo := Blk.ne_ hh.deq hh.op (by decide)
  clear hh
  go_enter Try.func83, Try.ntmps83
  go_wp2_with fail
  go_still_tail 20, (by kernel_rfl)
  go_wp2_with fail
  refine (Store_in (base + 1) (IntKind.u64.wrap (b + 1)) HH.out.mem.drew HH.out.few (by omega) (by have := HH.out.in_; omega)).mono ?_
  rintro e w1 ⟨rfl, h1, o1⟩
  have P1 := hide (HH.out.op.drew.only o1 (fun h => by unfold S2 at h; omega))
  have D1 := hide (HH.out.deq.drew.only o1 (fun h => by unfold S2 at h; omega))
  have M1 := hide h1
  have O1 := hide (((Only.refl (S3 bo bm bc) w).drew).trans (s3_of_s2 (bo := bo) o1))
  clear h1 o1 c0 c1 c2 c3 c4 c5 c6 g0 g1 g2
  have c0 := P1.out.c0
  have c1 := P1.out.c1
  have c2 := P1.out.c2
  have c3 := P1.out.c3
  have c4 := P1.out.c4
  have c5 := P1.out.c5
  have c6 := P1.out.c6
  have f1 := P1.out.fz 1
  have f2 := P1.out.fz 2
  have f3 := P1.out.fz 3
  have f4 := P1.out.fz 4
  have f5 := P1.out.fz 5
  have f6 := P1.out.fz 6
  have g0 := D1.out.c0
  have g1 := D1.out.c1
  have g2 := D1.out.c2
  go_wp2_with fail
  go_end0
  exact ⟨rfl, ((P1.out).setOut 1).setV 0, ((M1.out).only (only_set w1 bo 2 (.int .i64 1)) (fun e => hne e.symm) (fun e => hnc e.symm)).only (only_set _ bo 3 (.int .u64 0)) (fun e => hne e.symm) (fun e => hnc e.symm), ((O1.out).set1 2 (.inl rfl) (.int .i64 1)).set1 3 (.inl rfl) (.int .u64 0)⟩

set_option maxHeartbeats 2000000 in
set_option maxRecDepth 100000 in
theorem dPopLower (hh : DStepAt w bo bd bm bc nx base n v t b won tc L) :
    Calls Try.prog 75 #[.pointer (some ⟨bo, 0, none⟩)] w fun e w' => e = .returned (.tuple #[]) ∧ DopAt w' bo bd 80 0 v t b won ∧ MemAt w' bm bc (L.set (base + 1).toNat (IntKind.u64.wrap (b - 1))) (tc + 1) ∧ Only (S3 bo bm bc) w w' := by
  have c0 := hh.op.c0
  have c1 := hh.op.c1
  have c2 := hh.op.c2
  have c3 := hh.op.c3
  have c4 := hh.op.c4
  have c5 := hh.op.c5
  have c6 := hh.op.c6
  have g0 := hh.deq.c0
  have g1 := hh.deq.c1
  have g2 := hh.deq.c2
  have n1 := hh.n1
  have n64 := hh.n64
  have b0 := hh.b0
  have b1 := hh.b1
  have HH := hide hh
  have hne : bo ≠ bm := Blk.ne_ hh.op hh.mem.mem (by decide)
  have hnc : bo ≠ bc := Blk.ne_ hh.op hh.mem.cells (by decide)
  have hdm : bd ≠ bm := Blk.ne_ hh.deq hh.mem.mem (by decide)
  have hdc : bd ≠ bc := Blk.ne_ hh.deq hh.mem.cells (by decide)
  have hdo : bd ≠ bo := Blk.ne_ hh.deq hh.op (by decide)
  clear hh
  go_enter Try.func75, Try.ntmps75
  go_wp2_with fail
  go_still_tail 20, (by kernel_rfl)
  go_wp2_with fail
  refine (Store_in (base + 1) (IntKind.u64.wrap (b - 1)) HH.out.mem.drew HH.out.few (by omega) (by have := HH.out.in_; omega)).mono ?_
  rintro e w1 ⟨rfl, h1, o1⟩
  have P1 := hide (HH.out.op.drew.only o1 (fun h => by unfold S2 at h; omega))
  have D1 := hide (HH.out.deq.drew.only o1 (fun h => by unfold S2 at h; omega))
  have M1 := hide h1
  have O1 := hide (((Only.refl (S3 bo bm bc) w).drew).trans (s3_of_s2 (bo := bo) o1))
  clear h1 o1 c0 c1 c2 c3 c4 c5 c6 g0 g1 g2
  have c0 := P1.out.c0
  have c1 := P1.out.c1
  have c2 := P1.out.c2
  have c3 := P1.out.c3
  have c4 := P1.out.c4
  have c5 := P1.out.c5
  have c6 := P1.out.c6
  have f1 := P1.out.fz 1
  have f2 := P1.out.fz 2
  have f3 := P1.out.fz 3
  have f4 := P1.out.fz 4
  have f5 := P1.out.fz 5
  have f6 := P1.out.fz 6
  have g0 := D1.out.c0
  have g1 := D1.out.c1
  have g2 := D1.out.c2
  go_wp2_with fail
  go_end0
  exact ⟨rfl, (P1.out).setNx 80, (M1.out).only (only_set w1 bo 1 (.func (.func 80) #[.pointer (some ⟨bo, 0, none⟩)] #[])) (fun e => hne e.symm) (fun e => hnc e.symm), (O1.out).set1 1 (.inl rfl) (.func (.func 80) #[.pointer (some ⟨bo, 0, none⟩)] #[])⟩

/-- What a Pop that goes back comes to. -/
def dwon (won : Bool) : Int := if won then 1 else 4
set_option maxHeartbeats 2000000 in
set_option maxRecDepth 100000 in
theorem dPopBack (hh : DStepAt w bo bd bm bc nx base n v t b won tc L) :
    Calls Try.prog 86 #[.pointer (some ⟨bo, 0, none⟩)] w fun e w' => e = .returned (.tuple #[]) ∧ DopAt w' bo bd nx (dwon won) v t b won ∧ MemAt w' bm bc (L.set (base + 1).toNat b) (tc + 1) ∧ Only (S3 bo bm bc) w w' := by
  have c0 := hh.op.c0
  have c1 := hh.op.c1
  have c2 := hh.op.c2
  have c3 := hh.op.c3
  have c4 := hh.op.c4
  have c5 := hh.op.c5
  have c6 := hh.op.c6
  have g0 := hh.deq.c0
  have g1 := hh.deq.c1
  have g2 := hh.deq.c2
  have n1 := hh.n1
  have n64 := hh.n64
  have b0 := hh.b0
  have b1 := hh.b1
  have HH := hide hh
  have hne : bo ≠ bm := Blk.ne_ hh.op hh.mem.mem (by decide)
  have hnc : bo ≠ bc := Blk.ne_ hh.op hh.mem.cells (by decide)
  have hdm : bd ≠ bm := Blk.ne_ hh.deq hh.mem.mem (by decide)
  have hdc : bd ≠ bc := Blk.ne_ hh.deq hh.mem.cells (by decide)
  have hdo : bd ≠ bo := Blk.ne_ hh.deq hh.op (by decide)
  clear hh
  go_enter Try.func86, Try.ntmps86
  go_wp2_with fail
  go_still_tail 19, (by kernel_rfl)
  go_wp2_with fail
  refine (Store_in (base + 1) (b) HH.out.mem.drew HH.out.few (by omega) (by have := HH.out.in_; omega)).mono ?_
  rintro e w1 ⟨rfl, h1, o1⟩
  have P1 := hide (HH.out.op.drew.only o1 (fun h => by unfold S2 at h; omega))
  have D1 := hide (HH.out.deq.drew.only o1 (fun h => by unfold S2 at h; omega))
  have M1 := hide h1
  have O1 := hide (((Only.refl (S3 bo bm bc) w).drew).trans (s3_of_s2 (bo := bo) o1))
  clear h1 o1 c0 c1 c2 c3 c4 c5 c6 g0 g1 g2
  have c0 := P1.out.c0
  have c1 := P1.out.c1
  have c2 := P1.out.c2
  have c3 := P1.out.c3
  have c4 := P1.out.c4
  have c5 := P1.out.c5
  have c6 := P1.out.c6
  have f1 := P1.out.fz 1
  have f2 := P1.out.fz 2
  have f3 := P1.out.fz 3
  have f4 := P1.out.fz 4
  have f5 := P1.out.fz 5
  have f6 := P1.out.fz 6
  have g0 := D1.out.c0
  have g1 := D1.out.c1
  have g2 := D1.out.c2
  cases won with
  | true =>
    go_wp2_with fail
    go_end0
    exact ⟨rfl, ((P1.out).setOut 4).setOut 1, ((M1.out).only (only_set w1 bo 2 (.int .i64 4)) (fun e => hne e.symm) (fun e => hnc e.symm)).only (only_set _ bo 2 (.int .i64 1)) (fun e => hne e.symm) (fun e => hnc e.symm), ((O1.out).set1 2 (.inl rfl) (.int .i64 4)).set1 2 (.inl rfl) (.int .i64 1)⟩
  | false =>
    go_wp2_with fail
    go_end0
    exact ⟨rfl, (P1.out).setOut 4, (M1.out).only (only_set w1 bo 2 (.int .i64 4)) (fun e => hne e.symm) (fun e => hnc e.symm), (O1.out).set1 2 (.inl rfl) (.int .i64 4)⟩

set_option maxHeartbeats 2000000 in
set_option maxRecDepth 100000 in
theorem dPushSlot (hh : DStepAt w bo bd bm bc nx base n v t b won tc L) :
    Calls Try.prog 77 #[.pointer (some ⟨bo, 0, none⟩)] w fun e w' => e = .returned (.tuple #[]) ∧ DopAt w' bo bd 83 0 v t b won ∧ MemAt w' bm bc (L.set (dslotOf base n b).toNat v) (tc + 1) ∧ Only (S3 bo bm bc) w w' := by
  have c0 := hh.op.c0
  have c1 := hh.op.c1
  have c2 := hh.op.c2
  have c3 := hh.op.c3
  have c4 := hh.op.c4
  have c5 := hh.op.c5
  have c6 := hh.op.c6
  have g0 := hh.deq.c0
  have g1 := hh.deq.c1
  have g2 := hh.deq.c2
  have n1 := hh.n1
  have n64 := hh.n64
  have b0 := hh.b0
  have b1 := hh.b1
  have HH := hide hh
  have hne : bo ≠ bm := Blk.ne_ hh.op hh.mem.mem (by decide)
  have hnc : bo ≠ bc := Blk.ne_ hh.op hh.mem.cells (by decide)
  have hdm : bd ≠ bm := Blk.ne_ hh.deq hh.mem.mem (by decide)
  have hdc : bd ≠ bc := Blk.ne_ hh.deq hh.mem.cells (by decide)
  have hdo : bd ≠ bo := Blk.ne_ hh.deq hh.op (by decide)
  clear hh
  go_enter Try.func77, Try.ntmps77
  have HS := HH.out.slot HH.out.b64
  have HSL := hide HS
  clear HS
  go_wp2_with fail
  have zc0 := HH.out.op.drew.c0
  have zc3 := HH.out.op.drew.c3
  have zc5 := HH.out.op.drew.c5
  have zg0 := HH.out.deq.drew.c0
  clear c0 c1 c2 c3 c4 c5 c6 g0 g1 g2
  go_region_held3 (fun w' => w'.cell? ⟨bo, 0, none⟩ = some (.pointer (some ⟨bd, 0, none⟩)) ∧ w'.cell? ⟨bo, 3, none⟩ = some (.int .u64 v) ∧ w'.cell? ⟨bo, 5, none⟩ = some (.int .u64 b) ∧ w'.cell? ⟨bd, 0, none⟩ = some (.pointer (some ⟨bm, 0, none⟩))) (first | exact ⟨zc0, zc3, zc5, zg0⟩ | exact ⟨kc0, kc3, kc5, kg0⟩ | exact ⟨jc0, jc3, jc5, jg0⟩) (first | (go_at_call 82; refine (dslot_any HH.out.deq.drew HH.out.b64 n1 n64 b0 b1).mono ?_; rintro e w1 ⟨rfl, q1, rfl⟩; have PA := hide (HH.out.op.drewN (1 + q1)); have DA := hide (HH.out.deq.drewN (1 + q1)); have kc0 := PA.out.c0; have kc3 := PA.out.c3; have kc5 := PA.out.c5; have kg0 := DA.out.c0) | (go_at_call 55; refine (Store_in (dslotOf base n b) v (HH.out.mem.drewN (1 + q1)) HH.out.few HSL.out.1 HSL.out.2).mono ?_; rintro e w2 ⟨rfl, h1, o1⟩; have P1 := hide ((HH.out.op.drewN (1 + q1)).only o1 (fun h => by unfold S2 at h; omega)); have D1 := hide ((HH.out.deq.drewN (1 + q1)).only o1 (fun h => by unfold S2 at h; omega)); have M1 := hide h1; have O1 := hide (((Only.refl (S3 bo bm bc) w).drewN (1 + q1)).trans (s3_of_s2 (bo := bo) o1)); have jc0 := P1.out.c0; have jc3 := P1.out.c3; have jc5 := P1.out.c5; have jg0 := D1.out.c0; clear h1 o1))
  rename_i hHeld
  clear hHeld zc0 zc3 zc5 zg0 kc0 kc3 kc5 kg0 jc0 jc3 jc5 jg0
  have c0 := P1.out.c0
  have c1 := P1.out.c1
  have c2 := P1.out.c2
  have c3 := P1.out.c3
  have c4 := P1.out.c4
  have c5 := P1.out.c5
  have c6 := P1.out.c6
  have f1 := P1.out.fz 1
  have f2 := P1.out.fz 2
  have f3 := P1.out.fz 3
  have f4 := P1.out.fz 4
  have f5 := P1.out.fz 5
  have f6 := P1.out.fz 6
  have g0 := D1.out.c0
  have g1 := D1.out.c1
  have g2 := D1.out.c2
  go_wp2_with fail
  go_end0
  exact ⟨rfl, (P1.out).setNx 83, (M1.out).only (only_set w2 bo 1 (.func (.func 83) #[.pointer (some ⟨bo, 0, none⟩)] #[])) (fun e => hne e.symm) (fun e => hnc e.symm), (O1.out).set1 1 (.inl rfl) (.func (.func 83) #[.pointer (some ⟨bo, 0, none⟩)] #[])⟩

set_option maxHeartbeats 2000000 in
set_option maxRecDepth 100000 in
theorem dStealSlot (hh : DStepAt w bo bd bm bc nx base n v t b won tc L) :
    Calls Try.prog 81 #[.pointer (some ⟨bo, 0, none⟩)] w fun e w' => e = .returned (.tuple #[]) ∧ DopAt w' bo bd 87 0 (at_ L (dslotOf base n t)) t b won ∧ MemAt w' bm bc L (tc + 1) ∧ Only (S3 bo bm bc) w w' := by
  have c0 := hh.op.c0
  have c1 := hh.op.c1
  have c2 := hh.op.c2
  have c3 := hh.op.c3
  have c4 := hh.op.c4
  have c5 := hh.op.c5
  have c6 := hh.op.c6
  have g0 := hh.deq.c0
  have g1 := hh.deq.c1
  have g2 := hh.deq.c2
  have n1 := hh.n1
  have n64 := hh.n64
  have b0 := hh.b0
  have b1 := hh.b1
  have HH := hide hh
  have hne : bo ≠ bm := Blk.ne_ hh.op hh.mem.mem (by decide)
  have hnc : bo ≠ bc := Blk.ne_ hh.op hh.mem.cells (by decide)
  have hdm : bd ≠ bm := Blk.ne_ hh.deq hh.mem.mem (by decide)
  have hdc : bd ≠ bc := Blk.ne_ hh.deq hh.mem.cells (by decide)
  have hdo : bd ≠ bo := Blk.ne_ hh.deq hh.op (by decide)
  clear hh
  go_enter Try.func81, Try.ntmps81
  have HS := HH.out.slot HH.out.t64
  have HSL := hide HS
  clear HS
  obtain ⟨x, hx⟩ : ∃ x, at_ L (dslotOf base n t) = x := ⟨_, rfl⟩
  rw [hx]
  have HX := hide hx
  clear hx
  go_wp2_with fail
  have zc0 := HH.out.op.drew.c0
  have zc4 := HH.out.op.drew.c4
  have zg0 := HH.out.deq.drew.c0
  clear c0 c1 c2 c3 c4 c5 c6 g0 g1 g2
  go_region_held3 (fun w' => w'.cell? ⟨bo, 0, none⟩ = some (.pointer (some ⟨bd, 0, none⟩)) ∧ w'.cell? ⟨bo, 4, none⟩ = some (.int .u64 t) ∧ w'.cell? ⟨bd, 0, none⟩ = some (.pointer (some ⟨bm, 0, none⟩))) (first | exact ⟨zc0, zc4, zg0⟩ | exact ⟨kc0, kc4, kg0⟩ | exact ⟨jc0, jc4, jg0⟩ | exact ⟨ic0, ic4, ig0⟩) (first | (go_at_call 82; refine (dslot_any HH.out.deq.drew HH.out.t64 n1 n64 b0 b1).mono ?_; rintro e w1 ⟨rfl, q1, rfl⟩; have PA := hide (HH.out.op.drewN (1 + q1)); have DA := hide (HH.out.deq.drewN (1 + q1)); have kc0 := PA.out.c0; have kc4 := PA.out.c4; have kg0 := DA.out.c0) | (go_at_call 70; refine (Load_in (dslotOf base n t) (HH.out.mem.drewN (1 + q1)) HH.out.few HSL.out.1 HSL.out.2).mono ?_; rintro e w2 ⟨rfl, h1, o1⟩; rw [HX.out]; have P1 := hide ((HH.out.op.drewN (1 + q1)).only o1 (fun h => by unfold S1 at h; omega)); have D1 := hide ((HH.out.deq.drewN (1 + q1)).only o1 (fun h => by unfold S1 at h; omega)); have M1 := hide h1; have O1 := hide (((Only.refl (S3 bo bm bc) w).drewN (1 + q1)).trans (s3_of_s1 (bo := bo) (bc := bc) o1)); have jc0 := P1.out.c0; have jc4 := P1.out.c4; have jg0 := D1.out.c0; have yf := P1.out.fz 3; have yc := P1.out.c3; have P2 := hide (P1.out.setV x); have D2 := hide (D1.out.only (only_set w2 bo 3 (.int .u64 x)) hdo); have ic0 := P2.out.c0; have ic4 := P2.out.c4; have ig0 := D2.out.c0; clear h1 o1))
  rename_i hHeld
  clear hHeld zc0 zc4 zg0 kc0 kc4 kg0 jc0 jc4 jg0 ic0 ic4 ig0 yf yc P2 D2
  have AP0 := hide (P1.out.setV x)
  have AD0 := hide (D1.out.only (only_set (w2) bo 3 (.int .u64 x)) hdo)
  have AM0 := hide (M1.out.only (only_set (w2) bo 3 (.int .u64 x)) (fun e => hne e.symm) (fun e => hnc e.symm))
  have AO0 := hide (O1.out.set1 3 (.inl rfl) (.int .u64 x))
  generalize (w2).setCell ⟨bo, 3, none⟩ (.int .u64 x) = w3 at AP0 AD0 AM0 AO0 ⊢
  have c0 := AP0.out.c0
  have c1 := AP0.out.c1
  have c2 := AP0.out.c2
  have c3 := AP0.out.c3
  have c4 := AP0.out.c4
  have c5 := AP0.out.c5
  have c6 := AP0.out.c6
  have f1 := AP0.out.fz 1
  have f2 := AP0.out.fz 2
  have f3 := AP0.out.fz 3
  have f4 := AP0.out.fz 4
  have f5 := AP0.out.fz 5
  have f6 := AP0.out.fz 6
  have g0 := AD0.out.c0
  have g1 := AD0.out.c1
  have g2 := AD0.out.c2
  go_wp2_with fail
  go_end0
  exact ⟨rfl, (AP0.out).setNx 87, (AM0.out).only (only_set w3 bo 1 (.func (.func 87) #[.pointer (some ⟨bo, 0, none⟩)] #[])) (fun e => hne e.symm) (fun e => hnc e.symm), (AO0.out).set1 1 (.inl rfl) (.func (.func 87) #[.pointer (some ⟨bo, 0, none⟩)] #[])⟩

/-- Is it not the last one? -/
def dlast (t b : Int) : Int := if t < IntKind.u64.wrap (b - 1) then 1 else 0
set_option maxHeartbeats 2000000 in
set_option maxRecDepth 100000 in
theorem dPopSlot (hh : DStepAt w bo bd bm bc nx base n v t b won tc L) :
    Calls Try.prog 85 #[.pointer (some ⟨bo, 0, none⟩)] w fun e w' => e = .returned (.tuple #[]) ∧ DopAt w' bo bd 88 (dlast t b) (at_ L (dslotOf base n (IntKind.u64.wrap (b - 1)))) t b won ∧ MemAt w' bm bc L (tc + 1) ∧ Only (S3 bo bm bc) w w' := by
  have c0 := hh.op.c0
  have c1 := hh.op.c1
  have c2 := hh.op.c2
  have c3 := hh.op.c3
  have c4 := hh.op.c4
  have c5 := hh.op.c5
  have c6 := hh.op.c6
  have g0 := hh.deq.c0
  have g1 := hh.deq.c1
  have g2 := hh.deq.c2
  have n1 := hh.n1
  have n64 := hh.n64
  have b0 := hh.b0
  have b1 := hh.b1
  have HH := hide hh
  have hne : bo ≠ bm := Blk.ne_ hh.op hh.mem.mem (by decide)
  have hnc : bo ≠ bc := Blk.ne_ hh.op hh.mem.cells (by decide)
  have hdm : bd ≠ bm := Blk.ne_ hh.deq hh.mem.mem (by decide)
  have hdc : bd ≠ bc := Blk.ne_ hh.deq hh.mem.cells (by decide)
  have hdo : bd ≠ bo := Blk.ne_ hh.deq hh.op (by decide)
  clear hh
  go_enter Try.func85, Try.ntmps85
  have HS := HH.out.slot (u64_wrap (b - 1))
  have HSL := hide HS
  clear HS
  obtain ⟨x, hx⟩ : ∃ x, at_ L (dslotOf base n (IntKind.u64.wrap (b - 1))) = x := ⟨_, rfl⟩
  have HX := hide hx
  clear hx
  go_wp2_with fail
  have zc0 := HH.out.op.drew.c0
  have zc5 := HH.out.op.drew.c5
  have zg0 := HH.out.deq.drew.c0
  clear c0 c1 c2 c3 c4 c5 c6 g0 g1 g2
  go_region_held3 (fun w' => w'.cell? ⟨bo, 0, none⟩ = some (.pointer (some ⟨bd, 0, none⟩)) ∧ w'.cell? ⟨bo, 5, none⟩ = some (.int .u64 b) ∧ w'.cell? ⟨bd, 0, none⟩ = some (.pointer (some ⟨bm, 0, none⟩))) (first | exact ⟨zc0, zc5, zg0⟩ | exact ⟨kc0, kc5, kg0⟩ | exact ⟨jc0, jc5, jg0⟩ | exact ⟨ic0, ic5, ig0⟩) (first | (go_at_call 82; refine (dslot_any HH.out.deq.drew (u64_wrap (b - 1)) n1 n64 b0 b1).mono ?_; rintro e w1 ⟨rfl, q1, rfl⟩; have PA := hide (HH.out.op.drewN (1 + q1)); have DA := hide (HH.out.deq.drewN (1 + q1)); have kc0 := PA.out.c0; have kc5 := PA.out.c5; have kg0 := DA.out.c0) | (go_at_call 70; refine (Load_in (dslotOf base n (IntKind.u64.wrap (b - 1))) (HH.out.mem.drewN (1 + q1)) HH.out.few HSL.out.1 HSL.out.2).mono ?_; rintro e w2 ⟨rfl, h1, o1⟩; rw [HX.out]; have P1 := hide ((HH.out.op.drewN (1 + q1)).only o1 (fun h => by unfold S1 at h; omega)); have D1 := hide ((HH.out.deq.drewN (1 + q1)).only o1 (fun h => by unfold S1 at h; omega)); have M1 := hide h1; have O1 := hide (((Only.refl (S3 bo bm bc) w).drewN (1 + q1)).trans (s3_of_s1 (bo := bo) (bc := bc) o1)); have jc0 := P1.out.c0; have jc5 := P1.out.c5; have jg0 := D1.out.c0; have yf := P1.out.fz 3; have yc := P1.out.c3; have P2 := hide (P1.out.setV x); have D2 := hide (D1.out.only (only_set w2 bo 3 (.int .u64 x)) hdo); have ic0 := P2.out.c0; have ic5 := P2.out.c5; have ig0 := D2.out.c0; clear h1 o1))
  rename_i hHeld
  clear hHeld zc0 zc5 zg0 kc0 kc5 kg0 jc0 jc5 jg0 ic0 ic5 ig0 yf yc P2 D2
  have AP0 := hide (P1.out.setV x)
  have AD0 := hide (D1.out.only (only_set (w2) bo 3 (.int .u64 x)) hdo)
  have AM0 := hide (M1.out.only (only_set (w2) bo 3 (.int .u64 x)) (fun e => hne e.symm) (fun e => hnc e.symm))
  have AO0 := hide (O1.out.set1 3 (.inl rfl) (.int .u64 x))
  generalize (w2).setCell ⟨bo, 3, none⟩ (.int .u64 x) = w3 at AP0 AD0 AM0 AO0 ⊢
  have c0 := AP0.out.c0
  have c1 := AP0.out.c1
  have c2 := AP0.out.c2
  have c3 := AP0.out.c3
  have c4 := AP0.out.c4
  have c5 := AP0.out.c5
  have c6 := AP0.out.c6
  have f1 := AP0.out.fz 1
  have f2 := AP0.out.fz 2
  have f3 := AP0.out.fz 3
  have f4 := AP0.out.fz 4
  have f5 := AP0.out.fz 5
  have f6 := AP0.out.fz 6
  have g0 := AD0.out.c0
  have g1 := AD0.out.c1
  have g2 := AD0.out.c2
  go_upto_region 2 with fail
  clear c0 c1 c2 c3 c4 c5 c6 f1 f2 f3 f4 f5 f6 g0 g1 g2
  have BP0 := hide (AP0.out.setNx 88)
  have BD0 := hide (AD0.out.only (only_set (w3) bo 1 (.func (.func 88) #[.pointer (some ⟨bo, 0, none⟩)] #[])) hdo)
  have BM0 := hide (AM0.out.only (only_set (w3) bo 1 (.func (.func 88) #[.pointer (some ⟨bo, 0, none⟩)] #[])) (fun e => hne e.symm) (fun e => hnc e.symm))
  have BO0 := hide (AO0.out.set1 1 (.inl rfl) (.func (.func 88) #[.pointer (some ⟨bo, 0, none⟩)] #[]))
  generalize (w3).setCell ⟨bo, 1, none⟩ (.func (.func 88) #[.pointer (some ⟨bo, 0, none⟩)] #[]) = w4 at BP0 BD0 BM0 BO0 ⊢
  have c0 := BP0.out.c0
  have c1 := BP0.out.c1
  have c2 := BP0.out.c2
  have c3 := BP0.out.c3
  have c4 := BP0.out.c4
  have c5 := BP0.out.c5
  have c6 := BP0.out.c6
  have f1 := BP0.out.fz 1
  have f2 := BP0.out.fz 2
  have f3 := BP0.out.fz 3
  have f4 := BP0.out.fz 4
  have f5 := BP0.out.fz 5
  have f6 := BP0.out.fz 6
  have g0 := BD0.out.c0
  have g1 := BD0.out.c1
  have g2 := BD0.out.c2
  by_cases hge : t < (IntKind.u64.wrap (b - 1))
  · have HR := hide (show dlast t b = 1 by unfold dlast; rw [if_pos hge])
    go_quiet (fail)
    go_wp2_with fail
    go_end0
    rw [HX.out, HR.out]
    exact ⟨rfl, ((BP0.out.drewN _)).setOut 1, ((BM0.out.drewN _)).only (only_set _ bo 2 (.int .i64 1)) (fun e => hne e.symm) (fun e => hnc e.symm), ((BO0.out.drewN _)).set1 2 (.inl rfl) (.int .i64 1)⟩
  · have HR := hide (show dlast t b = 0 by unfold dlast; rw [if_neg hge])
    replace hge : (IntKind.u64.wrap (b - 1)) ≤ t := by omega
    go_quiet (fail)
    go_wp2_with fail
    go_end0
    rw [HX.out, HR.out]
    exact ⟨rfl, (BP0.out.drewN _), (BM0.out.drewN _), (BO0.out.drewN _)⟩

/-- The top, swapped. -/
def dswapL (base : Int) (L : List Int) (t : Int) : List Int := if at_ L base = t then L.set base.toNat (IntKind.u64.wrap (t + 1)) else L
def dswapB (base : Int) (L : List Int) (t : Int) : Bool := decide (at_ L base = t)
set_option maxHeartbeats 2000000 in
set_option maxRecDepth 100000 in
theorem dPopSwap_yes (hh : DStepAt w bo bd bm bc nx base n v t b won tc L) (he : at_ L base = t) :
    Calls Try.prog 88 #[.pointer (some ⟨bo, 0, none⟩)] w fun e w' => e = .returned (.tuple #[]) ∧ DopAt w' bo bd 86 0 v t b true ∧ MemAt w' bm bc (L.set base.toNat (IntKind.u64.wrap (t + 1))) (tc + 1) ∧ Only (S3 bo bm bc) w w' := by
  have c0 := hh.op.c0
  have c1 := hh.op.c1
  have c2 := hh.op.c2
  have c3 := hh.op.c3
  have c4 := hh.op.c4
  have c5 := hh.op.c5
  have c6 := hh.op.c6
  have g0 := hh.deq.c0
  have g1 := hh.deq.c1
  have g2 := hh.deq.c2
  have n1 := hh.n1
  have n64 := hh.n64
  have b0 := hh.b0
  have b1 := hh.b1
  have HH := hide hh
  have hne : bo ≠ bm := Blk.ne_ hh.op hh.mem.mem (by decide)
  have hnc : bo ≠ bc := Blk.ne_ hh.op hh.mem.cells (by decide)
  have hdm : bd ≠ bm := Blk.ne_ hh.deq hh.mem.mem (by decide)
  have hdc : bd ≠ bc := Blk.ne_ hh.deq hh.mem.cells (by decide)
  have hdo : bd ≠ bo := Blk.ne_ hh.deq hh.op (by decide)
  clear hh
  have HE := hide he
  clear he
  go_enter Try.func88, Try.ntmps88
  go_wp2_with fail
  have zc0 := HH.out.op.drew.c0
  have zc4 := HH.out.op.drew.c4
  have zg0 := HH.out.deq.drew.c0
  have zg1 := HH.out.deq.drew.c1
  clear c0 c1 c2 c3 c4 c5 c6 g0 g1 g2
  have hwr : IntKind.i64.wrap base = base := IntWalk.i64_in _ (by omega)
  go_region_held3 (fun w' => w'.cell? ⟨bo, 0, none⟩ = some (.pointer (some ⟨bd, 0, none⟩)) ∧ w'.cell? ⟨bo, 4, none⟩ = some (.int .u64 t) ∧ w'.cell? ⟨bd, 0, none⟩ = some (.pointer (some ⟨bm, 0, none⟩)) ∧ w'.cell? ⟨bd, 1, none⟩ = some (.int .i64 base)) (first | exact ⟨zc0, zc4, zg0, zg1⟩ | exact ⟨jc0, jc4, jg0, jg1⟩ | exact ⟨ic0, ic4, ig0, ig1⟩) (first | (go_at_call 84; refine (Swap_yes base t (IntKind.u64.wrap (t + 1)) (HH.out.mem.drew) HH.out.few b0 (by have := HH.out.in_; omega) HE.out).mono ?_; rintro e w2 ⟨rfl, h1, o1⟩; have P1 := hide ((HH.out.op.drew).only o1 (fun h => by unfold S2 at h; omega)); have D1 := hide ((HH.out.deq.drew).only o1 (fun h => by unfold S2 at h; omega)); have M1 := hide h1; have O1 := hide (((Only.refl (S3 bo bm bc) w).drew).trans (s3_of_s2 (bo := bo) o1)); have jc0 := P1.out.c0; have jc4 := P1.out.c4; have jg0 := D1.out.c0; have jg1 := D1.out.c1; have yf := P1.out.fz 6; have yc := P1.out.c6; have P2 := hide (P1.out.setWon true); have D2 := hide (D1.out.only (only_set w2 bo 6 (.bool true)) hdo); have ic0 := P2.out.c0; have ic4 := P2.out.c4; have ig0 := D2.out.c0; have ig1 := D2.out.c1; clear h1 o1))
  rename_i hHeld
  clear hHeld hwr zc0 zc4 zg0 zg1 jc0 jc4 jg0 jg1 ic0 ic4 ig0 ig1 yf yc P2 D2
  have AP0 := hide (P1.out.setWon true)
  have AD0 := hide (D1.out.only (only_set (w2) bo 6 (.bool true)) hdo)
  have AM0 := hide (M1.out.only (only_set (w2) bo 6 (.bool true)) (fun e => hne e.symm) (fun e => hnc e.symm))
  have AO0 := hide (O1.out.set1 6 (.inl rfl) (.bool true))
  generalize (w2).setCell ⟨bo, 6, none⟩ (.bool true) = w3 at AP0 AD0 AM0 AO0 ⊢
  have c0 := AP0.out.c0
  have c1 := AP0.out.c1
  have c2 := AP0.out.c2
  have c3 := AP0.out.c3
  have c4 := AP0.out.c4
  have c5 := AP0.out.c5
  have c6 := AP0.out.c6
  have f1 := AP0.out.fz 1
  have f2 := AP0.out.fz 2
  have f3 := AP0.out.fz 3
  have f4 := AP0.out.fz 4
  have f5 := AP0.out.fz 5
  have f6 := AP0.out.fz 6
  have g0 := AD0.out.c0
  have g1 := AD0.out.c1
  have g2 := AD0.out.c2
  go_wp2_with fail
  go_end0
  exact ⟨rfl, (AP0.out).setNx 86, (AM0.out).only (only_set w3 bo 1 (.func (.func 86) #[.pointer (some ⟨bo, 0, none⟩)] #[])) (fun e => hne e.symm) (fun e => hnc e.symm), (AO0.out).set1 1 (.inl rfl) (.func (.func 86) #[.pointer (some ⟨bo, 0, none⟩)] #[])⟩
set_option maxHeartbeats 2000000 in
set_option maxRecDepth 100000 in
theorem dPopSwap_no (hh : DStepAt w bo bd bm bc nx base n v t b won tc L) (he : at_ L base ≠ t) :
    Calls Try.prog 88 #[.pointer (some ⟨bo, 0, none⟩)] w fun e w' => e = .returned (.tuple #[]) ∧ DopAt w' bo bd 86 0 v t b false ∧ MemAt w' bm bc L (tc + 1) ∧ Only (S3 bo bm bc) w w' := by
  have c0 := hh.op.c0
  have c1 := hh.op.c1
  have c2 := hh.op.c2
  have c3 := hh.op.c3
  have c4 := hh.op.c4
  have c5 := hh.op.c5
  have c6 := hh.op.c6
  have g0 := hh.deq.c0
  have g1 := hh.deq.c1
  have g2 := hh.deq.c2
  have n1 := hh.n1
  have n64 := hh.n64
  have b0 := hh.b0
  have b1 := hh.b1
  have HH := hide hh
  have hne : bo ≠ bm := Blk.ne_ hh.op hh.mem.mem (by decide)
  have hnc : bo ≠ bc := Blk.ne_ hh.op hh.mem.cells (by decide)
  have hdm : bd ≠ bm := Blk.ne_ hh.deq hh.mem.mem (by decide)
  have hdc : bd ≠ bc := Blk.ne_ hh.deq hh.mem.cells (by decide)
  have hdo : bd ≠ bo := Blk.ne_ hh.deq hh.op (by decide)
  clear hh
  have HE := hide he
  clear he
  go_enter Try.func88, Try.ntmps88
  go_wp2_with fail
  have zc0 := HH.out.op.drew.c0
  have zc4 := HH.out.op.drew.c4
  have zg0 := HH.out.deq.drew.c0
  have zg1 := HH.out.deq.drew.c1
  clear c0 c1 c2 c3 c4 c5 c6 g0 g1 g2
  have hwr : IntKind.i64.wrap base = base := IntWalk.i64_in _ (by omega)
  go_region_held3 (fun w' => w'.cell? ⟨bo, 0, none⟩ = some (.pointer (some ⟨bd, 0, none⟩)) ∧ w'.cell? ⟨bo, 4, none⟩ = some (.int .u64 t) ∧ w'.cell? ⟨bd, 0, none⟩ = some (.pointer (some ⟨bm, 0, none⟩)) ∧ w'.cell? ⟨bd, 1, none⟩ = some (.int .i64 base)) (first | exact ⟨zc0, zc4, zg0, zg1⟩ | exact ⟨jc0, jc4, jg0, jg1⟩ | exact ⟨ic0, ic4, ig0, ig1⟩) (first | (go_at_call 84; refine (Swap_no base t (IntKind.u64.wrap (t + 1)) (HH.out.mem.drew) HH.out.few b0 (by have := HH.out.in_; omega) HE.out).mono ?_; rintro e w2 ⟨rfl, h1, o1⟩; have P1 := hide ((HH.out.op.drew).only o1 (fun h => by unfold S1 at h; omega)); have D1 := hide ((HH.out.deq.drew).only o1 (fun h => by unfold S1 at h; omega)); have M1 := hide h1; have O1 := hide (((Only.refl (S3 bo bm bc) w).drew).trans (s3_of_s1 (bo := bo) (bc := bc) o1)); have jc0 := P1.out.c0; have jc4 := P1.out.c4; have jg0 := D1.out.c0; have jg1 := D1.out.c1; have yf := P1.out.fz 6; have yc := P1.out.c6; have P2 := hide (P1.out.setWon false); have D2 := hide (D1.out.only (only_set w2 bo 6 (.bool false)) hdo); have ic0 := P2.out.c0; have ic4 := P2.out.c4; have ig0 := D2.out.c0; have ig1 := D2.out.c1; clear h1 o1))
  rename_i hHeld
  clear hHeld hwr zc0 zc4 zg0 zg1 jc0 jc4 jg0 jg1 ic0 ic4 ig0 ig1 yf yc P2 D2
  have AP0 := hide (P1.out.setWon false)
  have AD0 := hide (D1.out.only (only_set (w2) bo 6 (.bool false)) hdo)
  have AM0 := hide (M1.out.only (only_set (w2) bo 6 (.bool false)) (fun e => hne e.symm) (fun e => hnc e.symm))
  have AO0 := hide (O1.out.set1 6 (.inl rfl) (.bool false))
  generalize (w2).setCell ⟨bo, 6, none⟩ (.bool false) = w3 at AP0 AD0 AM0 AO0 ⊢
  have c0 := AP0.out.c0
  have c1 := AP0.out.c1
  have c2 := AP0.out.c2
  have c3 := AP0.out.c3
  have c4 := AP0.out.c4
  have c5 := AP0.out.c5
  have c6 := AP0.out.c6
  have f1 := AP0.out.fz 1
  have f2 := AP0.out.fz 2
  have f3 := AP0.out.fz 3
  have f4 := AP0.out.fz 4
  have f5 := AP0.out.fz 5
  have f6 := AP0.out.fz 6
  have g0 := AD0.out.c0
  have g1 := AD0.out.c1
  have g2 := AD0.out.c2
  go_wp2_with fail
  go_end0
  exact ⟨rfl, (AP0.out).setNx 86, (AM0.out).only (only_set w3 bo 1 (.func (.func 86) #[.pointer (some ⟨bo, 0, none⟩)] #[])) (fun e => hne e.symm) (fun e => hnc e.symm), (AO0.out).set1 1 (.inl rfl) (.func (.func 86) #[.pointer (some ⟨bo, 0, none⟩)] #[])⟩

set_option maxHeartbeats 2000000 in
set_option maxRecDepth 100000 in
theorem dStealSwap_yes (hh : DStepAt w bo bd bm bc nx base n v t b won tc L) (he : at_ L base = t) :
    Calls Try.prog 87 #[.pointer (some ⟨bo, 0, none⟩)] w fun e w' => e = .returned (.tuple #[]) ∧ DopAt w' bo bd nx 1 v t b won ∧ MemAt w' bm bc (L.set base.toNat (IntKind.u64.wrap (t + 1))) (tc + 1) ∧ Only (S3 bo bm bc) w w' := by
  have c0 := hh.op.c0
  have c1 := hh.op.c1
  have c2 := hh.op.c2
  have c3 := hh.op.c3
  have c4 := hh.op.c4
  have c5 := hh.op.c5
  have c6 := hh.op.c6
  have g0 := hh.deq.c0
  have g1 := hh.deq.c1
  have g2 := hh.deq.c2
  have n1 := hh.n1
  have n64 := hh.n64
  have b0 := hh.b0
  have b1 := hh.b1
  have HH := hide hh
  have hne : bo ≠ bm := Blk.ne_ hh.op hh.mem.mem (by decide)
  have hnc : bo ≠ bc := Blk.ne_ hh.op hh.mem.cells (by decide)
  have hdm : bd ≠ bm := Blk.ne_ hh.deq hh.mem.mem (by decide)
  have hdc : bd ≠ bc := Blk.ne_ hh.deq hh.mem.cells (by decide)
  have hdo : bd ≠ bo := Blk.ne_ hh.deq hh.op (by decide)
  clear hh
  have HE := hide he
  clear he
  go_enter Try.func87, Try.ntmps87
  have f2 := HH.out.op.fz 2
  go_upto_region 1 with fail
  clear f2 c0 c1 c2 c3 c4 c5 c6 g0 g1 g2
  have HH0 := hide HH.out.op
  have HD0 := hide HH.out.deq
  have HM0 := hide HH.out.mem
  have HO0 := hide (Only.refl (S3 bo bm bc) w)
  have AP0 := hide (HH0.out.setOut 6)
  have AD0 := hide (HD0.out.only (only_set (w) bo 2 (.int .i64 6)) hdo)
  have AM0 := hide (HM0.out.only (only_set (w) bo 2 (.int .i64 6)) (fun e => hne e.symm) (fun e => hnc e.symm))
  have AO0 := hide (HO0.out.set1 2 (.inl rfl) (.int .i64 6))
  generalize (w).setCell ⟨bo, 2, none⟩ (.int .i64 6) = w0 at AP0 AD0 AM0 AO0 ⊢
  have c0 := AP0.out.c0
  have c1 := AP0.out.c1
  have c2 := AP0.out.c2
  have c3 := AP0.out.c3
  have c4 := AP0.out.c4
  have c5 := AP0.out.c5
  have c6 := AP0.out.c6
  have f1 := AP0.out.fz 1
  have f2 := AP0.out.fz 2
  have f3 := AP0.out.fz 3
  have f4 := AP0.out.fz 4
  have f5 := AP0.out.fz 5
  have f6 := AP0.out.fz 6
  have g0 := AD0.out.c0
  have g1 := AD0.out.c1
  have g2 := AD0.out.c2
  have zc0 := AP0.out.drew.c0
  have zc4 := AP0.out.drew.c4
  have zg0 := AD0.out.drew.c0
  have zg1 := AD0.out.drew.c1
  clear c0 c1 c2 c3 c4 c5 c6 f1 f2 f3 f4 f5 f6 g0 g1 g2
  have hwr : IntKind.i64.wrap base = base := IntWalk.i64_in _ (by omega)
  go_region_held3 (fun w' => w'.cell? ⟨bo, 0, none⟩ = some (.pointer (some ⟨bd, 0, none⟩)) ∧ w'.cell? ⟨bo, 4, none⟩ = some (.int .u64 t) ∧ w'.cell? ⟨bd, 0, none⟩ = some (.pointer (some ⟨bm, 0, none⟩)) ∧ w'.cell? ⟨bd, 1, none⟩ = some (.int .i64 base)) (first | exact ⟨zc0, zc4, zg0, zg1⟩ | exact ⟨jc0, jc4, jg0, jg1⟩) (first | (go_at_call 84; refine (Swap_yes base t (IntKind.u64.wrap (t + 1)) (AM0.out.drew) HH.out.few b0 (by have := HH.out.in_; omega) HE.out).mono ?_; rintro e w2 ⟨rfl, h1, o1⟩; have P1 := hide ((AP0.out.drew).only o1 (fun h => by unfold S2 at h; omega)); have D1 := hide ((AD0.out.drew).only o1 (fun h => by unfold S2 at h; omega)); have M1 := hide h1; have O1 := hide (((AO0.out).drew).trans (s3_of_s2 (bo := bo) o1)); have jc0 := P1.out.c0; have jc4 := P1.out.c4; have jg0 := D1.out.c0; have jg1 := D1.out.c1; clear h1 o1))
  rename_i hHeld
  clear hHeld hwr zc0 zc4 zg0 zg1 jc0 jc4 jg0 jg1
  have c0 := P1.out.c0
  have c1 := P1.out.c1
  have c2 := P1.out.c2
  have c3 := P1.out.c3
  have c4 := P1.out.c4
  have c5 := P1.out.c5
  have c6 := P1.out.c6
  have f1 := P1.out.fz 1
  have f2 := P1.out.fz 2
  have f3 := P1.out.fz 3
  have f4 := P1.out.fz 4
  have f5 := P1.out.fz 5
  have f6 := P1.out.fz 6
  have g0 := D1.out.c0
  have g1 := D1.out.c1
  have g2 := D1.out.c2
  go_wp2_with fail
  go_end0
  exact ⟨rfl, (P1.out).setOut 1, (M1.out).only (only_set _ bo 2 (.int .i64 1)) (fun e => hne e.symm) (fun e => hnc e.symm), (O1.out).set1 2 (.inl rfl) (.int .i64 1)⟩
set_option maxHeartbeats 2000000 in
set_option maxRecDepth 100000 in
theorem dStealSwap_no (hh : DStepAt w bo bd bm bc nx base n v t b won tc L) (he : at_ L base ≠ t) :
    Calls Try.prog 87 #[.pointer (some ⟨bo, 0, none⟩)] w fun e w' => e = .returned (.tuple #[]) ∧ DopAt w' bo bd nx 6 v t b won ∧ MemAt w' bm bc L (tc + 1) ∧ Only (S3 bo bm bc) w w' := by
  have c0 := hh.op.c0
  have c1 := hh.op.c1
  have c2 := hh.op.c2
  have c3 := hh.op.c3
  have c4 := hh.op.c4
  have c5 := hh.op.c5
  have c6 := hh.op.c6
  have g0 := hh.deq.c0
  have g1 := hh.deq.c1
  have g2 := hh.deq.c2
  have n1 := hh.n1
  have n64 := hh.n64
  have b0 := hh.b0
  have b1 := hh.b1
  have HH := hide hh
  have hne : bo ≠ bm := Blk.ne_ hh.op hh.mem.mem (by decide)
  have hnc : bo ≠ bc := Blk.ne_ hh.op hh.mem.cells (by decide)
  have hdm : bd ≠ bm := Blk.ne_ hh.deq hh.mem.mem (by decide)
  have hdc : bd ≠ bc := Blk.ne_ hh.deq hh.mem.cells (by decide)
  have hdo : bd ≠ bo := Blk.ne_ hh.deq hh.op (by decide)
  clear hh
  have HE := hide he
  clear he
  go_enter Try.func87, Try.ntmps87
  have f2 := HH.out.op.fz 2
  go_upto_region 1 with fail
  clear f2 c0 c1 c2 c3 c4 c5 c6 g0 g1 g2
  have HH0 := hide HH.out.op
  have HD0 := hide HH.out.deq
  have HM0 := hide HH.out.mem
  have HO0 := hide (Only.refl (S3 bo bm bc) w)
  have AP0 := hide (HH0.out.setOut 6)
  have AD0 := hide (HD0.out.only (only_set (w) bo 2 (.int .i64 6)) hdo)
  have AM0 := hide (HM0.out.only (only_set (w) bo 2 (.int .i64 6)) (fun e => hne e.symm) (fun e => hnc e.symm))
  have AO0 := hide (HO0.out.set1 2 (.inl rfl) (.int .i64 6))
  generalize (w).setCell ⟨bo, 2, none⟩ (.int .i64 6) = w0 at AP0 AD0 AM0 AO0 ⊢
  have c0 := AP0.out.c0
  have c1 := AP0.out.c1
  have c2 := AP0.out.c2
  have c3 := AP0.out.c3
  have c4 := AP0.out.c4
  have c5 := AP0.out.c5
  have c6 := AP0.out.c6
  have f1 := AP0.out.fz 1
  have f2 := AP0.out.fz 2
  have f3 := AP0.out.fz 3
  have f4 := AP0.out.fz 4
  have f5 := AP0.out.fz 5
  have f6 := AP0.out.fz 6
  have g0 := AD0.out.c0
  have g1 := AD0.out.c1
  have g2 := AD0.out.c2
  have zc0 := AP0.out.drew.c0
  have zc4 := AP0.out.drew.c4
  have zg0 := AD0.out.drew.c0
  have zg1 := AD0.out.drew.c1
  clear c0 c1 c2 c3 c4 c5 c6 f1 f2 f3 f4 f5 f6 g0 g1 g2
  have hwr : IntKind.i64.wrap base = base := IntWalk.i64_in _ (by omega)
  go_region_held3 (fun w' => w'.cell? ⟨bo, 0, none⟩ = some (.pointer (some ⟨bd, 0, none⟩)) ∧ w'.cell? ⟨bo, 4, none⟩ = some (.int .u64 t) ∧ w'.cell? ⟨bd, 0, none⟩ = some (.pointer (some ⟨bm, 0, none⟩)) ∧ w'.cell? ⟨bd, 1, none⟩ = some (.int .i64 base)) (first | exact ⟨zc0, zc4, zg0, zg1⟩ | exact ⟨jc0, jc4, jg0, jg1⟩) (first | (go_at_call 84; refine (Swap_no base t (IntKind.u64.wrap (t + 1)) (AM0.out.drew) HH.out.few b0 (by have := HH.out.in_; omega) HE.out).mono ?_; rintro e w2 ⟨rfl, h1, o1⟩; have P1 := hide ((AP0.out.drew).only o1 (fun h => by unfold S1 at h; omega)); have D1 := hide ((AD0.out.drew).only o1 (fun h => by unfold S1 at h; omega)); have M1 := hide h1; have O1 := hide (((AO0.out).drew).trans (s3_of_s1 (bo := bo) (bc := bc) o1)); have jc0 := P1.out.c0; have jc4 := P1.out.c4; have jg0 := D1.out.c0; have jg1 := D1.out.c1; clear h1 o1))
  rename_i hHeld
  clear hHeld hwr zc0 zc4 zg0 zg1 jc0 jc4 jg0 jg1
  have c0 := P1.out.c0
  have c1 := P1.out.c1
  have c2 := P1.out.c2
  have c3 := P1.out.c3
  have c4 := P1.out.c4
  have c5 := P1.out.c5
  have c6 := P1.out.c6
  have f1 := P1.out.fz 1
  have f2 := P1.out.fz 2
  have f3 := P1.out.fz 3
  have f4 := P1.out.fz 4
  have f5 := P1.out.fz 5
  have f6 := P1.out.fz 6
  have g0 := D1.out.c0
  have g1 := D1.out.c1
  have g2 := D1.out.c2
  go_wp2_with fail
  go_end0
  exact ⟨rfl, P1.out, M1.out, O1.out⟩
end
end Go.Proofs.Ytdoaipjdldknaaa
