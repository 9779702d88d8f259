/-
  troupelaw05.alive answers true, and turns nothing that was there.
-/
import Derived.Test.YtjjjjbfblhadnaaGate4
namespace Go.Proofs.Ytjjjjbfblhadnaa
open Go.RowKit
set_option linter.unusedVariables false

section
variable {w : World} {bg bm bc : Nat} {base n tc : Int} {L : List Int}
/-- A Put that is done at once, and a Take. -/
def putOp (base x : Int) : Gop := { ph := 0, cell := base, ahead := 0, t := 0, v := x, out := 0 }
def takeOp (base : Int) : Gop := { ph := 0, cell := base + 1, ahead := 1, t := 0, v := 0, out := 0 }
theorem putOp_ok (he : GateEnv w bg bm bc base n tc L) {x : Int} (hx : U64 x) : GopOk base L.length (putOp base x) :=
  ⟨.inl rfl, he.b0, by have := he.in_; have := he.n1; show base < _; omega, u64_zero, hx⟩
theorem takeOp_ok (he : GateEnv w bg bm bc base n tc L) : GopOk base L.length (takeOp base) :=
  ⟨.inl rfl, by have := he.b0; show 0 ≤ base + 1; omega, by have := he.in_; have := he.n1; show base + 1 < _; omega, u64_zero, u64_zero⟩
theorem GateEnv.only {w' : World} {S : Nat → Prop} (he : GateEnv w bg bm bc base n tc L) (ho : Only S w w') (h1 : ¬ S bg) (h2 : ¬ S bm) (h3 : ¬ S bc) : GateEnv w' bg bm bc base n tc L :=
  ⟨he.gate.only ho h1, he.mem.only ho h2 h3, he.few, he.u, he.n1, he.n64, he.b0, he.b1, he.in_⟩
theorem GateEnv.only0 {w' : World} (he : GateEnv w bg bm bc base n tc L) (ho : Only S0 w w') : GateEnv w' bg bm bc base n tc L := he.only ho (fun h => h) (fun h => h) (fun h => h)
theorem GPut_all (he : GateEnv w bg bm bc base n tc L) (x : Int) : Calls Try.prog 22 #[.pointer (some ⟨bg, 0, none⟩), .int .u64 x] w fun e w' =>
    ∃ bo, e = .returned (.pointer (some ⟨bo, 0, none⟩)) ∧ GopIs w' bo bg (putOp base x) ∧ GateEnv w' bg bm bc base n tc L ∧ Only S0 w w' ∧ w.heap.size ≤ bo := by
  refine (Put_any x he.gate).mono ?_
  rintro e w' ⟨bo, rfl, h1, h2, h3⟩
  exact ⟨bo, rfl, h1, he.only0 h2, h2, h3⟩
theorem GTake_all (he : GateEnv w bg bm bc base n tc L) : Calls Try.prog 23 #[.pointer (some ⟨bg, 0, none⟩)] w fun e w' =>
    ∃ bo, e = .returned (.pointer (some ⟨bo, 0, none⟩)) ∧ GopIs w' bo bg (takeOp base) ∧ GateEnv w' bg bm bc base n tc L ∧ Only S0 w w' ∧ w.heap.size ≤ bo := by
  refine (Take_any he.gate he.b0 he.b1).mono ?_
  rintro e w' ⟨bo, rfl, h1, h2, h3⟩
  exact ⟨bo, rfl, h1, he.only0 h2, h2, h3⟩
end

set_option maxHeartbeats 1000000 in
theorem alive5_any (w : World) : Calls Try.prog 9 #[] w fun e w' => e = .returned (.bool true) ∧ Only S0 w w' := by
  go_enter Try.func9, Try.ntmps9
  go_wp2_with fail
  refine (New_any 4).mono ?_
  rintro e w1 ⟨bm, bc, rfl, h1, p1, b1, b2⟩
  change MemAt w1 bm bc [0, 0, 0, 0] 0 at h1
  go_wp2_with fail
  refine (Make_good 0 1 h1 (few_of _ (by omega)) (by omega) (by omega) (by decide)).mono ?_
  rintro e w2 ⟨bg, rfl, hg, h2, p2, b3⟩
  change MemAt w2 bm bc [0, 0, 0, 0] 4 at h2
  have P2 := hide (S0.then2 p1 p2 b1 b2)
  have HE2 := hide (show GateEnv w2 bg bm bc 0 1 4 [0, 0, 0, 0] from ⟨hg, h2, few_of _ (by omega), by intro x hx; simp at hx; subst hx; exact ⟨by decide, by decide⟩, by omega, by omega, by omega, by omega, by decide⟩)
  clear h1 p1 p2 hg h2 b3
  go_wp2_with fail
  refine (All_any HE2.out.mem).mono ?_
  rintro e w3 ⟨v, rfl, hv, p3⟩
  have HV := hide hv
  have P3 := hide (P2.out.trans p3)
  have HE3 := hide (HE2.out.only0 p3)
  clear hv p3 HE2 P2
  go_wp2_with fail
  refine (Same_yes (A := [0, 0, 0, 0]) (by decide) (HV.out.rd.only0 ((Only.refl S0 w3).alloc _)) (u64_rd [0, 0, 0, 0] (Blk.new w3 28 #[.int .u64 0, .int .u64 0, .int .u64 0, .int .u64 0]) rfl rfl (by decide))).mono ?_
  rintro e w4 ⟨rfl, p4⟩
  have p4' := ((Only.refl S0 w3).alloc (.cells #[.int .u64 0, .int .u64 0, .int .u64 0, .int .u64 0] 28)).trans p4
  have P4 := hide (P3.out.trans p4')
  have HE4 := hide (HE3.out.only0 p4')
  clear p4 p4' HE3 P3 HV
  go_wp2_with fail
  refine (GPut_all HE4.out 7).mono ?_
  rintro e w5 ⟨bo, rfl, h5, he5, p5, b5⟩
  have H5 := hide h5
  have HE5 := hide he5
  have P5 := hide (P4.out.trans p5)
  have b5' : w.heap.size ≤ bo := Nat.le_trans P4.out.size b5
  clear h5 he5 p5 P4 HE4 b5
  go_wp2_with fail
  refine (done_any HE5.out (putOp_ok HE5.out ⟨by decide, by decide⟩) H5.out (few_of _ (by omega))).mono ?_
  rintro e w6 ⟨rfl, _, _, he6, p6, _⟩
  rw [show gdone 0 1 100 [0, 0, 0, 0] (putOp 0 7) = ([1, 0, 1, 7], { ph := 4, cell := 0, ahead := 0, t := 0, v := 7, out := 1 }, 5) from by kernel_rfl] at he6 ⊢
  rw [show doneV ([1, 0, 1, 7], { ph := 4, cell := 0, ahead := 0, t := 0, v := 7, out := 1 }, 5) = .tuple #[.int .i64 1, .int .u64 0, .int .i64 5] from by kernel_rfl]
  have HE6 := hide (show GateEnv w6 bg bm bc 0 1 9 [1, 0, 1, 7] from he6)
  have P6 := hide (S0.then3 P5.out p6 b5' b1 b2)
  clear he6 p6 P5 HE5 H5 b5'
  go_wp2_with fail
  refine (GPut_all HE6.out 8).mono ?_
  rintro e w5 ⟨bo, rfl, h5, he5, p5, b5⟩
  have H5 := hide h5
  have HE5 := hide he5
  have P5 := hide (P6.out.trans p5)
  have b5' : w.heap.size ≤ bo := Nat.le_trans P6.out.size b5
  clear h5 he5 p5 P6 HE6 b5
  go_wp2_with fail
  refine (done_any HE5.out (putOp_ok HE5.out ⟨by decide, by decide⟩) H5.out (few_of _ (by omega))).mono ?_
  rintro e w6 ⟨rfl, _, _, he6, p6, _⟩
  rw [show gdone 0 1 100 [1, 0, 1, 7] (putOp 0 8) = ([1, 0, 1, 7], { ph := 1, cell := 0, ahead := 0, t := 1, v := 8, out := 2 }, 2) from by kernel_rfl] at he6 ⊢
  rw [show doneV ([1, 0, 1, 7], { ph := 1, cell := 0, ahead := 0, t := 1, v := 8, out := 2 }, 2) = .tuple #[.int .i64 2, .int .u64 0, .int .i64 2] from by kernel_rfl]
  have HE6 := hide (show GateEnv w6 bg bm bc 0 1 11 [1, 0, 1, 7] from he6)
  have P6 := hide (S0.then3 P5.out p6 b5' b1 b2)
  clear he6 p6 P5 HE5 H5 b5'
  go_wp2_with fail
  refine (GTake_all HE6.out).mono ?_
  rintro e w5 ⟨bo, rfl, h5, he5, p5, b5⟩
  have H5 := hide h5
  have HE5 := hide he5
  have P5 := hide (P6.out.trans p5)
  have b5' : w.heap.size ≤ bo := Nat.le_trans P6.out.size b5
  clear h5 he5 p5 P6 HE6 b5
  go_wp2_with fail
  refine (done_any HE5.out (takeOp_ok HE5.out) H5.out (few_of _ (by omega))).mono ?_
  rintro e w6 ⟨rfl, _, _, he6, p6, _⟩
  rw [show gdone 0 1 100 [1, 0, 1, 7] (takeOp 0) = ([1, 1, 2, 7], { ph := 4, cell := 1, ahead := 1, t := 0, v := 7, out := 1 }, 5) from by kernel_rfl] at he6 ⊢
  rw [show doneV ([1, 1, 2, 7], { ph := 4, cell := 1, ahead := 1, t := 0, v := 7, out := 1 }, 5) = .tuple #[.int .i64 1, .int .u64 7, .int .i64 5] from by kernel_rfl]
  have HE6 := hide (show GateEnv w6 bg bm bc 0 1 16 [1, 1, 2, 7] from he6)
  have P6 := hide (S0.then3 P5.out p6 b5' b1 b2)
  clear he6 p6 P5 HE5 H5 b5'
  go_wp2_with fail
  refine (GTake_all HE6.out).mono ?_
  rintro e w5 ⟨bo, rfl, h5, he5, p5, b5⟩
  have H5 := hide h5
  have HE5 := hide he5
  have P5 := hide (P6.out.trans p5)
  have b5' : w.heap.size ≤ bo := Nat.le_trans P6.out.size b5
  clear h5 he5 p5 P6 HE6 b5
  go_wp2_with fail
  refine (done_any HE5.out (takeOp_ok HE5.out) H5.out (few_of _ (by omega))).mono ?_
  rintro e w6 ⟨rfl, _, _, he6, p6, _⟩
  rw [show gdone 0 1 100 [1, 1, 2, 7] (takeOp 0) = ([1, 1, 2, 7], { ph := 1, cell := 1, ahead := 1, t := 1, v := 0, out := 4 }, 2) from by kernel_rfl] at he6 ⊢
  rw [show doneV ([1, 1, 2, 7], { ph := 1, cell := 1, ahead := 1, t := 1, v := 0, out := 4 }, 2) = .tuple #[.int .i64 4, .int .u64 0, .int .i64 2] from by kernel_rfl]
  have P6 := hide (S0.then3 P5.out p6 b5' b1 b2)
  clear he6 p6 P5 HE5 H5 b5'
  go_wp2_with fail
  go_ret
  exact ⟨rfl, P6.out⟩
end Go.Proofs.Ytjjjjbfblhadnaa
