/-
  A deque's examples, and its operations begun.
-/
import Derived.Test.YtblkbfdmoanbfaaDeq4
namespace Go.Proofs.Ytblkbfdmoanbfaa
open Go.RowKit
set_option linter.unusedVariables false

section
variable {w : World} {bd bm bc : Nat} {base n tc : Int} {L : List Int}
def pushOp (x : Int) : Dop := { k := 1, out := 0, v := x, t := 0, b := 0, won := false }
def popOp : Dop := { k := 5, out := 0, v := 0, t := 0, b := 0, won := false }
def stealOp : Dop := { k := 11, out := 0, v := 0, t := 0, b := 0, won := false }
theorem pushOp_ok {x : Int} (hx : U64 x) : DopOk (pushOp x) := ⟨by simp [pushOp], hx, u64_zero, u64_zero⟩
theorem popOp_ok : DopOk popOp := ⟨by simp [popOp], u64_zero, u64_zero, u64_zero⟩
theorem stealOp_ok : DopOk stealOp := ⟨by simp [stealOp], u64_zero, u64_zero, u64_zero⟩
theorem DPush_all (he : DeqEnv w bd bm bc base n tc L) (x : Int) : Calls Try.prog 22 #[.pointer (some ⟨bd, 0, none⟩), .int .u64 x] w fun e w' =>
    ∃ bo, e = .returned (.pointer (some ⟨bo, 0, none⟩)) ∧ DopIs w' bo bd (pushOp x) ∧ DeqEnv w' bd bm bc base n tc L ∧ Only S0 w w' ∧ w.heap.size ≤ bo := by
  refine (DPush_any x w bd).mono ?_
  rintro e w' ⟨bo, rfl, h1, h2, h3⟩
  exact ⟨bo, rfl, h1, he.only0 h2, h2, h3⟩
theorem DPop_all (he : DeqEnv w bd bm bc base n tc L) : Calls Try.prog 24 #[.pointer (some ⟨bd, 0, none⟩)] w fun e w' =>
    ∃ bo, e = .returned (.pointer (some ⟨bo, 0, none⟩)) ∧ DopIs w' bo bd popOp ∧ DeqEnv w' bd bm bc base n tc L ∧ Only S0 w w' ∧ w.heap.size ≤ bo := by
  refine (DPop_any w bd).mono ?_
  rintro e w' ⟨bo, rfl, h1, h2, h3⟩
  exact ⟨bo, rfl, h1, he.only0 h2, h2, h3⟩
theorem DSteal_all (he : DeqEnv w bd bm bc base n tc L) : Calls Try.prog 25 #[.pointer (some ⟨bd, 0, none⟩)] w fun e w' =>
    ∃ bo, e = .returned (.pointer (some ⟨bo, 0, none⟩)) ∧ DopIs w' bo bd stealOp ∧ DeqEnv w' bd bm bc base n tc L ∧ Only S0 w w' ∧ w.heap.size ≤ bo := by
  refine (DSteal_any w bd).mono ?_
  rintro e w' ⟨bo, rfl, h1, h2, h3⟩
  exact ⟨bo, rfl, h1, he.only0 h2, h2, h3⟩
end

set_option maxRecDepth 100000 in
set_option maxHeartbeats 4000000 in
theorem alive4_any (w : World) : Calls Try.prog 10 #[] w fun e w' => e = .returned (.bool true) ∧ Only S0 w w' := by
  go_enter Try.func10, Try.ntmps10
  go_wp2_with fail
  refine (New_any 4).mono ?_
  rintro e w1 ⟨bm, bc, rfl, h1, p1, b1, b2⟩
  change MemAt w1 bm bc [0, 0, 0, 0] 0 at h1
  go_wp2_with fail
  refine (Make_good 0 2 h1 (few_of _ (by omega)) (by omega) (by omega) (by decide)).mono ?_
  rintro e w2 ⟨bd, rfl, hg, h2, p2, b3⟩
  change MemAt w2 bm bc [1, 1, 0, 0] 4 at h2
  have P2 := hide (S0.then2 p1 p2 b1 b2)
  have HE2 := hide (show DeqEnv w2 bd bm bc 0 2 4 [1, 1, 0, 0] from ⟨hg, h2, few_of _ (by omega), by intro x hx; simp at hx; rcases hx with rfl | rfl <;> exact ⟨by decide, by decide⟩, by omega, by omega, by omega, by omega, by decide⟩)
  clear h1 p1 p2 hg h2 b3
  go_wp2_with fail
  refine (All_any HE2.out.mem).mono ?_
  rintro e w3 ⟨v, rfl, hv, p3⟩
  have HV := hide hv
  have P3 := hide (P2.out.trans p3)
  have HE3 := hide (HE2.out.only0 p3)
  clear hv p3 HE2 P2
  go_wp2_with fail
  refine (Same_yes (A := [1, 1, 0, 0]) (by decide) (HV.out.rd.only0 ((Only.refl S0 w3).alloc _)) (u64_rd [1, 1, 0, 0] (Blk.new w3 28 #[.int .u64 1, .int .u64 1, .int .u64 0, .int .u64 0]) rfl rfl (by decide))).mono ?_
  rintro e w4 ⟨rfl, p4⟩
  have p4' := ((Only.refl S0 w3).alloc (.cells #[.int .u64 1, .int .u64 1, .int .u64 0, .int .u64 0] 28)).trans p4
  have Q0 := hide (P3.out.trans p4')
  have E0 := hide (HE3.out.only0 p4')
  clear p4 p4' HE3 P3 HV
  go_wp2_with fail
  refine (DPush_all E0.out 7).mono ?_
  rintro e w5 ⟨bo, rfl, h5, he5, p5, b5⟩
  have H5 := hide h5
  have HE5 := hide he5
  have P5 := hide (Q0.out.trans p5)
  have b5' : w.heap.size ≤ bo := Nat.le_trans Q0.out.size b5
  clear h5 he5 p5 Q0 E0 b5
  go_wp2_with fail
  refine (done_any HE5.out (pushOp_ok ⟨by decide, by decide⟩) H5.out (few_of _ (by omega))).mono ?_
  rintro e w6 ⟨rfl, _, _, he6, p6, _⟩
  rw [show ddone 0 2 100 [1, 1, 0, 0] (pushOp 7) = ([1, 2, 0, 7], { k := 4, out := 1, v := 0, t := 1, b := 1, won := false }, 4) from by kernel_rfl] at he6 ⊢
  rw [show doneV ([1, 2, 0, 7], { k := 4, out := 1, v := 0, t := 1, b := 1, won := false }, 4) = .tuple #[.int .i64 1, .int .u64 0, .int .i64 4] from by kernel_rfl]
  have E1 := hide (show DeqEnv w6 bd bm bc 0 2 8 [1, 2, 0, 7] from he6)
  have Q1 := hide (S0.then3 P5.out p6 b5' b1 b2)
  clear he6 p6 P5 HE5 H5 b5'
  go_wp2_with fail
  refine (DPush_all E1.out 8).mono ?_
  rintro e w5 ⟨bo, rfl, h5, he5, p5, b5⟩
  have H5 := hide h5
  have HE5 := hide he5
  have P5 := hide (Q1.out.trans p5)
  have b5' : w.heap.size ≤ bo := Nat.le_trans Q1.out.size b5
  clear h5 he5 p5 Q1 E1 b5
  go_wp2_with fail
  refine (done_any HE5.out (pushOp_ok ⟨by decide, by decide⟩) H5.out (few_of _ (by omega))).mono ?_
  rintro e w6 ⟨rfl, _, _, he6, p6, _⟩
  rw [show ddone 0 2 100 [1, 2, 0, 7] (pushOp 8) = ([1, 3, 8, 7], { k := 4, out := 1, v := 0, t := 1, b := 2, won := false }, 4) from by kernel_rfl] at he6 ⊢
  rw [show doneV ([1, 3, 8, 7], { k := 4, out := 1, v := 0, t := 1, b := 2, won := false }, 4) = .tuple #[.int .i64 1, .int .u64 0, .int .i64 4] from by kernel_rfl]
  have E2 := hide (show DeqEnv w6 bd bm bc 0 2 12 [1, 3, 8, 7] from he6)
  have Q2 := hide (S0.then3 P5.out p6 b5' b1 b2)
  clear he6 p6 P5 HE5 H5 b5'
  go_wp2_with fail
  refine (DPush_all E2.out 9).mono ?_
  rintro e w5 ⟨bo, rfl, h5, he5, p5, b5⟩
  have H5 := hide h5
  have HE5 := hide he5
  have P5 := hide (Q2.out.trans p5)
  have b5' : w.heap.size ≤ bo := Nat.le_trans Q2.out.size b5
  clear h5 he5 p5 Q2 E2 b5
  go_wp2_with fail
  refine (done_any HE5.out (pushOp_ok ⟨by decide, by decide⟩) H5.out (few_of _ (by omega))).mono ?_
  rintro e w6 ⟨rfl, _, _, he6, p6, _⟩
  rw [show ddone 0 2 100 [1, 3, 8, 7] (pushOp 9) = ([1, 3, 8, 7], { k := 3, out := 2, v := 9, t := 1, b := 3, won := false }, 2) from by kernel_rfl] at he6 ⊢
  rw [show doneV ([1, 3, 8, 7], { k := 3, out := 2, v := 9, t := 1, b := 3, won := false }, 2) = .tuple #[.int .i64 2, .int .u64 0, .int .i64 2] from by kernel_rfl]
  have E3 := hide (show DeqEnv w6 bd bm bc 0 2 14 [1, 3, 8, 7] from he6)
  have Q3 := hide (S0.then3 P5.out p6 b5' b1 b2)
  clear he6 p6 P5 HE5 H5 b5'
  go_wp2_with fail
  refine (DSteal_all E3.out).mono ?_
  rintro e w5 ⟨bo, rfl, h5, he5, p5, b5⟩
  have H5 := hide h5
  have HE5 := hide he5
  have P5 := hide (Q3.out.trans p5)
  have b5' : w.heap.size ≤ bo := Nat.le_trans Q3.out.size b5
  clear h5 he5 p5 Q3 E3 b5
  go_wp2_with fail
  refine (done_any HE5.out stealOp_ok H5.out (few_of _ (by omega))).mono ?_
  rintro e w6 ⟨rfl, _, _, he6, p6, _⟩
  rw [show ddone 0 2 100 [1, 3, 8, 7] stealOp = ([2, 3, 8, 7], { k := 14, out := 1, v := 7, t := 1, b := 3, won := false }, 4) from by kernel_rfl] at he6 ⊢
  rw [show doneV ([2, 3, 8, 7], { k := 14, out := 1, v := 7, t := 1, b := 3, won := false }, 4) = .tuple #[.int .i64 1, .int .u64 7, .int .i64 4] from by kernel_rfl]
  have E4 := hide (show DeqEnv w6 bd bm bc 0 2 18 [2, 3, 8, 7] from he6)
  have Q4 := hide (S0.then3 P5.out p6 b5' b1 b2)
  clear he6 p6 P5 HE5 H5 b5'
  go_wp2_with fail
  refine (DPush_all E4.out 9).mono ?_
  rintro e w5 ⟨bo, rfl, h5, he5, p5, b5⟩
  have H5 := hide h5
  have HE5 := hide he5
  have P5 := hide (Q4.out.trans p5)
  have b5' : w.heap.size ≤ bo := Nat.le_trans Q4.out.size b5
  clear h5 he5 p5 Q4 E4 b5
  go_wp2_with fail
  refine (done_any HE5.out (pushOp_ok ⟨by decide, by decide⟩) H5.out (few_of _ (by omega))).mono ?_
  rintro e w6 ⟨rfl, _, _, he6, p6, _⟩
  rw [show ddone 0 2 100 [2, 3, 8, 7] (pushOp 9) = ([2, 4, 8, 9], { k := 4, out := 1, v := 0, t := 2, b := 3, won := false }, 4) from by kernel_rfl] at he6 ⊢
  rw [show doneV ([2, 4, 8, 9], { k := 4, out := 1, v := 0, t := 2, b := 3, won := false }, 4) = .tuple #[.int .i64 1, .int .u64 0, .int .i64 4] from by kernel_rfl]
  have E5 := hide (show DeqEnv w6 bd bm bc 0 2 22 [2, 4, 8, 9] from he6)
  have Q5 := hide (S0.then3 P5.out p6 b5' b1 b2)
  clear he6 p6 P5 HE5 H5 b5'
  go_wp2_with fail
  refine (DPop_all E5.out).mono ?_
  rintro e w5 ⟨bo, rfl, h5, he5, p5, b5⟩
  have H5 := hide h5
  have HE5 := hide he5
  have P5 := hide (Q5.out.trans p5)
  have b5' : w.heap.size ≤ bo := Nat.le_trans Q5.out.size b5
  clear h5 he5 p5 Q5 E5 b5
  go_wp2_with fail
  refine (done_any HE5.out popOp_ok H5.out (few_of _ (by omega))).mono ?_
  rintro e w6 ⟨rfl, _, _, he6, p6, _⟩
  rw [show ddone 0 2 100 [2, 4, 8, 9] popOp = ([2, 3, 8, 9], { k := 9, out := 1, v := 9, t := 2, b := 4, won := false }, 4) from by kernel_rfl] at he6 ⊢
  rw [show doneV ([2, 3, 8, 9], { k := 9, out := 1, v := 9, t := 2, b := 4, won := false }, 4) = .tuple #[.int .i64 1, .int .u64 9, .int .i64 4] from by kernel_rfl]
  have E6 := hide (show DeqEnv w6 bd bm bc 0 2 26 [2, 3, 8, 9] from he6)
  have Q6 := hide (S0.then3 P5.out p6 b5' b1 b2)
  clear he6 p6 P5 HE5 H5 b5'
  go_wp2_with fail
  refine (DPop_all E6.out).mono ?_
  rintro e w5 ⟨bo, rfl, h5, he5, p5, b5⟩
  have H5 := hide h5
  have HE5 := hide he5
  have P5 := hide (Q6.out.trans p5)
  have b5' : w.heap.size ≤ bo := Nat.le_trans Q6.out.size b5
  clear h5 he5 p5 Q6 E6 b5
  go_wp2_with fail
  refine (done_any HE5.out popOp_ok H5.out (few_of _ (by omega))).mono ?_
  rintro e w6 ⟨rfl, _, _, he6, p6, _⟩
  rw [show ddone 0 2 100 [2, 3, 8, 9] popOp = ([3, 3, 8, 9], { k := 10, out := 1, v := 8, t := 2, b := 3, won := true }, 6) from by kernel_rfl] at he6 ⊢
  rw [show doneV ([3, 3, 8, 9], { k := 10, out := 1, v := 8, t := 2, b := 3, won := true }, 6) = .tuple #[.int .i64 1, .int .u64 8, .int .i64 6] from by kernel_rfl]
  have E7 := hide (show DeqEnv w6 bd bm bc 0 2 32 [3, 3, 8, 9] from he6)
  have Q7 := hide (S0.then3 P5.out p6 b5' b1 b2)
  clear he6 p6 P5 HE5 H5 b5'
  go_wp2_with fail
  refine (DPop_all E7.out).mono ?_
  rintro e w5 ⟨bo, rfl, h5, he5, p5, b5⟩
  have H5 := hide h5
  have HE5 := hide he5
  have P5 := hide (Q7.out.trans p5)
  have b5' : w.heap.size ≤ bo := Nat.le_trans Q7.out.size b5
  clear h5 he5 p5 Q7 E7 b5
  go_wp2_with fail
  refine (done_any HE5.out popOp_ok H5.out (few_of _ (by omega))).mono ?_
  rintro e w6 ⟨rfl, _, _, he6, p6, _⟩
  rw [show ddone 0 2 100 [3, 3, 8, 9] popOp = ([3, 3, 8, 9], { k := 10, out := 4, v := 0, t := 3, b := 3, won := false }, 4) from by kernel_rfl] at he6 ⊢
  rw [show doneV ([3, 3, 8, 9], { k := 10, out := 4, v := 0, t := 3, b := 3, won := false }, 4) = .tuple #[.int .i64 4, .int .u64 0, .int .i64 4] from by kernel_rfl]
  have E8 := hide (show DeqEnv w6 bd bm bc 0 2 36 [3, 3, 8, 9] from he6)
  have Q8 := hide (S0.then3 P5.out p6 b5' b1 b2)
  clear he6 p6 P5 HE5 H5 b5'
  go_wp2_with fail
  refine (DSteal_all E8.out).mono ?_
  rintro e w5 ⟨bo, rfl, h5, he5, p5, b5⟩
  have H5 := hide h5
  have HE5 := hide he5
  have P5 := hide (Q8.out.trans p5)
  have b5' : w.heap.size ≤ bo := Nat.le_trans Q8.out.size b5
  clear h5 he5 p5 Q8 E8 b5
  go_wp2_with fail
  refine (done_any HE5.out stealOp_ok H5.out (few_of _ (by omega))).mono ?_
  rintro e w6 ⟨rfl, _, _, he6, p6, _⟩
  rw [show ddone 0 2 100 [3, 3, 8, 9] stealOp = ([3, 3, 8, 9], { k := 13, out := 4, v := 0, t := 3, b := 3, won := false }, 2) from by kernel_rfl] at he6 ⊢
  rw [show doneV ([3, 3, 8, 9], { k := 13, out := 4, v := 0, t := 3, b := 3, won := false }, 2) = .tuple #[.int .i64 4, .int .u64 0, .int .i64 2] from by kernel_rfl]
  have E9 := hide (show DeqEnv w6 bd bm bc 0 2 38 [3, 3, 8, 9] from he6)
  have Q9 := hide (S0.then3 P5.out p6 b5' b1 b2)
  clear he6 p6 P5 HE5 H5 b5'
  go_wp2_with fail
  go_ret
  exact ⟨rfl, Q9.out⟩
end Go.Proofs.Ytblkbfdmoanbfaa
