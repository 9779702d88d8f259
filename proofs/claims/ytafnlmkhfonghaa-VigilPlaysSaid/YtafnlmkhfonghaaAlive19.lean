/-
  troupelaw19.alive answers true, and turns nothing that was there; made; begun.
-/
import Derived.Test.YtafnlmkhfonghaaVig3
namespace Go.Proofs.Ytafnlmkhfonghaa
open Go.RowKit
set_option linter.unusedVariables false

set_option maxHeartbeats 2000000 in
theorem alive19_any (w : World) : Calls Try.prog 26 #[] w fun e w' => e = .returned (.bool true) ∧ Only S0 w w' := by
  go_enter Try.func26, Try.ntmps26
  go_wp2_with fail
  refine (New_any 4).mono ?_
  rintro e w1 ⟨bm, bc, rfl, h1, p1, b1, b2⟩
  change MemAt w1 bm bc [0, 0, 0, 0] 0 at h1
  go_wp2_with fail
  refine (VMake_good 0 2 4 h1 (few_of _ (by omega)) (by omega) (by omega) rfl (by decide)).mono ?_
  rintro e w2 ⟨vb, rfl, hg, h2, p2, b3⟩
  change MemAt w2 bm bc [0, 0, 0, 0] 4 at h2
  have PP := hide (S0.then2 p1 p2 b1 b2)
  have HE := hide (show VE w2 vb bm bc 0 2 4 [0, 0, 0, 0] from ⟨hg, h2, few_of _ (by omega), by omega, by omega, by omega, by omega, by decide⟩)
  clear h1 p1 p2 hg h2 b3
  go_wp2_with fail
  refine (VClaim_all 1 2 HE.out).mono ?_
  rintro e w5 ⟨bo, rfl, h5, he5, p5, b5⟩
  have H5 := hide h5
  have HE5 := hide he5
  have P5 := hide (PP.out.trans p5)
  have b5' : w.heap.size ≤ bo := Nat.le_trans PP.out.size b5
  clear h5 he5 p5 PP HE b5
  go_wp2_with fail
  refine (vdone_any HE5.out.env (vok_new HE5.out _ (by decide) _ _) H5.out (few_of _ (by omega))).mono ?_
  rintro e w6 ⟨rfl, _, he6, p6, hl6⟩
  have he7 := HE5.out.step p6 H5.out he6 hl6
  rw [show vc0 0 2 1 2 = 1 from by decide, show vo0 2 1 2 = 0 from by decide] at he7 ⊢
  rw [show vdone 100 [0, 0, 0, 0] ⟨4, 1, 0, 0⟩ = ([0, 0, 0, 0], ⟨4, 1, 0, 4⟩, 1) from by kernel_rfl] at he7 ⊢
  rw [show vdoneV ([0, 0, 0, 0], ⟨4, 1, 0, 4⟩, 1) = .tuple #[.int .i64 4, .int .i64 1] from by kernel_rfl]
  have HE := hide (show VE w6 vb bm bc 0 2 5 [0, 0, 0, 0] from he7)
  have PP := hide (S0.then3 P5.out p6 b5' b1 b2)
  clear he6 he7 hl6 p6 P5 HE5 H5 b5'
  go_wp2_with fail
  refine (VWatch_all 1 2 HE.out).mono ?_
  rintro e w5 ⟨bo, rfl, h5, he5, p5, b5⟩
  have H5 := hide h5
  have HE5 := hide he5
  have P5 := hide (PP.out.trans p5)
  have b5' : w.heap.size ≤ bo := Nat.le_trans PP.out.size b5
  clear h5 he5 p5 PP HE b5
  go_wp2_with fail
  refine (vdone_any HE5.out.env (vok_new HE5.out _ (by decide) _ _) H5.out (few_of _ (by omega))).mono ?_
  rintro e w6 ⟨rfl, _, he6, p6, hl6⟩
  have he7 := HE5.out.step p6 H5.out he6 hl6
  rw [show vc0 0 2 1 2 = 1 from by decide, show vo0 2 1 2 = 0 from by decide] at he7 ⊢
  rw [show vdone 100 [0, 0, 0, 0] ⟨0, 1, 0, 0⟩ = ([0, 1, 0, 0], ⟨0, 1, 0, 1⟩, 2) from by kernel_rfl] at he7 ⊢
  rw [show vdoneV ([0, 1, 0, 0], ⟨0, 1, 0, 1⟩, 2) = .tuple #[.int .i64 1, .int .i64 2] from by kernel_rfl]
  have HE := hide (show VE w6 vb bm bc 0 2 7 [0, 1, 0, 0] from he7)
  have PP := hide (S0.then3 P5.out p6 b5' b1 b2)
  clear he6 he7 hl6 p6 P5 HE5 H5 b5'
  go_wp2_with fail
  refine (VWatch_all 1 2 HE.out).mono ?_
  rintro e w5 ⟨bo, rfl, h5, he5, p5, b5⟩
  have H5 := hide h5
  have HE5 := hide he5
  have P5 := hide (PP.out.trans p5)
  have b5' : w.heap.size ≤ bo := Nat.le_trans PP.out.size b5
  clear h5 he5 p5 PP HE b5
  go_wp2_with fail
  refine (vdone_any HE5.out.env (vok_new HE5.out _ (by decide) _ _) H5.out (few_of _ (by omega))).mono ?_
  rintro e w6 ⟨rfl, _, he6, p6, hl6⟩
  have he7 := HE5.out.step p6 H5.out he6 hl6
  rw [show vc0 0 2 1 2 = 1 from by decide, show vo0 2 1 2 = 0 from by decide] at he7 ⊢
  rw [show vdone 100 [0, 1, 0, 0] ⟨0, 1, 0, 0⟩ = ([0, 1, 0, 0], ⟨1, 1, 1, 4⟩, 1) from by kernel_rfl] at he7 ⊢
  rw [show vdoneV ([0, 1, 0, 0], ⟨1, 1, 1, 4⟩, 1) = .tuple #[.int .i64 4, .int .i64 1] from by kernel_rfl]
  have HE := hide (show VE w6 vb bm bc 0 2 8 [0, 1, 0, 0] from he7)
  have PP := hide (S0.then3 P5.out p6 b5' b1 b2)
  clear he6 he7 hl6 p6 P5 HE5 H5 b5'
  go_wp2_with fail
  refine (VClaim_all 1 2 HE.out).mono ?_
  rintro e w5 ⟨bo, rfl, h5, he5, p5, b5⟩
  have H5 := hide h5
  have HE5 := hide he5
  have P5 := hide (PP.out.trans p5)
  have b5' : w.heap.size ≤ bo := Nat.le_trans PP.out.size b5
  clear h5 he5 p5 PP HE b5
  go_wp2_with fail
  refine (vdone_any HE5.out.env (vok_new HE5.out _ (by decide) _ _) H5.out (few_of _ (by omega))).mono ?_
  rintro e w6 ⟨rfl, _, he6, p6, hl6⟩
  have he7 := HE5.out.step p6 H5.out he6 hl6
  rw [show vc0 0 2 1 2 = 1 from by decide, show vo0 2 1 2 = 0 from by decide] at he7 ⊢
  rw [show vdone 100 [0, 1, 0, 0] ⟨4, 1, 0, 0⟩ = ([0, 2, 0, 0], ⟨4, 1, 0, 1⟩, 1) from by kernel_rfl] at he7 ⊢
  rw [show vdoneV ([0, 2, 0, 0], ⟨4, 1, 0, 1⟩, 1) = .tuple #[.int .i64 1, .int .i64 1] from by kernel_rfl]
  have HE := hide (show VE w6 vb bm bc 0 2 9 [0, 2, 0, 0] from he7)
  have PP := hide (S0.then3 P5.out p6 b5' b1 b2)
  clear he6 he7 hl6 p6 P5 HE5 H5 b5'
  go_wp2_with fail
  refine (VClaim_all 1 2 HE.out).mono ?_
  rintro e w5 ⟨bo, rfl, h5, he5, p5, b5⟩
  have H5 := hide h5
  have HE5 := hide he5
  have P5 := hide (PP.out.trans p5)
  have b5' : w.heap.size ≤ bo := Nat.le_trans PP.out.size b5
  clear h5 he5 p5 PP HE b5
  go_wp2_with fail
  refine (vdone_any HE5.out.env (vok_new HE5.out _ (by decide) _ _) H5.out (few_of _ (by omega))).mono ?_
  rintro e w6 ⟨rfl, _, he6, p6, hl6⟩
  have he7 := HE5.out.step p6 H5.out he6 hl6
  rw [show vc0 0 2 1 2 = 1 from by decide, show vo0 2 1 2 = 0 from by decide] at he7 ⊢
  rw [show vdone 100 [0, 2, 0, 0] ⟨4, 1, 0, 0⟩ = ([0, 2, 0, 0], ⟨4, 1, 0, 4⟩, 1) from by kernel_rfl] at he7 ⊢
  rw [show vdoneV ([0, 2, 0, 0], ⟨4, 1, 0, 4⟩, 1) = .tuple #[.int .i64 4, .int .i64 1] from by kernel_rfl]
  have HE := hide (show VE w6 vb bm bc 0 2 10 [0, 2, 0, 0] from he7)
  have PP := hide (S0.then3 P5.out p6 b5' b1 b2)
  clear he6 he7 hl6 p6 P5 HE5 H5 b5'
  go_wp2_with fail
  refine (VUnwatch_all 1 2 HE.out).mono ?_
  rintro e w5 ⟨bo, rfl, h5, he5, p5, b5⟩
  have H5 := hide h5
  have HE5 := hide he5
  have P5 := hide (PP.out.trans p5)
  have b5' : w.heap.size ≤ bo := Nat.le_trans PP.out.size b5
  clear h5 he5 p5 PP HE b5
  go_wp2_with fail
  refine (vdone_any HE5.out.env (vok_new HE5.out _ (by decide) _ _) H5.out (few_of _ (by omega))).mono ?_
  rintro e w6 ⟨rfl, _, he6, p6, hl6⟩
  have he7 := HE5.out.step p6 H5.out he6 hl6
  rw [show vc0 0 2 1 2 = 1 from by decide, show vo0 2 1 2 = 0 from by decide] at he7 ⊢
  rw [show vdone 100 [0, 2, 0, 0] ⟨2, 1, 0, 0⟩ = ([0, 2, 0, 0], ⟨3, 1, 2, 4⟩, 1) from by kernel_rfl] at he7 ⊢
  rw [show vdoneV ([0, 2, 0, 0], ⟨3, 1, 2, 4⟩, 1) = .tuple #[.int .i64 4, .int .i64 1] from by kernel_rfl]
  have HE := hide (show VE w6 vb bm bc 0 2 11 [0, 2, 0, 0] from he7)
  have PP := hide (S0.then3 P5.out p6 b5' b1 b2)
  clear he6 he7 hl6 p6 P5 HE5 H5 b5'
  go_wp2_with fail
  refine (VWatch_all 1 2 HE.out).mono ?_
  rintro e w5 ⟨bo, rfl, h5, he5, p5, b5⟩
  have H5 := hide h5
  have HE5 := hide he5
  have P5 := hide (PP.out.trans p5)
  have b5' : w.heap.size ≤ bo := Nat.le_trans PP.out.size b5
  clear h5 he5 p5 PP HE b5
  go_wp2_with fail
  refine (vdone_any HE5.out.env (vok_new HE5.out _ (by decide) _ _) H5.out (few_of _ (by omega))).mono ?_
  rintro e w6 ⟨rfl, _, he6, p6, hl6⟩
  have he7 := HE5.out.step p6 H5.out he6 hl6
  rw [show vc0 0 2 1 2 = 1 from by decide, show vo0 2 1 2 = 0 from by decide] at he7 ⊢
  rw [show vdone 100 [0, 2, 0, 0] ⟨0, 1, 0, 0⟩ = ([0, 1, 0, 0], ⟨0, 1, 2, 1⟩, 2) from by kernel_rfl] at he7 ⊢
  rw [show vdoneV ([0, 1, 0, 0], ⟨0, 1, 2, 1⟩, 2) = .tuple #[.int .i64 1, .int .i64 2] from by kernel_rfl]
  have HE := hide (show VE w6 vb bm bc 0 2 13 [0, 1, 0, 0] from he7)
  have PP := hide (S0.then3 P5.out p6 b5' b1 b2)
  clear he6 he7 hl6 p6 P5 HE5 H5 b5'
  go_wp2_with fail
  refine (VUnwatch_all 1 2 HE.out).mono ?_
  rintro e w5 ⟨bo, rfl, h5, he5, p5, b5⟩
  have H5 := hide h5
  have HE5 := hide he5
  have P5 := hide (PP.out.trans p5)
  have b5' : w.heap.size ≤ bo := Nat.le_trans PP.out.size b5
  clear h5 he5 p5 PP HE b5
  go_wp2_with fail
  refine (vdone_any HE5.out.env (vok_new HE5.out _ (by decide) _ _) H5.out (few_of _ (by omega))).mono ?_
  rintro e w6 ⟨rfl, _, he6, p6, hl6⟩
  have he7 := HE5.out.step p6 H5.out he6 hl6
  rw [show vc0 0 2 1 2 = 1 from by decide, show vo0 2 1 2 = 0 from by decide] at he7 ⊢
  rw [show vdone 100 [0, 1, 0, 0] ⟨2, 1, 0, 0⟩ = ([0, 0, 0, 0], ⟨2, 1, 1, 1⟩, 2) from by kernel_rfl] at he7 ⊢
  rw [show vdoneV ([0, 0, 0, 0], ⟨2, 1, 1, 1⟩, 2) = .tuple #[.int .i64 1, .int .i64 2] from by kernel_rfl]
  have HE := hide (show VE w6 vb bm bc 0 2 15 [0, 0, 0, 0] from he7)
  have PP := hide (S0.then3 P5.out p6 b5' b1 b2)
  clear he6 he7 hl6 p6 P5 HE5 H5 b5'
  go_wp2_with fail
  refine (VWatch_all 3 1 HE.out).mono ?_
  rintro e w5 ⟨bo, rfl, h5, he5, p5, b5⟩
  have H5 := hide h5
  have HE5 := hide he5
  have P5 := hide (PP.out.trans p5)
  have b5' : w.heap.size ≤ bo := Nat.le_trans PP.out.size b5
  clear h5 he5 p5 PP HE b5
  go_wp2_with fail
  refine (vdone_any HE5.out.env (vok_new HE5.out _ (by decide) _ _) H5.out (few_of _ (by omega))).mono ?_
  rintro e w6 ⟨rfl, _, he6, p6, hl6⟩
  have he7 := HE5.out.step p6 H5.out he6 hl6
  rw [show vc0 0 2 3 1 = 0 from by decide, show vo0 2 3 1 = 4 from by decide] at he7 ⊢
  rw [show vdone 100 [0, 0, 0, 0] ⟨0, 0, 0, 4⟩ = ([0, 0, 0, 0], ⟨0, 0, 0, 4⟩, 0) from by kernel_rfl] at he7 ⊢
  rw [show vdoneV ([0, 0, 0, 0], ⟨0, 0, 0, 4⟩, 0) = .tuple #[.int .i64 4, .int .i64 0] from by kernel_rfl]
  have HE := hide (show VE w6 vb bm bc 0 2 15 [0, 0, 0, 0] from he7)
  have PP := hide (S0.then3 P5.out p6 b5' b1 b2)
  clear he6 he7 hl6 p6 P5 HE5 H5 b5'
  go_wp2_with fail
  go_ret
  exact ⟨rfl, PP.out⟩

theorem made19_any (n sz : Nat) {w : World} (h1 : 1 ≤ n) (h16 : n ≤ 16) (hz : n * n = sz) :
    Calls Try.prog 27 #[.int .i64 n] w fun e w' => ∃ vb bm bc, e = .returned (.tuple #[.pointer (some ⟨vb, 0, none⟩), .pointer (some ⟨bm, 0, none⟩)]) ∧
      VE w' vb bm bc 0 n sz (List.replicate (sz + 1) 0) ∧ Only S0 w w' ∧ w.heap.size ≤ vb ∧ w.heap.size ≤ bm ∧ w.heap.size ≤ bc := by
  have hzz : (n : Int) * (n : Int) = (sz : Int) := by rw [← hz]; exact (Int.natCast_mul n n).symm
  have hsb := sq_bound (n := (n : Int)) (by omega) (by omega)
  rw [hzz] at hsb
  obtain ⟨hsb1, hsb2⟩ := hsb
  go_enter Try.func27, Try.ntmps27
  go_wp2_with fail
  refine (New_any _).mono ?_
  rintro e w1 ⟨bm, bc, rfl, q1, p1, b1, b2⟩
  rw [show countOf ((sz : Int) + 1) = sz + 1 by unfold countOf; omega] at q1
  have HQ := hide q1
  have HP := hide p1
  have HZZ := hide hzz
  clear q1 p1 hzz
  go_wp2_with fail
  refine (VMake_good 0 n sz HQ.out (few_of _ (by omega)) h1 h16 hz (by simp)).mono ?_
  rintro e w2 ⟨vb, rfl, g2, q2, p2, b3⟩
  rw [zeroL_rep] at q2
  have HE := hide (show VE w2 vb bm bc 0 n (0 + (sz : Int)) (List.replicate (sz + 1) 0) from ⟨g2, q2, few_of _ (by omega), by omega, by omega, by omega, by omega, by rw [HZZ.out, List.length_replicate]; omega⟩)
  have PP := hide (S0.then2 HP.out p2 b1 b2)
  have b4 : w.heap.size ≤ vb := Nat.le_trans HP.out.size b3
  clear g2 q2 p2 HQ HP b3
  go_wp2_with fail
  go_ret2
  exact ⟨vb, bm, bc, rfl, by simpa using HE.out, PP.out, b4, b1, b2⟩
end Go.Proofs.Ytafnlmkhfonghaa
