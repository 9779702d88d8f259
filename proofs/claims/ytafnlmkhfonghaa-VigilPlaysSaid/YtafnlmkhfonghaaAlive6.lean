/-
  troupelaw06.alive answers true, and turns nothing that was there.
-/
import Derived.Test.YtafnlmkhfonghaaBell3
namespace Go.Proofs.Ytafnlmkhfonghaa
open Go.RowKit
set_option linter.unusedVariables false

set_option maxHeartbeats 1000000 in
theorem alive6_any (w : World) : Calls Try.prog 13 #[] w fun e w' => e = .returned (.bool true) ∧ Only S0 w w' := by
  go_enter Try.func13, Try.ntmps13
  go_wp2_with fail
  refine (New_any 2).mono ?_
  rintro e w1 ⟨bm, bc, rfl, h1, p1, b1, b2⟩
  change MemAt w1 bm bc [0, 0] 0 at h1
  go_wp2_with fail
  refine (BMake_good 0 2 h1 (few_of _ (by omega)) (by omega) (by omega) (by decide)).mono ?_
  rintro e w2 ⟨bb, rfl, hg, h2, p2, b3⟩
  change MemAt w2 bm bc [0, 0] 2 at h2
  have PP := hide (S0.then2 p1 p2 b1 b2)
  have HE := hide (show BellEnv w2 bb bm bc 0 2 2 [0, 0] from ⟨hg, h2, few_of _ (by omega), by omega, by omega, by omega, by omega, by decide⟩)
  clear h1 p1 p2 hg h2 b3
  go_wp2_with fail
  refine (BRing_all HE.out).mono ?_
  rintro e w5 ⟨bo, rfl, h5, he5, p5, b5⟩
  have H5 := hide h5
  have HE5 := hide he5
  have P5 := hide (PP.out.trans p5)
  have b5' : w.heap.size ≤ bo := Nat.le_trans PP.out.size b5
  clear h5 he5 p5 PP HE b5
  go_wp2_with fail
  refine (bdone_any HE5.out (bok_new _ (by decide) _ _) H5.out (few_of _ (by omega))).mono ?_
  rintro e w6 ⟨rfl, _, _, he6, p6, _⟩
  rw [show bdone 0 2 100 [0, 0] ⟨3, 0, bout0 2 0⟩ = ([0, 0], ⟨3, 2, 4⟩, 2) from by kernel_rfl] at he6 ⊢
  rw [show bdoneV ([0, 0], ⟨3, 2, 4⟩, 2) = .tuple #[.int .i64 4, .int .i64 (-1), .int .i64 2] from by kernel_rfl]
  have HE := hide (show BellEnv w6 bb bm bc 0 2 4 [0, 0] from he6)
  have PP := hide (S0.then3 P5.out p6 b5' b1 b2)
  clear he6 p6 P5 HE5 H5 b5'
  go_wp2_with fail
  refine (BSleep_all 1 HE.out).mono ?_
  rintro e w5 ⟨bo, rfl, h5, he5, p5, b5⟩
  have H5 := hide h5
  have HE5 := hide he5
  have P5 := hide (PP.out.trans p5)
  have b5' : w.heap.size ≤ bo := Nat.le_trans PP.out.size b5
  clear h5 he5 p5 PP HE b5
  go_wp2_with fail
  refine (bdone_any HE5.out (bok_new _ (by decide) _ _) H5.out (few_of _ (by omega))).mono ?_
  rintro e w6 ⟨rfl, _, _, he6, p6, _⟩
  rw [show bdone 0 2 100 [0, 0] ⟨0, 1, bout0 2 1⟩ = ([0, 1], ⟨0, 1, 1⟩, 1) from by kernel_rfl] at he6 ⊢
  rw [show bdoneV ([0, 1], ⟨0, 1, 1⟩, 1) = .tuple #[.int .i64 1, .int .i64 (-1), .int .i64 1] from by kernel_rfl]
  have HE := hide (show BellEnv w6 bb bm bc 0 2 5 [0, 1] from he6)
  have PP := hide (S0.then3 P5.out p6 b5' b1 b2)
  clear he6 p6 P5 HE5 H5 b5'
  go_wp2_with fail
  refine (BPoll_all 1 HE.out).mono ?_
  rintro e w5 ⟨bo, rfl, h5, he5, p5, b5⟩
  have H5 := hide h5
  have HE5 := hide he5
  have P5 := hide (PP.out.trans p5)
  have b5' : w.heap.size ≤ bo := Nat.le_trans PP.out.size b5
  clear h5 he5 p5 PP HE b5
  go_wp2_with fail
  refine (bdone_any HE5.out (bok_new _ (by decide) _ _) H5.out (few_of _ (by omega))).mono ?_
  rintro e w6 ⟨rfl, _, _, he6, p6, _⟩
  rw [show bdone 0 2 100 [0, 1] ⟨2, 1, bout0 2 1⟩ = ([0, 1], ⟨2, 1, 4⟩, 1) from by kernel_rfl] at he6 ⊢
  rw [show bdoneV ([0, 1], ⟨2, 1, 4⟩, 1) = .tuple #[.int .i64 4, .int .i64 (-1), .int .i64 1] from by kernel_rfl]
  have HE := hide (show BellEnv w6 bb bm bc 0 2 6 [0, 1] from he6)
  have PP := hide (S0.then3 P5.out p6 b5' b1 b2)
  clear he6 p6 P5 HE5 H5 b5'
  go_wp2_with fail
  refine (BRing_all HE.out).mono ?_
  rintro e w5 ⟨bo, rfl, h5, he5, p5, b5⟩
  have H5 := hide h5
  have HE5 := hide he5
  have P5 := hide (PP.out.trans p5)
  have b5' : w.heap.size ≤ bo := Nat.le_trans PP.out.size b5
  clear h5 he5 p5 PP HE b5
  go_wp2_with fail
  refine (bdone_any HE5.out (bok_new _ (by decide) _ _) H5.out (few_of _ (by omega))).mono ?_
  rintro e w6 ⟨rfl, _, _, he6, p6, _⟩
  rw [show bdone 0 2 100 [0, 1] ⟨3, 0, bout0 2 0⟩ = ([0, 0], ⟨4, 1, 7⟩, 3) from by kernel_rfl] at he6 ⊢
  rw [show bdoneV ([0, 0], ⟨4, 1, 7⟩, 3) = .tuple #[.int .i64 7, .int .i64 1, .int .i64 3] from by kernel_rfl]
  have HE := hide (show BellEnv w6 bb bm bc 0 2 9 [0, 0] from he6)
  have PP := hide (S0.then3 P5.out p6 b5' b1 b2)
  clear he6 p6 P5 HE5 H5 b5'
  go_wp2_with fail
  refine (BPoll_all 1 HE.out).mono ?_
  rintro e w5 ⟨bo, rfl, h5, he5, p5, b5⟩
  have H5 := hide h5
  have HE5 := hide he5
  have P5 := hide (PP.out.trans p5)
  have b5' : w.heap.size ≤ bo := Nat.le_trans PP.out.size b5
  clear h5 he5 p5 PP HE b5
  go_wp2_with fail
  refine (bdone_any HE5.out (bok_new _ (by decide) _ _) H5.out (few_of _ (by omega))).mono ?_
  rintro e w6 ⟨rfl, _, _, he6, p6, _⟩
  rw [show bdone 0 2 100 [0, 0] ⟨2, 1, bout0 2 1⟩ = ([0, 0], ⟨2, 1, 1⟩, 1) from by kernel_rfl] at he6 ⊢
  rw [show bdoneV ([0, 0], ⟨2, 1, 1⟩, 1) = .tuple #[.int .i64 1, .int .i64 (-1), .int .i64 1] from by kernel_rfl]
  have HE := hide (show BellEnv w6 bb bm bc 0 2 10 [0, 0] from he6)
  have PP := hide (S0.then3 P5.out p6 b5' b1 b2)
  clear he6 p6 P5 HE5 H5 b5'
  go_wp2_with fail
  refine (BSleep_all 5 HE.out).mono ?_
  rintro e w5 ⟨bo, rfl, h5, he5, p5, b5⟩
  have H5 := hide h5
  have HE5 := hide he5
  have P5 := hide (PP.out.trans p5)
  have b5' : w.heap.size ≤ bo := Nat.le_trans PP.out.size b5
  clear h5 he5 p5 PP HE b5
  go_wp2_with fail
  refine (bdone_any HE5.out (bok_new _ (by decide) _ _) H5.out (few_of _ (by omega))).mono ?_
  rintro e w6 ⟨rfl, _, _, he6, p6, _⟩
  rw [show bdone 0 2 100 [0, 0] ⟨0, 5, bout0 2 5⟩ = ([0, 0], ⟨0, 5, 4⟩, 0) from by kernel_rfl] at he6 ⊢
  rw [show bdoneV ([0, 0], ⟨0, 5, 4⟩, 0) = .tuple #[.int .i64 4, .int .i64 (-1), .int .i64 0] from by kernel_rfl]
  have HE := hide (show BellEnv w6 bb bm bc 0 2 10 [0, 0] from he6)
  have PP := hide (S0.then3 P5.out p6 b5' b1 b2)
  clear he6 p6 P5 HE5 H5 b5'
  go_wp2_with fail
  go_ret
  exact ⟨rfl, PP.out⟩

theorem begun6_any {w : World} {bb bm bc : Nat} {base n tc : Int} {L : List Int} (k x : Int) (he : BellEnv w bb bm bc base n tc L) : Calls Try.prog 45 #[.pointer (some ⟨bb, 0, none⟩), .int .i64 k, .int .i64 x] w fun e w' =>
    ∃ bo, e = .returned (.pointer (some ⟨bo, 0, none⟩)) ∧ BopIs w' bo bb (if k = 1 then ⟨0, x, bout0 n x⟩ else if k = 2 then ⟨1, x, bout0 n x⟩ else if k = 3 then ⟨2, x, bout0 n x⟩ else ⟨3, 0, bout0 n 0⟩) ∧ BellEnv w' bb bm bc base n tc L ∧ Only S0 w w' ∧ w.heap.size ≤ bo := by
  have HE := hide he
  clear he
  by_cases h1 : k = 1
  · subst h1
    go_enter Try.func45, Try.ntmps45
    go_wp2_with fail
    refine (BSleep_all x HE.out).mono ?_
    rintro e w1 ⟨bo, rfl, hh⟩
    have HH := hide hh
    clear hh
    go_wp2_with fail
    go_ret
    exact ⟨bo, rfl, HH.out⟩
  · by_cases h2 : k = 2
    · subst h2
      clear h1
      go_enter Try.func45, Try.ntmps45
      go_wp2_with fail
      refine (BUp_all x HE.out).mono ?_
      rintro e w1 ⟨bo, rfl, hh⟩
      have HH := hide hh
      clear hh
      go_wp2_with fail
      go_ret
      exact ⟨bo, rfl, HH.out⟩
    · by_cases h3 : k = 3
      · subst h3
        clear h1 h2
        go_enter Try.func45, Try.ntmps45
        go_wp2_with fail
        refine (BPoll_all x HE.out).mono ?_
        rintro e w1 ⟨bo, rfl, hh⟩
        have HH := hide hh
        clear hh
        go_wp2_with fail
        go_ret
        exact ⟨bo, rfl, HH.out⟩
      · rw [if_neg h1, if_neg h2, if_neg h3]
        have e1 : (k == 1) = false := by simp [h1]
        have e2 : (k == 2) = false := by simp [h2]
        have e3 : (k == 3) = false := by simp [h3]
        clear h1 h2 h3
        go_enter Try.func45, Try.ntmps45
        go_wp2_with fail
        refine (BRing_all HE.out).mono ?_
        rintro e w1 ⟨bo, rfl, hh⟩
        have HH := hide hh
        clear hh
        go_wp2_with fail
        go_ret
        exact ⟨bo, rfl, HH.out⟩
end Go.Proofs.Ytafnlmkhfonghaa
