/-
  troupelaw01.alive answers true, and turns nothing that was there.
-/
import Derived.Test.YtdaddbkhdalcfaaMem
namespace Go.Proofs.Ytdaddbkhdalcfaa
open Go.RowKit

set_option maxHeartbeats 1000000 in
theorem alive1_any (w : World) : Calls Try.prog 14 #[] w fun e w' => e = .returned (.bool true) ∧ Only S0 w w' := by
  go_enter Try.func14, Try.ntmps14
  go_wp2_with fail
  refine (New_any 2).mono ?_
  rintro e w1 ⟨bm, bc, rfl, h1, o1, b1, b2⟩
  change MemAt w1 bm bc [0, 0] 0 at h1
  go_wp2_with fail
  refine (Len_any h1).mono ?_
  rintro e w1 ⟨rfl, rfl⟩
  go_wp2_with fail
  refine (Store_in 0 7 h1 (few_of _ (by omega)) (by omega) (by decide)).mono ?_
  rintro e w2 ⟨rfl, h2, o2⟩
  change MemAt w2 bm bc [7, 0] 1 at h2
  have p2 := S0.then2 o1 o2 b1 b2
  go_wp2_with fail
  refine (Swap_yes 0 7 9 h2 (few_of _ (by omega)) (by omega) (by decide) rfl).mono ?_
  rintro e w3 ⟨rfl, h3, o3⟩
  change MemAt w3 bm bc [9, 0] 2 at h3
  have p3 := S0.then2 p2 o3 b1 b2
  go_wp2_with fail
  refine (Swap_no 0 7 1 h3 (few_of _ (by omega)) (by omega) (by decide) (by decide)).mono ?_
  rintro e w4 ⟨rfl, h4, o4⟩
  change MemAt w4 bm bc [9, 0] 3 at h4
  have p4 := S0.then1 p3 o4 b1
  go_wp2_with fail
  refine (Add_in 0 1 h4 (few_of _ (by omega)) (by omega) (by decide)).mono ?_
  rintro e w5 ⟨rfl, h5, o5⟩
  change MemAt w5 bm bc [10, 0] 4 at h5
  have e10 : add64 (at_ [9, 0] 0) 1 = 10 := rfl
  rw [e10]
  clear e10
  have p5 := S0.then2 p4 o5 b1 b2
  go_wp2_with fail
  refine (Load_out 2 h5 (.inr (by decide))).mono ?_
  rintro e w5 ⟨rfl, rfl⟩
  go_wp2_with fail
  refine (Touched_any h5).mono ?_
  rintro e w5 ⟨rfl, rfl⟩
  go_wp2_with fail
  refine (Peek_in 0 h5 (by omega) (by decide)).mono ?_
  rintro e w5 ⟨rfl, rfl⟩
  have e10 : at_ [10, 0] 0 = 10 := rfl
  rw [e10]
  clear e10
  go_wp2_with fail
  refine (Peek_in 1 h5 (by omega) (by decide)).mono ?_
  rintro e w5 ⟨rfl, rfl⟩
  have e10 : at_ [10, 0] 1 = 0 := rfl
  rw [e10]
  clear e10
  go_wp2_with fail
  go_ret
  exact ⟨rfl, p5⟩
end Go.Proofs.Ytdaddbkhdalcfaa
