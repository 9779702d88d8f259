/-
  troupelaw07.alive answers true, and turns nothing that was there.
-/
import Derived.Test.YtdaddbkhdalcfaaLot3
import Derived.Test.YtdaddbkhdalcfaaInts
namespace Go.Proofs.Ytdaddbkhdalcfaa
open Go.RowKit
set_option linter.unusedVariables false

theorem lit_rd {w : World} {g n : Nat} {t : TypeId} {cs : Array Value} (l : List Nat) (h : Blk w g t cs) (hc : cs = (vN l).toArray) (hn : n = l.length) (hm : n ≤ 1000) : Rd w (.slice (some ⟨g, 0, none⟩) n n) (vN l) := by
  subst hc
  subst hn
  have h1 := (h.sl (B := 0) (by omega) (by rw [List.size_toArray, vN_len]; unfold maxLen; omega)).rd
  rw [List.size_toArray, vN_len] at h1
  exact h1

set_option maxHeartbeats 1000000 in
theorem alive7_any (w : World) : Calls Try.prog 32 #[] w fun e w' => e = .returned (.bool true) ∧ Only S0 w w' := by
  go_enter Try.func32, Try.ntmps32
  go_wp2_with fail
  refine (Rank_any 4 1 [2, 0, 3] _ _ (lit_rd [2, 0, 3] (Blk.new w 3 #[.int .i64 2, .int .i64 0, .int .i64 3]) rfl rfl (by decide)) (by decide)).mono ?_
  rintro e w1 ⟨rfl, o1⟩
  rw [show rankV (rankZ 4 1 [2, 0, 3]) = .tuple #[.int .u64 1, .bool true] from by rw [show rankZ 4 1 [2, 0, 3] = some 1 from by decide +kernel]; rfl]
  have P1 := hide (((Only.refl S0 w).alloc _).trans o1)
  clear o1
  go_wp2_with fail
  refine (Rank_any 4 1 [2, 0] _ _ (lit_rd [2, 0] (Blk.new w1 3 #[.int .i64 2, .int .i64 0]) rfl rfl (by decide)) (by decide)).mono ?_
  rintro e w2 ⟨rfl, o2⟩
  rw [show rankV (rankZ 4 1 [2, 0]) = .tuple #[.int .u64 0, .bool false] from by rw [show rankZ 4 1 [2, 0] = none from by decide +kernel]; rfl]
  have P2 := hide ((P1.out.alloc _).trans o2)
  clear o2 P1
  go_wp2_with fail
  refine (Order_any 1 4 1 _ (by omega) (by omega)).mono ?_
  rintro e w3 ⟨va, rfl, hva, o3⟩
  rw [show ordZ (1 : Int).toNat 4 1 = [2, 0, 3] from by decide +kernel] at hva
  have HA := hide hva
  have P3 := hide (P2.out.trans o3)
  clear hva o3 P2
  go_wp2_with fail
  refine (Ints_yes (A := [2, 0, 3]) (by decide) (HA.out.rd.only0 ((Only.refl S0 w3).alloc _)) (lit_rd [2, 0, 3] (Blk.new w3 3 #[.int .i64 2, .int .i64 0, .int .i64 3]) rfl rfl (by decide))).mono ?_
  rintro e w4 ⟨rfl, o4⟩
  have P4 := hide ((P3.out.alloc _).trans o4)
  clear o4 P3 HA
  go_wp2_with fail
  refine (Order_any 5 4 1 _ (by omega) (by omega)).mono ?_
  rintro e w5 ⟨vb, rfl, hvb, o5⟩
  rw [show ordZ (5 : Int).toNat 4 1 = [3, 2, 0] from by decide +kernel] at hvb
  have HB := hide hvb
  have P5 := hide (P4.out.trans o5)
  clear hvb o5 P4
  go_wp2_with fail
  refine (Ints_yes (A := [3, 2, 0]) (by decide) (HB.out.rd.only0 ((Only.refl S0 w5).alloc _)) (lit_rd [3, 2, 0] (Blk.new w5 3 #[.int .i64 3, .int .i64 2, .int .i64 0]) rfl rfl (by decide))).mono ?_
  rintro e w6 ⟨rfl, o6⟩
  have P6 := hide ((P5.out.alloc _).trans o6)
  clear o6 P5 HB
  go_wp2_with fail
  refine (Ways_good 4 _ (by omega) (by omega)).mono ?_
  rintro e w7 ⟨rfl, rfl⟩
  rw [show ((facN 4 : Nat) : Int) = 6 from by decide +kernel]
  go_wp2_with fail
  refine (Ways_bad 9 _ (by omega)).mono ?_
  rintro e w7 ⟨rfl, rfl⟩
  go_wp2_with fail
  go_ret
  exact ⟨rfl, P6.out⟩
end Go.Proofs.Ytdaddbkhdalcfaa
