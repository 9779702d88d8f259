/-
  troupelaw20.alive answers true, and turns nothing that was there.
-/
import Derived.Test.YtdoaipjdldknaaaGreatKD
namespace Go.Proofs.YtdoaipjdldknaaaGreat
open Go.RowKit
set_option linter.unusedVariables false
def aF : CLay := ⟨0, 2, 4, 4⟩
theorem aF_ok : aF.Ok := ⟨by decide, by decide, by decide, by decide, by decide, by decide⟩
def aL0 : List Int := layC (List.replicate 100 0) aF
def aL1 : List Int := (cdone aF 200 aL0 (offerC aF 0 7)).1
theorem aV1 : cdoneV (cdone aF 200 aL0 (offerC aF 0 7)) = .tuple #[.int .i64 1, .int .u64 0, .int .i64 6] := by kernel_rfl
theorem aN1 : (((cdone aF 200 aL0 (offerC aF 0 7)).2.2 : Nat) : Int) = 6 := by kernel_rfl
def aL2 : List Int := (cdone aF 200 aL1 (findC aF 1 (ordZ (0:Int).toNat aF.n 1))).1
theorem aV2 : cdoneV (cdone aF 200 aL1 (findC aF 1 (ordZ (0:Int).toNat aF.n 1))) = .tuple #[.int .i64 1, .int .u64 7, .int .i64 10] := by kernel_rfl
theorem aN2 : (((cdone aF 200 aL1 (findC aF 1 (ordZ (0:Int).toNat aF.n 1))).2.2 : Nat) : Int) = 10 := by kernel_rfl
def aL3 : List Int := (cdone aF 200 aL2 (restC aF 1)).1
theorem aV3 : cdoneV (cdone aF 200 aL2 (restC aF 1)) = .tuple #[.int .i64 4, .int .u64 0, .int .i64 3] := by kernel_rfl
theorem aN3 : (((cdone aF 200 aL2 (restC aF 1)).2.2 : Nat) : Int) = 3 := by kernel_rfl
def aL4 : List Int := (cdone aF 200 aL3 (offerC aF (-1) 8)).1
theorem aV4 : cdoneV (cdone aF 200 aL3 (offerC aF (-1) 8)) = .tuple #[.int .i64 1, .int .u64 0, .int .i64 8] := by kernel_rfl
theorem aN4 : (((cdone aF 200 aL3 (offerC aF (-1) 8)).2.2 : Nat) : Int) = 8 := by kernel_rfl
def aL5 : List Int := (cdone aF 200 aL4 (pollC aF 1)).1
theorem aV5 : cdoneV (cdone aF 200 aL4 (pollC aF 1)) = .tuple #[.int .i64 1, .int .u64 0, .int .i64 1] := by kernel_rfl
theorem aN5 : (((cdone aF 200 aL4 (pollC aF 1)).2.2 : Nat) : Int) = 1 := by kernel_rfl
def aL6 : List Int := (cdone aF 200 aL5 (findC aF 1 (ordZ (0:Int).toNat aF.n 1))).1
theorem aV6 : cdoneV (cdone aF 200 aL5 (findC aF 1 (ordZ (0:Int).toNat aF.n 1))) = .tuple #[.int .i64 1, .int .u64 8, .int .i64 9] := by kernel_rfl
theorem aN6 : (((cdone aF 200 aL5 (findC aF 1 (ordZ (0:Int).toNat aF.n 1))).2.2 : Nat) : Int) = 9 := by kernel_rfl
set_option maxRecDepth 100000 in
set_option maxHeartbeats 4000000 in
theorem alive20_any (w : World) : Calls Tryz.prog 5 #[] w fun e w' => e = .returned (.bool true) ∧ Only S0 w w' := by
  go_enter Tryz.func5, Tryz.ntmps5
  go_wp2_with fail
  refine (New_any 100).mono ?_
  rintro e w1 ⟨bm, bc, rfl, h1, p1, b1, b2⟩
  rw [show countOf 100 = 100 from by decide] at h1
  go_wp2_with fail
  refine (CMake_good aF aF_ok h1 (few_of _ (by decide)) (allU_zero _) (by rw [List.length_replicate]; decide)).mono ?_
  rintro e w2 ⟨cb, bb, bg, dv, bd, rfl, he, p2, -, -, -, -⟩
  have P0 := hide (S0.then2 p1 p2 b1 b2)
  have E0 := hide (show CEnv w2 aF cb bb bg bm bc dv bd 24 aL0 from he)
  clear h1 p1 he p2
  go_wp2_with fail
  refine (Offer_all 0 7 ⟨by decide, by decide⟩ E0.out).mono ?_
  rintro e w5 ⟨co, rfl, h1, h2, h3, h4, h5⟩
  have H1 := hide h1
  have H2 := hide h2
  have H3 := hide h3
  have H5 := hide h5
  clear h1 h2 h3 h4 h5
  go_wp2_with fail
  refine (cdone_any H2.out H5.out H1.out H3.out.size (few_of _ (by decide))).mono ?_
  rintro e w6 ⟨rfl, he6, o6, -⟩
  rw [aN1] at he6
  rw [aV1]
  have P1 := hide ((P0.out.trans H3.out).then o6 (fun i hi h => by have := P0.out.size; rcases h with h | h | h <;> omega))
  have E1 := hide (show CEnv w6 aF cb bb bg bm bc dv bd 30 aL1 from he6)
  clear he6 o6 H1 H2 H3 H5 P0 E0
  go_wp2_with fail
  refine (Find_all 1 0 u64_zero E1.out).mono ?_
  rintro e w5 ⟨co, rfl, h1, h2, h3, h4, h5⟩
  have H1 := hide h1
  have H2 := hide h2
  have H3 := hide h3
  have H5 := hide h5
  clear h1 h2 h3 h4 h5
  go_wp2_with fail
  refine (cdone_any H2.out H5.out H1.out H3.out.size (few_of _ (by decide))).mono ?_
  rintro e w6 ⟨rfl, he6, o6, -⟩
  rw [aN2] at he6
  rw [aV2]
  have P2 := hide ((P1.out.trans H3.out).then o6 (fun i hi h => by have := P1.out.size; rcases h with h | h | h <;> omega))
  have E2 := hide (show CEnv w6 aF cb bb bg bm bc dv bd 40 aL2 from he6)
  clear he6 o6 H1 H2 H3 H5 P1 E1
  go_wp2_with fail
  refine (Rest_all 1 E2.out).mono ?_
  rintro e w5 ⟨co, rfl, h1, h2, h3, h4, h5⟩
  have H1 := hide h1
  have H2 := hide h2
  have H3 := hide h3
  have H5 := hide h5
  clear h1 h2 h3 h4 h5
  go_wp2_with fail
  refine (cdone_any H2.out H5.out H1.out H3.out.size (few_of _ (by decide))).mono ?_
  rintro e w6 ⟨rfl, he6, o6, -⟩
  rw [aN3] at he6
  rw [aV3]
  have P3 := hide ((P2.out.trans H3.out).then o6 (fun i hi h => by have := P2.out.size; rcases h with h | h | h <;> omega))
  have E3 := hide (show CEnv w6 aF cb bb bg bm bc dv bd 43 aL3 from he6)
  clear he6 o6 H1 H2 H3 H5 P2 E2
  go_wp2_with fail
  refine (Offer_all (-1) 8 ⟨by decide, by decide⟩ E3.out).mono ?_
  rintro e w5 ⟨co, rfl, h1, h2, h3, h4, h5⟩
  have H1 := hide h1
  have H2 := hide h2
  have H3 := hide h3
  have H5 := hide h5
  clear h1 h2 h3 h4 h5
  go_wp2_with fail
  refine (cdone_any H2.out H5.out H1.out H3.out.size (few_of _ (by decide))).mono ?_
  rintro e w6 ⟨rfl, he6, o6, -⟩
  rw [aN4] at he6
  rw [aV4]
  have P4 := hide ((P3.out.trans H3.out).then o6 (fun i hi h => by have := P3.out.size; rcases h with h | h | h <;> omega))
  have E4 := hide (show CEnv w6 aF cb bb bg bm bc dv bd 51 aL4 from he6)
  clear he6 o6 H1 H2 H3 H5 P3 E3
  go_wp2_with fail
  refine (Poll_all 1 E4.out).mono ?_
  rintro e w5 ⟨co, rfl, h1, h2, h3, h4, h5⟩
  have H1 := hide h1
  have H2 := hide h2
  have H3 := hide h3
  have H5 := hide h5
  clear h1 h2 h3 h4 h5
  go_wp2_with fail
  refine (cdone_any H2.out H5.out H1.out H3.out.size (few_of _ (by decide))).mono ?_
  rintro e w6 ⟨rfl, he6, o6, -⟩
  rw [aN5] at he6
  rw [aV5]
  have P5 := hide ((P4.out.trans H3.out).then o6 (fun i hi h => by have := P4.out.size; rcases h with h | h | h <;> omega))
  have E5 := hide (show CEnv w6 aF cb bb bg bm bc dv bd 52 aL5 from he6)
  clear he6 o6 H1 H2 H3 H5 P4 E4
  go_wp2_with fail
  refine (Find_all 1 0 u64_zero E5.out).mono ?_
  rintro e w5 ⟨co, rfl, h1, h2, h3, h4, h5⟩
  have H1 := hide h1
  have H2 := hide h2
  have H3 := hide h3
  have H5 := hide h5
  clear h1 h2 h3 h4 h5
  go_wp2_with fail
  refine (cdone_any H2.out H5.out H1.out H3.out.size (few_of _ (by decide))).mono ?_
  rintro e w6 ⟨rfl, he6, o6, -⟩
  rw [aN6] at he6
  rw [aV6]
  have P6 := hide ((P5.out.trans H3.out).then o6 (fun i hi h => by have := P5.out.size; rcases h with h | h | h <;> omega))
  have E6 := hide (show CEnv w6 aF cb bb bg bm bc dv bd 61 aL6 from he6)
  clear he6 o6 H1 H2 H3 H5 P5 E5
  go_wp2_with fail
  go_ret
  exact ⟨rfl, P6.out⟩
end Go.Proofs.YtdoaipjdldknaaaGreat
