/-
  LotBack, the walk.
-/
import Derived.Test.YtdaddbkhdalcfaaLotAllW
namespace Go.Proofs.Ytdaddbkhdalcfaa
open Go.RowKit
set_option linter.unusedVariables false

theorem rankZ_back (d n s : Nat) (h0 : n ≤ 8) (h1 : s < n) (hd : d < facN n) : rankZ n s (ordZ d n s) = some d := by
  unfold rankZ
  rw [if_pos ⟨ordZ_len d n s, by omega⟩]
  unfold ordZ
  rw [othZ_good n s h0 h1]
  have hl := othN_len n s h1
  refine rank_ord _ d _ rfl (oth_nodup n s) ?_
  rw [hl, show n - 1 + 1 = n by omega]
  exact hd
theorem ordZ_mod (d n s : Nat) (h0 : n ≤ 8) (h1 : s < n) : ordZ (d % facN n) n s = ordZ d n s := by
  unfold ordZ
  rw [othZ_good n s h0 h1]
  have hl := othN_len n s h1
  have := ord_mod (n - 1) d (othN n s) hl
  rw [show n - 1 + 1 = n by omega] at this
  rw [hl]
  exact this

set_option maxHeartbeats 1000000 in
theorem lotBack_walk (d wk who : Int) (w : World) (w0 : (Lit.int .u64 d).wf = true) (w1 : (Lit.int .u8 wk).wf = true) (w2 : (Lit.int .u8 who).wf = true) :
    Calls Try.prog 11 #[.int .u64 d, .int .u8 wk, .int .u8 who] w fun e w' => e = .returned (.bool true) ∧ Below w.heap.size w w' := by
  have hd := bounds_u64 w0
  have HD1 := hide hd.2
  have k0 := hd.1
  have k1 := (bounds_u8 w1).1
  have k2 := (bounds_u8 w1).2
  have k3 := (bounds_u8 w2).1
  have k4 := (bounds_u8 w2).2
  clear w0 w1 w2 hd
  obtain ⟨n, hn⟩ : ∃ n : Nat, 1 + wk % 8 = (n : Int) := ⟨(1 + wk % 8).toNat, by omega⟩
  have n1 : 1 ≤ n := by omega
  have n8 : n ≤ 8 := by omega
  obtain ⟨s, hs⟩ : ∃ s : Nat, who % (n : Int) = (s : Int) := ⟨(who % (n : Int)).toNat, by have := Int.emod_nonneg who (show (n : Int) ≠ 0 by omega); omega⟩
  have sn : s < n := by have := Int.emod_lt_of_pos who (show (0 : Int) < (n : Int) by omega); omega
  obtain ⟨f, hf⟩ : ∃ f, facN n = f := ⟨_, rfl⟩
  have f1 : 1 ≤ f := by have := facN_pos n; omega
  have f2 : f ≤ 5040 := by rw [← hf]; exact facN_le n n8
  obtain ⟨dm, hdm⟩ : ∃ dm : Nat, d % (f : Int) = (dm : Int) := ⟨(d % (f : Int)).toNat, by have := Int.emod_nonneg d (show (f : Int) ≠ 0 by omega); omega⟩
  have dmf : dm < f := by have := Int.emod_lt_of_pos d (show (0 : Int) < (f : Int) by omega); omega
  have hdm' : d.toNat % f = dm := by
    have h1 : ((d.toNat % f : Nat) : Int) = (dm : Int) := by rw [Int.natCast_emod, Int.toNat_of_nonneg k0, hdm]
    exact Int.ofNat_inj.1 h1
  have hrk := rankZ_back dm n s n8 sn (by rw [hf]; exact dmf)
  have hmd := ordZ_mod d.toNat n s n8 sn
  rw [hf, hdm'] at hmd
  have HRK := hide hrk
  have HMD := hide hmd
  have HF := hide hf
  have hol := ordZ_len dm n s
  have hot := othZ_len n s
  have HOL := hide (show (ordZ dm n s).length ≤ 1000000 by omega)
  have hmx : max 1 (f : Int) = f := by omega
  clear hrk hmd hf hdm' hol hot
  go_enter Try.func11, Try.ntmps11
  go_wp2_with fail
  refine (alive7_any w).mono ?_
  rintro e w1 ⟨rfl, p1⟩
  have P1 := hide p1
  clear p1
  go_wp2_with fail
  refine (Ways_good n _ n1 n8).mono ?_
  rintro e w2 ⟨rfl, rfl⟩
  rw [HF.out]
  go_wp2_with fail
  refine (Order_any dm n s _ (by omega) (by omega)).mono ?_
  rintro e w3 ⟨va, rfl, hva, p3⟩
  rw [Int.toNat_natCast] at hva
  have HA := hide hva
  have P3 := hide (P1.out.trans p3)
  clear hva p3 P1
  go_wp2_with fail
  refine (Rank_any n s (ordZ dm n s) _ _ HA.out.rd HOL.out).mono ?_
  rintro e w4 ⟨rfl, p4⟩
  rw [HRK.out, show rankV (some dm) = .tuple #[.int .u64 (dm : Int), .bool true] from rfl]
  have P4 := hide (P3.out.trans p4)
  clear p4 P3 HA
  go_wp2_with fail
  refine (Order_any d n s _ k0 (by have := HD1.out; omega)).mono ?_
  rintro e w5 ⟨vb, rfl, hvb, p5⟩
  rw [← HMD.out] at hvb
  have HB := hide hvb
  have P5 := hide (P4.out.trans p5)
  clear hvb p5 P4
  go_wp2_with fail
  refine (Order_any dm n s _ (by omega) (by omega)).mono ?_
  rintro e w6 ⟨vc, rfl, hvc, p6⟩
  rw [Int.toNat_natCast] at hvc
  have HC := hide hvc
  have HB6 := hide (HB.out.only p6 (fun _ _ h => h))
  have P6 := hide (P5.out.trans p6)
  clear hvc p6 P5
  go_wp2_with fail
  refine (Ints_yes (A := ordZ dm n s) HOL.out HB6.out.rd HC.out.rd).mono ?_
  rintro e w7 ⟨rfl, p7⟩
  have P7 := hide (P6.out.trans p7)
  clear p7 P6
  go_wp2_with fail
  go_ret
  exact ⟨rfl, S0.below P7.out⟩
end Go.Proofs.Ytdaddbkhdalcfaa
