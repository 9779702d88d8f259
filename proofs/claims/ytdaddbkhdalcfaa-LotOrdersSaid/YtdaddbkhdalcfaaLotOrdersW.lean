/-
  LotOrders, the walk.
-/
import Derived.Test.YtdaddbkhdalcfaaOpen
import Derived.Test.YtdaddbkhdalcfaaAlive7
import Derived.Test.YtdaddbkhdalcfaaLotR
namespace Go.Proofs.Ytdaddbkhdalcfaa
open Go.RowKit
set_option linter.unusedVariables false

theorem RefOrder_any (d : Int) (n s : Int) (w : World) (h0 : 0 ≤ d) (h1 : d < 18446744073709551616) :
    Calls Try.prog 35 #[.int .u64 d, .int .i64 n, .int .i64 s] w fun e w' => ∃ v, e = .returned v ∧ Sl w' w.heap.size 3 v (vN (ordZ d.toNat n s)) ∧ Only S0 w w' := by
  by_cases h : 1 ≤ n ∧ n ≤ 8 ∧ 0 ≤ s ∧ s < n
  · obtain ⟨d', rfl⟩ := Int.eq_ofNat_of_zero_le h0
    obtain ⟨n', rfl⟩ := Int.eq_ofNat_of_zero_le (show 0 ≤ n by omega)
    obtain ⟨s', rfl⟩ := Int.eq_ofNat_of_zero_le (show 0 ≤ s by omega)
    unfold ordZ
    rw [othZ_good n' s' (by omega) (by omega)]
    exact RefOrder_good d' n' s' w (by omega) (by omega) (by omega)
  · have e : ordZ d.toNat n s = [] := by unfold ordZ othZ; rw [if_neg h]; rfl
    rw [e]
    refine (RefOrder_bad d n s w h).mono ?_
    rintro e w' ⟨rfl, rfl⟩
    exact ⟨_, rfl, Sl.nil _ _ _, Only.refl _ _⟩
theorem ways_any (n : Int) (w : World) : Calls Try.prog 36 #[.int .i64 n] w fun e w' => e = .returned (.int .i64 (if 1 ≤ n ∧ n ≤ 8 then facN n.toNat else 0 : Nat)) ∧ w = w' := by
  by_cases h : 1 ≤ n ∧ n ≤ 8
  · obtain ⟨n', rfl⟩ := Int.eq_ofNat_of_zero_le (show 0 ≤ n by omega)
    rw [if_pos h]
    exact Ways_good n' w (by omega) (by omega)
  · rw [if_neg h]
    exact Ways_bad n w (by omega)
theorem refWays_any (n : Int) (w : World) : Calls Try.prog 37 #[.int .i64 n] w fun e w' => e = .returned (.int .i64 (if 1 ≤ n ∧ n ≤ 8 then facN n.toNat else 0 : Nat)) ∧ w = w' := by
  by_cases h : 1 ≤ n ∧ n ≤ 8
  · obtain ⟨n', rfl⟩ := Int.eq_ofNat_of_zero_le (show 0 ≤ n by omega)
    rw [if_pos h]
    exact RefWays_good n' w (by omega) (by omega)
  · rw [if_neg h]
    exact RefWays_bad n w (by omega)

theorem lotOrders_walk (d n s : Int) (w : World) (w0 : (Lit.int .u64 d).wf = true) (w1 : (Lit.int .i64 n).wf = true) (w2 : (Lit.int .i64 s).wf = true) :
    Calls Try.prog 9 #[.int .u64 d, .int .i64 n, .int .i64 s] w fun e w' => e = .returned (.bool true) ∧ Below w.heap.size w w' := by
  have hd := bounds_u64 w0
  have HD0 := hide hd.1
  have HD1 := hide hd.2
  clear w0 w1 w2 hd
  go_enter Try.func9, Try.ntmps9
  go_wp2_with fail
  refine (alive7_any w).mono ?_
  rintro e w1 ⟨rfl, p1⟩
  have P1 := hide p1
  clear p1
  go_wp2_with fail
  refine (Order_any d n s _ HD0.out (by have := HD1.out; omega)).mono ?_
  rintro e w2 ⟨v, rfl, hv, p2⟩
  have HV := hide hv
  have P2 := hide (P1.out.trans p2)
  clear hv p2 P1
  go_wp2_with fail
  refine (RefOrder_any d n s _ HD0.out (by have := HD1.out; omega)).mono ?_
  rintro e w3 ⟨v', rfl, hv', p3⟩
  have HV' := hide hv'
  have HV3 := hide (HV.out.only p3 (fun _ _ h => h))
  have P3 := hide (P2.out.trans p3)
  clear hv' p3 P2
  go_wp2_with fail
  refine (Ints_yes (A := ordZ d.toNat n s) (by rw [ordZ_len]; have := othZ_len n s; omega) HV3.out.rd HV'.out.rd).mono ?_
  rintro e w4 ⟨rfl, p4⟩
  have P4 := hide (P3.out.trans p4)
  clear p4 P3
  go_wp2_with fail
  refine (ways_any n _).mono ?_
  rintro e w5 ⟨rfl, rfl⟩
  generalize hx : (if 1 ≤ n ∧ n ≤ 8 then facN n.toNat else 0) = x
  have HX := hide hx
  clear hx
  go_wp2_with fail
  refine (refWays_any n _).mono ?_
  rintro e w5 ⟨rfl, rfl⟩
  rw [HX.out]
  go_wp2_with fail
  go_ret
  exact ⟨rfl, S0.below P4.out⟩
end Go.Proofs.Ytdaddbkhdalcfaa
