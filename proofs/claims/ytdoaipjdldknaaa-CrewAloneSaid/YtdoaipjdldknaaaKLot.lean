/-
  Package lot: Order, told for all arguments (the crew's).
-/
import Derived.Test.YtdoaipjdldknaaaLot
import Derived.Test.YtdoaipjdldknaaaLotQ
namespace Go.Proofs.Ytdoaipjdldknaaa
open Go.RowKit
set_option linter.unusedVariables false

/-- The others, of whatever numbers. -/
def othZ (n s : Int) : List Nat := if 1 ≤ n ∧ n ≤ 8 ∧ 0 ≤ s ∧ s < n then othN n.toNat s.toNat else []
/-- The order of a draw, of whatever numbers. -/
def ordZ (d : Nat) (n s : Int) : List Nat := ordN (othZ n s).length d (othZ n s)
theorem othZ_good (n s : Nat) (h0 : n ≤ 8) (h1 : s < n) : othZ n s = othN n s := by
  unfold othZ
  rw [if_pos (by omega)]
  simp
theorem othZ_len (n s : Int) : (othZ n s).length ≤ 7 := by
  unfold othZ
  split
  · rename_i h
    rw [othN_len _ _ (by omega)]
    omega
  · simp
theorem ordZ_len (d : Nat) (n s : Int) : (ordZ d n s).length = (othZ n s).length := ord_len _ _ _ rfl
theorem others_any (n s : Int) (w : World) :
    Calls Try.prog 62 #[.int .i64 n, .int .i64 s] w fun e w' => ∃ v, e = .returned v ∧ Sl w' w.heap.size 3 v (vN (othZ n s)) ∧ Only S0 w w' := by
  by_cases h : 1 ≤ n ∧ n ≤ 8 ∧ 0 ≤ s ∧ s < n
  · obtain ⟨n', rfl⟩ := Int.eq_ofNat_of_zero_le (show 0 ≤ n by omega)
    obtain ⟨s', rfl⟩ := Int.eq_ofNat_of_zero_le (show 0 ≤ s by omega)
    rw [othZ_good n' s' (by omega) (by omega)]
    exact others_good n' s' w (by omega) (by omega)
  · have e : othZ n s = [] := by unfold othZ; rw [if_neg h]
    rw [e]
    refine (others_bad n s w (by omega)).mono ?_
    rintro e w' ⟨rfl, rfl⟩
    exact ⟨_, rfl, Sl.nil _ _ _, Only.refl _ _⟩
theorem Order_any (d : Int) (n s : Int) (w : World) (h0 : 0 ≤ d) (h1 : d < 18446744073709551616) :
    Calls Try.prog 40 #[.int .u64 d, .int .i64 n, .int .i64 s] w fun e w' => ∃ v, e = .returned v ∧ Sl w' w.heap.size 3 v (vN (ordZ d.toNat n s)) ∧ Only S0 w w' := by
  obtain ⟨d', rfl⟩ := Int.eq_ofNat_of_zero_le h0
  exact order_of d' n s w (by omega) (othZ n s) (by have := othZ_len n s; omega) (others_any n s w)
end Go.Proofs.Ytdoaipjdldknaaa
