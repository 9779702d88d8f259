/-
  A deque that is alone: made, and its operations done at once (contracts over the list of what is in it).
-/
import Derived.Test.YtdoaipjdldknaaaKDeqA
namespace Go.Proofs.Ytdoaipjdldknaaa
open Go.RowKit
set_option linter.unusedVariables false

/-- What is in it. -/
def inD (T B : Nat) (val : Nat → Int) : List Int := (List.range (B - T)).map fun i => val (T + i)
theorem inD_len (T B : Nat) (val : Nat → Int) : (inD T B val).length = B - T := by simp [inD]
theorem inD_push {T B : Nat} (val : Nat → Int) (x : Int) (h : T ≤ B) : inD T (B + 1) (fun t => if t = B then x else val t) = inD T B val ++ [x] := by
  unfold inD
  rw [show B + 1 - T = (B - T) + 1 by omega, List.range_succ, List.map_append]
  congr 1
  · refine List.map_congr_left fun i hi => ?_
    have := List.mem_range.1 hi
    show (if T + i = B then x else val (T + i)) = _
    rw [if_neg (by omega)]
  · simp [show T + (B - T) = B by omega]
theorem inD_pop {T B : Nat} (val : Nat → Int) (h : T < B) : inD T B val = inD T (B - 1) val ++ [val (B - 1)] := by
  unfold inD
  rw [show B - T = (B - 1 - T) + 1 by omega, List.range_succ, List.map_append]
  simp [show T + (B - 1 - T) = B - 1 by omega]
theorem inD_nil {T B : Nat} (val : Nat → Int) (h : B ≤ T) : inD T B val = [] := by
  unfold inD
  rw [show B - T = 0 by omega]
  rfl
section
variable {w w' : World} {bo bd bm bc n c : Nat} {s : List Int}
theorem layD_alone {n : Nat} (h1 : 1 ≤ n) (h64 : n ≤ 64) (val : Nat → Int) : DAlone n (layD (List.replicate (2 + n) 0) 0 (2 + n)) 1 1 val := by
  have key : ∀ k, k ≤ 2 + n → ∀ j : Nat, j < k → at_ (layD (List.replicate (2 + n) 0) 0 k) (j : Int) = if j < 2 then 1 else 0 := by
    intro k
    induction k with
    | zero => intro _ j hj; omega
    | succ k ih =>
      intro hk j hj
      rw [layD, Nat.zero_add, at_set _ _ _ _ (by rw [layD_len]; simp; omega)]
      by_cases e : j = k
      · rw [if_pos e, e]
      · rw [if_neg e]; exact ih (by omega) j (by omega)
  refine ⟨h1, h64, by rw [layD_len]; simp, ?_, ?_, Nat.le_refl _, Nat.le_refl _, by omega, by omega, fun t h2 h3 => by omega⟩
  · rw [key _ (Nat.le_refl _) 0 (by omega)]; rfl
  · rw [key _ (Nat.le_refl _) 1 (by omega)]; rfl


end
end Go.Proofs.Ytdoaipjdldknaaa
