/-
  A deque's examples, and its operations begun.
-/
import Derived.Test.YtdoaipjdldknaaaKDeq4
namespace Go.Proofs.Ytdoaipjdldknaaa
open Go.RowKit
set_option linter.unusedVariables false

section
variable {w : World} {bd bm bc : Nat} {base n tc : Int} {L : List Int}
def pushOp (x : Int) : Dop := { k := 1, out := 0, v := x, t := 0, b := 0, won := false }
def popOp : Dop := { k := 5, out := 0, v := 0, t := 0, b := 0, won := false }
def stealOp : Dop := { k := 11, out := 0, v := 0, t := 0, b := 0, won := false }
theorem pushOp_ok {x : Int} (hx : U64 x) : DopOk (pushOp x) := ⟨by simp [pushOp], hx, u64_zero, u64_zero⟩
theorem popOp_ok : DopOk popOp := ⟨by simp [popOp], u64_zero, u64_zero, u64_zero⟩
theorem stealOp_ok : DopOk stealOp := ⟨by simp [stealOp], u64_zero, u64_zero, u64_zero⟩
theorem DPush_all (he : DeqEnv w bd bm bc base n tc L) (x : Int) : Calls Try.prog 30 #[.pointer (some ⟨bd, 0, none⟩), .int .u64 x] w fun e w' =>
    ∃ bo, e = .returned (.pointer (some ⟨bo, 0, none⟩)) ∧ DopIs w' bo bd (pushOp x) ∧ DeqEnv w' bd bm bc base n tc L ∧ Only S0 w w' ∧ w.heap.size ≤ bo := by
  refine (DPush_any x w bd).mono ?_
  rintro e w' ⟨bo, rfl, h1, h2, h3⟩
  exact ⟨bo, rfl, h1, he.only0 h2, h2, h3⟩
theorem DPop_all (he : DeqEnv w bd bm bc base n tc L) : Calls Try.prog 37 #[.pointer (some ⟨bd, 0, none⟩)] w fun e w' =>
    ∃ bo, e = .returned (.pointer (some ⟨bo, 0, none⟩)) ∧ DopIs w' bo bd popOp ∧ DeqEnv w' bd bm bc base n tc L ∧ Only S0 w w' ∧ w.heap.size ≤ bo := by
  refine (DPop_any w bd).mono ?_
  rintro e w' ⟨bo, rfl, h1, h2, h3⟩
  exact ⟨bo, rfl, h1, he.only0 h2, h2, h3⟩
theorem DSteal_all (he : DeqEnv w bd bm bc base n tc L) : Calls Try.prog 42 #[.pointer (some ⟨bd, 0, none⟩)] w fun e w' =>
    ∃ bo, e = .returned (.pointer (some ⟨bo, 0, none⟩)) ∧ DopIs w' bo bd stealOp ∧ DeqEnv w' bd bm bc base n tc L ∧ Only S0 w w' ∧ w.heap.size ≤ bo := by
  refine (DSteal_any w bd).mono ?_
  rintro e w' ⟨bo, rfl, h1, h2, h3⟩
  exact ⟨bo, rfl, h1, he.only0 h2, h2, h3⟩
end

end Go.Proofs.Ytdoaipjdldknaaa
