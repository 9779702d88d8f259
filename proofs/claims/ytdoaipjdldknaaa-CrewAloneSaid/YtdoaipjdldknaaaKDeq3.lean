/-
  Package deque: operations that are done at once.
-/
import Derived.Test.YtdoaipjdldknaaaDeq2
import Derived.Deep.LoopGhost
import Derived.Deep.LoopGhost
namespace Go.Proofs.Ytdoaipjdldknaaa
open Go.RowKit
set_option linter.unusedVariables false

/-- An operation that is done at once: the cells, the operation, how many steps. -/
def ddone (base n : Int) : Nat → List Int → Dop → List Int × Dop × Nat
  | 0, L, o => (L, o, 0)
  | k + 1, L, o => if o.out ≠ 0 then (L, o, 0) else
    ((ddone base n k (dstep base n L o).1 (dstep base n L o).2).1, (ddone base n k (dstep base n L o).1 (dstep base n L o).2).2.1, (ddone base n k (dstep base n L o).1 (dstep base n L o).2).2.2 + 1)
theorem ddone_over (base n : Int) (k : Nat) (L : List Int) (o : Dop) (h : o.out ≠ 0) : ddone base n k L o = (L, o, 0) := by
  cases k <;> simp [ddone, h]
theorem ddone_succ (base n : Int) (k : Nat) (L : List Int) (o : Dop) (h : o.out = 0) : ddone base n (k + 1) L o =
    ((ddone base n k (dstep base n L o).1 (dstep base n L o).2).1, (ddone base n k (dstep base n L o).1 (dstep base n L o).2).2.1, (ddone base n k (dstep base n L o).1 (dstep base n L o).2).2.2 + 1) := by
  simp [ddone, h]
section
variable {w : World} {bo bd bm bc : Nat} {base n tc : Int} {L : List Int} {o : Dop}
end
end Go.Proofs.Ytdoaipjdldknaaa
