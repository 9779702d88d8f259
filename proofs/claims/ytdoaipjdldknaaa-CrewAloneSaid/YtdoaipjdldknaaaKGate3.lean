/-
  Package gate: operations that are done at once; Size and Make; the examples.
-/
import Derived.Test.YtdoaipjdldknaaaGate2
import Derived.Deep.LoopGhost
namespace Go.Proofs.Ytdoaipjdldknaaa
open Go.RowKit
set_option linter.unusedVariables false

/-- An operation that is done at once: the cells, the operation, how many steps. -/
def gdone (base n : Int) : Nat → List Int → Gop → List Int × Gop × Nat
  | 0, L, o => (L, o, 0)
  | k + 1, L, o => if o.out ≠ 0 then (L, o, 0) else
    ((gdone base n k (gstep base n L o).1 (gstep base n L o).2).1, (gdone base n k (gstep base n L o).1 (gstep base n L o).2).2.1, (gdone base n k (gstep base n L o).1 (gstep base n L o).2).2.2 + 1)
theorem gdone_over (base n : Int) (k : Nat) (L : List Int) (o : Gop) (h : o.out ≠ 0) : gdone base n k L o = (L, o, 0) := by
  cases k <;> simp [gdone, h]
theorem gdone_succ (base n : Int) (k : Nat) (L : List Int) (o : Gop) (h : o.out = 0) : gdone base n (k + 1) L o =
    ((gdone base n k (gstep base n L o).1 (gstep base n L o).2).1, (gdone base n k (gstep base n L o).1 (gstep base n L o).2).2.1, (gdone base n k (gstep base n L o).1 (gstep base n L o).2).2.2 + 1) := by
  simp [gdone, h]
section
variable {w : World} {bo bg bm bc : Nat} {base n tc : Int} {L : List Int} {o : Gop}
theorem GopIs.over0 (h : GopIs w bo bg o) (ho : o.out = 0) : Calls Try.prog 108 #[.pointer (some ⟨bo, 0, none⟩)] w fun e w' => e = .returned (.bool false) ∧ w = w' := by
  unfold GopIs at h
  rw [ho] at h
  exact GOver_pend h
theorem GopIs.over1 (h : GopIs w bo bg o) (ho : o.out ≠ 0) : Calls Try.prog 108 #[.pointer (some ⟨bo, 0, none⟩)] w fun e w' => e = .returned (.bool true) ∧ w = w' := GOver_over h ho
theorem GopIs.outcome (h : GopIs w bo bg o) : Calls Try.prog 47 #[.pointer (some ⟨bo, 0, none⟩)] w fun e w' => e = .returned (.int .i64 o.out) ∧ w = w' := GOutcome_any h
theorem GopIs.value (h : GopIs w bo bg o) : Calls Try.prog 51 #[.pointer (some ⟨bo, 0, none⟩)] w fun e w' => e = .returned (.int .u64 (gvalue o.ahead o.v o.out)) ∧ w = w' := GValue_any h

end
end Go.Proofs.Ytdoaipjdldknaaa
