/-
  LastG, and where two operations may come up next. No program in sight.
-/
import Derived.Test.YtafnlmkhfonghaaLastG
namespace Go.Proofs.Ytafnlmkhfonghaa
open Go Go.RowKit
set_option linter.unusedVariables false
section
variable {P : Program} {ops : Array Oper} {Q : Exit → Act → World → Prop} {md : Region.Mode} {F : World → Prop} {m : Nat}
/-- Two may come up. -/
theorem wpLast_two {i j : Nat} {o o2 : Oper} {k : Nat} {listed : Array Bool} {a : Act} {w : World} (hr : Region.ready md ops listed = [i, j]) (ho : ops[i]? = some o) (ho2 : ops[j]? = some o2)
    (h : ∀ K' : Act → World → Prop, Hid (∀ a w, (i ≠ m → F w) → wpLast P md ops Q F m k (listed.setIfInBounds i true) a w → K' a w) → if Region.wanted o (yielded ops a.tmps) = true then Oper.wp P o a w K' Q else K' (a.put o.dst undef) w)
    (h2 : ∀ K' : Act → World → Prop, Hid (∀ a w, (j ≠ m → F w) → wpLast P md ops Q F m k (listed.setIfInBounds j true) a w → K' a w) → if Region.wanted o2 (yielded ops a.tmps) = true then Oper.wp P o2 a w K' Q else K' (a.put o2.dst undef) w) :
    wpLast P md ops Q F m (k + 1) listed a w := by
  refine ⟨fun h0 => (by rw [hr] at h0; cases h0), fun x hx => ?_⟩
  rw [hr, List.mem_cons, List.mem_singleton] at hx
  rcases hx with rfl | rfl
  · exact wpOp_step ho (fun K' hK => h K' (Lib.hid fun a w hS hW => hK a w ⟨hS, hW⟩))
  · exact wpOp_step ho2 (fun K' hK => h2 K' (Lib.hid fun a w hS hW => hK a w ⟨hS, hW⟩))
end
end Go.Proofs.Ytafnlmkhfonghaa
