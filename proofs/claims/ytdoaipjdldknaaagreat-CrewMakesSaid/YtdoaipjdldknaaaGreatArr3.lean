/-
  An array of three integers that came in. No program in sight.
-/
import Derived.Test.YtdoaipjdldknaaaGreatOpen
import Derived.Laws.IdiomArrays
import Derived.Lib.SmallJoins
namespace Go.Proofs.YtdoaipjdldknaaaGreat
open Go.ChangeShapes Go.WideShapes Go.ChangeAt Go.RowKit Go.Deep Go.Joins
section
variable {H : Type} {enc : TypeId × Value → H} {P : Program} {W : World}
theorem in_arr3 {t e : TypeId} {k : IntKind} {r : Reach} {b0 : Nat} {v : Value} {d : DataW H} {p : List MemPlace} (ht : P.underlying t = some (.array 3 e)) (he : P.underlying e = some (.int k)) (hce : P.cellsOf e = 1) (hC : P.cellsOf t = 3)
    (hv : Value.okWide P W r b0 t v) (h : DataW.Trod enc P W 0 (fun _ => true) true t v d p) :
    ∃ a0 a1 a2 : Int, v = .agg #[.int k a0, .int k a1, .int k a2] ∧ (Lit.int k a0).wf = true ∧ (Lit.int k a1).wf = true ∧ (Lit.int k a2).wf = true := by
  simp only [Value.okWide, ht] at hv
  obtain ⟨cs, rfl, hs, _⟩ := hv
  obtain ⟨c0, c1, c2, rfl⟩ := array3 (hs.trans hC)
  obtain ⟨fuel, hf⟩ := h
  obtain ⟨y0, y1, y2, n, hx, h0, h1, h2⟩ := trod_array3 ht hce hf
  obtain ⟨a0, e0, _, q0⟩ := DataW.trod_int he h0
  obtain ⟨a1, e1, _, q1⟩ := DataW.trod_int he h1
  obtain ⟨a2, e2, _, q2⟩ := DataW.trod_int he h2
  rw [(List.cons.inj e0).1, (List.cons.inj e1).1, (List.cons.inj e2).1]
  exact ⟨a0, a1, a2, rfl, q0, q1, q2⟩
end
end Go.Proofs.YtdoaipjdldknaaaGreat
