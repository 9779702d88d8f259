/-
  troupelaw05.alive answers true, and turns nothing that was there.
-/
import Derived.Test.YtdoaipjdldknaaaKGate4
namespace Go.Proofs.Ytdoaipjdldknaaa
open Go.RowKit
set_option linter.unusedVariables false

section
variable {w : World} {bg bm bc : Nat} {base n tc : Int} {L : List Int}
/-- A Put that is done at once, and a Take. -/
def putOp (base x : Int) : Gop := { ph := 0, cell := base, ahead := 0, t := 0, v := x, out := 0 }
def takeOp (base : Int) : Gop := { ph := 0, cell := base + 1, ahead := 1, t := 0, v := 0, out := 0 }
theorem putOp_ok (he : GateEnv w bg bm bc base n tc L) {x : Int} (hx : U64 x) : GopOk base L.length (putOp base x) :=
  ⟨.inl rfl, he.b0, by have := he.in_; have := he.n1; show base < _; omega, u64_zero, hx⟩
theorem takeOp_ok (he : GateEnv w bg bm bc base n tc L) : GopOk base L.length (takeOp base) :=
  ⟨.inl rfl, by have := he.b0; show 0 ≤ base + 1; omega, by have := he.in_; have := he.n1; show base + 1 < _; omega, u64_zero, u64_zero⟩
theorem GateEnv.only {w' : World} {S : Nat → Prop} (he : GateEnv w bg bm bc base n tc L) (ho : Only S w w') (h1 : ¬ S bg) (h2 : ¬ S bm) (h3 : ¬ S bc) : GateEnv w' bg bm bc base n tc L :=
  ⟨he.gate.only ho h1, he.mem.only ho h2 h3, he.few, he.u, he.n1, he.n64, he.b0, he.b1, he.in_⟩
theorem GateEnv.only0 {w' : World} (he : GateEnv w bg bm bc base n tc L) (ho : Only S0 w w') : GateEnv w' bg bm bc base n tc L := he.only ho (fun h => h) (fun h => h) (fun h => h)
theorem GPut_all (he : GateEnv w bg bm bc base n tc L) (x : Int) : Calls Try.prog 56 #[.pointer (some ⟨bg, 0, none⟩), .int .u64 x] w fun e w' =>
    ∃ bo, e = .returned (.pointer (some ⟨bo, 0, none⟩)) ∧ GopIs w' bo bg (putOp base x) ∧ GateEnv w' bg bm bc base n tc L ∧ Only S0 w w' ∧ w.heap.size ≤ bo := by
  refine (Put_any x he.gate).mono ?_
  rintro e w' ⟨bo, rfl, h1, h2, h3⟩
  exact ⟨bo, rfl, h1, he.only0 h2, h2, h3⟩
theorem GTake_all (he : GateEnv w bg bm bc base n tc L) : Calls Try.prog 39 #[.pointer (some ⟨bg, 0, none⟩)] w fun e w' =>
    ∃ bo, e = .returned (.pointer (some ⟨bo, 0, none⟩)) ∧ GopIs w' bo bg (takeOp base) ∧ GateEnv w' bg bm bc base n tc L ∧ Only S0 w w' ∧ w.heap.size ≤ bo := by
  refine (Take_any he.gate he.b0 he.b1).mono ?_
  rintro e w' ⟨bo, rfl, h1, h2, h3⟩
  exact ⟨bo, rfl, h1, he.only0 h2, h2, h3⟩
end

end Go.Proofs.Ytdoaipjdldknaaa
