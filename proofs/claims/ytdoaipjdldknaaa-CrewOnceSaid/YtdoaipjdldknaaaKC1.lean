/-
  Package steps, as the crew's operations use it: an operation's block; Over, Outcome, Value, End.
-/
import Derived.Test.YtdoaipjdldknaaaKBell3
import Derived.Test.YtdoaipjdldknaaaKGate5
import Derived.Test.YtdoaipjdldknaaaKDeq5
import Derived.Test.YtdoaipjdldknaaaPlay
namespace Go.Proofs.Ytdoaipjdldknaaa
open Go.RowKit
set_option linter.unusedVariables false

/-- An operation of a crew: what is under way, what comes behind it, the outcome, the value. -/
def CopAt (w : World) (co cb : Nat) (cur thn : Value) (out val : Int) : Prop := Blk w co 70 #[cur, thn, .int .i64 out, .int .u64 val, .pointer (some ⟨cb, 0, none⟩)]
section
variable {w : World} {co cb : Nat} {cur thn : Value} {out val : Int}
theorem CopAt.c0 (h : CopAt w co cb cur thn out val) : w.cell? ⟨co, 0, none⟩ = some cur := Blk.cellv h rfl
theorem CopAt.c1 (h : CopAt w co cb cur thn out val) : w.cell? ⟨co, 1, none⟩ = some thn := Blk.cellv h rfl
theorem CopAt.c2 (h : CopAt w co cb cur thn out val) : w.cell? ⟨co, 2, none⟩ = some (.int .i64 out) := Blk.cellv h rfl
theorem CopAt.c3 (h : CopAt w co cb cur thn out val) : w.cell? ⟨co, 3, none⟩ = some (.int .u64 val) := Blk.cellv h rfl
theorem CopAt.c4 (h : CopAt w co cb cur thn out val) : w.cell? ⟨co, 4, none⟩ = some (.pointer (some ⟨cb, 0, none⟩)) := Blk.cellv h rfl
theorem CopAt.fz (h : CopAt w co cb cur thn out val) (i : Nat) : w.frozen? ⟨co, i, none⟩ = false := Blk.frozen h i
theorem CopAt.only {w' : World} {S : Nat → Prop} (h : CopAt w co cb cur thn out val) (ho : Only S w w') (hs : ¬ S co) : CopAt w' co cb cur thn out val := Blk.only h ho hs
theorem CopAt.drew (h : CopAt w co cb cur thn out val) : CopAt w.drew co cb cur thn out val := h
theorem CopAt.end_ (h : CopAt w co cb cur thn out val) (o v : Int) : CopAt ((w.setCell ⟨co, 2, none⟩ (.int .i64 o)).setCell ⟨co, 3, none⟩ (.int .u64 v)) co cb cur thn o v := by
  have := (Blk.set_ h 2 (.int .i64 o)).set_ 3 (.int .u64 v)
  simpa [CopAt] using this
theorem CopAt.do_ (h : CopAt w co cb cur thn out val) (c t : Value) : CopAt ((w.setCell ⟨co, 0, none⟩ c).setCell ⟨co, 1, none⟩ t) co cb c t out val := by
  have := (Blk.set_ h 0 c).set_ 1 t
  simpa [CopAt] using this
theorem COver_any (h : CopAt w co cb cur thn out val) : Calls Try.prog 25 #[.pointer (some ⟨co, 0, none⟩)] w fun e w' => e = .returned (.bool (out != 0)) ∧ w = w' := by
  have c2 := h.c2
  clear h
  go_enter Try.func25, Try.ntmps25
  go_wp2_with fail
  go_ret
  exact ⟨rfl, rfl⟩
theorem COutcome_any (h : CopAt w co cb cur thn out val) : Calls Try.prog 27 #[.pointer (some ⟨co, 0, none⟩)] w fun e w' => e = .returned (.int .i64 out) ∧ w = w' := by
  have c2 := h.c2
  clear h
  go_enter Try.func27, Try.ntmps27
  go_wp2_with fail
  go_ret
  exact ⟨rfl, rfl⟩
theorem CValue_any (h : CopAt w co cb cur thn out val) : Calls Try.prog 28 #[.pointer (some ⟨co, 0, none⟩)] w fun e w' => e = .returned (.int .u64 val) ∧ w = w' := by
  have c3 := h.c3
  clear h
  go_enter Try.func28, Try.ntmps28
  go_wp2_with fail
  go_ret
  exact ⟨rfl, rfl⟩
theorem CEnd_any (o v : Int) (h : CopAt w co cb cur thn out val) : Calls Try.prog 48 #[.pointer (some ⟨co, 0, none⟩), .int .i64 o, .int .u64 v] w fun e w' =>
    e = .returned (.tuple #[]) ∧ CopAt w' co cb cur thn o v ∧ Only (S1 co) w w' := by
  have c2 := h.c2
  have c3 := h.c3
  have f2 := h.fz 2
  have f3 := h.fz 3
  have H := hide h
  clear h
  go_enter Try.func48, Try.ntmps48
  go_wp2_with fail
  go_end0
  exact ⟨rfl, H.out.end_ o v, (only_set w co 2 _).set1 (g := co) 3 rfl _⟩
end
end Go.Proofs.Ytdoaipjdldknaaa
