/-
  No cell of these rows narrows 'for every input' (looked for: loops, veiled, ifaces, maps, wideKeys, modest, calm, conditions, laid).
  DERIVED. THE GIVEN ROWS OF THIS SEAT. 6 by the template 'for every input the law returns true; each argument reads behind the call as it read before'; 0 by the template 'total and deterministic' (their statements: YtjjjjbfblhadnaaTotals.lean).
  GIVEN WITH THE SEED: the statements are not yours to turn. If you find one false, say at which input.
  Laid BY PROGRAM, IN A SANDBOX (cutbox-rows.mjs): the forced cells as the released guide's own fill.sh prints them over the translation d1fe0cc81fc4e46c… (all of the seat's roots in one cut). By AI agents, Wed Nov 11 2026. No macro, syntax, notation, axiom, sorry.
-/
import Derived.Test.YtjjjjbfblhadnaaChecked
import GoSem.Claim
import GoSem.ClaimJoined
import GoSem.ClaimMapViews
import Derived.JoinedTies
import Derived.KernelRfl
namespace Go.Proofs.Ytjjjjbfblhadnaa
/- THE CELL 'sum', in the pinned program and in every row, IS THE sha256 OF THE DUMP (.gsa) THAT YtjjjjbfblhadnaaProg.lean LOADS. Nothing in Lean hashes anything: it is a label: what it is worth is what the hold of that sum in a sandbox is worth. -/
noncomputable def Try.pinned : Pinned := { name := "ytjjjjbfblhadnaa", sum := "d1fe0cc81fc4e46c2508097660dd747271856daa2def1f039c41ebf6855842ea", checked := Try.checked }
namespace Rows
def none {H : Type} : Left H := { results := [], args := [] }

/-- 'troupelaw05.GateMakes': WHATEVER THE INPUT: true; the input reads as it did. -/
def gateMakesSpec : ChangeSpec := { name := "gateMakes", fn := fun _ => fun
  | [d1, d2, d3] => { results := [.lit (.bool true)], args := [d1, d2, d3] }
  | _ => none }
def gateMakesRow : OpenClaim := { program := "ytjjjjbfblhadnaa", sum := "d1fe0cc81fc4e46c2508097660dd747271856daa2def1f039c41ebf6855842ea", func := "troupe/troupelaw05.GateMakes", spec := "gateMakes", apart := false }
def GateMakesSaid : Prop := gateMakesRow.holds Try.pinned (OpenSpec.ofChange gateMakesSpec)

/-- ITS FALSE NEIGHBOUR: 'it returns false'. Refute it at one input. -/
def gateMakesWrong : ChangeSpec := { name := "gateMakes", fn := fun _ => fun
  | [d1, d2, d3] => { results := [.lit (.bool false)], args := [d1, d2, d3] }
  | _ => none }
def GateMakesWrongFalsely : Prop := gateMakesRow.holds Try.pinned (OpenSpec.ofChange gateMakesWrong)

/-- 'troupelaw05.GateOnce': WHATEVER THE INPUT: true; the input reads as it did. -/
def gateOnceSpec : ChangeSpec := { name := "gateOnce", fn := fun _ => fun
  | [d1, d2] => { results := [.lit (.bool true)], args := [d1, d2] }
  | _ => none }
def gateOnceRow : OpenClaim := { program := "ytjjjjbfblhadnaa", sum := "d1fe0cc81fc4e46c2508097660dd747271856daa2def1f039c41ebf6855842ea", func := "troupe/troupelaw05.GateOnce", spec := "gateOnce", apart := false }
def GateOnceSaid : Prop := gateOnceRow.holds Try.pinned (OpenSpec.ofChange gateOnceSpec)

/-- ITS FALSE NEIGHBOUR: 'it returns false'. Refute it at one input. -/
def gateOnceWrong : ChangeSpec := { name := "gateOnce", fn := fun _ => fun
  | [d1, d2] => { results := [.lit (.bool false)], args := [d1, d2] }
  | _ => none }
def GateOnceWrongFalsely : Prop := gateOnceRow.holds Try.pinned (OpenSpec.ofChange gateOnceWrong)

/-- 'troupelaw05.GateOrder': WHATEVER THE INPUT: true; the input reads as it did. -/
def gateOrderSpec : ChangeSpec := { name := "gateOrder", fn := fun _ => fun
  | [d1, d2] => { results := [.lit (.bool true)], args := [d1, d2] }
  | _ => none }
def gateOrderRow : OpenClaim := { program := "ytjjjjbfblhadnaa", sum := "d1fe0cc81fc4e46c2508097660dd747271856daa2def1f039c41ebf6855842ea", func := "troupe/troupelaw05.GateOrder", spec := "gateOrder", apart := false }
def GateOrderSaid : Prop := gateOrderRow.holds Try.pinned (OpenSpec.ofChange gateOrderSpec)

/-- ITS FALSE NEIGHBOUR: 'it returns false'. Refute it at one input. -/
def gateOrderWrong : ChangeSpec := { name := "gateOrder", fn := fun _ => fun
  | [d1, d2] => { results := [.lit (.bool false)], args := [d1, d2] }
  | _ => none }
def GateOrderWrongFalsely : Prop := gateOrderRow.holds Try.pinned (OpenSpec.ofChange gateOrderWrong)

/-- 'troupelaw05.GateBound': WHATEVER THE INPUT: true; the input reads as it did. -/
def gateBoundSpec : ChangeSpec := { name := "gateBound", fn := fun _ => fun
  | [d1, d2, d3] => { results := [.lit (.bool true)], args := [d1, d2, d3] }
  | _ => none }
def gateBoundRow : OpenClaim := { program := "ytjjjjbfblhadnaa", sum := "d1fe0cc81fc4e46c2508097660dd747271856daa2def1f039c41ebf6855842ea", func := "troupe/troupelaw05.GateBound", spec := "gateBound", apart := false }
def GateBoundSaid : Prop := gateBoundRow.holds Try.pinned (OpenSpec.ofChange gateBoundSpec)

/-- ITS FALSE NEIGHBOUR: 'it returns false'. Refute it at one input. -/
def gateBoundWrong : ChangeSpec := { name := "gateBound", fn := fun _ => fun
  | [d1, d2, d3] => { results := [.lit (.bool false)], args := [d1, d2, d3] }
  | _ => none }
def GateBoundWrongFalsely : Prop := gateBoundRow.holds Try.pinned (OpenSpec.ofChange gateBoundWrong)

/-- 'troupelaw05.GateFree': WHATEVER THE INPUT: true; the input reads as it did. -/
def gateFreeSpec : ChangeSpec := { name := "gateFree", fn := fun _ => fun
  | [d1, d2, d3] => { results := [.lit (.bool true)], args := [d1, d2, d3] }
  | _ => none }
def gateFreeRow : OpenClaim := { program := "ytjjjjbfblhadnaa", sum := "d1fe0cc81fc4e46c2508097660dd747271856daa2def1f039c41ebf6855842ea", func := "troupe/troupelaw05.GateFree", spec := "gateFree", apart := false }
def GateFreeSaid : Prop := gateFreeRow.holds Try.pinned (OpenSpec.ofChange gateFreeSpec)

/-- ITS FALSE NEIGHBOUR: 'it returns false'. Refute it at one input. -/
def gateFreeWrong : ChangeSpec := { name := "gateFree", fn := fun _ => fun
  | [d1, d2, d3] => { results := [.lit (.bool false)], args := [d1, d2, d3] }
  | _ => none }
def GateFreeWrongFalsely : Prop := gateFreeRow.holds Try.pinned (OpenSpec.ofChange gateFreeWrong)

/-- 'troupelaw05.GatePlays': WHATEVER THE INPUT: true; the input reads as it did. -/
def gatePlaysSpec : ChangeSpec := { name := "gatePlays", fn := fun _ => fun
  | [d1, d2, d3] => { results := [.lit (.bool true)], args := [d1, d2, d3] }
  | _ => none }
def gatePlaysRow : OpenClaim := { program := "ytjjjjbfblhadnaa", sum := "d1fe0cc81fc4e46c2508097660dd747271856daa2def1f039c41ebf6855842ea", func := "troupe/troupelaw05.GatePlays", spec := "gatePlays", apart := false }
def GatePlaysSaid : Prop := gatePlaysRow.holds Try.pinned (OpenSpec.ofChange gatePlaysSpec)

/-- ITS FALSE NEIGHBOUR: 'it returns false'. Refute it at one input. -/
def gatePlaysWrong : ChangeSpec := { name := "gatePlays", fn := fun _ => fun
  | [d1, d2, d3] => { results := [.lit (.bool false)], args := [d1, d2, d3] }
  | _ => none }
def GatePlaysWrongFalsely : Prop := gatePlaysRow.holds Try.pinned (OpenSpec.ofChange gatePlaysWrong)

/- THE SECOND FORM. 'bulk': how many values and letters a reading holds, each counted each time it is reached (what is shared counts as often as it is met; a slice's spare places count too). A statement '..UptoSaid' is the law's where the arguments, and the package variables that the reading takes, are together of bulk at most 1048576: NARROWER than '..Said'. Prove '..Said' where nothing that the law and all that it calls make is longer than what came in: it says more and counts as full. Else prove '..UptoSaid'. A law counts once. -/
mutual
def uptoBulk {H : Type} : DataW H → Nat
  | .lit (.string bytes) => bytes.length + 1
  | .lit _ => 1
  | .nil => 1
  | .ptr d => uptoBulk d + 1
  | .slice elems spare => uptoBulkAll elems + uptoBulkAll spare + 1
  | .agg parts => uptoBulkAll parts + 1
  | .iface _ d => uptoBulk d + 1
  | .map entries => uptoBulkEntries entries + 1
  | .held _ => 1
def uptoBulkAll {H : Type} : List (DataW H) → Nat
  | [] => 0
  | d :: r => uptoBulk d + uptoBulkAll r
def uptoBulkEntries {H : Type} : List (Lit × DataW H) → Nat
  | [] => 0
  | x :: r => uptoBulkEntry x + uptoBulkEntries r
def uptoBulkEntry {H : Type} : Lit × DataW H → Nat
  | (.string bytes, d) => bytes.length + uptoBulk d + 1
  | (_, d) => uptoBulk d + 1
 end
def uptoSmall : (H : Type) → List (DataW H) → Bool := fun _ ds => decide (uptoBulkAll ds ≤ 1048576)
def OpenSpec.upto (s : _root_.Go.ChangeSpec) : _root_.Go.OpenSpec := { _root_.Go.OpenSpec.ofChange s with cond := some uptoSmall }

/-- 'troupelaw05.GateMakes', WHERE WHAT IT READS IS OF BULK AT MOST 1048576: true; the input reads as it did. -/
def gateMakesUptoRow : OpenClaim := { program := "ytjjjjbfblhadnaa", sum := "d1fe0cc81fc4e46c2508097660dd747271856daa2def1f039c41ebf6855842ea", func := "troupe/troupelaw05.GateMakes", spec := "gateMakes", apart := false, narrowed := true }
def GateMakesUptoSaid : Prop := gateMakesUptoRow.holds Try.pinned (OpenSpec.upto gateMakesSpec)

/-- 'troupelaw05.GateOnce', WHERE WHAT IT READS IS OF BULK AT MOST 1048576: true; the input reads as it did. -/
def gateOnceUptoRow : OpenClaim := { program := "ytjjjjbfblhadnaa", sum := "d1fe0cc81fc4e46c2508097660dd747271856daa2def1f039c41ebf6855842ea", func := "troupe/troupelaw05.GateOnce", spec := "gateOnce", apart := false, narrowed := true }
def GateOnceUptoSaid : Prop := gateOnceUptoRow.holds Try.pinned (OpenSpec.upto gateOnceSpec)

/-- 'troupelaw05.GateOrder', WHERE WHAT IT READS IS OF BULK AT MOST 1048576: true; the input reads as it did. -/
def gateOrderUptoRow : OpenClaim := { program := "ytjjjjbfblhadnaa", sum := "d1fe0cc81fc4e46c2508097660dd747271856daa2def1f039c41ebf6855842ea", func := "troupe/troupelaw05.GateOrder", spec := "gateOrder", apart := false, narrowed := true }
def GateOrderUptoSaid : Prop := gateOrderUptoRow.holds Try.pinned (OpenSpec.upto gateOrderSpec)

/-- 'troupelaw05.GateBound', WHERE WHAT IT READS IS OF BULK AT MOST 1048576: true; the input reads as it did. -/
def gateBoundUptoRow : OpenClaim := { program := "ytjjjjbfblhadnaa", sum := "d1fe0cc81fc4e46c2508097660dd747271856daa2def1f039c41ebf6855842ea", func := "troupe/troupelaw05.GateBound", spec := "gateBound", apart := false, narrowed := true }
def GateBoundUptoSaid : Prop := gateBoundUptoRow.holds Try.pinned (OpenSpec.upto gateBoundSpec)

/-- 'troupelaw05.GateFree', WHERE WHAT IT READS IS OF BULK AT MOST 1048576: true; the input reads as it did. -/
def gateFreeUptoRow : OpenClaim := { program := "ytjjjjbfblhadnaa", sum := "d1fe0cc81fc4e46c2508097660dd747271856daa2def1f039c41ebf6855842ea", func := "troupe/troupelaw05.GateFree", spec := "gateFree", apart := false, narrowed := true }
def GateFreeUptoSaid : Prop := gateFreeUptoRow.holds Try.pinned (OpenSpec.upto gateFreeSpec)

/-- 'troupelaw05.GatePlays', WHERE WHAT IT READS IS OF BULK AT MOST 1048576: true; the input reads as it did. -/
def gatePlaysUptoRow : OpenClaim := { program := "ytjjjjbfblhadnaa", sum := "d1fe0cc81fc4e46c2508097660dd747271856daa2def1f039c41ebf6855842ea", func := "troupe/troupelaw05.GatePlays", spec := "gatePlays", apart := false, narrowed := true }
def GatePlaysUptoSaid : Prop := gatePlaysUptoRow.holds Try.pinned (OpenSpec.upto gatePlaysSpec)

end Rows
end Go.Proofs.Ytjjjjbfblhadnaa
