/-
  No cell of these rows narrows 'for every input' (looked for: loops, veiled, ifaces, maps, wideKeys, modest, calm, conditions, laid).
  DERIVED. THE GIVEN ROWS OF THIS SEAT. 10 by the template 'for every input the law returns true; each argument reads behind the call as it read before'; 0 by the template 'total and deterministic' (their statements: YtafnlmkhfonghaaTotals.lean).
  GIVEN WITH THE SEED: the statements are not yours to turn. If you find one false, say at which input.
  Laid BY PROGRAM, IN A SANDBOX (cutbox-rows.mjs): the forced cells as the released guide's own fill.sh prints them over the translation 58ff25153c034bb0… (all of the seat's roots in one cut). By AI agents, Wed Nov 11 2026. No macro, syntax, notation, axiom, sorry.
-/
import Derived.Test.YtafnlmkhfonghaaChecked
import GoSem.Claim
import GoSem.ClaimJoined
import GoSem.ClaimMapViews
import Derived.JoinedTies
import Derived.KernelRfl
namespace Go.Proofs.Ytafnlmkhfonghaa
/- THE CELL 'sum', in the pinned program and in every row, IS THE sha256 OF THE DUMP (.gsa) THAT YtafnlmkhfonghaaProg.lean LOADS. Nothing in Lean hashes anything: it is a label: what it is worth is what the hold of that sum in a sandbox is worth. -/
noncomputable def Try.pinned : Pinned := { name := "ytafnlmkhfonghaa", sum := "58ff25153c034bb0d476010d390065589e3a98a56ee0f5bc654c4762a93c3fb5", checked := Try.checked }
namespace Rows
def none {H : Type} : Left H := { results := [], args := [] }

/-- 'troupelaw06.BellMeets': WHATEVER THE INPUT: true; the input reads as it did. -/
def bellMeetsSpec : ChangeSpec := { name := "bellMeets", fn := fun _ => fun
  | [d1, d2, d3] => { results := [.lit (.bool true)], args := [d1, d2, d3] }
  | _ => none }
def bellMeetsRow : OpenClaim := { program := "ytafnlmkhfonghaa", sum := "58ff25153c034bb0d476010d390065589e3a98a56ee0f5bc654c4762a93c3fb5", func := "troupe/troupelaw06.BellMeets", spec := "bellMeets", unfollowed := true, recurses := true, apart := false }
def BellMeetsSaid : Prop := bellMeetsRow.holds Try.pinned (OpenSpec.ofChange bellMeetsSpec)

/-- ITS FALSE NEIGHBOUR: 'it returns false'. Refute it at one input. -/
def bellMeetsWrong : ChangeSpec := { name := "bellMeets", fn := fun _ => fun
  | [d1, d2, d3] => { results := [.lit (.bool false)], args := [d1, d2, d3] }
  | _ => none }
def BellMeetsWrongFalsely : Prop := bellMeetsRow.holds Try.pinned (OpenSpec.ofChange bellMeetsWrong)

/-- 'troupelaw06.BellOnce': WHATEVER THE INPUT: true; the input reads as it did. -/
def bellOnceSpec : ChangeSpec := { name := "bellOnce", fn := fun _ => fun
  | [d1, d2, d3, d4] => { results := [.lit (.bool true)], args := [d1, d2, d3, d4] }
  | _ => none }
def bellOnceRow : OpenClaim := { program := "ytafnlmkhfonghaa", sum := "58ff25153c034bb0d476010d390065589e3a98a56ee0f5bc654c4762a93c3fb5", func := "troupe/troupelaw06.BellOnce", spec := "bellOnce", unfollowed := true, recurses := true, apart := false }
def BellOnceSaid : Prop := bellOnceRow.holds Try.pinned (OpenSpec.ofChange bellOnceSpec)

/-- ITS FALSE NEIGHBOUR: 'it returns false'. Refute it at one input. -/
def bellOnceWrong : ChangeSpec := { name := "bellOnce", fn := fun _ => fun
  | [d1, d2, d3, d4] => { results := [.lit (.bool false)], args := [d1, d2, d3, d4] }
  | _ => none }
def BellOnceWrongFalsely : Prop := bellOnceRow.holds Try.pinned (OpenSpec.ofChange bellOnceWrong)

/-- 'troupelaw19.VigilMeets': WHATEVER THE INPUT: true; the input reads as it did. -/
def vigilMeetsSpec : ChangeSpec := { name := "vigilMeets", fn := fun _ => fun
  | [d1, d2, d3, d4] => { results := [.lit (.bool true)], args := [d1, d2, d3, d4] }
  | _ => none }
def vigilMeetsRow : OpenClaim := { program := "ytafnlmkhfonghaa", sum := "58ff25153c034bb0d476010d390065589e3a98a56ee0f5bc654c4762a93c3fb5", func := "troupe/troupelaw19.VigilMeets", spec := "vigilMeets", unfollowed := true, recurses := true, apart := false }
def VigilMeetsSaid : Prop := vigilMeetsRow.holds Try.pinned (OpenSpec.ofChange vigilMeetsSpec)

/-- ITS FALSE NEIGHBOUR: 'it returns false'. Refute it at one input. -/
def vigilMeetsWrong : ChangeSpec := { name := "vigilMeets", fn := fun _ => fun
  | [d1, d2, d3, d4] => { results := [.lit (.bool false)], args := [d1, d2, d3, d4] }
  | _ => none }
def VigilMeetsWrongFalsely : Prop := vigilMeetsRow.holds Try.pinned (OpenSpec.ofChange vigilMeetsWrong)

/-- 'troupelaw19.VigilAgain': WHATEVER THE INPUT: true; the input reads as it did. -/
def vigilAgainSpec : ChangeSpec := { name := "vigilAgain", fn := fun _ => fun
  | [d1, d2, d3, d4] => { results := [.lit (.bool true)], args := [d1, d2, d3, d4] }
  | _ => none }
def vigilAgainRow : OpenClaim := { program := "ytafnlmkhfonghaa", sum := "58ff25153c034bb0d476010d390065589e3a98a56ee0f5bc654c4762a93c3fb5", func := "troupe/troupelaw19.VigilAgain", spec := "vigilAgain", unfollowed := true, recurses := true, apart := false }
def VigilAgainSaid : Prop := vigilAgainRow.holds Try.pinned (OpenSpec.ofChange vigilAgainSpec)

/-- ITS FALSE NEIGHBOUR: 'it returns false'. Refute it at one input. -/
def vigilAgainWrong : ChangeSpec := { name := "vigilAgain", fn := fun _ => fun
  | [d1, d2, d3, d4] => { results := [.lit (.bool false)], args := [d1, d2, d3, d4] }
  | _ => none }
def VigilAgainWrongFalsely : Prop := vigilAgainRow.holds Try.pinned (OpenSpec.ofChange vigilAgainWrong)

/-- 'troupelaw06.BellMakes': WHATEVER THE INPUT: true; the input reads as it did. -/
def bellMakesSpec : ChangeSpec := { name := "bellMakes", fn := fun _ => fun
  | [d1, d2, d3] => { results := [.lit (.bool true)], args := [d1, d2, d3] }
  | _ => none }
def bellMakesRow : OpenClaim := { program := "ytafnlmkhfonghaa", sum := "58ff25153c034bb0d476010d390065589e3a98a56ee0f5bc654c4762a93c3fb5", func := "troupe/troupelaw06.BellMakes", spec := "bellMakes", unfollowed := true, recurses := true, apart := false }
def BellMakesSaid : Prop := bellMakesRow.holds Try.pinned (OpenSpec.ofChange bellMakesSpec)

/-- ITS FALSE NEIGHBOUR: 'it returns false'. Refute it at one input. -/
def bellMakesWrong : ChangeSpec := { name := "bellMakes", fn := fun _ => fun
  | [d1, d2, d3] => { results := [.lit (.bool false)], args := [d1, d2, d3] }
  | _ => none }
def BellMakesWrongFalsely : Prop := bellMakesRow.holds Try.pinned (OpenSpec.ofChange bellMakesWrong)

/-- 'troupelaw19.VigilMakes': WHATEVER THE INPUT: true; the input reads as it did. -/
def vigilMakesSpec : ChangeSpec := { name := "vigilMakes", fn := fun _ => fun
  | [d1, d2, d3] => { results := [.lit (.bool true)], args := [d1, d2, d3] }
  | _ => none }
def vigilMakesRow : OpenClaim := { program := "ytafnlmkhfonghaa", sum := "58ff25153c034bb0d476010d390065589e3a98a56ee0f5bc654c4762a93c3fb5", func := "troupe/troupelaw19.VigilMakes", spec := "vigilMakes", unfollowed := true, recurses := true, apart := false }
def VigilMakesSaid : Prop := vigilMakesRow.holds Try.pinned (OpenSpec.ofChange vigilMakesSpec)

/-- ITS FALSE NEIGHBOUR: 'it returns false'. Refute it at one input. -/
def vigilMakesWrong : ChangeSpec := { name := "vigilMakes", fn := fun _ => fun
  | [d1, d2, d3] => { results := [.lit (.bool false)], args := [d1, d2, d3] }
  | _ => none }
def VigilMakesWrongFalsely : Prop := vigilMakesRow.holds Try.pinned (OpenSpec.ofChange vigilMakesWrong)

/-- 'troupelaw06.BellPlays': WHATEVER THE INPUT: true; the input reads as it did. -/
def bellPlaysSpec : ChangeSpec := { name := "bellPlays", fn := fun _ => fun
  | [d1, d2, d3] => { results := [.lit (.bool true)], args := [d1, d2, d3] }
  | _ => none }
def bellPlaysRow : OpenClaim := { program := "ytafnlmkhfonghaa", sum := "58ff25153c034bb0d476010d390065589e3a98a56ee0f5bc654c4762a93c3fb5", func := "troupe/troupelaw06.BellPlays", spec := "bellPlays", unfollowed := true, recurses := true, apart := false }
def BellPlaysSaid : Prop := bellPlaysRow.holds Try.pinned (OpenSpec.ofChange bellPlaysSpec)

/-- ITS FALSE NEIGHBOUR: 'it returns false'. Refute it at one input. -/
def bellPlaysWrong : ChangeSpec := { name := "bellPlays", fn := fun _ => fun
  | [d1, d2, d3] => { results := [.lit (.bool false)], args := [d1, d2, d3] }
  | _ => none }
def BellPlaysWrongFalsely : Prop := bellPlaysRow.holds Try.pinned (OpenSpec.ofChange bellPlaysWrong)

/-- 'troupelaw19.VigilOnce': WHATEVER THE INPUT: true; the input reads as it did. -/
def vigilOnceSpec : ChangeSpec := { name := "vigilOnce", fn := fun _ => fun
  | [d1, d2, d3, d4, d5, d6] => { results := [.lit (.bool true)], args := [d1, d2, d3, d4, d5, d6] }
  | _ => none }
def vigilOnceRow : OpenClaim := { program := "ytafnlmkhfonghaa", sum := "58ff25153c034bb0d476010d390065589e3a98a56ee0f5bc654c4762a93c3fb5", func := "troupe/troupelaw19.VigilOnce", spec := "vigilOnce", unfollowed := true, recurses := true, apart := false }
def VigilOnceSaid : Prop := vigilOnceRow.holds Try.pinned (OpenSpec.ofChange vigilOnceSpec)

/-- ITS FALSE NEIGHBOUR: 'it returns false'. Refute it at one input. -/
def vigilOnceWrong : ChangeSpec := { name := "vigilOnce", fn := fun _ => fun
  | [d1, d2, d3, d4, d5, d6] => { results := [.lit (.bool false)], args := [d1, d2, d3, d4, d5, d6] }
  | _ => none }
def VigilOnceWrongFalsely : Prop := vigilOnceRow.holds Try.pinned (OpenSpec.ofChange vigilOnceWrong)

/-- 'troupelaw19.VigilPlays': WHATEVER THE INPUT: true; the input reads as it did. -/
def vigilPlaysSpec : ChangeSpec := { name := "vigilPlays", fn := fun _ => fun
  | [d1, d2, d3] => { results := [.lit (.bool true)], args := [d1, d2, d3] }
  | _ => none }
def vigilPlaysRow : OpenClaim := { program := "ytafnlmkhfonghaa", sum := "58ff25153c034bb0d476010d390065589e3a98a56ee0f5bc654c4762a93c3fb5", func := "troupe/troupelaw19.VigilPlays", spec := "vigilPlays", unfollowed := true, recurses := true, apart := false }
def VigilPlaysSaid : Prop := vigilPlaysRow.holds Try.pinned (OpenSpec.ofChange vigilPlaysSpec)

/-- ITS FALSE NEIGHBOUR: 'it returns false'. Refute it at one input. -/
def vigilPlaysWrong : ChangeSpec := { name := "vigilPlays", fn := fun _ => fun
  | [d1, d2, d3] => { results := [.lit (.bool false)], args := [d1, d2, d3] }
  | _ => none }
def VigilPlaysWrongFalsely : Prop := vigilPlaysRow.holds Try.pinned (OpenSpec.ofChange vigilPlaysWrong)

/-- 'troupelaw06.BellOthers': WHATEVER THE INPUT: true; the input reads as it did. -/
def bellOthersSpec : ChangeSpec := { name := "bellOthers", fn := fun _ => fun
  | [d1, d2, d3, d4] => { results := [.lit (.bool true)], args := [d1, d2, d3, d4] }
  | _ => none }
def bellOthersRow : OpenClaim := { program := "ytafnlmkhfonghaa", sum := "58ff25153c034bb0d476010d390065589e3a98a56ee0f5bc654c4762a93c3fb5", func := "troupe/troupelaw06.BellOthers", spec := "bellOthers", unfollowed := true, recurses := true, apart := false }
def BellOthersSaid : Prop := bellOthersRow.holds Try.pinned (OpenSpec.ofChange bellOthersSpec)

/-- ITS FALSE NEIGHBOUR: 'it returns false'. Refute it at one input. -/
def bellOthersWrong : ChangeSpec := { name := "bellOthers", fn := fun _ => fun
  | [d1, d2, d3, d4] => { results := [.lit (.bool false)], args := [d1, d2, d3, d4] }
  | _ => none }
def BellOthersWrongFalsely : Prop := bellOthersRow.holds Try.pinned (OpenSpec.ofChange bellOthersWrong)

/- THE SECOND FORM. 'bulk': how many values and letters a reading holds, each counted each time it is reached (what is shared counts as often as it is met; a slice's spare places count too). A statement '..UptoSaid' is the law's where the arguments, and the package variables that the reading takes, are together of bulk at most 1048576: NARROWER than '..Said'. Prove '..Said' where nothing that the law and all that it calls make is longer than what came in: it says more and counts as full. Else prove '..UptoSaid'. A law counts once. -/
mutual
def uptoBulk {H : Type} : DataW H → Nat
  | .lit (.string bytes) => bytes.length + 1
  | .lit _ => 1
  | .nil => 1
  | .ptr d => uptoBulk d + 1
  | .slice elems spare => uptoBulkAll elems + uptoBulkAll spare + 1
  | .agg parts => uptoBulkAll parts + 1
  | .iface _ d => uptoBulk d + 1
  | .map entries => uptoBulkEntries entries + 1
  | .held _ => 1
def uptoBulkAll {H : Type} : List (DataW H) → Nat
  | [] => 0
  | d :: r => uptoBulk d + uptoBulkAll r
def uptoBulkEntries {H : Type} : List (Lit × DataW H) → Nat
  | [] => 0
  | x :: r => uptoBulkEntry x + uptoBulkEntries r
def uptoBulkEntry {H : Type} : Lit × DataW H → Nat
  | (.string bytes, d) => bytes.length + uptoBulk d + 1
  | (_, d) => uptoBulk d + 1
 end
def uptoSmall : (H : Type) → List (DataW H) → Bool := fun _ ds => decide (uptoBulkAll ds ≤ 1048576)
def OpenSpec.upto (s : _root_.Go.ChangeSpec) : _root_.Go.OpenSpec := { _root_.Go.OpenSpec.ofChange s with cond := some uptoSmall }

/-- 'troupelaw06.BellMeets', WHERE WHAT IT READS IS OF BULK AT MOST 1048576: true; the input reads as it did. -/
def bellMeetsUptoRow : OpenClaim := { program := "ytafnlmkhfonghaa", sum := "58ff25153c034bb0d476010d390065589e3a98a56ee0f5bc654c4762a93c3fb5", func := "troupe/troupelaw06.BellMeets", spec := "bellMeets", unfollowed := true, recurses := true, apart := false, narrowed := true }
def BellMeetsUptoSaid : Prop := bellMeetsUptoRow.holds Try.pinned (OpenSpec.upto bellMeetsSpec)

/-- 'troupelaw06.BellOnce', WHERE WHAT IT READS IS OF BULK AT MOST 1048576: true; the input reads as it did. -/
def bellOnceUptoRow : OpenClaim := { program := "ytafnlmkhfonghaa", sum := "58ff25153c034bb0d476010d390065589e3a98a56ee0f5bc654c4762a93c3fb5", func := "troupe/troupelaw06.BellOnce", spec := "bellOnce", unfollowed := true, recurses := true, apart := false, narrowed := true }
def BellOnceUptoSaid : Prop := bellOnceUptoRow.holds Try.pinned (OpenSpec.upto bellOnceSpec)

/-- 'troupelaw19.VigilMeets', WHERE WHAT IT READS IS OF BULK AT MOST 1048576: true; the input reads as it did. -/
def vigilMeetsUptoRow : OpenClaim := { program := "ytafnlmkhfonghaa", sum := "58ff25153c034bb0d476010d390065589e3a98a56ee0f5bc654c4762a93c3fb5", func := "troupe/troupelaw19.VigilMeets", spec := "vigilMeets", unfollowed := true, recurses := true, apart := false, narrowed := true }
def VigilMeetsUptoSaid : Prop := vigilMeetsUptoRow.holds Try.pinned (OpenSpec.upto vigilMeetsSpec)

/-- 'troupelaw19.VigilAgain', WHERE WHAT IT READS IS OF BULK AT MOST 1048576: true; the input reads as it did. -/
def vigilAgainUptoRow : OpenClaim := { program := "ytafnlmkhfonghaa", sum := "58ff25153c034bb0d476010d390065589e3a98a56ee0f5bc654c4762a93c3fb5", func := "troupe/troupelaw19.VigilAgain", spec := "vigilAgain", unfollowed := true, recurses := true, apart := false, narrowed := true }
def VigilAgainUptoSaid : Prop := vigilAgainUptoRow.holds Try.pinned (OpenSpec.upto vigilAgainSpec)

/-- 'troupelaw06.BellMakes', WHERE WHAT IT READS IS OF BULK AT MOST 1048576: true; the input reads as it did. -/
def bellMakesUptoRow : OpenClaim := { program := "ytafnlmkhfonghaa", sum := "58ff25153c034bb0d476010d390065589e3a98a56ee0f5bc654c4762a93c3fb5", func := "troupe/troupelaw06.BellMakes", spec := "bellMakes", unfollowed := true, recurses := true, apart := false, narrowed := true }
def BellMakesUptoSaid : Prop := bellMakesUptoRow.holds Try.pinned (OpenSpec.upto bellMakesSpec)

/-- 'troupelaw19.VigilMakes', WHERE WHAT IT READS IS OF BULK AT MOST 1048576: true; the input reads as it did. -/
def vigilMakesUptoRow : OpenClaim := { program := "ytafnlmkhfonghaa", sum := "58ff25153c034bb0d476010d390065589e3a98a56ee0f5bc654c4762a93c3fb5", func := "troupe/troupelaw19.VigilMakes", spec := "vigilMakes", unfollowed := true, recurses := true, apart := false, narrowed := true }
def VigilMakesUptoSaid : Prop := vigilMakesUptoRow.holds Try.pinned (OpenSpec.upto vigilMakesSpec)

/-- 'troupelaw06.BellPlays', WHERE WHAT IT READS IS OF BULK AT MOST 1048576: true; the input reads as it did. -/
def bellPlaysUptoRow : OpenClaim := { program := "ytafnlmkhfonghaa", sum := "58ff25153c034bb0d476010d390065589e3a98a56ee0f5bc654c4762a93c3fb5", func := "troupe/troupelaw06.BellPlays", spec := "bellPlays", unfollowed := true, recurses := true, apart := false, narrowed := true }
def BellPlaysUptoSaid : Prop := bellPlaysUptoRow.holds Try.pinned (OpenSpec.upto bellPlaysSpec)

/-- 'troupelaw19.VigilOnce', WHERE WHAT IT READS IS OF BULK AT MOST 1048576: true; the input reads as it did. -/
def vigilOnceUptoRow : OpenClaim := { program := "ytafnlmkhfonghaa", sum := "58ff25153c034bb0d476010d390065589e3a98a56ee0f5bc654c4762a93c3fb5", func := "troupe/troupelaw19.VigilOnce", spec := "vigilOnce", unfollowed := true, recurses := true, apart := false, narrowed := true }
def VigilOnceUptoSaid : Prop := vigilOnceUptoRow.holds Try.pinned (OpenSpec.upto vigilOnceSpec)

/-- 'troupelaw19.VigilPlays', WHERE WHAT IT READS IS OF BULK AT MOST 1048576: true; the input reads as it did. -/
def vigilPlaysUptoRow : OpenClaim := { program := "ytafnlmkhfonghaa", sum := "58ff25153c034bb0d476010d390065589e3a98a56ee0f5bc654c4762a93c3fb5", func := "troupe/troupelaw19.VigilPlays", spec := "vigilPlays", unfollowed := true, recurses := true, apart := false, narrowed := true }
def VigilPlaysUptoSaid : Prop := vigilPlaysUptoRow.holds Try.pinned (OpenSpec.upto vigilPlaysSpec)

/-- 'troupelaw06.BellOthers', WHERE WHAT IT READS IS OF BULK AT MOST 1048576: true; the input reads as it did. -/
def bellOthersUptoRow : OpenClaim := { program := "ytafnlmkhfonghaa", sum := "58ff25153c034bb0d476010d390065589e3a98a56ee0f5bc654c4762a93c3fb5", func := "troupe/troupelaw06.BellOthers", spec := "bellOthers", unfollowed := true, recurses := true, apart := false, narrowed := true }
def BellOthersUptoSaid : Prop := bellOthersUptoRow.holds Try.pinned (OpenSpec.upto bellOthersSpec)

end Rows
end Go.Proofs.Ytafnlmkhfonghaa
