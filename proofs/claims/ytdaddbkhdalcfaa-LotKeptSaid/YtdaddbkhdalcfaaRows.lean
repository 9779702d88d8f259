/-
  No cell of these rows narrows 'for every input' (looked for: loops, veiled, ifaces, maps, wideKeys, modest, calm, conditions, laid).
  DERIVED. THE GIVEN ROWS OF THIS SEAT. 11 by the template 'for every input the law returns true; each argument reads behind the call as it read before'; 0 by the template 'total and deterministic' (their statements: YtdaddbkhdalcfaaTotals.lean).
  GIVEN WITH THE SEED: the statements are not yours to turn. If you find one false, say at which input.
  Laid BY PROGRAM, IN A SANDBOX (cutbox-rows.mjs): the forced cells as the released guide's own fill.sh prints them over the translation b0e7c54e0c6a8f43… (all of the seat's roots in one cut). By AI agents, Wed Nov 11 2026. No macro, syntax, notation, axiom, sorry.
-/
import Derived.Test.YtdaddbkhdalcfaaChecked
import GoSem.Claim
import GoSem.ClaimJoined
import GoSem.ClaimMapViews
import Derived.JoinedTies
import Derived.KernelRfl
namespace Go.Proofs.Ytdaddbkhdalcfaa
/- THE CELL 'sum', in the pinned program and in every row, IS THE sha256 OF THE DUMP (.gsa) THAT YtdaddbkhdalcfaaProg.lean LOADS. Nothing in Lean hashes anything: it is a label: what it is worth is what the hold of that sum in a sandbox is worth. -/
noncomputable def Try.pinned : Pinned := { name := "ytdaddbkhdalcfaa", sum := "b0e7c54e0c6a8f4359defaf80b818d4a0f69cddca8c78cbd4ca7e17819dac029", checked := Try.checked }
namespace Rows
def none {H : Type} : Left H := { results := [], args := [] }

/-- 'troupelaw01.CellsRace': WHATEVER THE INPUT: true; the input reads as it did. -/
def cellsRaceSpec : ChangeSpec := { name := "cellsRace", fn := fun _ => fun
  | [d1, d2] => { results := [.lit (.bool true)], args := [d1, d2] }
  | _ => none }
def cellsRaceRow : OpenClaim := { program := "ytdaddbkhdalcfaa", sum := "b0e7c54e0c6a8f4359defaf80b818d4a0f69cddca8c78cbd4ca7e17819dac029", func := "troupe/troupelaw01.CellsRace", spec := "cellsRace", apart := false }
def CellsRaceSaid : Prop := cellsRaceRow.holds Try.pinned (OpenSpec.ofChange cellsRaceSpec)

/-- ITS FALSE NEIGHBOUR: 'it returns false'. Refute it at one input. -/
def cellsRaceWrong : ChangeSpec := { name := "cellsRace", fn := fun _ => fun
  | [d1, d2] => { results := [.lit (.bool false)], args := [d1, d2] }
  | _ => none }
def CellsRaceWrongFalsely : Prop := cellsRaceRow.holds Try.pinned (OpenSpec.ofChange cellsRaceWrong)

/-- 'troupelaw01.CellsSums': WHATEVER THE INPUT: true; the input reads as it did. -/
def cellsSumsSpec : ChangeSpec := { name := "cellsSums", fn := fun _ => fun
  | [d1, d2] => { results := [.lit (.bool true)], args := [d1, d2] }
  | _ => none }
def cellsSumsRow : OpenClaim := { program := "ytdaddbkhdalcfaa", sum := "b0e7c54e0c6a8f4359defaf80b818d4a0f69cddca8c78cbd4ca7e17819dac029", func := "troupe/troupelaw01.CellsSums", spec := "cellsSums", apart := false }
def CellsSumsSaid : Prop := cellsSumsRow.holds Try.pinned (OpenSpec.ofChange cellsSumsSpec)

/-- ITS FALSE NEIGHBOUR: 'it returns false'. Refute it at one input. -/
def cellsSumsWrong : ChangeSpec := { name := "cellsSums", fn := fun _ => fun
  | [d1, d2] => { results := [.lit (.bool false)], args := [d1, d2] }
  | _ => none }
def CellsSumsWrongFalsely : Prop := cellsSumsRow.holds Try.pinned (OpenSpec.ofChange cellsSumsWrong)

/-- 'troupelaw01.CellsPlays': WHATEVER THE INPUT: true; the input reads as it did. -/
def cellsPlaysSpec : ChangeSpec := { name := "cellsPlays", fn := fun _ => fun
  | [d1, d2] => { results := [.lit (.bool true)], args := [d1, d2] }
  | _ => none }
def cellsPlaysRow : OpenClaim := { program := "ytdaddbkhdalcfaa", sum := "b0e7c54e0c6a8f4359defaf80b818d4a0f69cddca8c78cbd4ca7e17819dac029", func := "troupe/troupelaw01.CellsPlays", spec := "cellsPlays", apart := false }
def CellsPlaysSaid : Prop := cellsPlaysRow.holds Try.pinned (OpenSpec.ofChange cellsPlaysSpec)

/-- ITS FALSE NEIGHBOUR: 'it returns false'. Refute it at one input. -/
def cellsPlaysWrong : ChangeSpec := { name := "cellsPlays", fn := fun _ => fun
  | [d1, d2] => { results := [.lit (.bool false)], args := [d1, d2] }
  | _ => none }
def CellsPlaysWrongFalsely : Prop := cellsPlaysRow.holds Try.pinned (OpenSpec.ofChange cellsPlaysWrong)

/-- 'troupelaw01.CellsSizes': WHATEVER THE INPUT: true; the input reads as it did. -/
def cellsSizesSpec : ChangeSpec := { name := "cellsSizes", fn := fun _ => fun
  | [d] => { results := [.lit (.bool true)], args := [d] }
  | _ => none }
def cellsSizesRow : OpenClaim := { program := "ytdaddbkhdalcfaa", sum := "b0e7c54e0c6a8f4359defaf80b818d4a0f69cddca8c78cbd4ca7e17819dac029", func := "troupe/troupelaw01.CellsSizes", spec := "cellsSizes", apart := false }
def CellsSizesSaid : Prop := cellsSizesRow.holds Try.pinned (OpenSpec.ofChange cellsSizesSpec)

/-- ITS FALSE NEIGHBOUR: 'it returns false'. Refute it at one input. -/
def cellsSizesWrong : ChangeSpec := { name := "cellsSizes", fn := fun _ => fun
  | [d] => { results := [.lit (.bool false)], args := [d] }
  | _ => none }
def CellsSizesWrongFalsely : Prop := cellsSizesRow.holds Try.pinned (OpenSpec.ofChange cellsSizesWrong)

/-- 'troupelaw01.CellsApart': WHATEVER THE INPUT: true; the input reads as it did. -/
def cellsApartSpec : ChangeSpec := { name := "cellsApart", fn := fun _ => fun
  | [d1, d2] => { results := [.lit (.bool true)], args := [d1, d2] }
  | _ => none }
def cellsApartRow : OpenClaim := { program := "ytdaddbkhdalcfaa", sum := "b0e7c54e0c6a8f4359defaf80b818d4a0f69cddca8c78cbd4ca7e17819dac029", func := "troupe/troupelaw01.CellsApart", spec := "cellsApart", apart := false }
def CellsApartSaid : Prop := cellsApartRow.holds Try.pinned (OpenSpec.ofChange cellsApartSpec)

/-- ITS FALSE NEIGHBOUR: 'it returns false'. Refute it at one input. -/
def cellsApartWrong : ChangeSpec := { name := "cellsApart", fn := fun _ => fun
  | [d1, d2] => { results := [.lit (.bool false)], args := [d1, d2] }
  | _ => none }
def CellsApartWrongFalsely : Prop := cellsApartRow.holds Try.pinned (OpenSpec.ofChange cellsApartWrong)

/-- 'troupelaw01.CellsKept': WHATEVER THE INPUT: true; the input reads as it did. -/
def cellsKeptSpec : ChangeSpec := { name := "cellsKept", fn := fun _ => fun
  | [d] => { results := [.lit (.bool true)], args := [d] }
  | _ => none }
def cellsKeptRow : OpenClaim := { program := "ytdaddbkhdalcfaa", sum := "b0e7c54e0c6a8f4359defaf80b818d4a0f69cddca8c78cbd4ca7e17819dac029", func := "troupe/troupelaw01.CellsKept", spec := "cellsKept", apart := false }
def CellsKeptSaid : Prop := cellsKeptRow.holds Try.pinned (OpenSpec.ofChange cellsKeptSpec)

/-- ITS FALSE NEIGHBOUR: 'it returns false'. Refute it at one input. -/
def cellsKeptWrong : ChangeSpec := { name := "cellsKept", fn := fun _ => fun
  | [d] => { results := [.lit (.bool false)], args := [d] }
  | _ => none }
def CellsKeptWrongFalsely : Prop := cellsKeptRow.holds Try.pinned (OpenSpec.ofChange cellsKeptWrong)

/-- 'troupelaw07.LotOrders': WHATEVER THE INPUT: true; the input reads as it did. -/
def lotOrdersSpec : ChangeSpec := { name := "lotOrders", fn := fun _ => fun
  | [d1, d2, d3] => { results := [.lit (.bool true)], args := [d1, d2, d3] }
  | _ => none }
def lotOrdersRow : OpenClaim := { program := "ytdaddbkhdalcfaa", sum := "b0e7c54e0c6a8f4359defaf80b818d4a0f69cddca8c78cbd4ca7e17819dac029", func := "troupe/troupelaw07.LotOrders", spec := "lotOrders", apart := false }
def LotOrdersSaid : Prop := lotOrdersRow.holds Try.pinned (OpenSpec.ofChange lotOrdersSpec)

/-- ITS FALSE NEIGHBOUR: 'it returns false'. Refute it at one input. -/
def lotOrdersWrong : ChangeSpec := { name := "lotOrders", fn := fun _ => fun
  | [d1, d2, d3] => { results := [.lit (.bool false)], args := [d1, d2, d3] }
  | _ => none }
def LotOrdersWrongFalsely : Prop := lotOrdersRow.holds Try.pinned (OpenSpec.ofChange lotOrdersWrong)

/-- 'troupelaw07.LotAll': WHATEVER THE INPUT: true; the input reads as it did. -/
def lotAllSpec : ChangeSpec := { name := "lotAll", fn := fun _ => fun
  | [d1, d2, d3] => { results := [.lit (.bool true)], args := [d1, d2, d3] }
  | _ => none }
def lotAllRow : OpenClaim := { program := "ytdaddbkhdalcfaa", sum := "b0e7c54e0c6a8f4359defaf80b818d4a0f69cddca8c78cbd4ca7e17819dac029", func := "troupe/troupelaw07.LotAll", spec := "lotAll", apart := false }
def LotAllSaid : Prop := lotAllRow.holds Try.pinned (OpenSpec.ofChange lotAllSpec)

/-- ITS FALSE NEIGHBOUR: 'it returns false'. Refute it at one input. -/
def lotAllWrong : ChangeSpec := { name := "lotAll", fn := fun _ => fun
  | [d1, d2, d3] => { results := [.lit (.bool false)], args := [d1, d2, d3] }
  | _ => none }
def LotAllWrongFalsely : Prop := lotAllRow.holds Try.pinned (OpenSpec.ofChange lotAllWrong)

/-- 'troupelaw07.LotBack': WHATEVER THE INPUT: true; the input reads as it did. -/
def lotBackSpec : ChangeSpec := { name := "lotBack", fn := fun _ => fun
  | [d1, d2, d3] => { results := [.lit (.bool true)], args := [d1, d2, d3] }
  | _ => none }
def lotBackRow : OpenClaim := { program := "ytdaddbkhdalcfaa", sum := "b0e7c54e0c6a8f4359defaf80b818d4a0f69cddca8c78cbd4ca7e17819dac029", func := "troupe/troupelaw07.LotBack", spec := "lotBack", apart := false }
def LotBackSaid : Prop := lotBackRow.holds Try.pinned (OpenSpec.ofChange lotBackSpec)

/-- ITS FALSE NEIGHBOUR: 'it returns false'. Refute it at one input. -/
def lotBackWrong : ChangeSpec := { name := "lotBack", fn := fun _ => fun
  | [d1, d2, d3] => { results := [.lit (.bool false)], args := [d1, d2, d3] }
  | _ => none }
def LotBackWrongFalsely : Prop := lotBackRow.holds Try.pinned (OpenSpec.ofChange lotBackWrong)

/-- 'troupelaw07.LotFirst': WHATEVER THE INPUT: true; the input reads as it did. -/
def lotFirstSpec : ChangeSpec := { name := "lotFirst", fn := fun _ => fun
  | [d1, d2] => { results := [.lit (.bool true)], args := [d1, d2] }
  | _ => none }
def lotFirstRow : OpenClaim := { program := "ytdaddbkhdalcfaa", sum := "b0e7c54e0c6a8f4359defaf80b818d4a0f69cddca8c78cbd4ca7e17819dac029", func := "troupe/troupelaw07.LotFirst", spec := "lotFirst", apart := false }
def LotFirstSaid : Prop := lotFirstRow.holds Try.pinned (OpenSpec.ofChange lotFirstSpec)

/-- ITS FALSE NEIGHBOUR: 'it returns false'. Refute it at one input. -/
def lotFirstWrong : ChangeSpec := { name := "lotFirst", fn := fun _ => fun
  | [d1, d2] => { results := [.lit (.bool false)], args := [d1, d2] }
  | _ => none }
def LotFirstWrongFalsely : Prop := lotFirstRow.holds Try.pinned (OpenSpec.ofChange lotFirstWrong)

/-- 'troupelaw07.LotKept': WHATEVER THE INPUT: true; the input reads as it did. -/
def lotKeptSpec : ChangeSpec := { name := "lotKept", fn := fun _ => fun
  | [d1, d2, d3] => { results := [.lit (.bool true)], args := [d1, d2, d3] }
  | _ => none }
def lotKeptRow : OpenClaim := { program := "ytdaddbkhdalcfaa", sum := "b0e7c54e0c6a8f4359defaf80b818d4a0f69cddca8c78cbd4ca7e17819dac029", func := "troupe/troupelaw07.LotKept", spec := "lotKept", apart := false }
def LotKeptSaid : Prop := lotKeptRow.holds Try.pinned (OpenSpec.ofChange lotKeptSpec)

/-- ITS FALSE NEIGHBOUR: 'it returns false'. Refute it at one input. -/
def lotKeptWrong : ChangeSpec := { name := "lotKept", fn := fun _ => fun
  | [d1, d2, d3] => { results := [.lit (.bool false)], args := [d1, d2, d3] }
  | _ => none }
def LotKeptWrongFalsely : Prop := lotKeptRow.holds Try.pinned (OpenSpec.ofChange lotKeptWrong)

/- THE SECOND FORM. 'bulk': how many values and letters a reading holds, each counted each time it is reached (what is shared counts as often as it is met; a slice's spare places count too). A statement '..UptoSaid' is the law's where the arguments, and the package variables that the reading takes, are together of bulk at most 1048576: NARROWER than '..Said'. Prove '..Said' where nothing that the law and all that it calls make is longer than what came in: it says more and counts as full. Else prove '..UptoSaid'. A law counts once. -/
mutual
def uptoBulk {H : Type} : DataW H → Nat
  | .lit (.string bytes) => bytes.length + 1
  | .lit _ => 1
  | .nil => 1
  | .ptr d => uptoBulk d + 1
  | .slice elems spare => uptoBulkAll elems + uptoBulkAll spare + 1
  | .agg parts => uptoBulkAll parts + 1
  | .iface _ d => uptoBulk d + 1
  | .map entries => uptoBulkEntries entries + 1
  | .held _ => 1
def uptoBulkAll {H : Type} : List (DataW H) → Nat
  | [] => 0
  | d :: r => uptoBulk d + uptoBulkAll r
def uptoBulkEntries {H : Type} : List (Lit × DataW H) → Nat
  | [] => 0
  | x :: r => uptoBulkEntry x + uptoBulkEntries r
def uptoBulkEntry {H : Type} : Lit × DataW H → Nat
  | (.string bytes, d) => bytes.length + uptoBulk d + 1
  | (_, d) => uptoBulk d + 1
 end
def uptoSmall : (H : Type) → List (DataW H) → Bool := fun _ ds => decide (uptoBulkAll ds ≤ 1048576)
def OpenSpec.upto (s : _root_.Go.ChangeSpec) : _root_.Go.OpenSpec := { _root_.Go.OpenSpec.ofChange s with cond := some uptoSmall }

/-- 'troupelaw01.CellsRace', WHERE WHAT IT READS IS OF BULK AT MOST 1048576: true; the input reads as it did. -/
def cellsRaceUptoRow : OpenClaim := { program := "ytdaddbkhdalcfaa", sum := "b0e7c54e0c6a8f4359defaf80b818d4a0f69cddca8c78cbd4ca7e17819dac029", func := "troupe/troupelaw01.CellsRace", spec := "cellsRace", apart := false, narrowed := true }
def CellsRaceUptoSaid : Prop := cellsRaceUptoRow.holds Try.pinned (OpenSpec.upto cellsRaceSpec)

/-- 'troupelaw01.CellsSums', WHERE WHAT IT READS IS OF BULK AT MOST 1048576: true; the input reads as it did. -/
def cellsSumsUptoRow : OpenClaim := { program := "ytdaddbkhdalcfaa", sum := "b0e7c54e0c6a8f4359defaf80b818d4a0f69cddca8c78cbd4ca7e17819dac029", func := "troupe/troupelaw01.CellsSums", spec := "cellsSums", apart := false, narrowed := true }
def CellsSumsUptoSaid : Prop := cellsSumsUptoRow.holds Try.pinned (OpenSpec.upto cellsSumsSpec)

/-- 'troupelaw01.CellsPlays', WHERE WHAT IT READS IS OF BULK AT MOST 1048576: true; the input reads as it did. -/
def cellsPlaysUptoRow : OpenClaim := { program := "ytdaddbkhdalcfaa", sum := "b0e7c54e0c6a8f4359defaf80b818d4a0f69cddca8c78cbd4ca7e17819dac029", func := "troupe/troupelaw01.CellsPlays", spec := "cellsPlays", apart := false, narrowed := true }
def CellsPlaysUptoSaid : Prop := cellsPlaysUptoRow.holds Try.pinned (OpenSpec.upto cellsPlaysSpec)

/-- 'troupelaw01.CellsSizes', WHERE WHAT IT READS IS OF BULK AT MOST 1048576: true; the input reads as it did. -/
def cellsSizesUptoRow : OpenClaim := { program := "ytdaddbkhdalcfaa", sum := "b0e7c54e0c6a8f4359defaf80b818d4a0f69cddca8c78cbd4ca7e17819dac029", func := "troupe/troupelaw01.CellsSizes", spec := "cellsSizes", apart := false, narrowed := true }
def CellsSizesUptoSaid : Prop := cellsSizesUptoRow.holds Try.pinned (OpenSpec.upto cellsSizesSpec)

/-- 'troupelaw01.CellsApart', WHERE WHAT IT READS IS OF BULK AT MOST 1048576: true; the input reads as it did. -/
def cellsApartUptoRow : OpenClaim := { program := "ytdaddbkhdalcfaa", sum := "b0e7c54e0c6a8f4359defaf80b818d4a0f69cddca8c78cbd4ca7e17819dac029", func := "troupe/troupelaw01.CellsApart", spec := "cellsApart", apart := false, narrowed := true }
def CellsApartUptoSaid : Prop := cellsApartUptoRow.holds Try.pinned (OpenSpec.upto cellsApartSpec)

/-- 'troupelaw01.CellsKept', WHERE WHAT IT READS IS OF BULK AT MOST 1048576: true; the input reads as it did. -/
def cellsKeptUptoRow : OpenClaim := { program := "ytdaddbkhdalcfaa", sum := "b0e7c54e0c6a8f4359defaf80b818d4a0f69cddca8c78cbd4ca7e17819dac029", func := "troupe/troupelaw01.CellsKept", spec := "cellsKept", apart := false, narrowed := true }
def CellsKeptUptoSaid : Prop := cellsKeptUptoRow.holds Try.pinned (OpenSpec.upto cellsKeptSpec)

/-- 'troupelaw07.LotOrders', WHERE WHAT IT READS IS OF BULK AT MOST 1048576: true; the input reads as it did. -/
def lotOrdersUptoRow : OpenClaim := { program := "ytdaddbkhdalcfaa", sum := "b0e7c54e0c6a8f4359defaf80b818d4a0f69cddca8c78cbd4ca7e17819dac029", func := "troupe/troupelaw07.LotOrders", spec := "lotOrders", apart := false, narrowed := true }
def LotOrdersUptoSaid : Prop := lotOrdersUptoRow.holds Try.pinned (OpenSpec.upto lotOrdersSpec)

/-- 'troupelaw07.LotAll', WHERE WHAT IT READS IS OF BULK AT MOST 1048576: true; the input reads as it did. -/
def lotAllUptoRow : OpenClaim := { program := "ytdaddbkhdalcfaa", sum := "b0e7c54e0c6a8f4359defaf80b818d4a0f69cddca8c78cbd4ca7e17819dac029", func := "troupe/troupelaw07.LotAll", spec := "lotAll", apart := false, narrowed := true }
def LotAllUptoSaid : Prop := lotAllUptoRow.holds Try.pinned (OpenSpec.upto lotAllSpec)

/-- 'troupelaw07.LotBack', WHERE WHAT IT READS IS OF BULK AT MOST 1048576: true; the input reads as it did. -/
def lotBackUptoRow : OpenClaim := { program := "ytdaddbkhdalcfaa", sum := "b0e7c54e0c6a8f4359defaf80b818d4a0f69cddca8c78cbd4ca7e17819dac029", func := "troupe/troupelaw07.LotBack", spec := "lotBack", apart := false, narrowed := true }
def LotBackUptoSaid : Prop := lotBackUptoRow.holds Try.pinned (OpenSpec.upto lotBackSpec)

/-- 'troupelaw07.LotFirst', WHERE WHAT IT READS IS OF BULK AT MOST 1048576: true; the input reads as it did. -/
def lotFirstUptoRow : OpenClaim := { program := "ytdaddbkhdalcfaa", sum := "b0e7c54e0c6a8f4359defaf80b818d4a0f69cddca8c78cbd4ca7e17819dac029", func := "troupe/troupelaw07.LotFirst", spec := "lotFirst", apart := false, narrowed := true }
def LotFirstUptoSaid : Prop := lotFirstUptoRow.holds Try.pinned (OpenSpec.upto lotFirstSpec)

/-- 'troupelaw07.LotKept', WHERE WHAT IT READS IS OF BULK AT MOST 1048576: true; the input reads as it did. -/
def lotKeptUptoRow : OpenClaim := { program := "ytdaddbkhdalcfaa", sum := "b0e7c54e0c6a8f4359defaf80b818d4a0f69cddca8c78cbd4ca7e17819dac029", func := "troupe/troupelaw07.LotKept", spec := "lotKept", apart := false, narrowed := true }
def LotKeptUptoSaid : Prop := lotKeptUptoRow.holds Try.pinned (OpenSpec.upto lotKeptSpec)

end Rows
end Go.Proofs.Ytdaddbkhdalcfaa
