/-
  A crew's operation: what it is at, and a step as one function of the cells and of that (plain lists; no program).
-/
import Derived.Test.YtdoaipjdldknaaaKBell3
import Derived.Test.YtdoaipjdldknaaaKGate5
import Derived.Test.YtdoaipjdldknaaaKDeq5
namespace Go.Proofs.Ytdoaipjdldknaaa
open Go.RowKit
set_option linter.unusedVariables false

/-- Where a crew lies. -/
structure CLay where
  base : Nat
  n : Nat
  slots : Nat
  actors : Nat
def CLay.gb (F : CLay) : Nat := F.base + F.n
def CLay.db (F : CLay) (i : Nat) : Nat := F.base + F.n + (2 + 2 * F.actors) + i * (2 + F.slots)
/-- What a Find asks, one behind the other. -/
inductive Src
  | pop (w : Nat)
  | take
  | steal (v : Nat)
/-- A part of a Find. -/
inductive SOp
  | dq (i : Nat) (o : Dop)
  | gt (o : Gop)
def SOp.out : SOp → Int
  | .dq _ o => o.out
  | .gt o => o.out
def SOp.value : SOp → Int
  | .dq _ o => dvalue o.v o.out
  | .gt o => gvalue o.ahead o.v o.out
/-- An operation of a crew. -/
inductive CSt
  | over (out v : Int)
  | ring (b : Bop)
  | put (v : Int) (g : Gop)
  | push (i : Nat) (v : Int) (d : Dop)
  | src (s : SOp) (rest : List Src)
  | sleep (i : Nat) (b : Bop)
  | take (i : Nat) (g : Gop)
  | up (i : Nat) (v : Int) (b : Bop)
  | poll (b : Bop)
def ringB : Bop := ⟨3, 0, 0⟩
def Src.begin_ (F : CLay) : Src → SOp
  | .pop w => .dq w popOp
  | .take => .gt (takeOp F.gb)
  | .steal v => .dq v stealOp
def ctry (F : CLay) : List Src → CSt
  | [] => .over 4 0
  | s :: r => .src (s.begin_ F) r
def sstep (F : CLay) (L : List Int) : SOp → List Int × SOp
  | .dq i o => ((dstep (F.db i) F.slots L o).1, .dq i (dstep (F.db i) F.slots L o).2)
  | .gt o => ((gstep F.gb F.actors L o).1, .gt (gstep F.gb F.actors L o).2)
def cstep (F : CLay) (L : List Int) : CSt → List Int × CSt
  | .over out v => (L, .over out v)
  | .ring b => ((bstep F.base F.n L b).1, if (bstep F.base F.n L b).2.out = 0 then .ring (bstep F.base F.n L b).2 else .over 1 0)
  | .put v g => ((gstep F.gb F.actors L g).1, if (gstep F.gb F.actors L g).2.out = 0 then .put v (gstep F.gb F.actors L g).2 else if (gstep F.gb F.actors L g).2.out = 2 then .put v (putOp F.gb v) else .ring ringB)
  | .push i v d => ((dstep (F.db i) F.slots L d).1, if (dstep (F.db i) F.slots L d).2.out = 0 then .push i v (dstep (F.db i) F.slots L d).2 else if (dstep (F.db i) F.slots L d).2.out = 2 then .put v (putOp F.gb v) else .ring ringB)
  | .src s rest => ((sstep F L s).1, if (sstep F L s).2.out = 0 then .src (sstep F L s).2 rest else if (sstep F L s).2.out = 1 then .over 1 (sstep F L s).2.value else ctry F rest)
  | .sleep i b => ((bstep F.base F.n L b).1, if (bstep F.base F.n L b).2.out = 0 then .sleep i (bstep F.base F.n L b).2 else .take i (takeOp F.gb))
  | .take i g => ((gstep F.gb F.actors L g).1, if (gstep F.gb F.actors L g).2.out = 0 then .take i (gstep F.gb F.actors L g).2 else if (gstep F.gb F.actors L g).2.out = 1 then .up i (gvalue (gstep F.gb F.actors L g).2.ahead (gstep F.gb F.actors L g).2.v 1) ⟨1, i, 0⟩ else .over 4 0)
  | .up i v b => ((bstep F.base F.n L b).1, if (bstep F.base F.n L b).2.out = 0 then .up i v (bstep F.base F.n L b).2 else .over 1 v)
  | .poll b => ((bstep F.base F.n L b).1, if (bstep F.base F.n L b).2.out = 0 then .poll (bstep F.base F.n L b).2 else .over (bstep F.base F.n L b).2.out 0)
def CSt.out : CSt → Int
  | .over out _ => out
  | _ => 0
def CSt.value : CSt → Int
  | .over _ v => v
  | _ => 0
/-- What an operation begins as. -/
def offerC (F : CLay) (w v : Int) : CSt := if 0 ≤ w ∧ w < F.n then .push w.toNat v (pushOp v) else .put v (putOp F.gb v)
def findC (F : CLay) (w : Int) (order : List Nat) : CSt := if 0 ≤ w ∧ w < F.n then .src (.dq w.toNat popOp) (.take :: order.map .steal) else .over 4 0
def restC (F : CLay) (w : Int) : CSt := if 0 ≤ w ∧ w < F.n then .sleep w.toNat ⟨0, w, 0⟩ else .over 4 0
def pollC (F : CLay) (w : Int) : CSt := if 0 ≤ w ∧ w < F.n then .poll ⟨2, w, 0⟩ else .over 4 0
end Go.Proofs.Ytdoaipjdldknaaa
