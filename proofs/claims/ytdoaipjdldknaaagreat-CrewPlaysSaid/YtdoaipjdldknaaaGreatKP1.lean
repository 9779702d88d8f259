/-
  Operations of a crew beside tables: what an operation owns lies in the heap; what is written of tables is none of its own.
-/
import Derived.Test.YtdoaipjdldknaaaGreatKRepl
namespace Go.Proofs.YtdoaipjdldknaaaGreat
open Go.RowKit
set_option linter.unusedVariables false
/-- The tables of the laws that play: their blocks are none of an operation's. -/
def Tab (t : TypeId) (cs : Array Value) : Prop := t = 59 ∨ t = 40 ∨ ((t = 50 ∨ t = 29) ∧ cs.size ≠ 1)
def Tabs (w : World) (S : Nat → Prop) : Prop := ∀ k, S k → ∃ t cs, Blk w k t cs ∧ Tab t cs
theorem Tabs.not_ {w : World} {S : Nat → Prop} (h : Tabs w S) {x : Nat} {t : TypeId} {cs : Array Value} (hx : Blk w x t cs) (hn : ¬ Tab t cs) : ¬ S x := by
  intro hs
  obtain ⟨t', cs', hb, ht⟩ := h x hs
  have hx' : w.heap[x]? = _ := hx
  have hb' : w.heap[x]? = _ := hb
  rw [hx'] at hb'
  injection hb' with e
  injection e with e1 e2
  subst e1 e2
  exact hn ht
section
variable {w w' : World} {cb bb bg bm bc co : Nat} {bd : Nat → Nat} {O O' S : Nat → Prop} {st : CSt}
theorem CIs.tab (h : CIs w cb bb bg bc bd O co st) (ho : Only S w w') (hT : Tabs w S) : CIs w' cb bb bg bc bd O co st := by
  have nO : ∀ {x : Nat}, OBox w x co → ¬ S x := fun hx => hT.not_ hx (by rintro (h | h | ⟨h | h, h2⟩) <;> first | exact absurd h (by decide) | exact h2 rfl)
  have nG : ∀ {x b : Nat}, GBox w x b → ¬ S x := fun hx => hT.not_ hx (by rintro (h | h | ⟨h | h, h2⟩) <;> first | exact absurd h (by decide) | exact h2 rfl)
  have nD : ∀ {x b : Nat}, DBox w x b → ¬ S x := fun hx => hT.not_ hx (by rintro (h | h | ⟨h | h, h2⟩) <;> first | exact absurd h (by decide) | exact h2 rfl)
  have nB : ∀ {x b : Nat}, BBox w x b → ¬ S x := fun hx => hT.not_ hx (by rintro (h | h | ⟨h | h, h2⟩) <;> first | exact absurd h (by decide) | exact h2 rfl)
  have nC : ∀ {x b : Nat}, CBox w x b → ¬ S x := fun hx => hT.not_ hx (by rintro (h | h | ⟨h | h, h2⟩) <;> first | exact absurd h (by decide) | exact h2 rfl)
  have nW : ∀ {x : Nat} {v : Int}, WBox w x v → ¬ S x := fun hx => hT.not_ hx (by rintro (h | h | ⟨h | h, h2⟩) <;> first | exact absurd h (by decide) | exact h2 rfl)
  have nV : ∀ {x : Nat} {v : Int}, VBox w x v → x ≠ bc → ¬ S x := fun hx _ => hT.not_ hx (by rintro (h | h | ⟨h | h, h2⟩) <;> first | exact absurd h (by decide) | exact h2 rfl)
  have nI : ∀ {x p : Nat} {t : TypeId}, IBox w x t p → ¬ S x := fun hx => hT.not_ hx (by rintro (h | h | ⟨h | h, h2⟩) <;> first | exact absurd h (by decide) | exact h2 rfl)
  have nQ : ∀ {x : Nat} {sv : Value}, QBox w x sv → ¬ S x := fun hx => hT.not_ hx (by rintro (h | h | ⟨h | h, h2⟩) <;> first | exact absurd h (by decide) | exact h2 rfl)
  have nF : ∀ (g : Nat) (cs : Array Value), Blk w g 112 cs → ¬ S g := fun g cs hx => hT.not_ hx (by rintro (h | h | ⟨h | h, h2⟩) <;> first | exact absurd h (by decide) | exact h2 rfl)
  cases st with
  | over out v => obtain ⟨c, t, h1, h2⟩ := h; exact ⟨c, t, h1.only ho (hT.not_ h1 (by rintro (h | h | ⟨h | h, h2⟩) <;> first | exact absurd h (by decide) | exact h2 rfl)), h2⟩
  | ring b => obtain ⟨p, x, h1, h2, h3, h4, h5⟩ := h; exact ⟨p, x, h1.only ho (hT.not_ h1 (by rintro (h | h | ⟨h | h, h2⟩) <;> first | exact absurd h (by decide) | exact h2 rfl)), h2.only ho (hT.not_ h2 (by rintro (h | h | ⟨h | h, h2⟩) <;> first | exact absurd h (by decide) | exact h2 rfl)), h3.only ho (nO h3), h4, h5⟩
  | put v g => obtain ⟨p, xp, xo, xv, h1, h2, h3, h4, h5, h6, h7, h8⟩ := h; exact ⟨p, xp, xo, xv, h1.only ho (hT.not_ h1 (by rintro (h | h | ⟨h | h, h2⟩) <;> first | exact absurd h (by decide) | exact h2 rfl)), GopAt.only h2 ho (hT.not_ h2 (by rintro (h | h | ⟨h | h, h2⟩) <;> first | exact absurd h (by decide) | exact h2 rfl)), h3.only ho (nG h3), h4.only ho (nO h4), h5.only ho (nV h5 h8), h6, h7, h8⟩
  | push i v d => obtain ⟨p, xp, xo, xv, h1, h2, h3, h4, h5, h6, h7, h8⟩ := h; exact ⟨p, xp, xo, xv, h1.only ho (hT.not_ h1 (by rintro (h | h | ⟨h | h, h2⟩) <;> first | exact absurd h (by decide) | exact h2 rfl)), DopAt.only h2 ho (hT.not_ h2 (by rintro (h | h | ⟨h | h, h2⟩) <;> first | exact absurd h (by decide) | exact h2 rfl)), h3.only ho (nD h3), h4.only ho (nO h4), h5.only ho (nV h5 h8), h6, h7, h8⟩
  | src s rest =>
    cases s with
    | dq i d => obtain ⟨p, xs, xo, xq, sv, s0, h1, h2, h3, h4, h5, h6, h7, h8⟩ := h; exact ⟨p, xs, xo, xq, sv, s0, h1.only ho (hT.not_ h1 (by rintro (h | h | ⟨h | h, h2⟩) <;> first | exact absurd h (by decide) | exact h2 rfl)), DopAt.only h2 ho (hT.not_ h2 (by rintro (h | h | ⟨h | h, h2⟩) <;> first | exact absurd h (by decide) | exact h2 rfl)), h3.only ho (nI h3), h4.only ho (nO h4), h5.only ho (nQ h5), h6.only ho (fun x hx => nC hx) (fun x m hx => nW hx) nF, h7, h8⟩
    | gt g => obtain ⟨p, xs, xo, xq, sv, s0, h1, h2, h3, h4, h5, h6, h7, h8⟩ := h; exact ⟨p, xs, xo, xq, sv, s0, h1.only ho (hT.not_ h1 (by rintro (h | h | ⟨h | h, h2⟩) <;> first | exact absurd h (by decide) | exact h2 rfl)), GopAt.only h2 ho (hT.not_ h2 (by rintro (h | h | ⟨h | h, h2⟩) <;> first | exact absurd h (by decide) | exact h2 rfl)), h3.only ho (nI h3), h4.only ho (nO h4), h5.only ho (nQ h5), h6.only ho (fun x hx => nC hx) (fun x m hx => nW hx) nF, h7, h8⟩
  | sleep i b => obtain ⟨p, xc, xo, xw, h1, h2, h3, h4, h5, h6, h7⟩ := h; exact ⟨p, xc, xo, xw, h1.only ho (hT.not_ h1 (by rintro (h | h | ⟨h | h, h2⟩) <;> first | exact absurd h (by decide) | exact h2 rfl)), h2.only ho (hT.not_ h2 (by rintro (h | h | ⟨h | h, h2⟩) <;> first | exact absurd h (by decide) | exact h2 rfl)), h3.only ho (nC h3), h4.only ho (nO h4), h5.only ho (nW h5), h6, h7⟩
  | take i g => obtain ⟨p, xt, xo, xc, xw, h1, h2, h3, h4, h5, h6, h7, h8⟩ := h; exact ⟨p, xt, xo, xc, xw, h1.only ho (hT.not_ h1 (by rintro (h | h | ⟨h | h, h2⟩) <;> first | exact absurd h (by decide) | exact h2 rfl)), GopAt.only h2 ho (hT.not_ h2 (by rintro (h | h | ⟨h | h, h2⟩) <;> first | exact absurd h (by decide) | exact h2 rfl)), h3.only ho (nG h3), h4.only ho (nO h4), h5.only ho (nC h5), h6.only ho (nW h6), h7, h8⟩
  | up i v b => obtain ⟨p, xo, xt, gp, g, h1, h2, h3, h4, h5, h6, h7, h8, h9⟩ := h; exact ⟨p, xo, xt, gp, g, h1.only ho (hT.not_ h1 (by rintro (h | h | ⟨h | h, h2⟩) <;> first | exact absurd h (by decide) | exact h2 rfl)), h2.only ho (hT.not_ h2 (by rintro (h | h | ⟨h | h, h2⟩) <;> first | exact absurd h (by decide) | exact h2 rfl)), h3.only ho (nO h3), h4.only ho (nG h4), GopAt.only h5 ho (hT.not_ h5 (by rintro (h | h | ⟨h | h, h2⟩) <;> first | exact absurd h (by decide) | exact h2 rfl)), h6, h7, h8, h9⟩
  | poll b => obtain ⟨p, xo, xb, h1, h2, h3, h4, h5, h6⟩ := h; exact ⟨p, xo, xb, h1.only ho (hT.not_ h1 (by rintro (h | h | ⟨h | h, h2⟩) <;> first | exact absurd h (by decide) | exact h2 rfl)), h2.only ho (hT.not_ h2 (by rintro (h | h | ⟨h | h, h2⟩) <;> first | exact absurd h (by decide) | exact h2 rfl)), h3.only ho (nO h3), h4.only ho (nB h4), h5, h6⟩
theorem CIs.inside (h : CIs w cb bb bg bc bd O co st) : CIs w cb bb bg bc bd (fun k => O k ∧ k < w.heap.size) co st := by
  cases st with
  | over out v => obtain ⟨c, t, h1, h2⟩ := h; exact ⟨c, t, h1, ⟨h2, Blk.lt h1⟩⟩
  | ring b => obtain ⟨p, x, h1, h2, h3, h4, h5⟩ := h; exact ⟨p, x, h1, h2, h3, ⟨h4, Blk.lt h1⟩, ⟨h5, Blk.lt h2⟩⟩
  | put v g => obtain ⟨p, xp, xo, xv, h1, h2, h3, h4, h5, h6, h7, h8⟩ := h; exact ⟨p, xp, xo, xv, h1, h2, h3, h4, h5, ⟨h6, Blk.lt h1⟩, ⟨h7, Blk.lt h2⟩, h8⟩
  | push i v d => obtain ⟨p, xp, xo, xv, h1, h2, h3, h4, h5, h6, h7, h8⟩ := h; exact ⟨p, xp, xo, xv, h1, h2, h3, h4, h5, ⟨h6, Blk.lt h1⟩, ⟨h7, Blk.lt h2⟩, h8⟩
  | src s rest =>
    cases s with
    | dq i d => obtain ⟨p, xs, xo, xq, sv, s0, h1, h2, h3, h4, h5, h6, h7, h8⟩ := h; exact ⟨p, xs, xo, xq, sv, s0, h1, h2, h3, h4, h5, h6, ⟨h7, Blk.lt h1⟩, ⟨h8, Blk.lt h2⟩⟩
    | gt g => obtain ⟨p, xs, xo, xq, sv, s0, h1, h2, h3, h4, h5, h6, h7, h8⟩ := h; exact ⟨p, xs, xo, xq, sv, s0, h1, h2, h3, h4, h5, h6, ⟨h7, Blk.lt h1⟩, ⟨h8, Blk.lt h2⟩⟩
  | sleep i b => obtain ⟨p, xc, xo, xw, h1, h2, h3, h4, h5, h6, h7⟩ := h; exact ⟨p, xc, xo, xw, h1, h2, h3, h4, h5, ⟨h6, Blk.lt h1⟩, ⟨h7, Blk.lt h2⟩⟩
  | take i g => obtain ⟨p, xt, xo, xc, xw, h1, h2, h3, h4, h5, h6, h7, h8⟩ := h; exact ⟨p, xt, xo, xc, xw, h1, h2, h3, h4, h5, h6, ⟨h7, Blk.lt h1⟩, ⟨h8, Blk.lt h2⟩⟩
  | up i v b => obtain ⟨p, xo, xt, gp, g, h1, h2, h3, h4, h5, h6, h7, h8, h9⟩ := h; exact ⟨p, xo, xt, gp, g, h1, h2, h3, h4, h5, h6, ⟨h7, Blk.lt h1⟩, ⟨h8, Blk.lt h2⟩, ⟨h9, Blk.lt h5⟩⟩
  | poll b => obtain ⟨p, xo, xb, h1, h2, h3, h4, h5, h6⟩ := h; exact ⟨p, xo, xb, h1, h2, h3, h4, ⟨h5, Blk.lt h1⟩, ⟨h6, Blk.lt h2⟩⟩
end
section
variable {w w' : World} {F : CLay} {cb bb bg bm bc : Nat} {dv : Value} {bd : Nat → Nat} {tc : Int} {L : List Int} {S : Nat → Prop}
theorem CEnv.tab (h : CEnv w F cb bb bg bm bc dv bd tc L) (ho : Only S w w') (hT : Tabs w S) (h1 : ¬ S bm) (h2 : ¬ S bc) : CEnv w' F cb bb bg bm bc dv bd tc L := by
  have hm := h.mem.only ho h1 h2
  refine ⟨h.crew.only ho (hT.not_ h.crew (by rintro (h | h | ⟨h | h, h2⟩) <;> first | exact absurd h (by decide) | exact h2 rfl)), h.dqs.only ho (fun g cs hb => hT.not_ hb (by rintro (h | h | ⟨h | h, h2⟩) <;> first | exact absurd h (by decide) | exact h2 rfl)),
    h.bell.next hm h.bell.few rfl (h.bell.bell.only ho (hT.not_ h.bell.bell (by rintro (h | h | ⟨h | h, h2⟩) <;> first | exact absurd h (by decide) | exact h2 rfl))), h.gate.next hm h.bell.few h.u rfl (h.gate.gate.only ho (hT.not_ h.gate.gate (by rintro (h | h | ⟨h | h, h2⟩) <;> first | exact absurd h (by decide) | exact h2 rfl))),
    fun i hi => (h.deq i hi).next hm h.bell.few h.u rfl ((h.deq i hi).deq.only ho (hT.not_ (h.deq i hi).deq (by rintro (h | h | ⟨h | h, h2⟩) <;> first | exact absurd h (by decide) | exact h2 rfl)))⟩
end
end Go.Proofs.YtdoaipjdldknaaaGreat
