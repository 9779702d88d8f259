/-
  Package crew: what an operation does between its parts: ring, enter and their closures.
-/
import Derived.Test.YtdoaipjdldknaaaKC2
import Derived.Deep.RegionHeld3
import Derived.Deep.DeepCutAuto
namespace Go.Proofs.Ytdoaipjdldknaaa
open Go.RowKit
set_option linter.unusedVariables false

/-- A crew's block: its bell, its gate, the slice of its deques. -/
def CrewAt (w : World) (cb bb bg : Nat) (dv : Value) : Prop := Blk w cb 54 #[.pointer (some ⟨bb, 0, none⟩), .pointer (some ⟨bg, 0, none⟩), dv]
section
variable {w : World} {co cb bb bg bm bc : Nat} {dv cur thn : Value} {out val : Int} {base n tc : Int} {L : List Int}
theorem CrewAt.c0 (h : CrewAt w cb bb bg dv) : w.cell? ⟨cb, 0, none⟩ = some (.pointer (some ⟨bb, 0, none⟩)) := Blk.cellv h rfl
theorem CrewAt.c1 (h : CrewAt w cb bb bg dv) : w.cell? ⟨cb, 1, none⟩ = some (.pointer (some ⟨bg, 0, none⟩)) := Blk.cellv h rfl
theorem CrewAt.c2 (h : CrewAt w cb bb bg dv) : w.cell? ⟨cb, 2, none⟩ = some dv := Blk.cellv h rfl
/-- The closures: what comes behind a part. -/
def ringK (x : Nat) : Value := .func (.func 60) #[] #[.pointer (some ⟨x, 0, none⟩)]
def enterK (xp xo xv : Nat) : Value := .func (.func 57) #[] #[.pointer (some ⟨xp, 0, none⟩), .pointer (some ⟨xo, 0, none⟩), .pointer (some ⟨xv, 0, none⟩)]
/-- A box with an operation's pointer. -/
def OBox (w : World) (x co : Nat) : Prop := Blk w x 30 #[.pointer (some ⟨co, 0, none⟩)]
theorem CrewAt.only {w' : World} {S : Nat → Prop} (h : CrewAt w cb bb bg dv) (ho : Only S w w') (hs : ¬ S cb) : CrewAt w' cb bb bg dv := Blk.only h ho hs
theorem CrewAt.drew (h : CrewAt w cb bb bg dv) : CrewAt w.drew cb bb bg dv := h
theorem OBox.only {w' : World} {S : Nat → Prop} {x : Nat} (h : OBox w x co) (ho : Only S w w') (hs : ¬ S x) : OBox w' x co := Blk.only h ho hs
theorem OBox.drew {x : Nat} (h : OBox w x co) : OBox w.drew x co := h
theorem OBox.c0 {x : Nat} (h : OBox w x co) : w.cell? ⟨x, 0, none⟩ = some (.pointer (some ⟨co, 0, none⟩)) := Blk.cellv h rfl
/-- What ring leaves. -/
def Rung (w w' : World) (co cb bb : Nat) (n : Int) (val : Int) : Prop := ∃ bp x, CopAt w' co cb (.iface 87 (.pointer (some ⟨bp, 0, none⟩))) (ringK x) 0 val ∧ BopIs w' bp bb ⟨3, 0, 0⟩ ∧ OBox w' x co ∧ Only (S1 co) w w' ∧ w.heap.size ≤ bp ∧ w.heap.size ≤ x
theorem ring1_any (x : Nat) (hx : OBox w x co) (h : CopAt w co cb cur thn out val) : Calls Try.prog 60 #[.pointer (some ⟨x, 0, none⟩)] w fun e w' =>
    e = .returned (.tuple #[]) ∧ CopAt w' co cb cur thn 1 0 ∧ Only (S1 co) w w' := by
  have c0 : w.cell? ⟨x, 0, none⟩ = some (.pointer (some ⟨co, 0, none⟩)) := Blk.cellv hx rfl
  have H := hide h
  clear h hx
  go_enter Try.func60, Try.ntmps60
  go_wp2_with fail
  refine (CEnd_any 1 0 H.out).mono ?_
  rintro e w1 ⟨rfl, h1, o1⟩
  have H1 := hide (And.intro h1 o1)
  clear h1 o1
  go_wp2_with fail
  go_end0
  exact ⟨rfl, H1.out⟩
set_option maxHeartbeats 1000000 in
theorem ring_any (h : CopAt w co cb cur thn 0 val) (hc : CrewAt w cb bb bg dv) (he : BellEnv w bb bm bc base n tc L) : Calls Try.prog 34 #[.pointer (some ⟨co, 0, none⟩)] w fun e w' =>
    e = .returned (.tuple #[]) ∧ Rung w w' co cb bb n val := by
  have H := hide h
  have HC := hide hc
  have HE := hide he
  have hn1 := he.n1
  clear h hc he
  go_enter Try.func34, Try.ntmps34
  go_upto_region 1 with fail
  have o1 := (Only.refl S0 w).alloc (.cells #[.pointer (some ⟨co, 0, none⟩)] 30)
  have HX := hide (show OBox _ w.heap.size co from Blk.new w 30 #[.pointer (some ⟨co, 0, none⟩)])
  have H1 := hide (H.out.only o1 (fun h => h))
  have HC1 := hide (show CrewAt _ cb bb bg dv from Blk.only HC.out o1 (fun h => h))
  have HE1 := hide (HE.out.only0 o1)
  have HO1 := hide o1
  clear o1
  generalize hx : w.heap.size = x at *
  generalize w.alloc (.cells #[.pointer (some ⟨co, 0, none⟩)] 30) = w1 at *
  have HXX := hide hx
  clear hx
  have hxo : x ≠ co := by have := Blk.lt H.out; have := HXX.out; omega
  have hcc : cb ≠ co := fun e => Blk.ne_ HC1.out H1.out (by decide) e
  have z0 := HX.out.drew.c0
  have z1 := H1.out.drew.c4
  have z2 := HC1.out.drew.c0
  have hob : bout0 n 0 = 0 := by unfold bout0; rw [if_pos (by omega)]
  have HOB := hide hob
  clear hob
  go_region_held3 (fun w' : World => w'.cell? ⟨x, 0, none⟩ = some (.pointer (some ⟨co, 0, none⟩)) ∧ w'.cell? ⟨co, 4, none⟩ = some (.pointer (some ⟨cb, 0, none⟩)) ∧ w'.cell? ⟨cb, 0, none⟩ = some (.pointer (some ⟨bb, 0, none⟩))) (first | exact ⟨z0, z1, z2⟩ | exact ⟨y0, y1, y2⟩ | exact ⟨q0, q1, q2⟩) (first | (go_at_call 59; refine (BRing_all (HE1.out.only0 (Only.refl S0 w1).drew)).mono ?_; rintro e w2 ⟨bp, rfl, g1, e1, o1, b1⟩; rw [HOB.out] at g1; have HX2 := hide (HX.out.drew.only o1 (fun h => h)); have H2 := hide (H1.out.drew.only o1 (fun h => h)); have HC2 := hide (HC1.out.drew.only o1 (fun h => h)); have y0 := HX2.out.c0; have y1 := H2.out.c4; have y2 := HC2.out.c0; have G1 := hide g1; have O1 := hide ((HO1.out.drew).trans o1); clear g1 e1 o1) | (go_at_call 31; refine (CDo_bell _ _ H2.out G1.out rfl).mono ?_; rintro e w3 ⟨rfl, h3, o3⟩; have H3 := hide h3; have HX3 := hide (HX2.out.only o3 hxo); have HC3 := hide (HC2.out.only o3 hcc); have q0 := HX3.out.c0; have q1 := H3.out.c4; have q2 := HC3.out.c0; have G3 := hide (show BopIs w3 bp bb ⟨3, 0, 0⟩ from BopAt.only G1.out o3 (fun e => Blk.ne_ G1.out H2.out (by decide) e)); have O3 := hide ((O1.out.mono (R := S1 co) fun _ h => h.elim).trans o3); clear h3 o3))
  go_wp2_with fail
  all_goals go_end0
  all_goals exact ⟨rfl, bp, x, H3.out, G3.out, HX3.out, O3.out, by have := HXX.out; have := HO1.out.size; have b1' : w1.heap.size ≤ bp := b1; omega, by have := HXX.out; omega⟩
end
end Go.Proofs.Ytdoaipjdldknaaa
