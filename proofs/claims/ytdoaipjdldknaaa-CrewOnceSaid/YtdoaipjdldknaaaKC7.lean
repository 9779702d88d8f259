/-
  Package crew: what an operation does between its parts: ring, enter and their closures.
-/
import Derived.Test.YtdoaipjdldknaaaKC2
import Derived.Deep.RegionHeld3
import Derived.Deep.DeepCutAuto
import Derived.Test.YtdoaipjdldknaaaKBell3
import Derived.Test.YtdoaipjdldknaaaKGate5
import Derived.Test.YtdoaipjdldknaaaKDeq5
namespace Go.Proofs.Ytdoaipjdldknaaa
open Go.RowKit
set_option linter.unusedVariables false

/-- A crew's block: its bell, its gate, the slice of its deques. -/
def CrewAt (w : World) (cb bb bg : Nat) (dv : Value) : Prop := Blk w cb 54 #[.pointer (some ⟨bb, 0, none⟩), .pointer (some ⟨bg, 0, none⟩), dv]
section
variable {w : World} {co cb bb bg bm bc : Nat} {dv cur thn : Value} {out val : Int} {base n tc : Int} {L : List Int}
theorem CrewAt.c0 (h : CrewAt w cb bb bg dv) : w.cell? ⟨cb, 0, none⟩ = some (.pointer (some ⟨bb, 0, none⟩)) := Blk.cellv h rfl
theorem CrewAt.c1 (h : CrewAt w cb bb bg dv) : w.cell? ⟨cb, 1, none⟩ = some (.pointer (some ⟨bg, 0, none⟩)) := Blk.cellv h rfl
theorem CrewAt.c2 (h : CrewAt w cb bb bg dv) : w.cell? ⟨cb, 2, none⟩ = some dv := Blk.cellv h rfl
/-- The closures: what comes behind a part. -/
def ringK (x : Nat) : Value := .func (.func 60) #[] #[.pointer (some ⟨x, 0, none⟩)]
def enterK (xp xo xv : Nat) : Value := .func (.func 57) #[] #[.pointer (some ⟨xp, 0, none⟩), .pointer (some ⟨xo, 0, none⟩), .pointer (some ⟨xv, 0, none⟩)]
/-- A box with an operation's pointer. -/
def OBox (w : World) (x co : Nat) : Prop := Blk w x 30 #[.pointer (some ⟨co, 0, none⟩)]
theorem CrewAt.only {w' : World} {S : Nat → Prop} (h : CrewAt w cb bb bg dv) (ho : Only S w w') (hs : ¬ S cb) : CrewAt w' cb bb bg dv := Blk.only h ho hs
theorem CrewAt.drew (h : CrewAt w cb bb bg dv) : CrewAt w.drew cb bb bg dv := h
theorem OBox.only {w' : World} {S : Nat → Prop} {x : Nat} (h : OBox w x co) (ho : Only S w w') (hs : ¬ S x) : OBox w' x co := Blk.only h ho hs
theorem OBox.drew {x : Nat} (h : OBox w x co) : OBox w.drew x co := h
theorem OBox.c0 {x : Nat} (h : OBox w x co) : w.cell? ⟨x, 0, none⟩ = some (.pointer (some ⟨co, 0, none⟩)) := Blk.cellv h rfl
/-- What ring leaves. -/
def Rung (w w' : World) (co cb bb : Nat) (n : Int) (val : Int) : Prop := ∃ bp x, CopAt w' co cb (.iface 87 (.pointer (some ⟨bp, 0, none⟩))) (ringK x) 0 val ∧ BopIs w' bp bb ⟨3, 0, 0⟩ ∧ OBox w' x co ∧ Only (S1 co) w w' ∧ w.heap.size ≤ bp ∧ w.heap.size ≤ x
theorem ring1_any (x : Nat) (hx : OBox w x co) (h : CopAt w co cb cur thn out val) : Calls Try.prog 60 #[.pointer (some ⟨x, 0, none⟩)] w fun e w' =>
    e = .returned (.tuple #[]) ∧ CopAt w' co cb cur thn 1 0 ∧ Only (S1 co) w w' := by
  have c0 : w.cell? ⟨x, 0, none⟩ = some (.pointer (some ⟨co, 0, none⟩)) := Blk.cellv hx rfl
  have H := hide h
  clear h hx
  go_enter Try.func60, Try.ntmps60
  go_wp2_with fail
  refine (CEnd_any 1 0 H.out).mono ?_
  rintro e w1 ⟨rfl, h1, o1⟩
  have H1 := hide (And.intro h1 o1)
  clear h1 o1
  go_wp2_with fail
  go_end0
  exact ⟨rfl, H1.out⟩
set_option maxHeartbeats 1000000 in
theorem ring_any (h : CopAt w co cb cur thn 0 val) (hc : CrewAt w cb bb bg dv) (he : BellEnv w bb bm bc base n tc L) : Calls Try.prog 34 #[.pointer (some ⟨co, 0, none⟩)] w fun e w' =>
    e = .returned (.tuple #[]) ∧ Rung w w' co cb bb n val := by
  have H := hide h
  have HC := hide hc
  have HE := hide he
  have hn1 := he.n1
  clear h hc he
  go_enter Try.func34, Try.ntmps34
  go_upto_region 1 with fail
  have o1 := (Only.refl S0 w).alloc (.cells #[.pointer (some ⟨co, 0, none⟩)] 30)
  have HX := hide (show OBox _ w.heap.size co from Blk.new w 30 #[.pointer (some ⟨co, 0, none⟩)])
  have H1 := hide (H.out.only o1 (fun h => h))
  have HC1 := hide (show CrewAt _ cb bb bg dv from Blk.only HC.out o1 (fun h => h))
  have HE1 := hide (HE.out.only0 o1)
  have HO1 := hide o1
  clear o1
  generalize hx : w.heap.size = x at *
  generalize w.alloc (.cells #[.pointer (some ⟨co, 0, none⟩)] 30) = w1 at *
  have HXX := hide hx
  clear hx
  have hxo : x ≠ co := by have := Blk.lt H.out; have := HXX.out; omega
  have hcc : cb ≠ co := fun e => Blk.ne_ HC1.out H1.out (by decide) e
  have z0 := HX.out.drew.c0
  have z1 := H1.out.drew.c4
  have z2 := HC1.out.drew.c0
  have hob : bout0 n 0 = 0 := by unfold bout0; rw [if_pos (by omega)]
  have HOB := hide hob
  clear hob
  go_region_held3 (fun w' : World => w'.cell? ⟨x, 0, none⟩ = some (.pointer (some ⟨co, 0, none⟩)) ∧ w'.cell? ⟨co, 4, none⟩ = some (.pointer (some ⟨cb, 0, none⟩)) ∧ w'.cell? ⟨cb, 0, none⟩ = some (.pointer (some ⟨bb, 0, none⟩))) (first | exact ⟨z0, z1, z2⟩ | exact ⟨y0, y1, y2⟩ | exact ⟨q0, q1, q2⟩) (first | (go_at_call 59; refine (BRing_all (HE1.out.only0 (Only.refl S0 w1).drew)).mono ?_; rintro e w2 ⟨bp, rfl, g1, e1, o1, b1⟩; rw [HOB.out] at g1; have HX2 := hide (HX.out.drew.only o1 (fun h => h)); have H2 := hide (H1.out.drew.only o1 (fun h => h)); have HC2 := hide (HC1.out.drew.only o1 (fun h => h)); have y0 := HX2.out.c0; have y1 := H2.out.c4; have y2 := HC2.out.c0; have G1 := hide g1; have O1 := hide ((HO1.out.drew).trans o1); clear g1 e1 o1) | (go_at_call 31; refine (CDo_bell _ _ H2.out G1.out rfl).mono ?_; rintro e w3 ⟨rfl, h3, o3⟩; have H3 := hide h3; have HX3 := hide (HX2.out.only o3 hxo); have HC3 := hide (HC2.out.only o3 hcc); have q0 := HX3.out.c0; have q1 := H3.out.c4; have q2 := HC3.out.c0; have G3 := hide (show BopIs w3 bp bb ⟨3, 0, 0⟩ from BopAt.only G1.out o3 (fun e => Blk.ne_ G1.out H2.out (by decide) e)); have O3 := hide ((O1.out.mono (R := S1 co) fun _ h => h.elim).trans o3); clear h3 o3))
  go_wp2_with fail
  all_goals go_end0
  all_goals exact ⟨rfl, bp, x, H3.out, G3.out, HX3.out, O3.out, by have := HXX.out; have := HO1.out.size; have b1' : w1.heap.size ≤ bp := b1; omega, by have := HXX.out; omega⟩
end
end Go.Proofs.Ytdoaipjdldknaaa
/-
  Package crew: enter and its closure.
-/
namespace Go.Proofs.Ytdoaipjdldknaaa
open Go.RowKit
set_option linter.unusedVariables false

def GBox (w : World) (x b : Nat) : Prop := Blk w x 82 #[.pointer (some ⟨b, 0, none⟩)]
def DBox (w : World) (x b : Nat) : Prop := Blk w x 73 #[.pointer (some ⟨b, 0, none⟩)]
def BBox (w : World) (x b : Nat) : Prop := Blk w x 87 #[.pointer (some ⟨b, 0, none⟩)]
def CBox (w : World) (x b : Nat) : Prop := Blk w x 27 #[.pointer (some ⟨b, 0, none⟩)]
def VBox (w : World) (x : Nat) (v : Int) : Prop := Blk w x 31 #[.int .u64 v]
def WBox (w : World) (x : Nat) (v : Int) : Prop := Blk w x 3 #[.int .i64 v]
section
variable {w w' : World} {x b : Nat} {v : Int} {S : Nat → Prop}
theorem GBox.c0 (h : GBox w x b) : w.cell? ⟨x, 0, none⟩ = some (.pointer (some ⟨b, 0, none⟩)) := Blk.cellv h rfl
theorem DBox.c0 (h : DBox w x b) : w.cell? ⟨x, 0, none⟩ = some (.pointer (some ⟨b, 0, none⟩)) := Blk.cellv h rfl
theorem BBox.c0 (h : BBox w x b) : w.cell? ⟨x, 0, none⟩ = some (.pointer (some ⟨b, 0, none⟩)) := Blk.cellv h rfl
theorem CBox.c0 (h : CBox w x b) : w.cell? ⟨x, 0, none⟩ = some (.pointer (some ⟨b, 0, none⟩)) := Blk.cellv h rfl
theorem VBox.c0 (h : VBox w x v) : w.cell? ⟨x, 0, none⟩ = some (.int .u64 v) := Blk.cellv h rfl
theorem WBox.c0 (h : WBox w x v) : w.cell? ⟨x, 0, none⟩ = some (.int .i64 v) := Blk.cellv h rfl
theorem GBox.only (h : GBox w x b) (ho : Only S w w') (hs : ¬ S x) : GBox w' x b := Blk.only h ho hs
theorem DBox.only (h : DBox w x b) (ho : Only S w w') (hs : ¬ S x) : DBox w' x b := Blk.only h ho hs
theorem BBox.only (h : BBox w x b) (ho : Only S w w') (hs : ¬ S x) : BBox w' x b := Blk.only h ho hs
theorem CBox.only (h : CBox w x b) (ho : Only S w w') (hs : ¬ S x) : CBox w' x b := Blk.only h ho hs
theorem VBox.only (h : VBox w x v) (ho : Only S w w') (hs : ¬ S x) : VBox w' x v := Blk.only h ho hs
theorem WBox.only (h : WBox w x v) (ho : Only S w w') (hs : ¬ S x) : WBox w' x v := Blk.only h ho hs
theorem GBox.drew (h : GBox w x b) : GBox w.drew x b := h
theorem DBox.drew (h : DBox w x b) : DBox w.drew x b := h
theorem BBox.drew (h : BBox w x b) : BBox w.drew x b := h
theorem CBox.drew (h : CBox w x b) : CBox w.drew x b := h
theorem VBox.drew (h : VBox w x v) : VBox w.drew x v := h
theorem WBox.drew (h : WBox w x v) : WBox w.drew x v := h
end
theorem hold4 {w w' : World} {a b c d : Nat} {i j k l : Nat} {va vb vc vd : Option Value} (h : w.cell? ⟨a, i, none⟩ = va ∧ w.cell? ⟨b, j, none⟩ = vb ∧ w.cell? ⟨c, k, none⟩ = vc ∧ w.cell? ⟨d, l, none⟩ = vd) (ha : a < w.heap.size) (hb : b < w.heap.size) (hc : c < w.heap.size) (hd : d < w.heap.size) (ho : Only S0 w w') :
    w'.cell? ⟨a, i, none⟩ = va ∧ w'.cell? ⟨b, j, none⟩ = vb ∧ w'.cell? ⟨c, k, none⟩ = vc ∧ w'.cell? ⟨d, l, none⟩ = vd :=
  ⟨(ho.cell (p := ⟨a, i, none⟩) ha (fun h => h)).trans h.1, (ho.cell (p := ⟨b, j, none⟩) hb (fun h => h)).trans h.2.1, (ho.cell (p := ⟨c, k, none⟩) hc (fun h => h)).trans h.2.2.1, (ho.cell (p := ⟨d, l, none⟩) hd (fun h => h)).trans h.2.2.2⟩
section
variable {w : World} {co cb bb bg bm bc : Nat} {dv cur thn : Value} {out val : Int} {base n tc : Int} {L : List Int}
/-- What enter leaves. -/
def Entered (w w' : World) (co cb bg : Nat) (base : Int) (v val : Int) : Prop := ∃ gp xp xo xv, CopAt w' co cb (.iface 82 (.pointer (some ⟨gp, 0, none⟩))) (enterK xp xo xv) 0 val ∧ GopIs w' gp bg (putOp base v) ∧ GBox w' xp gp ∧ OBox w' xo co ∧ VBox w' xv v ∧ Only (S1 co) w w' ∧
  w.heap.size ≤ gp ∧ w.heap.size ≤ xp ∧ w.heap.size ≤ xo ∧ w.heap.size ≤ xv
set_option maxRecDepth 100000 in
set_option maxHeartbeats 1000000 in
theorem enter_any (v : Int) (h : CopAt w co cb cur thn 0 val) (hc : CrewAt w cb bb bg dv) (he : GateEnv w bg bm bc base n tc L) : Calls Try.prog 29 #[.pointer (some ⟨co, 0, none⟩), .int .u64 v] w fun e w' =>
    e = .returned (.tuple #[]) ∧ Entered w w' co cb bg base v val := by
  have H := hide h
  have HC := hide hc
  have HE := hide he
  clear h hc he
  go_enter Try.func29, Try.ntmps29
  go_upto_region 1 with fail
  have o1 := ((Only.refl S0 w).alloc (.cells #[.pointer (some ⟨co, 0, none⟩)] 30)).alloc (.cells #[.int .u64 v] 31)
  have HX := hide (show OBox _ w.heap.size co from (Blk.new w 30 #[.pointer (some ⟨co, 0, none⟩)]).alloc (.cells #[.int .u64 v] 31))
  have hv0 := Blk.new (w.alloc (.cells #[.pointer (some ⟨co, 0, none⟩)] 30)) 31 #[.int .u64 v]
  have HV := hide (show VBox _ (w.heap.size + 1) v from by simpa [VBox] using hv0)
  have H1 := hide (H.out.only o1 (fun h => h))
  have HC1 := hide (HC.out.only o1 (fun h => h))
  have HE1 := hide (HE.out.only0 o1)
  have HO1 := hide o1
  clear o1 hv0
  have hxo : w.heap.size ≠ co := by have := Blk.lt H.out; omega
  have hxv : w.heap.size + 1 ≠ co := by have := Blk.lt H.out; omega
  generalize (w.alloc (.cells #[.pointer (some ⟨co, 0, none⟩)] 30)).alloc (.cells #[.int .u64 v] 31) = w1 at *
  have hb1 := Blk.lt HV.out
  have hb2 := Blk.lt HX.out
  generalize hxo' : w.heap.size = xo at *
  generalize hxv' : xo + 1 = xv at *
  have HXO := hide hxo'
  have HXV := hide hxv'
  clear hxo' hxv'
  have hcc : cb ≠ co := fun e => Blk.ne_ HC1.out H1.out (by decide) e
  go_cut [4] (fun v4 wx => ∃ gp xp, v4 = .pointer (some ⟨xp, 0, none⟩) ∧ GopIs wx gp bg (putOp base v) ∧ GBox wx xp gp ∧ Only S0 w1 wx ∧ w1.heap.size ≤ gp ∧ w1.heap.size ≤ xp)
  case first =>
    have Z := hide (And.intro HX.out.c0 (And.intro H1.out.c4 (And.intro HC1.out.c1 HV.out.c0)))
    have b0 := Blk.lt HX.out
    have b4 := Blk.lt H1.out
    have b5 := Blk.lt HC1.out
    have b6 := Blk.lt HV.out
    have hoA : Only S0 w1 ((w1.alloc (.cells #[.pointer none] 82)).drew) := ((Only.refl S0 w1).alloc _).drew
    have hbA : Blk ((w1.alloc (.cells #[.pointer none] 82)).drew) w1.heap.size 82 #[.pointer none] := (Blk.new w1 _ _).drew
    have HOA := hide hoA
    have HBA := hide hbA
    clear hoA hbA
    go_region_held3 (fun w' : World => w'.cell? ⟨xo, 0, none⟩ = some (.pointer (some ⟨co, 0, none⟩)) ∧ w'.cell? ⟨co, 4, none⟩ = some (.pointer (some ⟨cb, 0, none⟩)) ∧ w'.cell? ⟨cb, 1, none⟩ = some (.pointer (some ⟨bg, 0, none⟩)) ∧ w'.cell? ⟨xv, 0, none⟩ = some (.int .u64 v)) (first | with_reducible exact hold4 Z.out b0 b4 b5 b6 (Only.refl S0 w1).drew | with_reducible exact hold4 Z.out b0 b4 b5 b6 ((Only.refl S0 w1).alloc _).drew | with_reducible exact hold4 Z.out b0 b4 b5 b6 O1.out | with_reducible exact hold4 Z.out b0 b4 b5 b6 (O1.out.alloc _) | with_reducible exact hold4 Z.out b0 b4 b5 b6 (O1.out.setNew 0 (Nat.le_refl _) _) | with_reducible exact hold4 Z.out b0 b4 b5 b6 ((O1.out.alloc _).setNew 0 O1.out.size _)) (first | (go_at_call 56; (with_reducible refine (GPut_all (HE1.out.only0 (Only.refl S0 w1).drew) v).mono ?_); rintro e w2 ⟨gp, rfl, g1, e1, o1, b1⟩; have O1 := hide ((Only.refl S0 w1).drew.trans o1); have G1 := hide g1; have WAY : gp = gp := rfl; clear g1 e1 o1) | (go_at_call 56; (with_reducible refine (GPut_all (HE1.out.only0 HOA.out) v).mono ?_); rintro e w2 ⟨gp, rfl, g1, e1, o1, b1⟩; have O1 := hide (HOA.out.trans o1); have G1 := hide g1; have BX := hide (HBA.out.only o1 (fun h => h)); have q0 : w2.cell? ⟨w1.heap.size, 0, none⟩ = some (.pointer none) := Blk.cellv BX.out rfl; have q1 := BX.out.frozen 0; clear g1 e1 o1))
    all_goals (go_wp2_with fail; go_meet)
    all_goals first
      | exact ⟨gp, w2.heap.size, rfl, GopAt.only G1.out ((Only.refl S0 w2).alloc _) (fun h => h), Blk.new w2 _ _, O1.out.alloc _, b1, O1.out.size⟩
      | (have b1' : w1.heap.size + 1 ≤ gp := by simpa using b1
         exact ⟨gp, w1.heap.size, rfl, GopAt.only G1.out (only_set w2 w1.heap.size 0 _) (fun e => by unfold S1 at e; omega), by simpa [GBox] using BX.out.set_ 0 (.pointer (some ⟨gp, 0, none⟩)), O1.out.setNew 0 (Nat.le_refl _) _, by omega, Nat.le_refl _⟩)
  case rest =>
    obtain ⟨gp, xp, rfl, hg, hxp, ho, hb3, hb4⟩ := hcut
    have HG := hide hg
    have HP := hide hxp
    have HX2 := hide (HX.out.only ho (fun h => h))
    have HV2 := hide (HV.out.only ho (fun h => h))
    have H2 := hide (H1.out.only ho (fun h => h))
    have HO2 := hide (HO1.out.trans ho)
    have hgo : gp ≠ co := by have := Blk.lt H1.out; omega
    have hpo : xp ≠ co := by have := Blk.lt H1.out; omega
    have z0 := HX2.out.drew.c0
    have z1 := HP.out.drew.c0
    clear hg hxp ho
    go_upto_region 2 with fail
    go_region_held3 (fun w' : World => w'.cell? ⟨xo, 0, none⟩ = some (.pointer (some ⟨co, 0, none⟩)) ∧ w'.cell? ⟨xp, 0, none⟩ = some (.pointer (some ⟨gp, 0, none⟩))) (first | with_reducible exact ⟨z0, z1⟩ | with_reducible exact ⟨y0, y1⟩) (first | (go_at_call 31; refine (CDo_gate _ _ H2.out.drew (show GopIs wc.drew gp bg (putOp base v) from HG.out) rfl).mono ?_; rintro e w3 ⟨rfl, h3, o3⟩; have H3 := hide h3; have X3 := hide (HX2.out.drew.only o3 hxo); have P3 := hide (HP.out.drew.only o3 hpo); have V3 := hide (HV2.out.drew.only o3 hxv); have G3 := hide (show GopIs w3 gp bg (putOp base v) from GopAt.only (show GopIs wc.drew gp bg (putOp base v) from HG.out) o3 hgo); have y0 := X3.out.c0; have y1 := P3.out.c0; have O3 := hide (((HO2.out.drew).mono (R := S1 co) fun _ h => h.elim).trans o3); clear h3 o3))
    go_wp2_with fail
    all_goals go_end0
    all_goals exact ⟨rfl, gp, xp, xo, xv, H3.out, G3.out, P3.out, X3.out, V3.out, O3.out, by have := HO1.out.size; have := HXO.out; omega, by have := HO1.out.size; have := HXO.out; omega, by have := HXO.out; omega, by have := HXO.out; have := HXV.out; omega⟩
end
end Go.Proofs.Ytdoaipjdldknaaa
/-
  Package crew: the closures behind a put, a push, the last part of a rest, a poll.
-/
namespace Go.Proofs.Ytdoaipjdldknaaa
open Go.RowKit
set_option linter.unusedVariables false
section
variable {w : World} {co cb bb bg bm bc xp xo xv gp : Nat} {dv cur thn : Value} {out val v : Int} {bbase bn gbase ga tc : Int} {L : List Int}
theorem enter1_full {g : Gop} (hp : GBox w xp gp) (hxo : OBox w xo co) (hxv : VBox w xv v) (hg : GopIs w gp bg g) (ho : g.out = 2) (h : CopAt w co cb cur thn 0 val) (hc : CrewAt w cb bb bg dv) (hbe : BellEnv w bb bm bc bbase bn tc L) (hge : GateEnv w bg bm bc gbase ga tc L) :
    Calls Try.prog 57 #[.pointer (some ⟨xp, 0, none⟩), .pointer (some ⟨xo, 0, none⟩), .pointer (some ⟨xv, 0, none⟩)] w fun e w' => e = .returned (.tuple #[]) ∧ Entered w w' co cb bg gbase v val := by
  have c0 := hp.c0
  have c1 := hxo.c0
  have c2 := hxv.c0
  have hb : (g.out == 2) = true := by rw [ho]; rfl
  have HG := hide hg
  have H := hide h
  have HC := hide hc
  have HBE := hide hbe
  have HGE := hide hge
  clear hp hxo hxv hg h hc hbe hge ho
  go_enter Try.func57, Try.ntmps57
  go_wp2_with fail
  refine (HG.out.outcome).mono ?_
  rintro e w1 ⟨rfl, rfl⟩
  go_wp2_with fail
  refine (enter_any v H.out HC.out HGE.out).mono ?_
  rintro e w1 ⟨rfl, h1⟩
  have H1 := hide h1
  clear h1
  go_wp2_with fail
  refine bodyPost_ret (results_none rfl _ _ _) rfl ?_
  exact ⟨rfl, H1.out⟩
theorem offer1_full {bd : Nat} {g : Dop} (hp : DBox w xp gp) (hxo : OBox w xo co) (hxv : VBox w xv v) (hg : DopIs w gp bd g) (ho : g.out = 2) (h : CopAt w co cb cur thn 0 val) (hc : CrewAt w cb bb bg dv) (hbe : BellEnv w bb bm bc bbase bn tc L) (hge : GateEnv w bg bm bc gbase ga tc L) :
    Calls Try.prog 32 #[.pointer (some ⟨xp, 0, none⟩), .pointer (some ⟨xo, 0, none⟩), .pointer (some ⟨xv, 0, none⟩)] w fun e w' => e = .returned (.tuple #[]) ∧ Entered w w' co cb bg gbase v val := by
  have c0 := hp.c0
  have c1 := hxo.c0
  have c2 := hxv.c0
  have hb : (g.out == 2) = true := by rw [ho]; rfl
  have HG := hide hg
  have H := hide h
  have HC := hide hc
  have HBE := hide hbe
  have HGE := hide hge
  clear hp hxo hxv hg h hc hbe hge ho
  go_enter Try.func32, Try.ntmps32
  go_wp2_with fail
  refine (HG.out.outcome).mono ?_
  rintro e w1 ⟨rfl, rfl⟩
  go_wp2_with fail
  refine (enter_any v H.out HC.out HGE.out).mono ?_
  rintro e w1 ⟨rfl, h1⟩
  have H1 := hide h1
  clear h1
  go_wp2_with fail
  refine bodyPost_ret (results_none rfl _ _ _) rfl ?_
  exact ⟨rfl, H1.out⟩
theorem enter1_ring {g : Gop} (hp : GBox w xp gp) (hxo : OBox w xo co) (hxv : VBox w xv v) (hg : GopIs w gp bg g) (ho : g.out ≠ 2) (h : CopAt w co cb cur thn 0 val) (hc : CrewAt w cb bb bg dv) (hbe : BellEnv w bb bm bc bbase bn tc L) (hge : GateEnv w bg bm bc gbase ga tc L) :
    Calls Try.prog 57 #[.pointer (some ⟨xp, 0, none⟩), .pointer (some ⟨xo, 0, none⟩), .pointer (some ⟨xv, 0, none⟩)] w fun e w' => e = .returned (.tuple #[]) ∧ Rung w w' co cb bb bn val := by
  have c0 := hp.c0
  have c1 := hxo.c0
  have c2 := hxv.c0
  have hb : (g.out == 2) = false := by simp [ho]
  have HG := hide hg
  have H := hide h
  have HC := hide hc
  have HBE := hide hbe
  have HGE := hide hge
  clear hp hxo hxv hg h hc hbe hge ho
  go_enter Try.func57, Try.ntmps57
  go_wp2_with fail
  refine (HG.out.outcome).mono ?_
  rintro e w1 ⟨rfl, rfl⟩
  go_wp2_with fail
  refine (ring_any H.out HC.out HBE.out).mono ?_
  rintro e w1 ⟨rfl, h1⟩
  have H1 := hide h1
  clear h1
  go_wp2_with fail
  go_end0
  exact ⟨rfl, H1.out⟩
theorem offer1_ring {bd : Nat} {g : Dop} (hp : DBox w xp gp) (hxo : OBox w xo co) (hxv : VBox w xv v) (hg : DopIs w gp bd g) (ho : g.out ≠ 2) (h : CopAt w co cb cur thn 0 val) (hc : CrewAt w cb bb bg dv) (hbe : BellEnv w bb bm bc bbase bn tc L) (hge : GateEnv w bg bm bc gbase ga tc L) :
    Calls Try.prog 32 #[.pointer (some ⟨xp, 0, none⟩), .pointer (some ⟨xo, 0, none⟩), .pointer (some ⟨xv, 0, none⟩)] w fun e w' => e = .returned (.tuple #[]) ∧ Rung w w' co cb bb bn val := by
  have c0 := hp.c0
  have c1 := hxo.c0
  have c2 := hxv.c0
  have hb : (g.out == 2) = false := by simp [ho]
  have HG := hide hg
  have H := hide h
  have HC := hide hc
  have HBE := hide hbe
  have HGE := hide hge
  clear hp hxo hxv hg h hc hbe hge ho
  go_enter Try.func32, Try.ntmps32
  go_wp2_with fail
  refine (HG.out.outcome).mono ?_
  rintro e w1 ⟨rfl, rfl⟩
  go_wp2_with fail
  refine (ring_any H.out HC.out HBE.out).mono ?_
  rintro e w1 ⟨rfl, h1⟩
  have H1 := hide h1
  clear h1
  go_wp2_with fail
  go_end0
  exact ⟨rfl, H1.out⟩
/-- The value of what was taken. -/
theorem rest3_any {g : Gop} {xt : Nat} (hxo : OBox w xo co) (hxt : GBox w xt gp) (hg : GopIs w gp bg g) (h : CopAt w co cb cur thn out val) :
    Calls Try.prog 50 #[.pointer (some ⟨xo, 0, none⟩), .pointer (some ⟨xt, 0, none⟩)] w fun e w' => e = .returned (.tuple #[]) ∧ CopAt w' co cb cur thn 1 (gvalue g.ahead g.v g.out) ∧ Only (S1 co) w w' := by
  have c0 := hxo.c0
  have c1 := hxt.c0
  have HG := hide hg
  have H := hide h
  have HXO := hide hxo
  have HXT := hide hxt
  have n1 : xo ≠ co := fun e => Blk.ne_ hxo h (by decide) e
  have n2 : xt ≠ co := fun e => Blk.ne_ hxt h (by decide) e
  clear hxo hxt hg h
  go_enter Try.func50, Try.ntmps50
  go_upto_region 0 with fail
  have z0 := HXO.out.drew.c0
  have z1 := HXT.out.drew.c0
  go_region_held3 (fun w' : World => w'.cell? ⟨xo, 0, none⟩ = some (.pointer (some ⟨co, 0, none⟩)) ∧ w'.cell? ⟨xt, 0, none⟩ = some (.pointer (some ⟨gp, 0, none⟩))) (first | with_reducible exact ⟨z0, z1⟩ | with_reducible exact ⟨y0, y1⟩) (first | (go_at_call 51; refine (GopIs.value (show GopIs w.drew gp bg g from HG.out)).mono ?_; rintro e w2 ⟨rfl, rfl⟩) | (go_at_call 48; refine (CEnd_any _ _ H.out.drew).mono ?_; rintro e w3 ⟨rfl, h3, o3⟩; have H3 := hide h3; have y0 := (HXO.out.drew.only o3 n1).c0; have y1 := (HXT.out.drew.only o3 n2).c0; have O3 := hide (((Only.refl (S1 co) w).drew).trans o3); clear h3 o3))
  go_wp2_with fail
  all_goals go_end0
  all_goals exact ⟨rfl, H3.out, O3.out⟩
theorem poll1c_any {b : Bop} {xb bp : Nat} (hxo : OBox w xo co) (hxt : BBox w xb bp) (hg : BopIs w bp bb b) (h : CopAt w co cb cur thn out val) :
    Calls Try.prog 53 #[.pointer (some ⟨xo, 0, none⟩), .pointer (some ⟨xb, 0, none⟩)] w fun e w' => e = .returned (.tuple #[]) ∧ CopAt w' co cb cur thn b.out 0 ∧ Only (S1 co) w w' := by
  have c0 := hxo.c0
  have c1 := hxt.c0
  have HG := hide hg
  have H := hide h
  have HXO := hide hxo
  have HXT := hide hxt
  have n1 : xo ≠ co := fun e => Blk.ne_ hxo h (by decide) e
  have n2 : xb ≠ co := fun e => Blk.ne_ hxt h (by decide) e
  clear hxo hxt hg h
  go_enter Try.func53, Try.ntmps53
  go_upto_region 0 with fail
  have z0 := HXO.out.drew.c0
  have z1 := HXT.out.drew.c0
  go_region_held3 (fun w' : World => w'.cell? ⟨xo, 0, none⟩ = some (.pointer (some ⟨co, 0, none⟩)) ∧ w'.cell? ⟨xb, 0, none⟩ = some (.pointer (some ⟨bp, 0, none⟩))) (first | with_reducible exact ⟨z0, z1⟩ | with_reducible exact ⟨y0, y1⟩) (first | (go_at_call 54; refine (BopIs.outcome (show BopIs w.drew bp bb b from HG.out)).mono ?_; rintro e w2 ⟨rfl, rfl⟩) | (go_at_call 48; refine (CEnd_any _ _ H.out.drew).mono ?_; rintro e w3 ⟨rfl, h3, o3⟩; have H3 := hide h3; have y0 := (HXO.out.drew.only o3 n1).c0; have y1 := (HXT.out.drew.only o3 n2).c0; have O3 := hide (((Only.refl (S1 co) w).drew).trans o3); clear h3 o3))
  go_wp2_with fail
  all_goals go_end0
  all_goals exact ⟨rfl, H3.out, O3.out⟩
end
end Go.Proofs.Ytdoaipjdldknaaa
/-
  Package crew: the closures of a rest: a take behind the sleep; the bell's mark taken back, or the end.
-/
namespace Go.Proofs.Ytdoaipjdldknaaa
open Go.RowKit
set_option linter.unusedVariables false
def rest2K (xt xo xc xw : Nat) : Value := .func (.func 46) #[] #[.pointer (some ⟨xt, 0, none⟩), .pointer (some ⟨xo, 0, none⟩), .pointer (some ⟨xc, 0, none⟩), .pointer (some ⟨xw, 0, none⟩)]
def rest3K (xo xt : Nat) : Value := .func (.func 50) #[] #[.pointer (some ⟨xo, 0, none⟩), .pointer (some ⟨xt, 0, none⟩)]
section
variable {w : World} {co cb bb bg bm bc xt xo xc xw gp : Nat} {dv cur thn : Value} {out val wk : Int} {bbase bn gbase ga tc : Int} {L : List Int}
def TakeIn (w w' : World) (co cb bg xo xc xw : Nat) (gbase val : Int) : Prop := ∃ tp xt, CopAt w' co cb (.iface 82 (.pointer (some ⟨tp, 0, none⟩))) (rest2K xt xo xc xw) 0 val ∧ GopIs w' tp bg (takeOp gbase) ∧ GBox w' xt tp ∧ Only (S1 co) w w' ∧ w.heap.size ≤ tp ∧ w.heap.size ≤ xt
def UpIn (w w' : World) (co cb bb xo xt : Nat) (wk val : Int) : Prop := ∃ bp, CopAt w' co cb (.iface 87 (.pointer (some ⟨bp, 0, none⟩))) (rest3K xo xt) 0 val ∧ BopIs w' bp bb ⟨1, wk, 0⟩ ∧ Only (S1 co) w w' ∧ w.heap.size ≤ bp
set_option maxHeartbeats 1000000 in
theorem rest1_any (hxc : CBox w xc cb) (hxo : OBox w xo co) (h : CopAt w co cb cur thn 0 val) (hc : CrewAt w cb bb bg dv) (hge : GateEnv w bg bm bc gbase ga tc L) :
    Calls Try.prog 45 #[.pointer (some ⟨xc, 0, none⟩), .pointer (some ⟨xo, 0, none⟩), .pointer (some ⟨xw, 0, none⟩)] w fun e w' => e = .returned (.tuple #[]) ∧ TakeIn w w' co cb bg xo xc xw gbase val := by
  have c0 := hxc.c0
  have c1 := hc.c1
  have HXO := hide hxo
  have H := hide h
  have HGE := hide hge
  have n1 : xo ≠ co := fun e => Blk.ne_ hxo h (by decide) e
  clear hxc hxo h hc hge
  go_enter Try.func45, Try.ntmps45
  go_wp2_with fail
  refine (GTake_all HGE.out).mono ?_
  rintro e w1 ⟨tp, rfl, g1, e1, o1, b1⟩
  have G1 := hide g1
  have X1 := hide (HXO.out.only o1 (fun h => h))
  have H1 := hide (H.out.only o1 (fun h => h))
  have O1 := hide o1
  have hl := Blk.lt g1
  clear g1 e1 o1 c0 c1
  go_upto_region 1 with fail
  have oa := (Only.refl S0 w1).alloc (.cells #[.pointer (some ⟨tp, 0, none⟩)] 82)
  have HT := hide (show GBox _ w1.heap.size tp from Blk.new w1 82 #[.pointer (some ⟨tp, 0, none⟩)])
  have G2 := hide (show GopIs _ tp bg (takeOp gbase) from GopAt.only G1.out oa (fun h => h))
  have X2 := hide (X1.out.only oa (fun h => h))
  have H2 := hide (H1.out.only oa (fun h => h))
  have O2 := hide (O1.out.trans oa)
  have hxb : w.heap.size ≤ w1.heap.size := O1.out.size
  have n2 : w1.heap.size ≠ co := by have := Blk.lt H.out; omega
  have n3 : tp ≠ co := by have := Blk.lt H.out; omega
  clear oa
  generalize hxt : w1.heap.size = xt at *
  generalize w1.alloc (.cells #[.pointer (some ⟨tp, 0, none⟩)] 82) = w2 at *
  clear hxt
  have z0 := X2.out.drew.c0
  have z1 := HT.out.drew.c0
  go_region_held3 (fun w' : World => w'.cell? ⟨xo, 0, none⟩ = some (.pointer (some ⟨co, 0, none⟩)) ∧ w'.cell? ⟨xt, 0, none⟩ = some (.pointer (some ⟨tp, 0, none⟩))) (first | with_reducible exact ⟨z0, z1⟩ | with_reducible exact ⟨y0, y1⟩) (first | (go_at_call 31; refine (CDo_gate _ _ H2.out.drew (show GopIs w2.drew tp bg (takeOp gbase) from G2.out) rfl).mono ?_; rintro e w3 ⟨rfl, h3, o3⟩; have H3 := hide h3; have T3 := hide (HT.out.drew.only o3 n2); have y0 := (X2.out.drew.only o3 n1).c0; have y1 := T3.out.c0; have G3 := hide (show GopIs w3 tp bg (takeOp gbase) from GopAt.only (show GopIs w2.drew tp bg (takeOp gbase) from G2.out) o3 n3); have O3 := hide (((O2.out.drew).mono (R := S1 co) fun _ h => h.elim).trans o3); clear h3 o3))
  go_wp2_with fail
  all_goals go_end0
  all_goals exact ⟨rfl, tp, xt, H3.out, G3.out, T3.out, O3.out, b1, hxb⟩
theorem rest2_none {g : Gop} (hxt : GBox w xt gp) (hxo : OBox w xo co) (hg : GopIs w gp bg g) (ho : g.out ≠ 1) (h : CopAt w co cb cur thn out val) :
    Calls Try.prog 46 #[.pointer (some ⟨xt, 0, none⟩), .pointer (some ⟨xo, 0, none⟩), .pointer (some ⟨xc, 0, none⟩), .pointer (some ⟨xw, 0, none⟩)] w fun e w' => e = .returned (.tuple #[]) ∧ CopAt w' co cb cur thn 4 0 ∧ Only (S1 co) w w' := by
  have c0 := hxt.c0
  have c1 := hxo.c0
  have hb : (g.out != 1) = true := by simp [ho]
  have HG := hide hg
  have H := hide h
  clear hxt hxo hg h ho
  go_enter Try.func46, Try.ntmps46
  go_wp2_with fail
  refine (HG.out.outcome).mono ?_
  rintro e w1 ⟨rfl, rfl⟩
  go_wp2_with fail
  refine (CEnd_any 4 0 H.out).mono ?_
  rintro e w1 ⟨rfl, h1, o1⟩
  have H1 := hide (And.intro h1 o1)
  clear h1 o1
  go_wp2_with fail
  refine bodyPost_ret (results_none rfl _ _ _) rfl ?_
  exact ⟨rfl, H1.out⟩
set_option maxHeartbeats 1000000 in
theorem rest2_up {g : Gop} (hxt : GBox w xt gp) (hxo : OBox w xo co) (hxc : CBox w xc cb) (hxw : WBox w xw wk) (hg : GopIs w gp bg g) (ho : g.out = 1) (h : CopAt w co cb cur thn 0 val) (hc : CrewAt w cb bb bg dv) (hbe : BellEnv w bb bm bc bbase bn tc L) (hw0 : 0 ≤ wk) (hw1 : wk < bn) :
    Calls Try.prog 46 #[.pointer (some ⟨xt, 0, none⟩), .pointer (some ⟨xo, 0, none⟩), .pointer (some ⟨xc, 0, none⟩), .pointer (some ⟨xw, 0, none⟩)] w fun e w' => e = .returned (.tuple #[]) ∧ UpIn w w' co cb bb xo xt wk val := by
  have c0 := hxt.c0
  have hb : (g.out != 1) = false := by simp [ho]
  have HXO := hide hxo
  have HXC := hide hxc
  have HXW := hide hxw
  have HC := hide hc
  have HBE := hide hbe
  have HG := hide hg
  have H := hide h
  have hob : bout0 bn wk = 0 := by unfold bout0; rw [if_pos ⟨hw0, hw1⟩]
  have HOB := hide hob
  have n1 : xo ≠ co := fun e => Blk.ne_ hxo h (by decide) e
  have n2 : xc ≠ co := fun e => Blk.ne_ hxc h (by decide) e
  have n3 : xw ≠ co := fun e => Blk.ne_ hxw h (by decide) e
  have n4 : cb ≠ co := fun e => Blk.ne_ hc h (by decide) e
  have b0 := Blk.lt hxo
  have b4 := Blk.lt hxc
  have b5 := Blk.lt hc
  have b6 := Blk.lt hxw
  have Z := hide (And.intro hxo.c0 (And.intro hxc.c0 (And.intro hc.c0 hxw.c0)))
  clear hxt hxo hxc hxw hg h ho hc hbe hob
  go_enter Try.func46, Try.ntmps46
  go_wp2_with fail
  refine (HG.out.outcome).mono ?_
  rintro e w1 ⟨rfl, rfl⟩
  go_upto_region 2 with fail
  go_region_held3 (fun w' : World => w'.cell? ⟨xo, 0, none⟩ = some (.pointer (some ⟨co, 0, none⟩)) ∧ w'.cell? ⟨xc, 0, none⟩ = some (.pointer (some ⟨cb, 0, none⟩)) ∧ w'.cell? ⟨cb, 0, none⟩ = some (.pointer (some ⟨bb, 0, none⟩)) ∧ w'.cell? ⟨xw, 0, none⟩ = some (.int .i64 wk)) (first | with_reducible exact hold4 Z.out b0 b4 b5 b6 (Only.refl S0 w).drew | with_reducible exact hold4 Z.out b0 b4 b5 b6 O2.out | with_reducible exact ⟨y0, y1, y2, y3⟩) (first | (go_at_call 49; refine (BUp_all wk (HBE.out.only0 (Only.refl S0 w).drew)).mono ?_; rintro e w2 ⟨bp, rfl, g1, e1, o1, b1⟩; rw [HOB.out] at g1; have G1 := hide g1; have O2 := hide ((Only.refl S0 w).drew.trans o1); have H2 := hide (H.out.drew.only o1 (fun h => h)); clear g1 e1 o1) | (go_at_call 31; refine (CDo_bell _ _ H2.out G1.out rfl).mono ?_; rintro e w3 ⟨rfl, h3, o3⟩; have H3 := hide h3; have O4 := hide ((O2.out.mono (R := S1 co) fun _ h => h.elim).trans o3); have y0 := (HXO.out.only O4.out n1).c0; have y1 := (HXC.out.only O4.out n2).c0; have y2 := (HC.out.only O4.out n4).c0; have y3 := (HXW.out.only O4.out n3).c0; have G3 := hide (show BopIs w3 bp bb ⟨1, wk, 0⟩ from BopAt.only G1.out o3 (fun e => by have := Blk.lt H.out; have b1' : w.heap.size ≤ bp := b1; unfold S1 at e; omega)); clear h3 o3))
  go_wp2_with fail
  all_goals go_end0
  all_goals exact ⟨rfl, bp, H3.out, G3.out, O4.out, b1⟩
end
end Go.Proofs.Ytdoaipjdldknaaa
/-
  A crew's operation: what it is at, and a step as one function of the cells and of that (plain lists; no program).
-/
namespace Go.Proofs.Ytdoaipjdldknaaa
open Go.RowKit
set_option linter.unusedVariables false

/-- Where a crew lies. -/
structure CLay where
  base : Nat
  n : Nat
  slots : Nat
  actors : Nat
def CLay.gb (F : CLay) : Nat := F.base + F.n
def CLay.db (F : CLay) (i : Nat) : Nat := F.base + F.n + (2 + 2 * F.actors) + i * (2 + F.slots)
/-- What a Find asks, one behind the other. -/
inductive Src
  | pop (w : Nat)
  | take
  | steal (v : Nat)
/-- A part of a Find. -/
inductive SOp
  | dq (i : Nat) (o : Dop)
  | gt (o : Gop)
def SOp.out : SOp → Int
  | .dq _ o => o.out
  | .gt o => o.out
def SOp.value : SOp → Int
  | .dq _ o => dvalue o.v o.out
  | .gt o => gvalue o.ahead o.v o.out
/-- An operation of a crew. -/
inductive CSt
  | over (out v : Int)
  | ring (b : Bop)
  | put (v : Int) (g : Gop)
  | push (i : Nat) (v : Int) (d : Dop)
  | src (s : SOp) (rest : List Src)
  | sleep (i : Nat) (b : Bop)
  | take (i : Nat) (g : Gop)
  | up (i : Nat) (v : Int) (b : Bop)
  | poll (b : Bop)
def ringB : Bop := ⟨3, 0, 0⟩
def Src.begin_ (F : CLay) : Src → SOp
  | .pop w => .dq w popOp
  | .take => .gt (takeOp F.gb)
  | .steal v => .dq v stealOp
def ctry (F : CLay) : List Src → CSt
  | [] => .over 4 0
  | s :: r => .src (s.begin_ F) r
def sstep (F : CLay) (L : List Int) : SOp → List Int × SOp
  | .dq i o => ((dstep (F.db i) F.slots L o).1, .dq i (dstep (F.db i) F.slots L o).2)
  | .gt o => ((gstep F.gb F.actors L o).1, .gt (gstep F.gb F.actors L o).2)
def cstep (F : CLay) (L : List Int) : CSt → List Int × CSt
  | .over out v => (L, .over out v)
  | .ring b => ((bstep F.base F.n L b).1, if (bstep F.base F.n L b).2.out = 0 then .ring (bstep F.base F.n L b).2 else .over 1 0)
  | .put v g => ((gstep F.gb F.actors L g).1, if (gstep F.gb F.actors L g).2.out = 0 then .put v (gstep F.gb F.actors L g).2 else if (gstep F.gb F.actors L g).2.out = 2 then .put v (putOp F.gb v) else .ring ringB)
  | .push i v d => ((dstep (F.db i) F.slots L d).1, if (dstep (F.db i) F.slots L d).2.out = 0 then .push i v (dstep (F.db i) F.slots L d).2 else if (dstep (F.db i) F.slots L d).2.out = 2 then .put v (putOp F.gb v) else .ring ringB)
  | .src s rest => ((sstep F L s).1, if (sstep F L s).2.out = 0 then .src (sstep F L s).2 rest else if (sstep F L s).2.out = 1 then .over 1 (sstep F L s).2.value else ctry F rest)
  | .sleep i b => ((bstep F.base F.n L b).1, if (bstep F.base F.n L b).2.out = 0 then .sleep i (bstep F.base F.n L b).2 else .take i (takeOp F.gb))
  | .take i g => ((gstep F.gb F.actors L g).1, if (gstep F.gb F.actors L g).2.out = 0 then .take i (gstep F.gb F.actors L g).2 else if (gstep F.gb F.actors L g).2.out = 1 then .up i (gvalue (gstep F.gb F.actors L g).2.ahead (gstep F.gb F.actors L g).2.v 1) ⟨1, i, 0⟩ else .over 4 0)
  | .up i v b => ((bstep F.base F.n L b).1, if (bstep F.base F.n L b).2.out = 0 then .up i v (bstep F.base F.n L b).2 else .over 1 v)
  | .poll b => ((bstep F.base F.n L b).1, if (bstep F.base F.n L b).2.out = 0 then .poll (bstep F.base F.n L b).2 else .over (bstep F.base F.n L b).2.out 0)
def CSt.out : CSt → Int
  | .over out _ => out
  | _ => 0
def CSt.value : CSt → Int
  | .over _ v => v
  | _ => 0
/-- What an operation begins as. -/
def offerC (F : CLay) (w v : Int) : CSt := if 0 ≤ w ∧ w < F.n then .push w.toNat v (pushOp v) else .put v (putOp F.gb v)
def findC (F : CLay) (w : Int) (order : List Nat) : CSt := if 0 ≤ w ∧ w < F.n then .src (.dq w.toNat popOp) (.take :: order.map .steal) else .over 4 0
def restC (F : CLay) (w : Int) : CSt := if 0 ≤ w ∧ w < F.n then .sleep w.toNat ⟨0, w, 0⟩ else .over 4 0
def pollC (F : CLay) (w : Int) : CSt := if 0 ≤ w ∧ w < F.n then .poll ⟨2, w, 0⟩ else .over 4 0
end Go.Proofs.Ytdoaipjdldknaaa
/-
  Package crew: the sources of a Find: each begins an operation when it is its turn.
-/
namespace Go.Proofs.Ytdoaipjdldknaaa
open Go.RowKit
set_option linter.unusedVariables false
def popK (xc xw : Nat) : Value := .func (.func 36) #[] #[.pointer (some ⟨xc, 0, none⟩), .pointer (some ⟨xw, 0, none⟩)]
def takeK (xc : Nat) : Value := .func (.func 38) #[] #[.pointer (some ⟨xc, 0, none⟩)]
def stealK (xc xv : Nat) : Value := .func (.func 41) #[] #[.pointer (some ⟨xc, 0, none⟩), .pointer (some ⟨xv, 0, none⟩)]
/-- The crew's deques, as its slice has them. -/
structure DqsAt (w : World) (dv : Value) (n : Nat) (bd : Nat → Nat) : Prop where
  ex : ∃ g cap cs, dv = .slice (some ⟨g, 0, none⟩) n cap ∧ Blk w g 60 cs ∧ ∀ i, i < n → w.cell? ⟨g, i, none⟩ = some (.pointer (some ⟨bd i, 0, none⟩))
section
variable {w w' : World} {co cb bb bg bm bc xc xw : Nat} {dv cur thn : Value} {out val : Int} {slots dbase gbase ga tc : Int} {L : List Int} {n i : Nat} {bd : Nat → Nat}
theorem DqsAt.only {S : Nat → Prop} (h : DqsAt w dv n bd) (ho : Only S w w') (hs : ∀ g cs, Blk w g 60 cs → ¬ S g) : DqsAt w' dv n bd := by
  obtain ⟨g, cap, cs, e, hb, hc⟩ := h.ex
  exact ⟨g, cap, cs, e, hb.only ho (hs g cs hb), fun i hi => (ho.cell (p := ⟨g, i, none⟩) hb.lt (hs g cs hb)).trans (hc i hi)⟩
theorem DqsAt.only0 (h : DqsAt w dv n bd) (ho : Only S0 w w') : DqsAt w' dv n bd := h.only ho fun _ _ _ h => h
set_option maxHeartbeats 1000000 in
theorem find1_any (hxc : CBox w xc cb) (hxw : WBox w xw i) (hc : CrewAt w cb bb bg dv) (hd : DqsAt w dv n bd) (hi : i < n) (hn : n ≤ 1000) (he : DeqEnv w (bd i) bm bc dbase slots tc L) :
    Calls Try.prog 36 #[.pointer (some ⟨xc, 0, none⟩), .pointer (some ⟨xw, 0, none⟩)] w fun e w' => ∃ p, e = .returned (.iface 73 (.pointer (some ⟨p, 0, none⟩))) ∧ DopIs w' p (bd i) popOp ∧ Only S0 w w' ∧ w.heap.size ≤ p := by
  obtain ⟨g, cap, cs, rfl, hb, hcell⟩ := hd.ex
  have Z := hide (And.intro hxc.c0 (And.intro hc.c2 (And.intro hxw.c0 (hcell i hi))))
  have b0 := Blk.lt hxc
  have b4 := Blk.lt hc
  have b5 := Blk.lt hxw
  have b6 := Blk.lt hb
  have HE := hide he
  have hi0 : (0 : Int) ≤ (i : Int) := by omega
  have hi1 : (i : Int) < n := by omega
  clear hxc hxw hc hd hb hcell he
  go_enter Try.func36, Try.ntmps36
  go_upto_region 1 with fail
  go_region_held3 (fun w' : World => w'.cell? ⟨xc, 0, none⟩ = some (.pointer (some ⟨cb, 0, none⟩)) ∧ w'.cell? ⟨cb, 2, none⟩ = some (.slice (some ⟨g, 0, none⟩) n cap) ∧ w'.cell? ⟨xw, 0, none⟩ = some (.int .i64 i) ∧ w'.cell? ⟨g, i, none⟩ = some (.pointer (some ⟨bd i, 0, none⟩))) (first | with_reducible exact hold4 Z.out b0 b4 b5 b6 (Only.refl S0 w).drew | with_reducible exact hold4 Z.out b0 b4 b5 b6 O2.out) (first | (go_at_call 37; refine (DPop_all (HE.out.only0 (Only.refl S0 w).drew)).mono ?_; rintro e w2 ⟨p, rfl, g1, e1, o1, b1⟩; have G1 := hide g1; have O2 := hide ((Only.refl S0 w).drew.trans o1); clear g1 e1 o1))
  go_wp2_with fail
  all_goals go_ret
  all_goals exact ⟨p, rfl, G1.out, O2.out, b1⟩
set_option maxHeartbeats 1000000 in
theorem find3_any (hxc : CBox w xc cb) (hxw : WBox w xw i) (hc : CrewAt w cb bb bg dv) (hd : DqsAt w dv n bd) (hi : i < n) (hn : n ≤ 1000) (he : DeqEnv w (bd i) bm bc dbase slots tc L) :
    Calls Try.prog 41 #[.pointer (some ⟨xc, 0, none⟩), .pointer (some ⟨xw, 0, none⟩)] w fun e w' => ∃ p, e = .returned (.iface 73 (.pointer (some ⟨p, 0, none⟩))) ∧ DopIs w' p (bd i) stealOp ∧ Only S0 w w' ∧ w.heap.size ≤ p := by
  obtain ⟨g, cap, cs, rfl, hb, hcell⟩ := hd.ex
  have Z := hide (And.intro hxc.c0 (And.intro hc.c2 (And.intro hxw.c0 (hcell i hi))))
  have b0 := Blk.lt hxc
  have b4 := Blk.lt hc
  have b5 := Blk.lt hxw
  have b6 := Blk.lt hb
  have HE := hide he
  have hi0 : (0 : Int) ≤ (i : Int) := by omega
  have hi1 : (i : Int) < n := by omega
  clear hxc hxw hc hd hb hcell he
  go_enter Try.func41, Try.ntmps41
  go_upto_region 1 with fail
  go_region_held3 (fun w' : World => w'.cell? ⟨xc, 0, none⟩ = some (.pointer (some ⟨cb, 0, none⟩)) ∧ w'.cell? ⟨cb, 2, none⟩ = some (.slice (some ⟨g, 0, none⟩) n cap) ∧ w'.cell? ⟨xw, 0, none⟩ = some (.int .i64 i) ∧ w'.cell? ⟨g, i, none⟩ = some (.pointer (some ⟨bd i, 0, none⟩))) (first | with_reducible exact hold4 Z.out b0 b4 b5 b6 (Only.refl S0 w).drew | with_reducible exact hold4 Z.out b0 b4 b5 b6 O2.out) (first | (go_at_call 42; refine (DSteal_all (HE.out.only0 (Only.refl S0 w).drew)).mono ?_; rintro e w2 ⟨p, rfl, g1, e1, o1, b1⟩; have G1 := hide g1; have O2 := hide ((Only.refl S0 w).drew.trans o1); clear g1 e1 o1))
  go_wp2_with fail
  all_goals go_ret
  all_goals exact ⟨p, rfl, G1.out, O2.out, b1⟩
theorem find2_any (hxc : CBox w xc cb) (hc : CrewAt w cb bb bg dv) (he : GateEnv w bg bm bc gbase ga tc L) :
    Calls Try.prog 38 #[.pointer (some ⟨xc, 0, none⟩)] w fun e w' => ∃ p, e = .returned (.iface 82 (.pointer (some ⟨p, 0, none⟩))) ∧ GopIs w' p bg (takeOp gbase) ∧ Only S0 w w' ∧ w.heap.size ≤ p := by
  have c0 := hxc.c0
  have c1 := hc.c1
  have HE := hide he
  clear hxc hc he
  go_enter Try.func38, Try.ntmps38
  go_wp2_with fail
  refine (GTake_all HE.out).mono ?_
  rintro e w1 ⟨p, rfl, g1, e1, o1, b1⟩
  have G1 := hide g1
  have O1 := hide o1
  clear g1 e1 o1
  go_wp2_with fail
  go_ret
  exact ⟨p, rfl, G1.out, O1.out, b1⟩
/-- A source's closure. -/
def SrcIs (w : World) (cb : Nat) (v : Value) : Src → Prop
  | .pop i => ∃ xc xw, v = popK xc xw ∧ CBox w xc cb ∧ WBox w xw i
  | .take => ∃ xc, v = takeK xc ∧ CBox w xc cb
  | .steal i => ∃ xc xv, v = stealK xc xv ∧ CBox w xc cb ∧ WBox w xv i
/-- A slice of sources. -/
structure SrcsAt (w : World) (cb : Nat) (sv : Value) (l : List Src) : Prop where
  ex : ∃ a cap, sv = .slice a l.length cap ∧ l.length ≤ cap ∧ (l ≠ [] → ∃ g off cs, a = some ⟨g, off, none⟩ ∧ Blk w g 81 cs ∧ ∀ i s, l[i]? = some s → ∃ v, w.cell? ⟨g, off + i, none⟩ = some v ∧ SrcIs w cb v s)
theorem SrcIs.only {S : Nat → Prop} {v : Value} {s : Src} (h : SrcIs w cb v s) (ho : Only S w w') (h1 : ∀ x, CBox w x cb → ¬ S x) (h2 : ∀ x m, WBox w x m → ¬ S x) : SrcIs w' cb v s := by
  cases s with
  | pop i => obtain ⟨xc, xw, e, a, b⟩ := h; exact ⟨xc, xw, e, a.only ho (h1 _ a), b.only ho (h2 _ _ b)⟩
  | take => obtain ⟨xc, e, a⟩ := h; exact ⟨xc, e, a.only ho (h1 _ a)⟩
  | steal i => obtain ⟨xc, xw, e, a, b⟩ := h; exact ⟨xc, xw, e, a.only ho (h1 _ a), b.only ho (h2 _ _ b)⟩
theorem SrcsAt.only {S : Nat → Prop} {sv : Value} {l : List Src} (h : SrcsAt w cb sv l) (ho : Only S w w') (h1 : ∀ x, CBox w x cb → ¬ S x) (h2 : ∀ x m, WBox w x m → ¬ S x) (h3 : ∀ g cs, Blk w g 81 cs → ¬ S g) : SrcsAt w' cb sv l := by
  obtain ⟨a, cap, e, hcap, hc⟩ := h.ex
  refine ⟨a, cap, e, hcap, fun hne => ?_⟩
  obtain ⟨g, off, cs, rfl, hb, hx⟩ := hc hne
  refine ⟨g, off, cs, rfl, hb.only ho (h3 g cs hb), fun i s hs => ?_⟩
  obtain ⟨v, hv, hsv⟩ := hx i s hs
  exact ⟨v, (ho.cell (p := ⟨g, off + i, none⟩) hb.lt (h3 g cs hb)).trans hv, hsv.only ho h1 h2⟩
theorem SrcsAt.only0 {sv : Value} {l : List Src} (h : SrcsAt w cb sv l) (ho : Only S0 w w') : SrcsAt w' cb sv l := h.only ho (fun _ _ h => h) (fun _ _ _ h => h) (fun _ _ _ h => h)
end
end Go.Proofs.Ytdoaipjdldknaaa
