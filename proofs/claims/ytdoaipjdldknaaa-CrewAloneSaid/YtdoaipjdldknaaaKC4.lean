/-
  Package crew: enter and its closure.
-/
import Derived.Test.YtdoaipjdldknaaaKC3
namespace Go.Proofs.Ytdoaipjdldknaaa
open Go.RowKit
set_option linter.unusedVariables false

def GBox (w : World) (x b : Nat) : Prop := Blk w x 82 #[.pointer (some ⟨b, 0, none⟩)]
def DBox (w : World) (x b : Nat) : Prop := Blk w x 73 #[.pointer (some ⟨b, 0, none⟩)]
def BBox (w : World) (x b : Nat) : Prop := Blk w x 87 #[.pointer (some ⟨b, 0, none⟩)]
def CBox (w : World) (x b : Nat) : Prop := Blk w x 27 #[.pointer (some ⟨b, 0, none⟩)]
def VBox (w : World) (x : Nat) (v : Int) : Prop := Blk w x 31 #[.int .u64 v]
def WBox (w : World) (x : Nat) (v : Int) : Prop := Blk w x 3 #[.int .i64 v]
section
variable {w w' : World} {x b : Nat} {v : Int} {S : Nat → Prop}
theorem GBox.c0 (h : GBox w x b) : w.cell? ⟨x, 0, none⟩ = some (.pointer (some ⟨b, 0, none⟩)) := Blk.cellv h rfl
theorem DBox.c0 (h : DBox w x b) : w.cell? ⟨x, 0, none⟩ = some (.pointer (some ⟨b, 0, none⟩)) := Blk.cellv h rfl
theorem BBox.c0 (h : BBox w x b) : w.cell? ⟨x, 0, none⟩ = some (.pointer (some ⟨b, 0, none⟩)) := Blk.cellv h rfl
theorem CBox.c0 (h : CBox w x b) : w.cell? ⟨x, 0, none⟩ = some (.pointer (some ⟨b, 0, none⟩)) := Blk.cellv h rfl
theorem VBox.c0 (h : VBox w x v) : w.cell? ⟨x, 0, none⟩ = some (.int .u64 v) := Blk.cellv h rfl
theorem WBox.c0 (h : WBox w x v) : w.cell? ⟨x, 0, none⟩ = some (.int .i64 v) := Blk.cellv h rfl
theorem GBox.only (h : GBox w x b) (ho : Only S w w') (hs : ¬ S x) : GBox w' x b := Blk.only h ho hs
theorem DBox.only (h : DBox w x b) (ho : Only S w w') (hs : ¬ S x) : DBox w' x b := Blk.only h ho hs
theorem BBox.only (h : BBox w x b) (ho : Only S w w') (hs : ¬ S x) : BBox w' x b := Blk.only h ho hs
theorem CBox.only (h : CBox w x b) (ho : Only S w w') (hs : ¬ S x) : CBox w' x b := Blk.only h ho hs
theorem VBox.only (h : VBox w x v) (ho : Only S w w') (hs : ¬ S x) : VBox w' x v := Blk.only h ho hs
theorem WBox.only (h : WBox w x v) (ho : Only S w w') (hs : ¬ S x) : WBox w' x v := Blk.only h ho hs
theorem GBox.drew (h : GBox w x b) : GBox w.drew x b := h
theorem DBox.drew (h : DBox w x b) : DBox w.drew x b := h
theorem BBox.drew (h : BBox w x b) : BBox w.drew x b := h
theorem CBox.drew (h : CBox w x b) : CBox w.drew x b := h
theorem VBox.drew (h : VBox w x v) : VBox w.drew x v := h
theorem WBox.drew (h : WBox w x v) : WBox w.drew x v := h
end
theorem hold4 {w w' : World} {a b c d : Nat} {i j k l : Nat} {va vb vc vd : Option Value} (h : w.cell? ⟨a, i, none⟩ = va ∧ w.cell? ⟨b, j, none⟩ = vb ∧ w.cell? ⟨c, k, none⟩ = vc ∧ w.cell? ⟨d, l, none⟩ = vd) (ha : a < w.heap.size) (hb : b < w.heap.size) (hc : c < w.heap.size) (hd : d < w.heap.size) (ho : Only S0 w w') :
    w'.cell? ⟨a, i, none⟩ = va ∧ w'.cell? ⟨b, j, none⟩ = vb ∧ w'.cell? ⟨c, k, none⟩ = vc ∧ w'.cell? ⟨d, l, none⟩ = vd :=
  ⟨(ho.cell (p := ⟨a, i, none⟩) ha (fun h => h)).trans h.1, (ho.cell (p := ⟨b, j, none⟩) hb (fun h => h)).trans h.2.1, (ho.cell (p := ⟨c, k, none⟩) hc (fun h => h)).trans h.2.2.1, (ho.cell (p := ⟨d, l, none⟩) hd (fun h => h)).trans h.2.2.2⟩
section
variable {w : World} {co cb bb bg bm bc : Nat} {dv cur thn : Value} {out val : Int} {base n tc : Int} {L : List Int}
/-- What enter leaves. -/
def Entered (w w' : World) (co cb bg : Nat) (base : Int) (v val : Int) : Prop := ∃ gp xp xo xv, CopAt w' co cb (.iface 82 (.pointer (some ⟨gp, 0, none⟩))) (enterK xp xo xv) 0 val ∧ GopIs w' gp bg (putOp base v) ∧ GBox w' xp gp ∧ OBox w' xo co ∧ VBox w' xv v ∧ Only (S1 co) w w' ∧
  w.heap.size ≤ gp ∧ w.heap.size ≤ xp ∧ w.heap.size ≤ xo ∧ w.heap.size ≤ xv
set_option maxRecDepth 100000 in
set_option maxHeartbeats 1000000 in
theorem enter_any (v : Int) (h : CopAt w co cb cur thn 0 val) (hc : CrewAt w cb bb bg dv) (he : GateEnv w bg bm bc base n tc L) : Calls Try.prog 29 #[.pointer (some ⟨co, 0, none⟩), .int .u64 v] w fun e w' =>
    e = .returned (.tuple #[]) ∧ Entered w w' co cb bg base v val := by
  have H := hide h
  have HC := hide hc
  have HE := hide he
  clear h hc he
  go_enter Try.func29, Try.ntmps29
  go_upto_region 1 with fail
  have o1 := ((Only.refl S0 w).alloc (.cells #[.pointer (some ⟨co, 0, none⟩)] 30)).alloc (.cells #[.int .u64 v] 31)
  have HX := hide (show OBox _ w.heap.size co from (Blk.new w 30 #[.pointer (some ⟨co, 0, none⟩)]).alloc (.cells #[.int .u64 v] 31))
  have hv0 := Blk.new (w.alloc (.cells #[.pointer (some ⟨co, 0, none⟩)] 30)) 31 #[.int .u64 v]
  have HV := hide (show VBox _ (w.heap.size + 1) v from by simpa [VBox] using hv0)
  have H1 := hide (H.out.only o1 (fun h => h))
  have HC1 := hide (HC.out.only o1 (fun h => h))
  have HE1 := hide (HE.out.only0 o1)
  have HO1 := hide o1
  clear o1 hv0
  have hxo : w.heap.size ≠ co := by have := Blk.lt H.out; omega
  have hxv : w.heap.size + 1 ≠ co := by have := Blk.lt H.out; omega
  generalize (w.alloc (.cells #[.pointer (some ⟨co, 0, none⟩)] 30)).alloc (.cells #[.int .u64 v] 31) = w1 at *
  have hb1 := Blk.lt HV.out
  have hb2 := Blk.lt HX.out
  generalize hxo' : w.heap.size = xo at *
  generalize hxv' : xo + 1 = xv at *
  have HXO := hide hxo'
  have HXV := hide hxv'
  clear hxo' hxv'
  have hcc : cb ≠ co := fun e => Blk.ne_ HC1.out H1.out (by decide) e
  go_cut [4] (fun v4 wx => ∃ gp xp, v4 = .pointer (some ⟨xp, 0, none⟩) ∧ GopIs wx gp bg (putOp base v) ∧ GBox wx xp gp ∧ Only S0 w1 wx ∧ w1.heap.size ≤ gp ∧ w1.heap.size ≤ xp)
  case first =>
    have Z := hide (And.intro HX.out.c0 (And.intro H1.out.c4 (And.intro HC1.out.c1 HV.out.c0)))
    have b0 := Blk.lt HX.out
    have b4 := Blk.lt H1.out
    have b5 := Blk.lt HC1.out
    have b6 := Blk.lt HV.out
    have hoA : Only S0 w1 ((w1.alloc (.cells #[.pointer none] 82)).drew) := ((Only.refl S0 w1).alloc _).drew
    have hbA : Blk ((w1.alloc (.cells #[.pointer none] 82)).drew) w1.heap.size 82 #[.pointer none] := (Blk.new w1 _ _).drew
    have HOA := hide hoA
    have HBA := hide hbA
    clear hoA hbA
    go_region_held3 (fun w' : World => w'.cell? ⟨xo, 0, none⟩ = some (.pointer (some ⟨co, 0, none⟩)) ∧ w'.cell? ⟨co, 4, none⟩ = some (.pointer (some ⟨cb, 0, none⟩)) ∧ w'.cell? ⟨cb, 1, none⟩ = some (.pointer (some ⟨bg, 0, none⟩)) ∧ w'.cell? ⟨xv, 0, none⟩ = some (.int .u64 v)) (first | with_reducible exact hold4 Z.out b0 b4 b5 b6 (Only.refl S0 w1).drew | with_reducible exact hold4 Z.out b0 b4 b5 b6 ((Only.refl S0 w1).alloc _).drew | with_reducible exact hold4 Z.out b0 b4 b5 b6 O1.out | with_reducible exact hold4 Z.out b0 b4 b5 b6 (O1.out.alloc _) | with_reducible exact hold4 Z.out b0 b4 b5 b6 (O1.out.setNew 0 (Nat.le_refl _) _) | with_reducible exact hold4 Z.out b0 b4 b5 b6 ((O1.out.alloc _).setNew 0 O1.out.size _)) (first | (go_at_call 56; (with_reducible refine (GPut_all (HE1.out.only0 (Only.refl S0 w1).drew) v).mono ?_); rintro e w2 ⟨gp, rfl, g1, e1, o1, b1⟩; have O1 := hide ((Only.refl S0 w1).drew.trans o1); have G1 := hide g1; have WAY : gp = gp := rfl; clear g1 e1 o1) | (go_at_call 56; (with_reducible refine (GPut_all (HE1.out.only0 HOA.out) v).mono ?_); rintro e w2 ⟨gp, rfl, g1, e1, o1, b1⟩; have O1 := hide (HOA.out.trans o1); have G1 := hide g1; have BX := hide (HBA.out.only o1 (fun h => h)); have q0 : w2.cell? ⟨w1.heap.size, 0, none⟩ = some (.pointer none) := Blk.cellv BX.out rfl; have q1 := BX.out.frozen 0; clear g1 e1 o1))
    all_goals (go_wp2_with fail; go_meet)
    all_goals first
      | exact ⟨gp, w2.heap.size, rfl, GopAt.only G1.out ((Only.refl S0 w2).alloc _) (fun h => h), Blk.new w2 _ _, O1.out.alloc _, b1, O1.out.size⟩
      | (have b1' : w1.heap.size + 1 ≤ gp := by simpa using b1
         exact ⟨gp, w1.heap.size, rfl, GopAt.only G1.out (only_set w2 w1.heap.size 0 _) (fun e => by unfold S1 at e; omega), by simpa [GBox] using BX.out.set_ 0 (.pointer (some ⟨gp, 0, none⟩)), O1.out.setNew 0 (Nat.le_refl _) _, by omega, Nat.le_refl _⟩)
  case rest =>
    obtain ⟨gp, xp, rfl, hg, hxp, ho, hb3, hb4⟩ := hcut
    have HG := hide hg
    have HP := hide hxp
    have HX2 := hide (HX.out.only ho (fun h => h))
    have HV2 := hide (HV.out.only ho (fun h => h))
    have H2 := hide (H1.out.only ho (fun h => h))
    have HO2 := hide (HO1.out.trans ho)
    have hgo : gp ≠ co := by have := Blk.lt H1.out; omega
    have hpo : xp ≠ co := by have := Blk.lt H1.out; omega
    have z0 := HX2.out.drew.c0
    have z1 := HP.out.drew.c0
    clear hg hxp ho
    go_upto_region 2 with fail
    go_region_held3 (fun w' : World => w'.cell? ⟨xo, 0, none⟩ = some (.pointer (some ⟨co, 0, none⟩)) ∧ w'.cell? ⟨xp, 0, none⟩ = some (.pointer (some ⟨gp, 0, none⟩))) (first | with_reducible exact ⟨z0, z1⟩ | with_reducible exact ⟨y0, y1⟩) (first | (go_at_call 31; refine (CDo_gate _ _ H2.out.drew (show GopIs wc.drew gp bg (putOp base v) from HG.out) rfl).mono ?_; rintro e w3 ⟨rfl, h3, o3⟩; have H3 := hide h3; have X3 := hide (HX2.out.drew.only o3 hxo); have P3 := hide (HP.out.drew.only o3 hpo); have V3 := hide (HV2.out.drew.only o3 hxv); have G3 := hide (show GopIs w3 gp bg (putOp base v) from GopAt.only (show GopIs wc.drew gp bg (putOp base v) from HG.out) o3 hgo); have y0 := X3.out.c0; have y1 := P3.out.c0; have O3 := hide (((HO2.out.drew).mono (R := S1 co) fun _ h => h.elim).trans o3); clear h3 o3))
    go_wp2_with fail
    all_goals go_end0
    all_goals exact ⟨rfl, gp, xp, xo, xv, H3.out, G3.out, P3.out, X3.out, V3.out, O3.out, by have := HO1.out.size; have := HXO.out; omega, by have := HO1.out.size; have := HXO.out; omega, by have := HXO.out; omega, by have := HXO.out; have := HXV.out; omega⟩
end
end Go.Proofs.Ytdoaipjdldknaaa
