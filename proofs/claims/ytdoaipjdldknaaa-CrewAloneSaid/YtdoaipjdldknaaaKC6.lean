/-
  Package crew: the closures of a rest: a take behind the sleep; the bell's mark taken back, or the end.
-/
import Derived.Test.YtdoaipjdldknaaaKC5
namespace Go.Proofs.Ytdoaipjdldknaaa
open Go.RowKit
set_option linter.unusedVariables false
def rest2K (xt xo xc xw : Nat) : Value := .func (.func 46) #[] #[.pointer (some ⟨xt, 0, none⟩), .pointer (some ⟨xo, 0, none⟩), .pointer (some ⟨xc, 0, none⟩), .pointer (some ⟨xw, 0, none⟩)]
def rest3K (xo xt : Nat) : Value := .func (.func 50) #[] #[.pointer (some ⟨xo, 0, none⟩), .pointer (some ⟨xt, 0, none⟩)]
section
variable {w : World} {co cb bb bg bm bc xt xo xc xw gp : Nat} {dv cur thn : Value} {out val wk : Int} {bbase bn gbase ga tc : Int} {L : List Int}
def TakeIn (w w' : World) (co cb bg xo xc xw : Nat) (gbase val : Int) : Prop := ∃ tp xt, CopAt w' co cb (.iface 82 (.pointer (some ⟨tp, 0, none⟩))) (rest2K xt xo xc xw) 0 val ∧ GopIs w' tp bg (takeOp gbase) ∧ GBox w' xt tp ∧ Only (S1 co) w w' ∧ w.heap.size ≤ tp ∧ w.heap.size ≤ xt
def UpIn (w w' : World) (co cb bb xo xt : Nat) (wk val : Int) : Prop := ∃ bp, CopAt w' co cb (.iface 87 (.pointer (some ⟨bp, 0, none⟩))) (rest3K xo xt) 0 val ∧ BopIs w' bp bb ⟨1, wk, 0⟩ ∧ Only (S1 co) w w' ∧ w.heap.size ≤ bp
set_option maxHeartbeats 1000000 in
theorem rest1_any (hxc : CBox w xc cb) (hxo : OBox w xo co) (h : CopAt w co cb cur thn 0 val) (hc : CrewAt w cb bb bg dv) (hge : GateEnv w bg bm bc gbase ga tc L) :
    Calls Try.prog 45 #[.pointer (some ⟨xc, 0, none⟩), .pointer (some ⟨xo, 0, none⟩), .pointer (some ⟨xw, 0, none⟩)] w fun e w' => e = .returned (.tuple #[]) ∧ TakeIn w w' co cb bg xo xc xw gbase val := by
  have c0 := hxc.c0
  have c1 := hc.c1
  have HXO := hide hxo
  have H := hide h
  have HGE := hide hge
  have n1 : xo ≠ co := fun e => Blk.ne_ hxo h (by decide) e
  clear hxc hxo h hc hge
  go_enter Try.func45, Try.ntmps45
  go_wp2_with fail
  refine (GTake_all HGE.out).mono ?_
  rintro e w1 ⟨tp, rfl, g1, e1, o1, b1⟩
  have G1 := hide g1
  have X1 := hide (HXO.out.only o1 (fun h => h))
  have H1 := hide (H.out.only o1 (fun h => h))
  have O1 := hide o1
  have hl := Blk.lt g1
  clear g1 e1 o1 c0 c1
  go_upto_region 1 with fail
  have oa := (Only.refl S0 w1).alloc (.cells #[.pointer (some ⟨tp, 0, none⟩)] 82)
  have HT := hide (show GBox _ w1.heap.size tp from Blk.new w1 82 #[.pointer (some ⟨tp, 0, none⟩)])
  have G2 := hide (show GopIs _ tp bg (takeOp gbase) from GopAt.only G1.out oa (fun h => h))
  have X2 := hide (X1.out.only oa (fun h => h))
  have H2 := hide (H1.out.only oa (fun h => h))
  have O2 := hide (O1.out.trans oa)
  have hxb : w.heap.size ≤ w1.heap.size := O1.out.size
  have n2 : w1.heap.size ≠ co := by have := Blk.lt H.out; omega
  have n3 : tp ≠ co := by have := Blk.lt H.out; omega
  clear oa
  generalize hxt : w1.heap.size = xt at *
  generalize w1.alloc (.cells #[.pointer (some ⟨tp, 0, none⟩)] 82) = w2 at *
  clear hxt
  have z0 := X2.out.drew.c0
  have z1 := HT.out.drew.c0
  go_region_held3 (fun w' : World => w'.cell? ⟨xo, 0, none⟩ = some (.pointer (some ⟨co, 0, none⟩)) ∧ w'.cell? ⟨xt, 0, none⟩ = some (.pointer (some ⟨tp, 0, none⟩))) (first | with_reducible exact ⟨z0, z1⟩ | with_reducible exact ⟨y0, y1⟩) (first | (go_at_call 31; refine (CDo_gate _ _ H2.out.drew (show GopIs w2.drew tp bg (takeOp gbase) from G2.out) rfl).mono ?_; rintro e w3 ⟨rfl, h3, o3⟩; have H3 := hide h3; have T3 := hide (HT.out.drew.only o3 n2); have y0 := (X2.out.drew.only o3 n1).c0; have y1 := T3.out.c0; have G3 := hide (show GopIs w3 tp bg (takeOp gbase) from GopAt.only (show GopIs w2.drew tp bg (takeOp gbase) from G2.out) o3 n3); have O3 := hide (((O2.out.drew).mono (R := S1 co) fun _ h => h.elim).trans o3); clear h3 o3))
  go_wp2_with fail
  all_goals go_end0
  all_goals exact ⟨rfl, tp, xt, H3.out, G3.out, T3.out, O3.out, b1, hxb⟩
theorem rest2_none {g : Gop} (hxt : GBox w xt gp) (hxo : OBox w xo co) (hg : GopIs w gp bg g) (ho : g.out ≠ 1) (h : CopAt w co cb cur thn out val) :
    Calls Try.prog 46 #[.pointer (some ⟨xt, 0, none⟩), .pointer (some ⟨xo, 0, none⟩), .pointer (some ⟨xc, 0, none⟩), .pointer (some ⟨xw, 0, none⟩)] w fun e w' => e = .returned (.tuple #[]) ∧ CopAt w' co cb cur thn 4 0 ∧ Only (S1 co) w w' := by
  have c0 := hxt.c0
  have c1 := hxo.c0
  have hb : (g.out != 1) = true := by simp [ho]
  have HG := hide hg
  have H := hide h
  clear hxt hxo hg h ho
  go_enter Try.func46, Try.ntmps46
  go_wp2_with fail
  refine (HG.out.outcome).mono ?_
  rintro e w1 ⟨rfl, rfl⟩
  go_wp2_with fail
  refine (CEnd_any 4 0 H.out).mono ?_
  rintro e w1 ⟨rfl, h1, o1⟩
  have H1 := hide (And.intro h1 o1)
  clear h1 o1
  go_wp2_with fail
  refine bodyPost_ret (results_none rfl _ _ _) rfl ?_
  exact ⟨rfl, H1.out⟩
set_option maxHeartbeats 1000000 in
theorem rest2_up {g : Gop} (hxt : GBox w xt gp) (hxo : OBox w xo co) (hxc : CBox w xc cb) (hxw : WBox w xw wk) (hg : GopIs w gp bg g) (ho : g.out = 1) (h : CopAt w co cb cur thn 0 val) (hc : CrewAt w cb bb bg dv) (hbe : BellEnv w bb bm bc bbase bn tc L) (hw0 : 0 ≤ wk) (hw1 : wk < bn) :
    Calls Try.prog 46 #[.pointer (some ⟨xt, 0, none⟩), .pointer (some ⟨xo, 0, none⟩), .pointer (some ⟨xc, 0, none⟩), .pointer (some ⟨xw, 0, none⟩)] w fun e w' => e = .returned (.tuple #[]) ∧ UpIn w w' co cb bb xo xt wk val := by
  have c0 := hxt.c0
  have hb : (g.out != 1) = false := by simp [ho]
  have HXO := hide hxo
  have HXC := hide hxc
  have HXW := hide hxw
  have HC := hide hc
  have HBE := hide hbe
  have HG := hide hg
  have H := hide h
  have hob : bout0 bn wk = 0 := by unfold bout0; rw [if_pos ⟨hw0, hw1⟩]
  have HOB := hide hob
  have n1 : xo ≠ co := fun e => Blk.ne_ hxo h (by decide) e
  have n2 : xc ≠ co := fun e => Blk.ne_ hxc h (by decide) e
  have n3 : xw ≠ co := fun e => Blk.ne_ hxw h (by decide) e
  have n4 : cb ≠ co := fun e => Blk.ne_ hc h (by decide) e
  have b0 := Blk.lt hxo
  have b4 := Blk.lt hxc
  have b5 := Blk.lt hc
  have b6 := Blk.lt hxw
  have Z := hide (And.intro hxo.c0 (And.intro hxc.c0 (And.intro hc.c0 hxw.c0)))
  clear hxt hxo hxc hxw hg h ho hc hbe hob
  go_enter Try.func46, Try.ntmps46
  go_wp2_with fail
  refine (HG.out.outcome).mono ?_
  rintro e w1 ⟨rfl, rfl⟩
  go_upto_region 2 with fail
  go_region_held3 (fun w' : World => w'.cell? ⟨xo, 0, none⟩ = some (.pointer (some ⟨co, 0, none⟩)) ∧ w'.cell? ⟨xc, 0, none⟩ = some (.pointer (some ⟨cb, 0, none⟩)) ∧ w'.cell? ⟨cb, 0, none⟩ = some (.pointer (some ⟨bb, 0, none⟩)) ∧ w'.cell? ⟨xw, 0, none⟩ = some (.int .i64 wk)) (first | with_reducible exact hold4 Z.out b0 b4 b5 b6 (Only.refl S0 w).drew | with_reducible exact hold4 Z.out b0 b4 b5 b6 O2.out | with_reducible exact ⟨y0, y1, y2, y3⟩) (first | (go_at_call 49; refine (BUp_all wk (HBE.out.only0 (Only.refl S0 w).drew)).mono ?_; rintro e w2 ⟨bp, rfl, g1, e1, o1, b1⟩; rw [HOB.out] at g1; have G1 := hide g1; have O2 := hide ((Only.refl S0 w).drew.trans o1); have H2 := hide (H.out.drew.only o1 (fun h => h)); clear g1 e1 o1) | (go_at_call 31; refine (CDo_bell _ _ H2.out G1.out rfl).mono ?_; rintro e w3 ⟨rfl, h3, o3⟩; have H3 := hide h3; have O4 := hide ((O2.out.mono (R := S1 co) fun _ h => h.elim).trans o3); have y0 := (HXO.out.only O4.out n1).c0; have y1 := (HXC.out.only O4.out n2).c0; have y2 := (HC.out.only O4.out n4).c0; have y3 := (HXW.out.only O4.out n3).c0; have G3 := hide (show BopIs w3 bp bb ⟨1, wk, 0⟩ from BopAt.only G1.out o3 (fun e => by have := Blk.lt H.out; have b1' : w.heap.size ≤ bp := b1; unfold S1 at e; omega)); clear h3 o3))
  go_wp2_with fail
  all_goals go_end0
  all_goals exact ⟨rfl, bp, H3.out, G3.out, O4.out, b1⟩
end
end Go.Proofs.Ytdoaipjdldknaaa
