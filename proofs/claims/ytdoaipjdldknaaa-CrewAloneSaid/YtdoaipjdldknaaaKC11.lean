/-
  Package crew: Poll.
-/
import Derived.Test.YtdoaipjdldknaaaKC10
namespace Go.Proofs.Ytdoaipjdldknaaa
open Go.RowKit
set_option linter.unusedVariables false
def pollK (xo xb : Nat) : Value := .func (.func 53) #[] #[.pointer (some ⟨xo, 0, none⟩), .pointer (some ⟨xb, 0, none⟩)]
section
variable {w : World} {cb bb bg bm bc : Nat} {dv : Value} {n : Nat} {bd : Nat → Nat} {wk : Int} {bbase bn tc : Int} {L : List Int}
theorem cop_new (w : World) (cb : Nat) : CopAt (w.alloc (.cells (cop0 cb) 70)) w.heap.size cb .nilIface .nilFunc 0 0 := Blk.new w 70 (cop0 cb)
set_option maxRecDepth 100000 in
set_option maxHeartbeats 1000000 in
theorem poll_in (hc : CrewAt w cb bb bg dv) (hd : DqsAt w dv n bd) (h0 : 0 ≤ wk) (h1 : wk < n) (hbe : BellEnv w bb bm bc bbase bn tc L) (hbn : wk < bn) : Calls Try.prog 13 #[.pointer (some ⟨cb, 0, none⟩), .int .i64 wk] w fun e w' =>
    ∃ co bp xo xb, e = .returned (.pointer (some ⟨co, 0, none⟩)) ∧ CopAt w' co cb (.iface 87 (.pointer (some ⟨bp, 0, none⟩))) (pollK xo xb) 0 0 ∧ BopIs w' bp bb ⟨2, wk, 0⟩ ∧ OBox w' xo co ∧ BBox w' xb bp ∧ Only S0 w w' ∧ w.heap.size ≤ co ∧ w.heap.size ≤ bp ∧ w.heap.size ≤ xo ∧ w.heap.size ≤ xb := by
  have hob : bout0 bn wk = 0 := by unfold bout0; rw [if_pos (by omega)]
  have HOB := hide hob
  have HOF := hide (of_in hc hd h0 h1)
  have oa := (Only.refl S0 w).alloc (.cells (cop0 cb) 70)
  have ha := cop_new w cb
  have hca := hc.only oa (fun h => h)
  have hba := hbe.only0 oa
  clear hob hc hd hbe
  go_enter Try.func13, Try.ntmps13
  go_wp2_with fail
  refine (HOF.out).mono ?_
  rintro e w1 ⟨rfl, rfl⟩
  clear HOF
  have hb : w.heap.size < (w.alloc (.cells (cop0 cb) 70)).heap.size := Blk.lt ha
  generalize hw1 : w.alloc (.cells (cop0 cb) 70) = w1 at *
  generalize hco : w.heap.size = co at *
  have HB := hide hb
  have OA := hide oa
  clear hw1 hb oa
  have ob := (Only.refl S0 w1).alloc (.cells #[.pointer (some ⟨co, 0, none⟩)] 30)
  have HX := hide (show OBox _ w1.heap.size co from Blk.new w1 30 #[.pointer (some ⟨co, 0, none⟩)])
  have HA := hide (ha.only ob (fun h => h))
  have HCA := hide (hca.only ob (fun h => h))
  have cc0 := HCA.out.c0
  have HBA := hide (hba.only0 ob)
  have OB := hide ob
  clear ha hca hba ob
  go_wp2_with fail
  refine (BPoll_all wk HBA.out).mono ?_
  rintro e w2 ⟨bp, rfl, g1, e1, o1, b1⟩
  rw [HOB.out] at g1
  have OC := hide ((OB.out.trans o1).alloc (.cells #[.pointer (some ⟨bp, 0, none⟩)] 87))
  have oc := (Only.refl S0 w2).alloc (.cells #[.pointer (some ⟨bp, 0, none⟩)] 87)
  have HX2 := hide ((HX.out.only o1 (fun h => h)).only oc (fun h => h))
  have HA2 := hide ((HA.out.only o1 (fun h => h)).only oc (fun h => h))
  have HG := hide (show BopIs _ bp bb ⟨2, wk, 0⟩ from BopAt.only g1 oc (fun h => h))
  have HXB := hide (show BBox _ w2.heap.size bp from Blk.new w2 87 #[.pointer (some ⟨bp, 0, none⟩)])
  have B1 := hide (Nat.le_trans OB.out.size b1)
  have S1' := hide (Nat.le_trans OB.out.size o1.size)
  clear g1 e1 o1 b1 oc cc0
  go_upto_region 5 with fail
  have z0 := HX2.out.drew.c0
  have z1 := HXB.out.drew.c0
  have n1 : w1.heap.size ≠ co := by have := HB.out; omega
  have n2 : w2.heap.size ≠ co := by have := HB.out; have := S1'.out; omega
  generalize w2.heap.size = xb at *
  generalize w1.heap.size = xo at *
  generalize w2.alloc (.cells #[.pointer (some ⟨bp, 0, none⟩)] 87) = w2' at *
  go_region_held3 (fun w' : World => w'.cell? ⟨xo, 0, none⟩ = some (.pointer (some ⟨co, 0, none⟩)) ∧ w'.cell? ⟨xb, 0, none⟩ = some (.pointer (some ⟨bp, 0, none⟩))) (first | with_reducible exact ⟨z0, z1⟩ | with_reducible exact ⟨y0, y1⟩) (first | (go_at_call 31; refine (CDo_bell _ _ HA2.out.drew (show BopIs w2'.drew bp bb ⟨2, wk, 0⟩ from HG.out) rfl).mono ?_; rintro e w3 ⟨rfl, h3, o3⟩; have H3 := hide h3; have HX3 := hide (HX2.out.drew.only o3 n1); have HXB3 := hide (HXB.out.drew.only o3 n2); have y0 := HX3.out.c0; have y1 := HXB3.out.c0; have O3 := hide o3; clear h3 o3))
  go_wp2_with fail
  go_ret
  exact ⟨co, bp, xo, xb, rfl, H3.out, (show BopIs w3 bp bb ⟨2, wk, 0⟩ from BopAt.only (show BopIs w2'.drew bp bb ⟨2, wk, 0⟩ from HG.out) O3.out (fun e => Blk.ne_ HG.out HA2.out (by decide) e)), HX3.out, HXB3.out, (OA.out.trans OC.out).drew.then O3.out (fun i hi h => by have h' : i = co := h; omega), by omega, by have := HB.out; have := B1.out; omega, by have := HB.out; omega, by have := HB.out; have := S1'.out; omega⟩
theorem poll_out (hc : CrewAt w cb bb bg dv) (hd : DqsAt w dv n bd) (h : wk < 0 ∨ (n:Int) ≤ wk) : Calls Try.prog 13 #[.pointer (some ⟨cb, 0, none⟩), .int .i64 wk] w fun e w' =>
    ∃ co, e = .returned (.pointer (some ⟨co, 0, none⟩)) ∧ CopAt w' co cb .nilIface .nilFunc 4 0 ∧ Only S0 w w' ∧ w.heap.size ≤ co := by
  have HOF := hide (of_out hc hd h)
  clear hc hd h
  go_enter Try.func13, Try.ntmps13
  go_wp2_with fail
  refine (HOF.out).mono ?_
  rintro e w1 ⟨rfl, h1, o1⟩
  have ob := (Only.refl S0 w1).alloc (.cells #[.pointer (some ⟨w.heap.size, 0, none⟩)] 30)
  have HX := hide (show OBox _ w1.heap.size w.heap.size from Blk.new w1 30 #[.pointer (some ⟨w.heap.size, 0, none⟩)])
  have z0 := HX.out.c0
  have H1 := hide (h1.only ob (fun h => h))
  have O1 := hide (o1.trans ob)
  clear HOF h1 o1 ob
  go_wp2_with fail
  go_ret
  exact ⟨w.heap.size, rfl, H1.out, O1.out, Nat.le_refl _⟩
end
end Go.Proofs.Ytdoaipjdldknaaa
