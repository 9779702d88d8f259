/-
  Package crew: Rest.
-/
import Derived.Test.YtdoaipjdldknaaaKC11
namespace Go.Proofs.Ytdoaipjdldknaaa
open Go.RowKit
set_option linter.unusedVariables false
def rest1K (xc xo xw : Nat) : Value := .func (.func 45) #[] #[.pointer (some ⟨xc, 0, none⟩), .pointer (some ⟨xo, 0, none⟩), .pointer (some ⟨xw, 0, none⟩)]
section
variable {w : World} {cb bb bg bm bc : Nat} {dv : Value} {n : Nat} {bd : Nat → Nat} {wk : Int} {bbase bn tc : Int} {L : List Int}
/-- Two boxes at once. -/
theorem two_new (w : World) (cb : Nat) (wk : Int) : CBox ((w.alloc (.cells #[.pointer (some ⟨cb, 0, none⟩)] 27)).alloc (.cells #[.int .i64 wk] 3)) w.heap.size cb ∧ WBox ((w.alloc (.cells #[.pointer (some ⟨cb, 0, none⟩)] 27)).alloc (.cells #[.int .i64 wk] 3)) (w.heap.size + 1) wk := by
  refine ⟨(Blk.new w 27 #[.pointer (some ⟨cb, 0, none⟩)]).alloc _, ?_⟩
  have h := Blk.new (w.alloc (.cells #[.pointer (some ⟨cb, 0, none⟩)] 27)) 3 #[.int .i64 wk]
  simpa [WBox] using h
set_option maxRecDepth 100000 in
set_option maxHeartbeats 1000000 in
theorem rest_in (hc : CrewAt w cb bb bg dv) (hd : DqsAt w dv n bd) (h0 : 0 ≤ wk) (h1 : wk < n) (hbe : BellEnv w bb bm bc bbase bn tc L) (hbn : wk < bn) : Calls Try.prog 12 #[.pointer (some ⟨cb, 0, none⟩), .int .i64 wk] w fun e w' =>
    ∃ co bp xc xo xw, e = .returned (.pointer (some ⟨co, 0, none⟩)) ∧ CopAt w' co cb (.iface 87 (.pointer (some ⟨bp, 0, none⟩))) (rest1K xc xo xw) 0 0 ∧ BopIs w' bp bb ⟨0, wk, 0⟩ ∧ CBox w' xc cb ∧ OBox w' xo co ∧ WBox w' xw wk ∧ Only S0 w w' ∧ w.heap.size ≤ co ∧ w.heap.size ≤ bp ∧ w.heap.size ≤ xc ∧ w.heap.size ≤ xo ∧ w.heap.size ≤ xw := by
  have hob : bout0 bn wk = 0 := by unfold bout0; rw [if_pos (by omega)]
  have HOB := hide hob
  have o2 := ((Only.refl S0 w).alloc (.cells #[.pointer (some ⟨cb, 0, none⟩)] 27)).alloc (.cells #[.int .i64 wk] 3)
  have hxc := (two_new w cb wk).1
  have hxw := (two_new w cb wk).2
  have h2 := hc.only o2 (fun h => h)
  have hd2 := hd.only0 o2
  have hb2 := hbe.only0 o2
  have hsz : ((w.alloc (.cells #[.pointer (some ⟨cb, 0, none⟩)] 27)).alloc (.cells #[.int .i64 wk] 3)).heap.size = w.heap.size + 2 := by simp
  have HO2 := hide o2
  clear hc hd hbe o2 hob
  generalize hw2 : (w.alloc (.cells #[.pointer (some ⟨cb, 0, none⟩)] 27)).alloc (.cells #[.int .i64 wk] 3) = w2 at *
  have HSZ := hide hsz
  have HOF := hide (of_in h2 hd2 h0 h1)
  have oa := (Only.refl S0 w2).alloc (.cells (cop0 cb) 70)
  have ha := cop_new w2 cb
  have hxca := hxc.only oa (fun h => h)
  have hxwa := hxw.only oa (fun h => h)
  have hca := h2.only oa (fun h => h)
  have hba := hb2.only0 oa
  have y0 := hxc.c0
  have y1 := hxw.c0
  have HW2 := hide hw2
  clear hsz h2 hd2 hb2 hxc hxw
  subst hw2
  go_enter Try.func12, Try.ntmps12
  go_wp2_with fail
  refine (HOF.out).mono ?_
  rintro e w1 ⟨rfl, rfl⟩
  clear HOF
  have hb := Blk.lt ha
  have HAX := hide hxca
  generalize ((w.alloc (.cells #[.pointer (some ⟨cb, 0, none⟩)] 27)).alloc (.cells #[.int .i64 wk] 3)).alloc (.cells (cop0 cb) 70) = w1 at *
  generalize hco : ((w.alloc (.cells #[.pointer (some ⟨cb, 0, none⟩)] 27)).alloc (.cells #[.int .i64 wk] 3)).heap.size = co at *
  generalize hxc' : w.heap.size = xc at *
  generalize hxw' : xc + 1 = xw at *
  have HCO := hide hco
  have HB := hide hb
  have HQ := hide (And.intro hxc' hxw')
  have OA := hide oa
  clear HW2 hb oa hco hxc' hxw' y0 y1 HAX
  have ob := (Only.refl S0 w1).alloc (.cells #[.pointer (some ⟨co, 0, none⟩)] 30)
  have HX := hide (show OBox _ w1.heap.size co from Blk.new w1 30 #[.pointer (some ⟨co, 0, none⟩)])
  have HA := hide (ha.only ob (fun h => h))
  have HC := hide (hca.only ob (fun h => h))
  have HXC := hide (hxca.only ob (fun h => h))
  have HXW := hide (hxwa.only ob (fun h => h))
  have HE := hide (hba.only0 ob)
  have OB := hide ob
  clear ha hca hba hxca hxwa ob
  go_upto_region 4 with fail
  have hxo := Blk.lt HA.out
  have n1 : w1.heap.size ≠ co := by have := HB.out; omega
  have n2 : cb ≠ co := fun e => Blk.ne_ HC.out HA.out (by decide) e
  have n3 : xc ≠ co := fun e => Blk.ne_ HXC.out HA.out (by decide) e
  have n4 : xw ≠ co := fun e => Blk.ne_ HXW.out HA.out (by decide) e
  have OB2 := hide OB.out.size
  clear hxo
  generalize w1.heap.size = xo at *
  generalize w1.alloc (.cells #[.pointer (some ⟨co, 0, none⟩)] 30) = w3 at *
  have z0 := HX.out.drew.c0
  have z1 := HXC.out.drew.c0
  have z2 := HC.out.drew.c0
  have z3 := HXW.out.drew.c0
  go_region_held3 (fun w' : World => w'.cell? ⟨xo, 0, none⟩ = some (.pointer (some ⟨co, 0, none⟩)) ∧ w'.cell? ⟨xc, 0, none⟩ = some (.pointer (some ⟨cb, 0, none⟩)) ∧ w'.cell? ⟨cb, 0, none⟩ = some (.pointer (some ⟨bb, 0, none⟩)) ∧ w'.cell? ⟨xw, 0, none⟩ = some (.int .i64 wk)) (first | with_reducible exact ⟨z0, z1, z2, z3⟩ | with_reducible exact ⟨y0, y1, y2, y3⟩ | with_reducible exact ⟨q0, q1, q2, q3⟩) (first | (go_at_call 44; refine (BSleep_all wk (HE.out.only0 (Only.refl S0 w3).drew)).mono ?_; rintro e w4 ⟨bp, rfl, g1, e1, o1, b1⟩; rw [HOB.out] at g1; have HX2 := hide (HX.out.drew.only o1 (fun h => h)); have HXC2 := hide (HXC.out.drew.only o1 (fun h => h)); have HC2 := hide (HC.out.drew.only o1 (fun h => h)); have HXW2 := hide (HXW.out.drew.only o1 (fun h => h)); have HA2 := hide (HA.out.drew.only o1 (fun h => h)); have y0 := HX2.out.c0; have y1 := HXC2.out.c0; have y2 := HC2.out.c0; have y3 := HXW2.out.c0; have G1 := hide g1; have O1 := hide (((Only.refl S0 w3).drew).trans o1); have B1 := hide (show w3.heap.size ≤ bp from b1); clear g1 e1 o1 b1) | (go_at_call 31; refine (CDo_bell _ _ HA2.out G1.out rfl).mono ?_; rintro e w5 ⟨rfl, h3, o3⟩; have H3 := hide h3; have HX3 := hide (HX2.out.only o3 n1); have HXC3 := hide (HXC2.out.only o3 n3); have HC3 := hide (HC2.out.only o3 n2); have HXW3 := hide (HXW2.out.only o3 n4); have q0 := HX3.out.c0; have q1 := HXC3.out.c0; have q2 := HC3.out.c0; have q3 := HXW3.out.c0; have G3 := hide (show BopIs w5 bp bb ⟨0, wk, 0⟩ from BopAt.only G1.out o3 (fun e => Blk.ne_ G1.out HA2.out (by decide) e)); have O3 := hide ((O1.out.mono (R := S1 co) fun _ h => h.elim).trans o3); clear h3 o3))
  go_wp2_with fail
  all_goals go_ret
  all_goals exact ⟨co, bp, xc, xo, xw, rfl, H3.out, G3.out, HXC3.out, HX3.out, HXW3.out, (((HO2.out.trans OA.out).trans OB.out).then O3.out (fun i hi h => by have h' : i = co := h; have := HQ.out; have := HSZ.out; omega)), by have := HQ.out; have := HSZ.out; omega, by have := HQ.out; have := HSZ.out; have := HB.out; have := OB2.out; have := B1.out; omega, by have := HQ.out; omega, by have := HQ.out; have := HSZ.out; have := HB.out; omega, by have := HQ.out; omega⟩
theorem rest_out (hc : CrewAt w cb bb bg dv) (hd : DqsAt w dv n bd) (h : wk < 0 ∨ (n:Int) ≤ wk) : Calls Try.prog 12 #[.pointer (some ⟨cb, 0, none⟩), .int .i64 wk] w fun e w' =>
    ∃ co, e = .returned (.pointer (some ⟨co, 0, none⟩)) ∧ CopAt w' co cb .nilIface .nilFunc 4 0 ∧ Only S0 w w' ∧ w.heap.size ≤ co := by
  have o2 := ((Only.refl S0 w).alloc (.cells #[.pointer (some ⟨cb, 0, none⟩)] 27)).alloc (.cells #[.int .i64 wk] 3)
  have y0 := (two_new w cb wk).1.c0
  have y1 := (two_new w cb wk).2.c0
  have HOF := hide (of_out (hc.only o2 (fun h => h)) (hd.only0 o2) h)
  have HO2 := hide o2
  have hsz : w.heap.size ≤ ((w.alloc (.cells #[.pointer (some ⟨cb, 0, none⟩)] 27)).alloc (.cells #[.int .i64 wk] 3)).heap.size := o2.size
  have HSZ := hide hsz
  clear hc hd h o2 hsz
  go_enter Try.func12, Try.ntmps12
  go_wp2_with fail
  refine (HOF.out).mono ?_
  rintro e w1 ⟨rfl, h1, o1⟩
  clear HOF y0 y1
  generalize ((w.alloc (.cells #[.pointer (some ⟨cb, 0, none⟩)] 27)).alloc (.cells #[.int .i64 wk] 3)).heap.size = co at *
  have ob := (Only.refl S0 w1).alloc (.cells #[.pointer (some ⟨co, 0, none⟩)] 30)
  have HX := hide (show OBox _ w1.heap.size co from Blk.new w1 30 #[.pointer (some ⟨co, 0, none⟩)])
  have z0 := HX.out.c0
  have H1 := hide (h1.only ob (fun h => h))
  have O1 := hide ((HO2.out.trans o1).trans ob)
  clear h1 o1 ob
  go_wp2_with fail
  go_ret
  exact ⟨co, rfl, H1.out, O1.out, HSZ.out⟩
end
end Go.Proofs.Ytdoaipjdldknaaa
