/-
  Package crew: Offer.
-/
import Derived.Test.YtdoaipjdldknaaaKC12
namespace Go.Proofs.Ytdoaipjdldknaaa
open Go.RowKit
set_option linter.unusedVariables false
def offerK (xp xo xv : Nat) : Value := .func (.func 32) #[] #[.pointer (some ⟨xp, 0, none⟩), .pointer (some ⟨xo, 0, none⟩), .pointer (some ⟨xv, 0, none⟩)]
section
variable {w : World} {cb bb bg bm bc : Nat} {dv : Value} {n : Nat} {bd : Nat → Nat} {wk : Int} {gbase ga dbase slots tc : Int} {L : List Int}
/-- The number's box, the operation, its box. -/
def three (w : World) (cb : Nat) (v : Int) : World := ((w.alloc (.cells #[.int .u64 v] 31)).alloc (.cells (cop0 cb) 70)).alloc (.cells #[.pointer (some ⟨w.heap.size + 1, 0, none⟩)] 30)
theorem three_v (w : World) (cb : Nat) (v : Int) : VBox (three w cb v) w.heap.size v := ((Blk.new w 31 #[.int .u64 v]).alloc _).alloc _
theorem three_o (w : World) (cb : Nat) (v : Int) : CopAt (three w cb v) (w.heap.size + 1) cb .nilIface .nilFunc 0 0 := by
  have h := (Blk.new (w.alloc (.cells #[.int .u64 v] 31)) 70 (cop0 cb)).alloc (.cells #[.pointer (some ⟨w.heap.size + 1, 0, none⟩)] 30)
  have e : (w.alloc (.cells #[.int .u64 v] 31)).heap.size = w.heap.size + 1 := by simp
  rw [e] at h
  exact h
theorem three_x (w : World) (cb : Nat) (v : Int) : OBox (three w cb v) (w.heap.size + 2) (w.heap.size + 1) := by
  have h := Blk.new ((w.alloc (.cells #[.int .u64 v] 31)).alloc (.cells (cop0 cb) 70)) 30 #[.pointer (some ⟨w.heap.size + 1, 0, none⟩)]
  have e : ((w.alloc (.cells #[.int .u64 v] 31)).alloc (.cells (cop0 cb) 70)).heap.size = w.heap.size + 2 := by simp
  rw [e] at h
  exact h
theorem three_only (w : World) (cb : Nat) (v : Int) : Only S0 w (three w cb v) := (((Only.refl S0 w).alloc _).alloc _).alloc _
set_option maxRecDepth 100000 in
set_option maxHeartbeats 1000000 in
theorem offer_neg (v : Int) (hc : CrewAt w cb bb bg dv) (h : wk < 0) (he : GateEnv w bg bm bc gbase ga tc L) : Calls Try.prog 10 #[.pointer (some ⟨cb, 0, none⟩), .int .i64 wk, .int .u64 v] w fun e w' =>
    ∃ w1, e = .returned (.pointer (some ⟨w.heap.size + 1, 0, none⟩)) ∧ Only S0 w w1 ∧ w.heap.size + 2 ≤ w1.heap.size ∧ Entered w1 w' (w.heap.size + 1) cb bg gbase v 0 := by
  have o3 := three_only w cb v
  have hx := three_x w cb v
  have hv := three_v w cb v
  have hco := three_o w cb v
  have hcc := hc.only o3 (fun h => h)
  have hge := he.only0 o3
  have z0 := hx.c0
  have z1 := hv.c0
  clear hc he
  have HC := hide hcc
  have HG := hide hge
  have HO := hide o3
  have HX := hide hx
  have HV := hide hv
  have HCO := hide hco
  clear hcc hge o3 hx hv hco
  unfold three at z0 z1
  unfold cop0 at z0 z1
  go_enter Try.func10, Try.ntmps10
  go_wp2_with fail
  refine (enter_any v HCO.out HC.out HG.out).mono ?_
  rintro e w1 ⟨rfl, h1⟩
  have H1 := hide h1
  obtain ⟨gp, xp, xo, xv, ht, hg, hp, hxo, hvv, ho, hh⟩ := h1
  have q0 := (HX.out.only ho (fun e => by have e' : w.heap.size + 2 = w.heap.size + 1 := e; omega)).c0
  clear ht hg hp hxo hvv ho hh
  go_wp2_with fail
  refine bodyPost_ret (results_tmp rfl _ _ _) rfl ?_
  exact ⟨_, rfl, HO.out, Nat.le_of_lt (Blk.lt HX.out), H1.out⟩
set_option maxRecDepth 100000 in
set_option maxHeartbeats 1000000 in
theorem offer_big (v : Int) (hc : CrewAt w cb bb bg dv) (hd : DqsAt w dv n bd) (h : (n:Int) ≤ wk) (he : GateEnv w bg bm bc gbase ga tc L) : Calls Try.prog 10 #[.pointer (some ⟨cb, 0, none⟩), .int .i64 wk, .int .u64 v] w fun e w' =>
    ∃ w1, e = .returned (.pointer (some ⟨w.heap.size + 1, 0, none⟩)) ∧ Only S0 w w1 ∧ w.heap.size + 2 ≤ w1.heap.size ∧ Entered w1 w' (w.heap.size + 1) cb bg gbase v 0 := by
  obtain ⟨g, cap, cs, rfl, hblk, hx⟩ := hd.ex
  clear hblk hx hd
  have hh : ¬ (wk < 0) := by omega
  have o3 := three_only w cb v
  have hx := three_x w cb v
  have hv := three_v w cb v
  have hco := three_o w cb v
  have hcc := hc.only o3 (fun h => h)
  have hge := he.only0 o3
  have z0 := hx.c0
  have z1 := hv.c0
  have z2 := hcc.c2
  clear hc he
  have HC := hide hcc
  have HG := hide hge
  have HO := hide o3
  have HX := hide hx
  have HV := hide hv
  have HCO := hide hco
  clear hcc hge o3 hx hv hco
  unfold three at z0 z1 z2
  unfold cop0 at z0 z1 z2
  go_enter Try.func10, Try.ntmps10
  go_wp2_with fail
  refine (enter_any v HCO.out HC.out HG.out).mono ?_
  rintro e w1 ⟨rfl, h1⟩
  have H1 := hide h1
  obtain ⟨gp, xp, xo, xv, ht, hg, hp, hxo, hvv, ho, hh⟩ := h1
  have q0 := (HX.out.only ho (fun e => by have e' : w.heap.size + 2 = w.heap.size + 1 := e; omega)).c0
  clear ht hg hp hxo hvv ho hh
  go_wp2_with fail
  refine bodyPost_ret (results_tmp rfl _ _ _) rfl ?_
  exact ⟨_, rfl, HO.out, Nat.le_of_lt (Blk.lt HX.out), H1.out⟩
/-- A number offered to a worker's own deque. -/
def Offered (w w' : World) (co cb bd : Nat) (v : Int) : Prop := ∃ p xp xo xv, CopAt w' co cb (.iface 73 (.pointer (some ⟨p, 0, none⟩))) (offerK xp xo xv) 0 0 ∧ DopIs w' p bd (pushOp v) ∧ DBox w' xp p ∧ OBox w' xo co ∧ VBox w' xv v ∧ Only S0 w w' ∧ w.heap.size ≤ co ∧ w.heap.size ≤ p ∧ w.heap.size ≤ xp ∧ w.heap.size ≤ xo ∧ w.heap.size ≤ xv
set_option maxRecDepth 100000 in
set_option maxHeartbeats 2000000 in
theorem offer_in {i : Nat} (v : Int) (hc : CrewAt w cb bb bg dv) (hd : DqsAt w dv n bd) (hi : i < n) (hn : n ≤ 1000) (he : DeqEnv w (bd i) bm bc dbase slots tc L) : Calls Try.prog 10 #[.pointer (some ⟨cb, 0, none⟩), .int .i64 (i:Int), .int .u64 v] w fun e w' =>
    ∃ co, e = .returned (.pointer (some ⟨co, 0, none⟩)) ∧ Offered w w' co cb (bd i) v := by
  obtain ⟨g, cap, cs, rfl, hblk, hcell⟩ := hd.ex
  have o3 := three_only w cb v
  have hx := three_x w cb v
  have hv := three_v w cb v
  have hco := three_o w cb v
  have hcc := hc.only o3 (fun h => h)
  have hbb := hblk.only o3 (fun h => h)
  have hge := he.only0 o3
  have hg0 := (o3.cell (p := ⟨g, i, none⟩) hblk.lt (fun h => h)).trans (hcell i hi)
  have z0 := hx.c0
  have z1 := hv.c0
  have z2 := hcc.c2
  have hi0 : ¬ ((i : Int) < 0) := by omega
  have hi1 : ¬ ((n : Int) ≤ (i : Int)) := by omega
  have hi2 : (0 : Int) ≤ (i : Int) := by omega
  have hi3 : (i : Int) < n := by omega
  clear hc he hd hcell hblk
  have HC := hide hcc
  have HE := hide hge
  have HO := hide o3
  have HX := hide hx
  have HV := hide hv
  have HCO := hide hco
  have HBB := hide hbb
  have HG0 := hide hg0
  have hl := Blk.lt hx
  have HL := hide hl
  clear hcc hge o3 hx hv hco hbb hg0 hl
  unfold three at z0 z1 z2
  unfold cop0 at z0 z1 z2
  go_enter Try.func10, Try.ntmps10
  go_upto_region 5 with fail
  clear z0 z1 z2
  have h3 : (((w.alloc (.cells #[.int .u64 v] 31)).alloc (.cells #[.nilIface, .nilFunc, .int .i64 0, .int .u64 0, .pointer (some ⟨cb, 0, none⟩)] 70)).alloc (.cells #[.pointer (some ⟨w.heap.size + 1, 0, none⟩)] 30)) = three w cb v := rfl
  rw [h3]
  clear h3
  generalize three w cb v = w1 at *
  generalize hxv : w.heap.size = xv at *
  generalize hco : xv + 1 = co at *
  have hX : OBox w1 (co + 1) co := by have := HX.out; rwa [show xv + 2 = co + 1 by omega] at this
  generalize hxo : co + 1 = xo at *
  have HXX := hide hX
  have HQ := hide (And.intro hxv (And.intro hco hxo))
  clear hX HX hxv hco hxo
  go_cut [8] (fun v8 wx => ∃ gp xp, v8 = .pointer (some ⟨xp, 0, none⟩) ∧ DopIs wx gp (bd i) (pushOp v) ∧ DBox wx xp gp ∧ Only S0 w1 wx ∧ w1.heap.size ≤ gp ∧ w1.heap.size ≤ xp)
  case first =>
    have Z := hide (And.intro HV.out.c0 (And.intro HC.out.c2 (And.intro HXX.out.c0 HG0.out)))
    have b0 := Blk.lt HV.out
    have b4 := Blk.lt HC.out
    have b5 := Blk.lt HXX.out
    have b6 := Blk.lt HBB.out
    have hoA : Only S0 w1 ((w1.alloc (.cells #[.pointer none] 73)).drew) := ((Only.refl S0 w1).alloc _).drew
    have hbA : Blk ((w1.alloc (.cells #[.pointer none] 73)).drew) w1.heap.size 73 #[.pointer none] := (Blk.new w1 _ _).drew
    have HOA := hide hoA
    have HBA := hide hbA
    clear hoA hbA
    go_region_held3 (fun w' : World => w'.cell? ⟨xv, 0, none⟩ = some (.int .u64 v) ∧ w'.cell? ⟨cb, 2, none⟩ = some (.slice (some ⟨g, 0, none⟩) n cap) ∧ w'.cell? ⟨xo, 0, none⟩ = some (.pointer (some ⟨co, 0, none⟩)) ∧ w'.cell? ⟨g, i, none⟩ = some (.pointer (some ⟨bd i, 0, none⟩))) (first | with_reducible exact hold4 Z.out b0 b4 b5 b6 (Only.refl S0 w1).drew | with_reducible exact hold4 Z.out b0 b4 b5 b6 ((Only.refl S0 w1).alloc _).drew | with_reducible exact hold4 Z.out b0 b4 b5 b6 O1.out | with_reducible exact hold4 Z.out b0 b4 b5 b6 (O1.out.alloc _) | with_reducible exact hold4 Z.out b0 b4 b5 b6 (O1.out.setNew 0 (Nat.le_refl _) _) | with_reducible exact hold4 Z.out b0 b4 b5 b6 ((O1.out.alloc _).setNew 0 O1.out.size _)) (first | (go_at_call 30; (with_reducible refine (DPush_all (HE.out.only0 (Only.refl S0 w1).drew) v).mono ?_); rintro e w2 ⟨gp, rfl, g1, e1, o1, b1⟩; have O1 := hide ((Only.refl S0 w1).drew.trans o1); have G1 := hide g1; have WAY : gp = gp := rfl; clear g1 e1 o1) | (go_at_call 30; (with_reducible refine (DPush_all (HE.out.only0 HOA.out) v).mono ?_); rintro e w2 ⟨gp, rfl, g1, e1, o1, b1⟩; have O1 := hide (HOA.out.trans o1); have G1 := hide g1; have BX := hide (HBA.out.only o1 (fun h => h)); have q0 : w2.cell? ⟨w1.heap.size, 0, none⟩ = some (.pointer none) := Blk.cellv BX.out rfl; have q1 := BX.out.frozen 0; clear g1 e1 o1))
    all_goals (go_wp2_with fail; go_meet)
    all_goals first
      | exact ⟨gp, w2.heap.size, rfl, DopAt.only G1.out ((Only.refl S0 w2).alloc _) (fun h => h), Blk.new w2 _ _, O1.out.alloc _, b1, O1.out.size⟩
      | (have b1' : w1.heap.size + 1 ≤ gp := by simpa using b1
         exact ⟨gp, w1.heap.size, rfl, DopAt.only G1.out (only_set w2 w1.heap.size 0 _) (fun e => by unfold S1 at e; omega), by simpa [DBox] using BX.out.set_ 0 (.pointer (some ⟨gp, 0, none⟩)), O1.out.setNew 0 (Nat.le_refl _) _, by omega, Nat.le_refl _⟩)
  case rest =>
    obtain ⟨gp, xp, rfl, hg, hxp, ho, hb3, hb4⟩ := hcut
    have HG := hide hg
    have HP := hide hxp
    have HX2 := hide (HXX.out.only ho (fun h => h))
    have HV2 := hide (HV.out.only ho (fun h => h))
    have H2 := hide (HCO.out.only ho (fun h => h))
    have HO2 := hide (HO.out.trans ho)
    have bco := Blk.lt HCO.out
    have hgo : gp ≠ co := by omega
    have hpo : xp ≠ co := by omega
    have hxoc : xo ≠ co := by have := HQ.out; omega
    have hxvc : xv ≠ co := by have := HQ.out; omega
    have z0 := HX2.out.drew.c0
    have z1 := HP.out.drew.c0
    have HB34 := hide (And.intro hb3 (And.intro hb4 (And.intro bco HO.out.size)))
    clear hg hxp ho hb3 hb4 bco
    go_upto_region 6 with fail
    go_region_held3 (fun w' : World => w'.cell? ⟨xo, 0, none⟩ = some (.pointer (some ⟨co, 0, none⟩)) ∧ w'.cell? ⟨xp, 0, none⟩ = some (.pointer (some ⟨gp, 0, none⟩))) (first | with_reducible exact ⟨z0, z1⟩ | with_reducible exact ⟨y0, y1⟩) (first | (go_at_call 31; refine (CDo_deque _ _ H2.out.drew (show DopIs wc.drew gp (bd i) (pushOp v) from HG.out) rfl).mono ?_; rintro e w3 ⟨rfl, h3, o3⟩; have H3 := hide h3; have X3 := hide (HX2.out.drew.only o3 hxoc); have P3 := hide (HP.out.drew.only o3 hpo); have V3 := hide (HV2.out.drew.only o3 hxvc); have G3 := hide (show DopIs w3 gp (bd i) (pushOp v) from DopAt.only (show DopIs wc.drew gp (bd i) (pushOp v) from HG.out) o3 hgo); have y0 := X3.out.c0; have y1 := P3.out.c0; have O3 := hide ((HO2.out.drew).then o3 (fun j hj h => by have h' : j = co := h; have := HQ.out; omega)); clear h3 o3))
    go_wp2_with fail
    all_goals go_ret
    all_goals exact ⟨co, rfl, gp, xp, xo, xv, H3.out, G3.out, P3.out, X3.out, V3.out, O3.out, by have := HQ.out; omega, by have := HB34.out; omega, by have := HB34.out; omega, by have := HQ.out; omega, by have := HQ.out; omega⟩
end
end Go.Proofs.Ytdoaipjdldknaaa
