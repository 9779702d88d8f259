/-
  The crowd's step (troupelaw05.crowd.step), the walk.
-/
import Derived.Test.YtjjjjbfblhadnaaGateJ
import Derived.Deep.DeepCutAuto
import Derived.OwnWalk
import Derived.Test.YtjjjjbfblhadnaaLastG
namespace Go.Proofs.Ytjjjjbfblhadnaa
open Go.RowKit
set_option linter.unusedVariables false

def SB (B : Nat) : Nat → Prop := fun k => B ≤ k
theorem upd_upd {α : Type} (o : Nat → α) (p : Nat) (x y : α) : upd (upd o p x) p y = upd o p y := by
  funext i
  by_cases e : i = p
  · subst e; rw [upd_same, upd_same]
  · rw [upd_ne _ _ e, upd_ne _ _ e, upd_ne _ _ e]
theorem upd_self {α : Type} (o : Nat → α) (p : Nat) : upd o p (o p) = o := by
  funext i
  by_cases e : i = p
  · subst e; rw [upd_same]
  · rw [upd_ne _ _ e]
def bOp (act : Nat → Bool) (o : Nat → Gop) (nx : Nat → Nat) (p : Nat) : Nat → Gop := if act p then o else upd o p (begunOp nx p)
def bNx (act : Nat → Bool) (nx : Nat → Nat) (p : Nat) : Nat → Nat := if act p then nx else nxOf nx p
/-- Behind a step. -/
def Stepped (w w' : World) (B cb ob nb tb bg bm bc n : Nat) (tc : Int) (act : Nat → Bool) (p : Nat) (o2 : Nat → Gop) (x : List Int × Gop) (nx2 : Nat → Nat) (IN : List Int) (TK : Nat → List Int) : Prop :=
  ∃ bo' iv' tv', CW w' B cb ob nb tb bg bm bc n x.1 tc (upd act p (decide (x.2.out = 0))) (upd o2 p x.2) bo' nx2 iv' tv' (inN x.2 p nx2 IN) (tkN x.2 p TK) ∧ Only (SB B) w w'
section
variable {w : World} {B cb ob nb tb bg bm bc n p : Nat} {L : List Int} {tc : Int} {act : Nat → Bool} {o : Nat → Gop} {bo nx : Nat → Nat} {iv : Value} {tv : Nat → Value} {IN : List Int} {TK : Nat → List Int}
theorem CW.cc0 (h : CW w B cb ob nb tb bg bm bc n L tc act o bo nx iv tv IN TK) : w.cell? ⟨cb, 0, none⟩ = some (.pointer (some ⟨bg, 0, none⟩)) := h.c.cellv rfl
theorem CW.cc1 (h : CW w B cb ob nb tb bg bm bc n L tc act o bo nx iv tv IN TK) : w.cell? ⟨cb, 1, none⟩ = some (.slice (some ⟨ob, 0, none⟩) 4 4) := h.c.cellv rfl
theorem CW.cc2 (h : CW w B cb ob nb tb bg bm bc n L tc act o bo nx iv tv IN TK) : w.cell? ⟨cb, 2, none⟩ = some (.slice (some ⟨nb, 0, none⟩) 2 2) := h.c.cellv rfl
theorem CW.cc3 (h : CW w B cb ob nb tb bg bm bc n L tc act o bo nx iv tv IN TK) : w.cell? ⟨cb, 3, none⟩ = some iv := h.c.cellv rfl
theorem CW.cc4 (h : CW w B cb ob nb tb bg bm bc n L tc act o bo nx iv tv IN TK) : w.cell? ⟨cb, 4, none⟩ = some (.slice (some ⟨tb, 0, none⟩) 2 2) := h.c.cellv rfl
theorem CW.nn0 (h : CW w B cb ob nb tb bg bm bc n L tc act o bo nx iv tv IN TK) : w.cell? ⟨nb, 0, none⟩ = some (.int .u64 (nx 0 : Int)) := h.nxt.cellv rfl
theorem CW.nn1 (h : CW w B cb ob nb tb bg bm bc n L tc act o bo nx iv tv IN TK) : w.cell? ⟨nb, 1, none⟩ = some (.int .u64 (nx 1 : Int)) := h.nxt.cellv rfl
theorem CW.tt0 (h : CW w B cb ob nb tb bg bm bc n L tc act o bo nx iv tv IN TK) : w.cell? ⟨tb, 0, none⟩ = some (tv 0) := h.tks.cellv rfl
theorem CW.tt1 (h : CW w B cb ob nb tb bg bm bc n L tc act o bo nx iv tv IN TK) : w.cell? ⟨tb, 1, none⟩ = some (tv 1) := h.tks.cellv rfl
theorem CW.on (h : CW w B cb ob nb tb bg bm bc n L tc act o bo nx iv tv IN TK) (hp : p < 4) (ha : act p = true) : w.cell? ⟨ob, p, none⟩ = some (.pointer (some ⟨bo p, 0, none⟩)) := by
  have := h.ops.cellv (optrs_get act bo hp)
  unfold optr at this
  rw [ha] at this
  exact this
theorem CW.off (h : CW w B cb ob nb tb bg bm bc n L tc act o bo nx iv tv IN TK) (hp : p < 4) (ha : act p = false) : w.cell? ⟨ob, p, none⟩ = some (.pointer none) := by
  have := h.ops.cellv (optrs_get act bo hp)
  unfold optr at this
  rw [ha] at this
  exact this
theorem gstep_ahead (base n : Int) (L : List Int) (o : Gop) : (gstep base n L o).2.ahead = o.ahead := by
  unfold gstep
  (repeat' split) <;> rfl
theorem SB.s0 {w w' : World} (h : Only S0 w w') : Only (SB B) w w' := h.mono fun _ h => h.elim
theorem wrap_0 (m : Nat) (h : m ≤ 100001) : IntKind.u64.wrap (IntKind.u64.wrap (IntKind.u64.wrap 0 * 4294967296) + (m : Int)) = v64 0 m := by
  simp only [IntKind.wrap_u64, v64]
  omega
theorem wrap_1 (m : Nat) (h : m ≤ 100001) : IntKind.u64.wrap (IntKind.u64.wrap (IntKind.u64.wrap 1 * 4294967296) + (m : Int)) = v64 1 m := by
  simp only [IntKind.wrap_u64, v64]
  omega
set_option maxRecDepth 100000 in
set_option maxHeartbeats 4000000 in
theorem cstep_0 (h : CW w B cb ob nb tb bg bm bc n L tc act o bo nx iv tv IN TK) (more : Bool) (hm : act 0 = true ∨ more = true) (hok : GopOk 0 L.length (bOp act o nx 0 0)) (h0 : (bOp act o nx 0 0).out = 0)
    (hah : (bOp act o nx 0 0).ahead = aheadOf 0) (hn : 0 < 2 → nx 0 ≤ 100000) (hf : Few (tc + 10)) (hi : IN.length ≤ 100000) (hk : ∀ i, i < 2 → (TK i).length ≤ 100000) :
    Calls Try.prog 33 #[.pointer (some ⟨cb, 0, none⟩), .int .i64 0, .bool more] w fun e w' => e = .returned (.tuple #[]) ∧ Stepped w w' B cb ob nb tb bg bm bc n (tc + 1) act 0 (bOp act o nx 0) (gstep 0 n L (bOp act o nx 0 0)) (bNx act nx 0) IN TK := by
  have H := hide h
  have k1 := h.cc1
  have HM := hide hm
  have HOK := hide (And.intro hok (And.intro h0 hah))
  have HK := hide hk
  replace hn := hn (by omega)
  clear h hm hok h0 hah hk
  have hact : act 0 = true ∨ act 0 = false := by cases act 0 <;> simp
  have ko : ∃ v, w.cell? ⟨ob, 0, none⟩ = some (.pointer v) ∧ v = if act 0 then some ⟨bo 0, 0, none⟩ else none := by
    rcases hact with e | e
    · exact ⟨_, H.out.on (by omega) e, by rw [e]; rfl⟩
    · exact ⟨_, H.out.off (by omega) e, by rw [e]; rfl⟩
  obtain ⟨v, ko, hv⟩ := ko
  have HV := hide hv
  have HACT := hide hact
  clear hv hact
  obtain ⟨o2, ho2⟩ : ∃ o2, bOp act o nx 0 = o2 := ⟨_, rfl⟩
  obtain ⟨nx2, hnx2⟩ : ∃ nx2, bNx act nx 0 = nx2 := ⟨_, rfl⟩
  rw [ho2] at HOK ⊢
  rw [hnx2]
  have HO2 := hide ho2
  have HNX2 := hide hnx2
  clear ho2 hnx2
  go_enter Try.func33, Try.ntmps33
  go_upto_if 13 with fail

  go_cut [] (fun wx => ∃ bo', CW wx B cb ob nb tb bg bm bc n L tc (upd act 0 true) o2 bo' nx2 iv tv IN TK ∧ Only (SB B) w wx)
  case first =>
    rcases HACT.out with e | e
    · have hv' := HV.out
      rw [e] at hv'
      have HE := hide e
      rw [hv']
      clear ko
      clear hv' e
      go_wp2_with fail
      go_meet
      refine ⟨bo, ?_, Only.refl _ _⟩
      have q1 := HO2.out
      have q2 := HNX2.out
      unfold bOp at q1
      unfold bNx at q2
      rw [if_pos HE.out] at q1 q2
      rw [← q1, ← q2, show upd act 0 true = act from by rw [← HE.out]; exact upd_self _ _]
      exact H.out
    · have hv' := HV.out
      rw [e] at hv'
      have hmt : more = true := by
        rcases HM.out with h | h
        · rw [e] at h; cases h
        · exact h
      have HE := hide e
      rw [hv']
      clear ko
      subst hmt
      clear hv' e
      go_wp2_with fail
      have z0 := H.out.drew.cc0
      have z1 := H.out.drew.cc1
      clear k1
      go_region_held3 (fun w' => w'.cell? ⟨cb, 0, none⟩ = some (.pointer (some ⟨bg, 0, none⟩)) ∧ w'.cell? ⟨cb, 1, none⟩ = some (.slice (some ⟨ob, 0, none⟩) 4 4)) (first | exact ⟨z0, z1⟩ | exact ⟨y0, y1⟩ | exact ⟨y4, y5⟩) (first | (go_at_call 23; refine (GTake_all H.out.drew.env).mono ?_; rintro e w1 ⟨rb, rfl, g1, e1, o1, b1⟩; have y0 := (H.out.drew.only0 o1).cc0; have y1 := (H.out.drew.only0 o1).cc1; have y2 := (H.out.drew.only0 o1).off (p := 0) (by omega) HE.out; have y3 := (H.out.drew.only0 o1).ops.frozen 0; have C1 := hide (H.out.drew.begin_ (p := 0) (by omega) o1 g1 b1); have y4 := C1.out.cc0; have y5 := C1.out.cc1; have O1 := hide (((SB.s0 (B := B) ((Only.refl S0 w).drew.trans o1)).set1 (g := ob) 0 H.out.b2 (.pointer (some ⟨rb, 0, none⟩)))); clear o1 g1 e1 b1))
      rename_i hHeld
      clear hHeld y0 y1 y2 y3 y4 y5 z0 z1
      generalize w1.setCell ⟨ob, 0, none⟩ (.pointer (some ⟨rb, 0, none⟩)) = w2 at C1 O1 ⊢
      have k2 := C1.out.cc2
      have kn := C1.out.nn0
      have kf := C1.out.nxt.frozen 0
      go_wp2_with fail
      have C3 := hide (C1.out.next (p := 0) (by omega) (nx 0 + 1))
      have O3 := hide (O1.out.set1 (g := nb) 0 H.out.b3 (.int .u64 ((nx 0 + 1 : Nat) : Int)))
      rw [show ((nx 0 + 1 : Nat) : Int) = (nx 0 : Int) + 1 from by omega] at C3 O3
      clear k2 kn kf
      generalize w2.setCell ⟨nb, 0, none⟩ (.int .u64 ((nx 0 : Int) + 1)) = w3 at C3 O3 ⊢
      have z0 := C3.out.drew.cc0
      have z1 := C3.out.drew.cc1
      have z2 := C3.out.drew.cc2
      have z3 := C3.out.drew.nn0
      rw [upd_same] at z3
      obtain ⟨m, hm⟩ : ∃ m, nx 0 + 1 = m := ⟨_, rfl⟩
      have hm1 : m ≤ 100001 := by omega
      rw [hm] at z3
      have HMM := hide hm
      clear hm
      have z4 := C3.out.drew.on (p := 0) (by omega) (upd_same _ _ _)
      have z5 := C3.out.drew.ops.frozen 0
      rw [upd_same] at z4
      have ew := wrap_0 m hm1
      have EW := hide ew
      clear ew
      go_region_held3 (fun w' => w'.cell? ⟨cb, 0, none⟩ = some (.pointer (some ⟨bg, 0, none⟩)) ∧ w'.cell? ⟨cb, 1, none⟩ = some (.slice (some ⟨ob, 0, none⟩) 4 4) ∧ w'.cell? ⟨cb, 2, none⟩ = some (.slice (some ⟨nb, 0, none⟩) 2 2) ∧ w'.cell? ⟨nb, 0, none⟩ = some (.int .u64 (m : Int))) (first | exact ⟨z0, z1, z2, z3⟩ | exact ⟨y0, y1, y2, y3⟩ | exact ⟨x0, x1, x2, x3⟩) (first | (go_at_call 22; rw [EW.out]; refine (GPut_all C3.out.drew.env (v64 0 m)).mono ?_; rintro e w4 ⟨rb2, rfl, g1, e1, o1, b1⟩; have D1 := hide (C3.out.drew.only0 o1); have y0 := D1.out.cc0; have y1 := D1.out.cc1; have y2 := D1.out.cc2; have y3 := D1.out.nn0; rw [upd_same, HMM.out] at y3; have y6 := D1.out.on (p := 0) (by omega) (upd_same _ _ _); rw [upd_same] at y6; have y7 := D1.out.ops.frozen 0; have C4 := hide (C3.out.drew.begin_ (p := 0) (by omega) o1 g1 b1); have x0 := C4.out.cc0; have x1 := C4.out.cc1; have x2 := C4.out.cc2; have x3 := C4.out.nn0; rw [upd_same, HMM.out] at x3; have O4 := hide (((O3.out.drew.trans (SB.s0 o1)).set1 (g := ob) 0 H.out.b2 (.pointer (some ⟨rb2, 0, none⟩)))); clear o1 g1 e1 b1))
      rename_i hHeld
      clear hHeld y0 y1 y2 y3 y6 y7 x0 x1 x2 x3 z0 z1 z2 z3 z4 z5
      generalize w4.setCell ⟨ob, 0, none⟩ (.pointer (some ⟨rb2, 0, none⟩)) = w5 at C4 O4 ⊢
      go_wp2_with fail
      go_meet
      refine ⟨upd bo 0 rb2, ?_, O4.out⟩
      have q1 := HO2.out
      have q2 := HNX2.out
      unfold bOp at q1
      unfold bNx at q2
      rw [if_neg (by rw [HE.out]; decide)] at q1 q2
      have c4 := C4.out
      rw [upd_upd, upd_upd, upd_upd] at c4
      rw [← q1, ← q2, show begunOp nx 0 = putOp 0 (v64 0 (nx 0 + 1)) from rfl, show nxOf nx 0 = upd nx 0 (nx 0 + 1) from rfl, HMM.out]
      rw [HMM.out] at c4
      exact c4
  case rest =>
    obtain ⟨bo2, hc, hoo⟩ := hcut
    have HC := hide hc
    have OO := hide hoo
    have k1 := hc.cc1
    have ko := hc.on (p := 0) (by omega) (upd_same _ _ _)
    clear hc hoo
    go_wp2_with fail
    refine (GStep_all HC.out.env HOK.out.1 (HC.out.fam.at_ 0 (by omega) (upd_same _ _ _)) (hf.le_ (by omega))).mono ?_
    rintro e w1 ⟨rfl, h1, h2, o1⟩
    have hgt : gtick (o2 0) = 1 := by simp [gtick, HOK.out.2.1]
    rw [hgt] at h2
    obtain ⟨x, hx⟩ : ∃ x, gstep 0 n L (o2 0) = x := ⟨_, rfl⟩
    have hxa : x.2.ahead = aheadOf 0 := by rw [← hx, gstep_ahead]; exact HOK.out.2.2
    rw [hx] at h1 h2 ⊢
    have D1 := hide (HC.out.step (p := 0) (by omega) (upd_same _ _ _) o1 h1 h2)
    have hb2 := HC.out.fam.ge 0 (by omega) (upd_same _ _ _)
    have P1 := hide (OO.out.trans (o1.mono (R := SB B) fun k hk => by have := HC.out.b6; have := HC.out.b7; unfold SB; rcases hk with e | e | e <;> omega))
    have HX1 := hide (show GopIs w1 (bo2 0) bg x.2 from h1)
    have HXA := hide hxa
    have HXX := hide hx
    clear h1 h2 o1 hgt hx hxa k1 ko
    by_cases hz : x.2.out = 0
    · have hzb : (x.2.out != 0) = false := by rw [hz]; rfl
      have HZ := hide hz
      clear hz
      go_wp2_with fail
      refine bodyPost_ret (results_none rfl _ _ _) rfl ?_
      rw [HXX.out]
      refine ⟨rfl, bo2, iv, tv, ?_, P1.out⟩
      rw [inN_no (by rw [HZ.out]; decide), tkN_no (by rw [HZ.out]; decide), show decide (x.2.out = 0) = true from by simp [HZ.out]]
      exact D1.out
    have hzb : (x.2.out != 0) = true := by simp [hz]
    have HZ := hide hz
    clear hz
    have k1 := D1.out.cc1
    have ko := D1.out.on (p := 0) (by omega) (upd_same _ _ _)
    go_wp2_with fail
    refine (HX1.out.outcome).mono ?_
    rintro e w1' ⟨rfl, rfl⟩
    by_cases hone : x.2.out = 1
    · have hob : (x.2.out == 1) = true := by rw [hone]; rfl
      have HONE := hide hone
      clear hone
      have hmb : nx2 0 ≤ 100001 := by
        rw [← HNX2.out]
        unfold bNx nxOf
        split
        · omega
        · rw [if_pos (by omega), upd_same]; omega
      go_wp2_with fail
      have D2 := hide D1.out.drew
      have P2 := hide P1.out.drew
      have X2 := hide (show GopIs w1.drew (bo2 0) bg x.2 from HX1.out)
      have ew := wrap_0 (nx2 0) hmb
      have hlen : (u64s IN).length ≤ 100000 := by rw [u64s_len]; exact hi
      have HLEN := hide hlen
      clear k1 ko hlen
      have hb0 : B ≤ w1.drew.heap.size := Nat.le_trans D2.out.b1 (Nat.le_of_lt D2.out.c.lt)
      obtain ⟨i0, hi0, hz0, hz1, hz2⟩ := info_parts info_u64
      refine wp_region_last 20 (fun w' : World => w'.cell? ⟨cb, 3, none⟩ = some iv ∧ w'.cell? ⟨cb, 2, none⟩ = some (.slice (some ⟨nb, 0, none⟩) 2 2) ∧ w'.cell? ⟨nb, 0, none⟩ = some (.int .u64 (nx2 0 : Int))) (by kernel_rfl) ?_
      generalize w1.drew = w2 at D2 P2 X2 hb0 ⊢
      have kk : (fun w' : World => w'.cell? ⟨cb, 3, none⟩ = some iv ∧ w'.cell? ⟨cb, 2, none⟩ = some (.slice (some ⟨nb, 0, none⟩) 2 2) ∧ w'.cell? ⟨nb, 0, none⟩ = some (.int .u64 (nx2 0 : Int))) w2 := ⟨D2.out.cc3, D2.out.cc2, D2.out.nn0⟩
      refine wpLast_take (i := 0) (oi := ⟨some 82, _, _, _, _, _⟩) (v := ?vv0) rfl (by kernel_rfl) (by kernel_rfl) (by kernel_rfl) (by kernel_rfl) (by decide) (fun _ _ _ h => h) (Or.inl ⟨by rfl, ?hy0⟩) (by assumption) ?rest0
      case hy0 => intro wq hSw; (try dsimp only at hSw); go_simp; (try with_reducible rfl)
      (try simp only [Act.put, List.setIfInBounds_toArray, List.set_cons_zero, List.set_cons_succ])
      refine wpLast_take (i := 1) (oi := ⟨some 83, _, _, _, _, _⟩) (v := ?vv1) rfl (by kernel_rfl) (by kernel_rfl) (by kernel_rfl) (by kernel_rfl) (by decide) (fun _ _ _ h => h) (Or.inl ⟨by rfl, ?hy1⟩) (by assumption) ?rest1
      case hy1 => intro wq hSw; (try dsimp only at hSw); go_simp; (try with_reducible rfl)
      (try simp only [Act.put, List.setIfInBounds_toArray, List.set_cons_zero, List.set_cons_succ])
      refine wpLast_take (i := 2) (oi := ⟨some 84, _, _, _, _, _⟩) (v := ?vv2) rfl (by kernel_rfl) (by kernel_rfl) (by kernel_rfl) (by kernel_rfl) (by decide) (fun _ _ _ h => h) (Or.inl ⟨by rfl, ?hy2⟩) (by assumption) ?rest2
      case hy2 => intro wq hSw; (try dsimp only at hSw); go_simp; (try with_reducible rfl)
      (try simp only [Act.put, List.setIfInBounds_toArray, List.set_cons_zero, List.set_cons_succ])
      refine wpLast_take (i := 3) (oi := ⟨some 85, _, _, _, _, _⟩) (v := ?vv3) rfl (by kernel_rfl) (by kernel_rfl) (by kernel_rfl) (by kernel_rfl) (by decide) (fun _ _ _ h => h) (Or.inl ⟨by rfl, ?hy3⟩) (by assumption) ?rest3
      case hy3 => intro wq hSw; (try dsimp only at hSw); go_simp; (try with_reducible rfl)
      (try simp only [Act.put, List.setIfInBounds_toArray, List.set_cons_zero, List.set_cons_succ])
      refine wpLast_take (i := 4) (oi := ⟨some 86, _, _, _, _, _⟩) (v := ?vv4) rfl (by kernel_rfl) (by kernel_rfl) (by kernel_rfl) (by kernel_rfl) (by decide) (fun _ _ _ h => h) (Or.inl ⟨by rfl, ?hy4⟩) (by assumption) ?rest4
      case hy4 => intro wq hSw; (try dsimp only at hSw); go_simp; (try with_reducible rfl)
      (try simp only [Act.put, List.setIfInBounds_toArray, List.set_cons_zero, List.set_cons_succ])
      refine wpLast_take (i := 5) (oi := ⟨some 87, _, _, _, _, _⟩) (v := ?vv5) rfl (by kernel_rfl) (by kernel_rfl) (by kernel_rfl) (by kernel_rfl) (by decide) (fun _ _ _ h => h) (Or.inl ⟨by rfl, ?hy5⟩) (by assumption) ?rest5
      case hy5 => intro wq hSw; (try dsimp only at hSw); go_simp; (try with_reducible rfl)
      (try simp only [Act.put, List.setIfInBounds_toArray, List.set_cons_zero, List.set_cons_succ])
      refine wpLast_take (i := 6) (oi := ⟨some 88, _, _, _, _, _⟩) (v := ?vv6) rfl (by kernel_rfl) (by kernel_rfl) (by kernel_rfl) (by kernel_rfl) (by decide) (fun _ _ _ h => h) (Or.inl ⟨by rfl, ?hy6⟩) (by assumption) ?rest6
      case hy6 => intro wq hSw; (try dsimp only at hSw); go_simp; (try with_reducible rfl)
      (try simp only [Act.put, List.setIfInBounds_toArray, List.set_cons_zero, List.set_cons_succ])
      refine wpLast_take (i := 7) (oi := ⟨some 89, _, _, _, _, _⟩) (v := ?vv7) rfl (by kernel_rfl) (by kernel_rfl) (by kernel_rfl) (by kernel_rfl) (by decide) (fun _ _ _ h => h) (Or.inl ⟨by rfl, ?hy7⟩) (by assumption) ?rest7
      case hy7 => intro wq hSw; (try dsimp only at hSw); go_simp; (try with_reducible rfl)
      (try simp only [Act.put, List.setIfInBounds_toArray, List.set_cons_zero, List.set_cons_succ])
      refine wpLast_take (i := 8) (oi := ⟨some 90, _, _, _, _, _⟩) (v := ?vv8) rfl (by kernel_rfl) (by kernel_rfl) (by kernel_rfl) (by kernel_rfl) (by decide) (fun _ _ _ h => h) (Or.inl ⟨by rfl, ?hy8⟩) (by assumption) ?rest8
      case hy8 => intro wq hSw; (try dsimp only at hSw); go_simp; (try with_reducible rfl)
      (try simp only [Act.put, List.setIfInBounds_toArray, List.set_cons_zero, List.set_cons_succ])
      refine wpLast_take (i := 9) (oi := ⟨some 91, _, _, _, _, _⟩) (v := ?vv9) rfl (by kernel_rfl) (by kernel_rfl) (by kernel_rfl) (by kernel_rfl) (by decide) (fun _ _ _ h => h) (Or.inl ⟨by rfl, ?hy9⟩) (by assumption) ?rest9
      case hy9 => intro wq hSw; (try dsimp only at hSw); go_simp; (try with_reducible rfl)
      (try simp only [Act.put, List.setIfInBounds_toArray, List.set_cons_zero, List.set_cons_succ])
      refine wpLast_take (i := 10) (oi := ⟨some 92, _, _, _, _, _⟩) (v := ?vv10) rfl (by kernel_rfl) (by kernel_rfl) (by kernel_rfl) (by kernel_rfl) (by decide) (fun _ _ _ h => h) (Or.inl ⟨by rfl, ?hy10⟩) (by assumption) ?rest10
      case hy10 => intro wq hSw; (try dsimp only at hSw); go_simp; (try with_reducible rfl)
      (try simp only [Act.put, List.setIfInBounds_toArray, List.set_cons_zero, List.set_cons_succ])
      refine wpLast_take (i := 11) (oi := ⟨some 93, _, _, _, _, _⟩) (v := ?vv11) rfl (by kernel_rfl) (by kernel_rfl) (by kernel_rfl) (by kernel_rfl) (by decide) (fun _ _ _ h => h) (Or.inl ⟨by rfl, ?hy11⟩) (by assumption) ?rest11
      case hy11 => intro wq hSw; (try dsimp only at hSw); go_simp; (try with_reducible rfl)
      (try simp only [Act.put, List.setIfInBounds_toArray, List.set_cons_zero, List.set_cons_succ])
      refine wpLast_take (i := 12) (oi := ⟨some 94, _, _, _, _, _⟩) (v := ?vv12) rfl (by kernel_rfl) (by kernel_rfl) (by kernel_rfl) (by kernel_rfl) (by decide) (fun _ _ _ h => h) (Or.inl ⟨by rfl, ?hy12⟩) (by assumption) ?rest12
      case hy12 => intro wq hSw; (try dsimp only at hSw); go_simp; (try with_reducible rfl)
      (try simp only [Act.put, List.setIfInBounds_toArray, List.set_cons_zero, List.set_cons_succ])
      refine wpLast_take (i := 13) (oi := ⟨some 95, _, _, _, _, _⟩) (v := ?vv13) rfl (by kernel_rfl) (by kernel_rfl) (by kernel_rfl) (by kernel_rfl) (by decide) (fun _ _ _ h => h) (Or.inl ⟨by rfl, ?hy13⟩) (by assumption) ?rest13
      case hy13 => intro wq hSw; (try dsimp only at hSw); go_simp; (try with_reducible rfl)
      (try simp only [Act.put, List.setIfInBounds_toArray, List.set_cons_zero, List.set_cons_succ])
      refine wpLast_take (i := 14) (oi := ⟨some 96, _, _, _, _, _⟩) (v := ?vv14) rfl (by kernel_rfl) (by kernel_rfl) (by kernel_rfl) (by kernel_rfl) (by decide) (fun _ _ _ h => h) (Or.inl ⟨by rfl, ?hy14⟩) (by assumption) ?rest14
      case hy14 => intro wq hSw; (try dsimp only at hSw); go_simp; (try with_reducible rfl)
      (try simp only [Act.put, List.setIfInBounds_toArray, List.set_cons_zero, List.set_cons_succ])
      refine wpLast_take (i := 15) (oi := ⟨some 97, _, _, _, _, _⟩) (v := ?vv15) rfl (by kernel_rfl) (by kernel_rfl) (by kernel_rfl) (by kernel_rfl) (by decide) (fun _ _ _ h => h) (Or.inl ⟨by rfl, ?hy15⟩) (by assumption) ?rest15
      case hy15 => intro wq hSw; (try dsimp only at hSw); go_simp; (try with_reducible rfl)
      (try simp only [Act.put, List.setIfInBounds_toArray, List.set_cons_zero, List.set_cons_succ])
      refine wpLast_one (i := 16) (o := ⟨some 98, _, _, _, _, _⟩) (by kernel_rfl) rfl (fun K hK => ?_)
      go_simp
      have D4 := hide (D2.out.only0 ((Only.refl S0 w2).alloc (.cells #[.int .u64 (v64 0 (nx2 0))] 28)))
      refine hK.out _ _ (fun _ => ⟨D4.out.cc3, D4.out.cc2, D4.out.nn0⟩) ?_
      clear hK K
      (try simp only [Act.put, List.setIfInBounds_toArray, List.set_cons_zero, List.set_cons_succ])
      refine wpLast_one (i := 17) (o := ⟨some 99, _, _, _, _, _⟩) (by kernel_rfl) rfl (fun K hK => ?_)
      refine step_append_lies _ (rfl) _ _ _ (rfl) B 28 i0 _ 1 8 Try.underlying35 hi0 hz0 hz1 hz2 rfl (by omega) iv (u64s IN).length (u64s IN) (rfl) (D4.out.inS) ⟨w2.heap.size, 0, none⟩ 1 1 [.int .u64 (v64 0 (nx2 0))] (rfl) (rfl) (World.news_of_block (cs := #[.int .u64 (v64 0 (nx2 0))]) (t := 28) (fr := (0, 0)) (heap_alloc_new _ _)) (by simp [Value.oneCell']) (by omega) (by have := HLEN.out; unfold maxLen; omega) (by have := HLEN.out; omega) (by simp; omega) (w2.heap.size + 1) (by simp) ?_
      intro g6 c6 w3 hown hgrow hat hlt
      have hv' : Sl w3 B 28 (.slice (some ⟨g6, 0, none⟩) ((u64s (IN)).length + 1) c6) (u64s (IN ++ [v64 0 (nx2 0)])) := by
        rw [u64s_snoc]
        unfold Sl
        rw [List.length_append]
        exact hown
      have o6 : Only (fun k => (iv).ownBlock = some k) w2 w3 := ((Only.refl _ w2).alloc _).then (R := fun k => (iv).ownBlock = some k) (Only.of_grown hgrow fun k hk _ => hk) fun i _ hi => hi
      have hnew : (Value.slice (some ⟨g6, 0, none⟩) ((u64s (IN)).length + 1) c6).ownBlock = (iv).ownBlock ∨ ∃ k, (Value.slice (some ⟨g6, 0, none⟩) ((u64s (IN)).length + 1) c6).ownBlock = some k ∧ w2.heap.size ≤ k := by
        rcases hat with e | e
        · exact .inl (by rw [e]; rfl)
        · exact .inr ⟨g6, rfl, by omega⟩
      obtain ⟨g1, g2, g3, g4, g5, -⟩ := D2.out.grow o6 ⟨_, D2.out.inS⟩ D2.out.d1.1 D2.out.d1.2
      have kk3 : (fun w' : World => w'.cell? ⟨cb, 3, none⟩ = some iv ∧ w'.cell? ⟨cb, 2, none⟩ = some (.slice (some ⟨nb, 0, none⟩) 2 2) ∧ w'.cell? ⟨nb, 0, none⟩ = some (.int .u64 (nx2 0 : Int))) w3 := ⟨g2.cellv (i := 3) rfl, g2.cellv (i := 2) rfl, g4.cellv (i := 0) rfl⟩
      have q1 : w3.cell? ⟨cb, 3, none⟩ = some iv := g2.cellv (i := 3) rfl
      have q2 := g2.frozen 3
      have D3 := hide (D2.out.inApp o6 hv' hnew)
      have hin := D2.out.inS
      have P3 := hide (P2.out.trans (o6.mono (R := SB B) fun k hk => (hin.block hk).1))
      clear hv' o6 hnew g1 g2 g3 g4 g5 hin hown hgrow hat hlt
      refine hK.out _ _ (fun _ => kk3) ?_
      clear hK K
      (try simp only [Act.put, List.setIfInBounds_toArray, List.set_cons_zero, List.set_cons_succ])
      refine wpLast_one (i := 18) (o := ⟨some 100, _, _, _, _, _⟩) (by kernel_rfl) rfl (fun K hK => ?_)
      go_simp
      refine hK.out _ _ (fun _ => kk3) ?_
      clear hK K
      (try simp only [Act.put, List.setIfInBounds_toArray, List.set_cons_zero, List.set_cons_succ])
      refine wpLast_one (i := 19) (o := ⟨some 101, _, _, _, _, _⟩) (by kernel_rfl) rfl (fun K hK => ?_)
      go_simp
      refine hK.out _ _ (fun _ => kk3) ?_
      clear hK K
      (try simp only [Act.put, List.setIfInBounds_toArray, List.set_cons_zero, List.set_cons_succ])
      refine wpLast_one (i := 20) (o := ⟨none, _, _, _, _, _⟩) (by kernel_rfl) rfl (fun K hK => ?_)
      go_simp
      refine hK.out _ _ (fun h => absurd rfl h) ?_
      clear hK K
      (try simp only [Act.put, List.setIfInBounds_toArray, List.set_cons_zero, List.set_cons_succ])
      have P4 := hide (P3.out.set1 (g := cb) 3 H.out.b1 (.slice (some ⟨g6, 0, none⟩) ((u64s IN).length + 1) c6))
      refine wpLast_done (by kernel_rfl) ?_ _
      have q3 := D3.out.cc1
      have q4 := D3.out.on (p := 0) (by omega) (upd_same _ _ _)
      have q5 := D3.out.ops.frozen 0
      go_wp2_with fail
      go_end0
      rw [HXX.out]
      refine ⟨rfl, bo2, .slice (some ⟨g6, 0, none⟩) ((u64s IN).length + 1) c6, tv, ?_, P4.out.set1 (g := ob) 0 H.out.b2 (.pointer none)⟩
      have d2 := D3.out.nil_ (p := 0)
      rw [upd_upd] at d2
      rw [show decide (x.2.out = 0) = false from by simp [HZ.out], show inN x.2 0 nx2 IN = IN ++ [v64 0 (nx2 0)] from by unfold inN; rw [if_pos ⟨HONE.out, by omega⟩], show tkN x.2 0 TK = TK from by unfold tkN; rw [if_neg (fun h => by omega)]]
      exact d2
    · have hob : (x.2.out == 1) = false := by simp [hone]
      have HONE := hide hone
      clear hone
      go_wp2_with fail
      refine (HX1.out.outcome).mono ?_
      rintro e w1' ⟨rfl, rfl⟩
      have kf := D1.out.ops.frozen 0
      go_wp2_with fail
      go_end0
      rw [HXX.out]
      refine ⟨rfl, bo2, iv, tv, ?_, P1.out.set1 (g := ob) 0 H.out.b2 (.pointer none)⟩
      have d2 := D1.out.nil_ (p := 0)
      rw [upd_upd] at d2
      rw [inN_no HONE.out, tkN_no HONE.out, show decide (x.2.out = 0) = false from by simp [HZ.out]]
      exact d2

set_option maxRecDepth 100000 in
set_option maxHeartbeats 4000000 in
theorem cstep_1 (h : CW w B cb ob nb tb bg bm bc n L tc act o bo nx iv tv IN TK) (more : Bool) (hm : act 1 = true ∨ more = true) (hok : GopOk 0 L.length (bOp act o nx 1 1)) (h0 : (bOp act o nx 1 1).out = 0)
    (hah : (bOp act o nx 1 1).ahead = aheadOf 1) (hn : 1 < 2 → nx 1 ≤ 100000) (hf : Few (tc + 10)) (hi : IN.length ≤ 100000) (hk : ∀ i, i < 2 → (TK i).length ≤ 100000) :
    Calls Try.prog 33 #[.pointer (some ⟨cb, 0, none⟩), .int .i64 1, .bool more] w fun e w' => e = .returned (.tuple #[]) ∧ Stepped w w' B cb ob nb tb bg bm bc n (tc + 1) act 1 (bOp act o nx 1) (gstep 0 n L (bOp act o nx 1 1)) (bNx act nx 1) IN TK := by
  have H := hide h
  have k1 := h.cc1
  have HM := hide hm
  have HOK := hide (And.intro hok (And.intro h0 hah))
  have HK := hide hk
  replace hn := hn (by omega)
  clear h hm hok h0 hah hk
  have hact : act 1 = true ∨ act 1 = false := by cases act 1 <;> simp
  have ko : ∃ v, w.cell? ⟨ob, 1, none⟩ = some (.pointer v) ∧ v = if act 1 then some ⟨bo 1, 0, none⟩ else none := by
    rcases hact with e | e
    · exact ⟨_, H.out.on (by omega) e, by rw [e]; rfl⟩
    · exact ⟨_, H.out.off (by omega) e, by rw [e]; rfl⟩
  obtain ⟨v, ko, hv⟩ := ko
  have HV := hide hv
  have HACT := hide hact
  clear hv hact
  obtain ⟨o2, ho2⟩ : ∃ o2, bOp act o nx 1 = o2 := ⟨_, rfl⟩
  obtain ⟨nx2, hnx2⟩ : ∃ nx2, bNx act nx 1 = nx2 := ⟨_, rfl⟩
  rw [ho2] at HOK ⊢
  rw [hnx2]
  have HO2 := hide ho2
  have HNX2 := hide hnx2
  clear ho2 hnx2
  go_enter Try.func33, Try.ntmps33
  go_upto_if 13 with fail

  go_cut [] (fun wx => ∃ bo', CW wx B cb ob nb tb bg bm bc n L tc (upd act 1 true) o2 bo' nx2 iv tv IN TK ∧ Only (SB B) w wx)
  case first =>
    rcases HACT.out with e | e
    · have hv' := HV.out
      rw [e] at hv'
      have HE := hide e
      rw [hv']
      clear ko
      clear hv' e
      go_wp2_with fail
      go_meet
      refine ⟨bo, ?_, Only.refl _ _⟩
      have q1 := HO2.out
      have q2 := HNX2.out
      unfold bOp at q1
      unfold bNx at q2
      rw [if_pos HE.out] at q1 q2
      rw [← q1, ← q2, show upd act 1 true = act from by rw [← HE.out]; exact upd_self _ _]
      exact H.out
    · have hv' := HV.out
      rw [e] at hv'
      have hmt : more = true := by
        rcases HM.out with h | h
        · rw [e] at h; cases h
        · exact h
      have HE := hide e
      rw [hv']
      clear ko
      subst hmt
      clear hv' e
      go_wp2_with fail
      have z0 := H.out.drew.cc0
      have z1 := H.out.drew.cc1
      clear k1
      go_region_held3 (fun w' => w'.cell? ⟨cb, 0, none⟩ = some (.pointer (some ⟨bg, 0, none⟩)) ∧ w'.cell? ⟨cb, 1, none⟩ = some (.slice (some ⟨ob, 0, none⟩) 4 4)) (first | exact ⟨z0, z1⟩ | exact ⟨y0, y1⟩ | exact ⟨y4, y5⟩) (first | (go_at_call 23; refine (GTake_all H.out.drew.env).mono ?_; rintro e w1 ⟨rb, rfl, g1, e1, o1, b1⟩; have y0 := (H.out.drew.only0 o1).cc0; have y1 := (H.out.drew.only0 o1).cc1; have y2 := (H.out.drew.only0 o1).off (p := 1) (by omega) HE.out; have y3 := (H.out.drew.only0 o1).ops.frozen 1; have C1 := hide (H.out.drew.begin_ (p := 1) (by omega) o1 g1 b1); have y4 := C1.out.cc0; have y5 := C1.out.cc1; have O1 := hide (((SB.s0 (B := B) ((Only.refl S0 w).drew.trans o1)).set1 (g := ob) 1 H.out.b2 (.pointer (some ⟨rb, 0, none⟩)))); clear o1 g1 e1 b1))
      rename_i hHeld
      clear hHeld y0 y1 y2 y3 y4 y5 z0 z1
      generalize w1.setCell ⟨ob, 1, none⟩ (.pointer (some ⟨rb, 0, none⟩)) = w2 at C1 O1 ⊢
      have k2 := C1.out.cc2
      have kn := C1.out.nn1
      have kf := C1.out.nxt.frozen 1
      go_wp2_with fail
      have C3 := hide (C1.out.next (p := 1) (by omega) (nx 1 + 1))
      have O3 := hide (O1.out.set1 (g := nb) 1 H.out.b3 (.int .u64 ((nx 1 + 1 : Nat) : Int)))
      rw [show ((nx 1 + 1 : Nat) : Int) = (nx 1 : Int) + 1 from by omega] at C3 O3
      clear k2 kn kf
      generalize w2.setCell ⟨nb, 1, none⟩ (.int .u64 ((nx 1 : Int) + 1)) = w3 at C3 O3 ⊢
      have z0 := C3.out.drew.cc0
      have z1 := C3.out.drew.cc1
      have z2 := C3.out.drew.cc2
      have z3 := C3.out.drew.nn1
      rw [upd_same] at z3
      obtain ⟨m, hm⟩ : ∃ m, nx 1 + 1 = m := ⟨_, rfl⟩
      have hm1 : m ≤ 100001 := by omega
      rw [hm] at z3
      have HMM := hide hm
      clear hm
      have z4 := C3.out.drew.on (p := 1) (by omega) (upd_same _ _ _)
      have z5 := C3.out.drew.ops.frozen 1
      rw [upd_same] at z4
      have ew := wrap_1 m hm1
      have EW := hide ew
      clear ew
      go_region_held3 (fun w' => w'.cell? ⟨cb, 0, none⟩ = some (.pointer (some ⟨bg, 0, none⟩)) ∧ w'.cell? ⟨cb, 1, none⟩ = some (.slice (some ⟨ob, 0, none⟩) 4 4) ∧ w'.cell? ⟨cb, 2, none⟩ = some (.slice (some ⟨nb, 0, none⟩) 2 2) ∧ w'.cell? ⟨nb, 1, none⟩ = some (.int .u64 (m : Int))) (first | exact ⟨z0, z1, z2, z3⟩ | exact ⟨y0, y1, y2, y3⟩ | exact ⟨x0, x1, x2, x3⟩) (first | (go_at_call 22; rw [EW.out]; refine (GPut_all C3.out.drew.env (v64 1 m)).mono ?_; rintro e w4 ⟨rb2, rfl, g1, e1, o1, b1⟩; have D1 := hide (C3.out.drew.only0 o1); have y0 := D1.out.cc0; have y1 := D1.out.cc1; have y2 := D1.out.cc2; have y3 := D1.out.nn1; rw [upd_same, HMM.out] at y3; have y6 := D1.out.on (p := 1) (by omega) (upd_same _ _ _); rw [upd_same] at y6; have y7 := D1.out.ops.frozen 1; have C4 := hide (C3.out.drew.begin_ (p := 1) (by omega) o1 g1 b1); have x0 := C4.out.cc0; have x1 := C4.out.cc1; have x2 := C4.out.cc2; have x3 := C4.out.nn1; rw [upd_same, HMM.out] at x3; have O4 := hide (((O3.out.drew.trans (SB.s0 o1)).set1 (g := ob) 1 H.out.b2 (.pointer (some ⟨rb2, 0, none⟩)))); clear o1 g1 e1 b1))
      rename_i hHeld
      clear hHeld y0 y1 y2 y3 y6 y7 x0 x1 x2 x3 z0 z1 z2 z3 z4 z5
      generalize w4.setCell ⟨ob, 1, none⟩ (.pointer (some ⟨rb2, 0, none⟩)) = w5 at C4 O4 ⊢
      go_wp2_with fail
      go_meet
      refine ⟨upd bo 1 rb2, ?_, O4.out⟩
      have q1 := HO2.out
      have q2 := HNX2.out
      unfold bOp at q1
      unfold bNx at q2
      rw [if_neg (by rw [HE.out]; decide)] at q1 q2
      have c4 := C4.out
      rw [upd_upd, upd_upd, upd_upd] at c4
      rw [← q1, ← q2, show begunOp nx 1 = putOp 0 (v64 1 (nx 1 + 1)) from rfl, show nxOf nx 1 = upd nx 1 (nx 1 + 1) from rfl, HMM.out]
      rw [HMM.out] at c4
      exact c4
  case rest =>
    obtain ⟨bo2, hc, hoo⟩ := hcut
    have HC := hide hc
    have OO := hide hoo
    have k1 := hc.cc1
    have ko := hc.on (p := 1) (by omega) (upd_same _ _ _)
    clear hc hoo
    go_wp2_with fail
    refine (GStep_all HC.out.env HOK.out.1 (HC.out.fam.at_ 1 (by omega) (upd_same _ _ _)) (hf.le_ (by omega))).mono ?_
    rintro e w1 ⟨rfl, h1, h2, o1⟩
    have hgt : gtick (o2 1) = 1 := by simp [gtick, HOK.out.2.1]
    rw [hgt] at h2
    obtain ⟨x, hx⟩ : ∃ x, gstep 0 n L (o2 1) = x := ⟨_, rfl⟩
    have hxa : x.2.ahead = aheadOf 1 := by rw [← hx, gstep_ahead]; exact HOK.out.2.2
    rw [hx] at h1 h2 ⊢
    have D1 := hide (HC.out.step (p := 1) (by omega) (upd_same _ _ _) o1 h1 h2)
    have hb2 := HC.out.fam.ge 1 (by omega) (upd_same _ _ _)
    have P1 := hide (OO.out.trans (o1.mono (R := SB B) fun k hk => by have := HC.out.b6; have := HC.out.b7; unfold SB; rcases hk with e | e | e <;> omega))
    have HX1 := hide (show GopIs w1 (bo2 1) bg x.2 from h1)
    have HXA := hide hxa
    have HXX := hide hx
    clear h1 h2 o1 hgt hx hxa k1 ko
    by_cases hz : x.2.out = 0
    · have hzb : (x.2.out != 0) = false := by rw [hz]; rfl
      have HZ := hide hz
      clear hz
      go_wp2_with fail
      refine bodyPost_ret (results_none rfl _ _ _) rfl ?_
      rw [HXX.out]
      refine ⟨rfl, bo2, iv, tv, ?_, P1.out⟩
      rw [inN_no (by rw [HZ.out]; decide), tkN_no (by rw [HZ.out]; decide), show decide (x.2.out = 0) = true from by simp [HZ.out]]
      exact D1.out
    have hzb : (x.2.out != 0) = true := by simp [hz]
    have HZ := hide hz
    clear hz
    have k1 := D1.out.cc1
    have ko := D1.out.on (p := 1) (by omega) (upd_same _ _ _)
    go_wp2_with fail
    refine (HX1.out.outcome).mono ?_
    rintro e w1' ⟨rfl, rfl⟩
    by_cases hone : x.2.out = 1
    · have hob : (x.2.out == 1) = true := by rw [hone]; rfl
      have HONE := hide hone
      clear hone
      have hmb : nx2 1 ≤ 100001 := by
        rw [← HNX2.out]
        unfold bNx nxOf
        split
        · omega
        · rw [if_pos (by omega), upd_same]; omega
      go_wp2_with fail
      have D2 := hide D1.out.drew
      have P2 := hide P1.out.drew
      have X2 := hide (show GopIs w1.drew (bo2 1) bg x.2 from HX1.out)
      have ew := wrap_1 (nx2 1) hmb
      have hlen : (u64s IN).length ≤ 100000 := by rw [u64s_len]; exact hi
      have HLEN := hide hlen
      clear k1 ko hlen
      have hb0 : B ≤ w1.drew.heap.size := Nat.le_trans D2.out.b1 (Nat.le_of_lt D2.out.c.lt)
      obtain ⟨i0, hi0, hz0, hz1, hz2⟩ := info_parts info_u64
      refine wp_region_last 20 (fun w' : World => w'.cell? ⟨cb, 3, none⟩ = some iv ∧ w'.cell? ⟨cb, 2, none⟩ = some (.slice (some ⟨nb, 0, none⟩) 2 2) ∧ w'.cell? ⟨nb, 1, none⟩ = some (.int .u64 (nx2 1 : Int))) (by kernel_rfl) ?_
      generalize w1.drew = w2 at D2 P2 X2 hb0 ⊢
      have kk : (fun w' : World => w'.cell? ⟨cb, 3, none⟩ = some iv ∧ w'.cell? ⟨cb, 2, none⟩ = some (.slice (some ⟨nb, 0, none⟩) 2 2) ∧ w'.cell? ⟨nb, 1, none⟩ = some (.int .u64 (nx2 1 : Int))) w2 := ⟨D2.out.cc3, D2.out.cc2, D2.out.nn1⟩
      refine wpLast_take (i := 0) (oi := ⟨some 82, _, _, _, _, _⟩) (v := ?vv0) rfl (by kernel_rfl) (by kernel_rfl) (by kernel_rfl) (by kernel_rfl) (by decide) (fun _ _ _ h => h) (Or.inl ⟨by rfl, ?hy0⟩) (by assumption) ?rest0
      case hy0 => intro wq hSw; (try dsimp only at hSw); go_simp; (try with_reducible rfl)
      (try simp only [Act.put, List.setIfInBounds_toArray, List.set_cons_zero, List.set_cons_succ])
      refine wpLast_take (i := 1) (oi := ⟨some 83, _, _, _, _, _⟩) (v := ?vv1) rfl (by kernel_rfl) (by kernel_rfl) (by kernel_rfl) (by kernel_rfl) (by decide) (fun _ _ _ h => h) (Or.inl ⟨by rfl, ?hy1⟩) (by assumption) ?rest1
      case hy1 => intro wq hSw; (try dsimp only at hSw); go_simp; (try with_reducible rfl)
      (try simp only [Act.put, List.setIfInBounds_toArray, List.set_cons_zero, List.set_cons_succ])
      refine wpLast_take (i := 2) (oi := ⟨some 84, _, _, _, _, _⟩) (v := ?vv2) rfl (by kernel_rfl) (by kernel_rfl) (by kernel_rfl) (by kernel_rfl) (by decide) (fun _ _ _ h => h) (Or.inl ⟨by rfl, ?hy2⟩) (by assumption) ?rest2
      case hy2 => intro wq hSw; (try dsimp only at hSw); go_simp; (try with_reducible rfl)
      (try simp only [Act.put, List.setIfInBounds_toArray, List.set_cons_zero, List.set_cons_succ])
      refine wpLast_take (i := 3) (oi := ⟨some 85, _, _, _, _, _⟩) (v := ?vv3) rfl (by kernel_rfl) (by kernel_rfl) (by kernel_rfl) (by kernel_rfl) (by decide) (fun _ _ _ h => h) (Or.inl ⟨by rfl, ?hy3⟩) (by assumption) ?rest3
      case hy3 => intro wq hSw; (try dsimp only at hSw); go_simp; (try with_reducible rfl)
      (try simp only [Act.put, List.setIfInBounds_toArray, List.set_cons_zero, List.set_cons_succ])
      refine wpLast_take (i := 4) (oi := ⟨some 86, _, _, _, _, _⟩) (v := ?vv4) rfl (by kernel_rfl) (by kernel_rfl) (by kernel_rfl) (by kernel_rfl) (by decide) (fun _ _ _ h => h) (Or.inl ⟨by rfl, ?hy4⟩) (by assumption) ?rest4
      case hy4 => intro wq hSw; (try dsimp only at hSw); go_simp; (try with_reducible rfl)
      (try simp only [Act.put, List.setIfInBounds_toArray, List.set_cons_zero, List.set_cons_succ])
      refine wpLast_take (i := 5) (oi := ⟨some 87, _, _, _, _, _⟩) (v := ?vv5) rfl (by kernel_rfl) (by kernel_rfl) (by kernel_rfl) (by kernel_rfl) (by decide) (fun _ _ _ h => h) (Or.inl ⟨by rfl, ?hy5⟩) (by assumption) ?rest5
      case hy5 => intro wq hSw; (try dsimp only at hSw); go_simp; (try with_reducible rfl)
      (try simp only [Act.put, List.setIfInBounds_toArray, List.set_cons_zero, List.set_cons_succ])
      refine wpLast_take (i := 6) (oi := ⟨some 88, _, _, _, _, _⟩) (v := ?vv6) rfl (by kernel_rfl) (by kernel_rfl) (by kernel_rfl) (by kernel_rfl) (by decide) (fun _ _ _ h => h) (Or.inl ⟨by rfl, ?hy6⟩) (by assumption) ?rest6
      case hy6 => intro wq hSw; (try dsimp only at hSw); go_simp; (try with_reducible rfl)
      (try simp only [Act.put, List.setIfInBounds_toArray, List.set_cons_zero, List.set_cons_succ])
      refine wpLast_take (i := 7) (oi := ⟨some 89, _, _, _, _, _⟩) (v := ?vv7) rfl (by kernel_rfl) (by kernel_rfl) (by kernel_rfl) (by kernel_rfl) (by decide) (fun _ _ _ h => h) (Or.inl ⟨by rfl, ?hy7⟩) (by assumption) ?rest7
      case hy7 => intro wq hSw; (try dsimp only at hSw); go_simp; (try with_reducible rfl)
      (try simp only [Act.put, List.setIfInBounds_toArray, List.set_cons_zero, List.set_cons_succ])
      refine wpLast_take (i := 8) (oi := ⟨some 90, _, _, _, _, _⟩) (v := ?vv8) rfl (by kernel_rfl) (by kernel_rfl) (by kernel_rfl) (by kernel_rfl) (by decide) (fun _ _ _ h => h) (Or.inl ⟨by rfl, ?hy8⟩) (by assumption) ?rest8
      case hy8 => intro wq hSw; (try dsimp only at hSw); go_simp; (try with_reducible rfl)
      (try simp only [Act.put, List.setIfInBounds_toArray, List.set_cons_zero, List.set_cons_succ])
      refine wpLast_take (i := 9) (oi := ⟨some 91, _, _, _, _, _⟩) (v := ?vv9) rfl (by kernel_rfl) (by kernel_rfl) (by kernel_rfl) (by kernel_rfl) (by decide) (fun _ _ _ h => h) (Or.inl ⟨by rfl, ?hy9⟩) (by assumption) ?rest9
      case hy9 => intro wq hSw; (try dsimp only at hSw); go_simp; (try with_reducible rfl)
      (try simp only [Act.put, List.setIfInBounds_toArray, List.set_cons_zero, List.set_cons_succ])
      refine wpLast_take (i := 10) (oi := ⟨some 92, _, _, _, _, _⟩) (v := ?vv10) rfl (by kernel_rfl) (by kernel_rfl) (by kernel_rfl) (by kernel_rfl) (by decide) (fun _ _ _ h => h) (Or.inl ⟨by rfl, ?hy10⟩) (by assumption) ?rest10
      case hy10 => intro wq hSw; (try dsimp only at hSw); go_simp; (try with_reducible rfl)
      (try simp only [Act.put, List.setIfInBounds_toArray, List.set_cons_zero, List.set_cons_succ])
      refine wpLast_take (i := 11) (oi := ⟨some 93, _, _, _, _, _⟩) (v := ?vv11) rfl (by kernel_rfl) (by kernel_rfl) (by kernel_rfl) (by kernel_rfl) (by decide) (fun _ _ _ h => h) (Or.inl ⟨by rfl, ?hy11⟩) (by assumption) ?rest11
      case hy11 => intro wq hSw; (try dsimp only at hSw); go_simp; (try with_reducible rfl)
      (try simp only [Act.put, List.setIfInBounds_toArray, List.set_cons_zero, List.set_cons_succ])
      refine wpLast_take (i := 12) (oi := ⟨some 94, _, _, _, _, _⟩) (v := ?vv12) rfl (by kernel_rfl) (by kernel_rfl) (by kernel_rfl) (by kernel_rfl) (by decide) (fun _ _ _ h => h) (Or.inl ⟨by rfl, ?hy12⟩) (by assumption) ?rest12
      case hy12 => intro wq hSw; (try dsimp only at hSw); go_simp; (try with_reducible rfl)
      (try simp only [Act.put, List.setIfInBounds_toArray, List.set_cons_zero, List.set_cons_succ])
      refine wpLast_take (i := 13) (oi := ⟨some 95, _, _, _, _, _⟩) (v := ?vv13) rfl (by kernel_rfl) (by kernel_rfl) (by kernel_rfl) (by kernel_rfl) (by decide) (fun _ _ _ h => h) (Or.inl ⟨by rfl, ?hy13⟩) (by assumption) ?rest13
      case hy13 => intro wq hSw; (try dsimp only at hSw); go_simp; (try with_reducible rfl)
      (try simp only [Act.put, List.setIfInBounds_toArray, List.set_cons_zero, List.set_cons_succ])
      refine wpLast_take (i := 14) (oi := ⟨some 96, _, _, _, _, _⟩) (v := ?vv14) rfl (by kernel_rfl) (by kernel_rfl) (by kernel_rfl) (by kernel_rfl) (by decide) (fun _ _ _ h => h) (Or.inl ⟨by rfl, ?hy14⟩) (by assumption) ?rest14
      case hy14 => intro wq hSw; (try dsimp only at hSw); go_simp; (try with_reducible rfl)
      (try simp only [Act.put, List.setIfInBounds_toArray, List.set_cons_zero, List.set_cons_succ])
      refine wpLast_take (i := 15) (oi := ⟨some 97, _, _, _, _, _⟩) (v := ?vv15) rfl (by kernel_rfl) (by kernel_rfl) (by kernel_rfl) (by kernel_rfl) (by decide) (fun _ _ _ h => h) (Or.inl ⟨by rfl, ?hy15⟩) (by assumption) ?rest15
      case hy15 => intro wq hSw; (try dsimp only at hSw); go_simp; (try with_reducible rfl)
      (try simp only [Act.put, List.setIfInBounds_toArray, List.set_cons_zero, List.set_cons_succ])
      refine wpLast_one (i := 16) (o := ⟨some 98, _, _, _, _, _⟩) (by kernel_rfl) rfl (fun K hK => ?_)
      go_simp
      have D4 := hide (D2.out.only0 ((Only.refl S0 w2).alloc (.cells #[.int .u64 (v64 1 (nx2 1))] 28)))
      refine hK.out _ _ (fun _ => ⟨D4.out.cc3, D4.out.cc2, D4.out.nn1⟩) ?_
      clear hK K
      (try simp only [Act.put, List.setIfInBounds_toArray, List.set_cons_zero, List.set_cons_succ])
      refine wpLast_one (i := 17) (o := ⟨some 99, _, _, _, _, _⟩) (by kernel_rfl) rfl (fun K hK => ?_)
      refine step_append_lies _ (rfl) _ _ _ (rfl) B 28 i0 _ 1 8 Try.underlying35 hi0 hz0 hz1 hz2 rfl (by omega) iv (u64s IN).length (u64s IN) (rfl) (D4.out.inS) ⟨w2.heap.size, 0, none⟩ 1 1 [.int .u64 (v64 1 (nx2 1))] (rfl) (rfl) (World.news_of_block (cs := #[.int .u64 (v64 1 (nx2 1))]) (t := 28) (fr := (0, 0)) (heap_alloc_new _ _)) (by simp [Value.oneCell']) (by omega) (by have := HLEN.out; unfold maxLen; omega) (by have := HLEN.out; omega) (by simp; omega) (w2.heap.size + 1) (by simp) ?_
      intro g6 c6 w3 hown hgrow hat hlt
      have hv' : Sl w3 B 28 (.slice (some ⟨g6, 0, none⟩) ((u64s (IN)).length + 1) c6) (u64s (IN ++ [v64 1 (nx2 1)])) := by
        rw [u64s_snoc]
        unfold Sl
        rw [List.length_append]
        exact hown
      have o6 : Only (fun k => (iv).ownBlock = some k) w2 w3 := ((Only.refl _ w2).alloc _).then (R := fun k => (iv).ownBlock = some k) (Only.of_grown hgrow fun k hk _ => hk) fun i _ hi => hi
      have hnew : (Value.slice (some ⟨g6, 0, none⟩) ((u64s (IN)).length + 1) c6).ownBlock = (iv).ownBlock ∨ ∃ k, (Value.slice (some ⟨g6, 0, none⟩) ((u64s (IN)).length + 1) c6).ownBlock = some k ∧ w2.heap.size ≤ k := by
        rcases hat with e | e
        · exact .inl (by rw [e]; rfl)
        · exact .inr ⟨g6, rfl, by omega⟩
      obtain ⟨g1, g2, g3, g4, g5, -⟩ := D2.out.grow o6 ⟨_, D2.out.inS⟩ D2.out.d1.1 D2.out.d1.2
      have kk3 : (fun w' : World => w'.cell? ⟨cb, 3, none⟩ = some iv ∧ w'.cell? ⟨cb, 2, none⟩ = some (.slice (some ⟨nb, 0, none⟩) 2 2) ∧ w'.cell? ⟨nb, 1, none⟩ = some (.int .u64 (nx2 1 : Int))) w3 := ⟨g2.cellv (i := 3) rfl, g2.cellv (i := 2) rfl, g4.cellv (i := 1) rfl⟩
      have q1 : w3.cell? ⟨cb, 3, none⟩ = some iv := g2.cellv (i := 3) rfl
      have q2 := g2.frozen 3
      have D3 := hide (D2.out.inApp o6 hv' hnew)
      have hin := D2.out.inS
      have P3 := hide (P2.out.trans (o6.mono (R := SB B) fun k hk => (hin.block hk).1))
      clear hv' o6 hnew g1 g2 g3 g4 g5 hin hown hgrow hat hlt
      refine hK.out _ _ (fun _ => kk3) ?_
      clear hK K
      (try simp only [Act.put, List.setIfInBounds_toArray, List.set_cons_zero, List.set_cons_succ])
      refine wpLast_one (i := 18) (o := ⟨some 100, _, _, _, _, _⟩) (by kernel_rfl) rfl (fun K hK => ?_)
      go_simp
      refine hK.out _ _ (fun _ => kk3) ?_
      clear hK K
      (try simp only [Act.put, List.setIfInBounds_toArray, List.set_cons_zero, List.set_cons_succ])
      refine wpLast_one (i := 19) (o := ⟨some 101, _, _, _, _, _⟩) (by kernel_rfl) rfl (fun K hK => ?_)
      go_simp
      refine hK.out _ _ (fun _ => kk3) ?_
      clear hK K
      (try simp only [Act.put, List.setIfInBounds_toArray, List.set_cons_zero, List.set_cons_succ])
      refine wpLast_one (i := 20) (o := ⟨none, _, _, _, _, _⟩) (by kernel_rfl) rfl (fun K hK => ?_)
      go_simp
      refine hK.out _ _ (fun h => absurd rfl h) ?_
      clear hK K
      (try simp only [Act.put, List.setIfInBounds_toArray, List.set_cons_zero, List.set_cons_succ])
      have P4 := hide (P3.out.set1 (g := cb) 3 H.out.b1 (.slice (some ⟨g6, 0, none⟩) ((u64s IN).length + 1) c6))
      refine wpLast_done (by kernel_rfl) ?_ _
      have q3 := D3.out.cc1
      have q4 := D3.out.on (p := 1) (by omega) (upd_same _ _ _)
      have q5 := D3.out.ops.frozen 1
      go_wp2_with fail
      go_end0
      rw [HXX.out]
      refine ⟨rfl, bo2, .slice (some ⟨g6, 0, none⟩) ((u64s IN).length + 1) c6, tv, ?_, P4.out.set1 (g := ob) 1 H.out.b2 (.pointer none)⟩
      have d2 := D3.out.nil_ (p := 1)
      rw [upd_upd] at d2
      rw [show decide (x.2.out = 0) = false from by simp [HZ.out], show inN x.2 1 nx2 IN = IN ++ [v64 1 (nx2 1)] from by unfold inN; rw [if_pos ⟨HONE.out, by omega⟩], show tkN x.2 1 TK = TK from by unfold tkN; rw [if_neg (fun h => by omega)]]
      exact d2
    · have hob : (x.2.out == 1) = false := by simp [hone]
      have HONE := hide hone
      clear hone
      go_wp2_with fail
      refine (HX1.out.outcome).mono ?_
      rintro e w1' ⟨rfl, rfl⟩
      have kf := D1.out.ops.frozen 1
      go_wp2_with fail
      go_end0
      rw [HXX.out]
      refine ⟨rfl, bo2, iv, tv, ?_, P1.out.set1 (g := ob) 1 H.out.b2 (.pointer none)⟩
      have d2 := D1.out.nil_ (p := 1)
      rw [upd_upd] at d2
      rw [inN_no HONE.out, tkN_no HONE.out, show decide (x.2.out = 0) = false from by simp [HZ.out]]
      exact d2

set_option maxRecDepth 100000 in
set_option maxHeartbeats 4000000 in
theorem cstep_2 (h : CW w B cb ob nb tb bg bm bc n L tc act o bo nx iv tv IN TK) (more : Bool) (hm : act 2 = true ∨ more = true) (hok : GopOk 0 L.length (bOp act o nx 2 2)) (h0 : (bOp act o nx 2 2).out = 0)
    (hah : (bOp act o nx 2 2).ahead = aheadOf 2) (hn : 2 < 2 → nx 2 ≤ 100000) (hf : Few (tc + 10)) (hi : IN.length ≤ 100000) (hk : ∀ i, i < 2 → (TK i).length ≤ 100000) :
    Calls Try.prog 33 #[.pointer (some ⟨cb, 0, none⟩), .int .i64 2, .bool more] w fun e w' => e = .returned (.tuple #[]) ∧ Stepped w w' B cb ob nb tb bg bm bc n (tc + 1) act 2 (bOp act o nx 2) (gstep 0 n L (bOp act o nx 2 2)) (bNx act nx 2) IN TK := by
  have H := hide h
  have k1 := h.cc1
  have HM := hide hm
  have HOK := hide (And.intro hok (And.intro h0 hah))
  have HK := hide hk
  clear hn
  clear h hm hok h0 hah hk
  have hact : act 2 = true ∨ act 2 = false := by cases act 2 <;> simp
  have ko : ∃ v, w.cell? ⟨ob, 2, none⟩ = some (.pointer v) ∧ v = if act 2 then some ⟨bo 2, 0, none⟩ else none := by
    rcases hact with e | e
    · exact ⟨_, H.out.on (by omega) e, by rw [e]; rfl⟩
    · exact ⟨_, H.out.off (by omega) e, by rw [e]; rfl⟩
  obtain ⟨v, ko, hv⟩ := ko
  have HV := hide hv
  have HACT := hide hact
  clear hv hact
  obtain ⟨o2, ho2⟩ : ∃ o2, bOp act o nx 2 = o2 := ⟨_, rfl⟩
  obtain ⟨nx2, hnx2⟩ : ∃ nx2, bNx act nx 2 = nx2 := ⟨_, rfl⟩
  rw [ho2] at HOK ⊢
  rw [hnx2]
  have HO2 := hide ho2
  have HNX2 := hide hnx2
  clear ho2 hnx2
  go_enter Try.func33, Try.ntmps33
  go_upto_if 13 with fail

  go_cut [] (fun wx => ∃ bo', CW wx B cb ob nb tb bg bm bc n L tc (upd act 2 true) o2 bo' nx2 iv tv IN TK ∧ Only (SB B) w wx)
  case first =>
    rcases HACT.out with e | e
    · have hv' := HV.out
      rw [e] at hv'
      have HE := hide e
      rw [hv']
      clear ko
      clear hv' e
      go_wp2_with fail
      go_meet
      refine ⟨bo, ?_, Only.refl _ _⟩
      have q1 := HO2.out
      have q2 := HNX2.out
      unfold bOp at q1
      unfold bNx at q2
      rw [if_pos HE.out] at q1 q2
      rw [← q1, ← q2, show upd act 2 true = act from by rw [← HE.out]; exact upd_self _ _]
      exact H.out
    · have hv' := HV.out
      rw [e] at hv'
      have hmt : more = true := by
        rcases HM.out with h | h
        · rw [e] at h; cases h
        · exact h
      have HE := hide e
      rw [hv']
      clear ko
      subst hmt
      clear hv' e
      go_wp2_with fail
      have z0 := H.out.drew.cc0
      have z1 := H.out.drew.cc1
      clear k1
      go_region_held3 (fun w' => w'.cell? ⟨cb, 0, none⟩ = some (.pointer (some ⟨bg, 0, none⟩)) ∧ w'.cell? ⟨cb, 1, none⟩ = some (.slice (some ⟨ob, 0, none⟩) 4 4)) (first | exact ⟨z0, z1⟩ | exact ⟨y0, y1⟩ | exact ⟨y4, y5⟩) (first | (go_at_call 23; refine (GTake_all H.out.drew.env).mono ?_; rintro e w1 ⟨rb, rfl, g1, e1, o1, b1⟩; have y0 := (H.out.drew.only0 o1).cc0; have y1 := (H.out.drew.only0 o1).cc1; have y2 := (H.out.drew.only0 o1).off (p := 2) (by omega) HE.out; have y3 := (H.out.drew.only0 o1).ops.frozen 2; have C1 := hide (H.out.drew.begin_ (p := 2) (by omega) o1 g1 b1); have y4 := C1.out.cc0; have y5 := C1.out.cc1; have O1 := hide (((SB.s0 (B := B) ((Only.refl S0 w).drew.trans o1)).set1 (g := ob) 2 H.out.b2 (.pointer (some ⟨rb, 0, none⟩)))); clear o1 g1 e1 b1))
      rename_i hHeld
      clear hHeld y0 y1 y2 y3 y4 y5 z0 z1
      generalize w1.setCell ⟨ob, 2, none⟩ (.pointer (some ⟨rb, 0, none⟩)) = w2 at C1 O1 ⊢
      go_wp2_with fail
      go_meet
      refine ⟨upd bo 2 rb, ?_, O1.out⟩
      have q1 := HO2.out
      have q2 := HNX2.out
      unfold bOp at q1
      unfold bNx at q2
      rw [if_neg (by rw [HE.out]; decide)] at q1 q2
      rw [← q1, ← q2, show begunOp nx 2 = takeOp 0 from rfl, show nxOf nx 2 = nx from rfl]
      exact C1.out
  case rest =>
    obtain ⟨bo2, hc, hoo⟩ := hcut
    have HC := hide hc
    have OO := hide hoo
    have k1 := hc.cc1
    have ko := hc.on (p := 2) (by omega) (upd_same _ _ _)
    clear hc hoo
    go_wp2_with fail
    refine (GStep_all HC.out.env HOK.out.1 (HC.out.fam.at_ 2 (by omega) (upd_same _ _ _)) (hf.le_ (by omega))).mono ?_
    rintro e w1 ⟨rfl, h1, h2, o1⟩
    have hgt : gtick (o2 2) = 1 := by simp [gtick, HOK.out.2.1]
    rw [hgt] at h2
    obtain ⟨x, hx⟩ : ∃ x, gstep 0 n L (o2 2) = x := ⟨_, rfl⟩
    have hxa : x.2.ahead = aheadOf 2 := by rw [← hx, gstep_ahead]; exact HOK.out.2.2
    rw [hx] at h1 h2 ⊢
    have D1 := hide (HC.out.step (p := 2) (by omega) (upd_same _ _ _) o1 h1 h2)
    have hb2 := HC.out.fam.ge 2 (by omega) (upd_same _ _ _)
    have P1 := hide (OO.out.trans (o1.mono (R := SB B) fun k hk => by have := HC.out.b6; have := HC.out.b7; unfold SB; rcases hk with e | e | e <;> omega))
    have HX1 := hide (show GopIs w1 (bo2 2) bg x.2 from h1)
    have HXA := hide hxa
    have HXX := hide hx
    clear h1 h2 o1 hgt hx hxa k1 ko
    by_cases hz : x.2.out = 0
    · have hzb : (x.2.out != 0) = false := by rw [hz]; rfl
      have HZ := hide hz
      clear hz
      go_wp2_with fail
      refine bodyPost_ret (results_none rfl _ _ _) rfl ?_
      rw [HXX.out]
      refine ⟨rfl, bo2, iv, tv, ?_, P1.out⟩
      rw [inN_no (by rw [HZ.out]; decide), tkN_no (by rw [HZ.out]; decide), show decide (x.2.out = 0) = true from by simp [HZ.out]]
      exact D1.out
    have hzb : (x.2.out != 0) = true := by simp [hz]
    have HZ := hide hz
    clear hz
    have k1 := D1.out.cc1
    have ko := D1.out.on (p := 2) (by omega) (upd_same _ _ _)
    go_wp2_with fail
    refine (HX1.out.outcome).mono ?_
    rintro e w1' ⟨rfl, rfl⟩
    by_cases hone : x.2.out = 1
    · have hob : (x.2.out == 1) = true := by rw [hone]; rfl
      have HONE := hide hone
      clear hone
      go_wp2_with fail
      refine (HX1.out.outcome).mono ?_
      rintro e w1' ⟨rfl, rfl⟩
      go_wp2_with fail
      have D2 := hide D1.out.drew
      have P2 := hide P1.out.drew
      have X2 := hide (show GopIs w1.drew (bo2 2) bg x.2 from HX1.out)
      have HGV := hide (show gvalue x.2.ahead x.2.v x.2.out = x.2.v from by unfold gvalue; rw [if_pos ⟨HONE.out, by rw [HXA.out]; decide⟩])
      have hlen : (u64s (TK 0)).length ≤ 100000 := by rw [u64s_len]; exact HK.out 0 (by omega)
      have HLEN := hide hlen
      obtain ⟨i0, hi0, hz0, hz1, hz2⟩ := info_parts info_u64
      clear k1 ko hlen
      have ewq : IntKind.i64.wrap 0 = 0 := by decide
      refine wp_region_last 25 (fun w' : World => w'.cell? ⟨cb, 4, none⟩ = some (.slice (some ⟨tb, 0, none⟩) 2 2) ∧ w'.cell? ⟨cb, 1, none⟩ = some (.slice (some ⟨ob, 0, none⟩) 4 4) ∧ w'.cell? ⟨ob, 2, none⟩ = some (.pointer (some ⟨bo2 2, 0, none⟩)) ∧ w'.cell? ⟨tb, 0, none⟩ = some (tv 0)) (by kernel_rfl) ?_
      have hb0 : B ≤ w1.drew.heap.size := Nat.le_trans D2.out.b1 (Nat.le_of_lt D2.out.c.lt)
      generalize w1.drew = w2 at D2 P2 X2 hb0 ⊢
      have kk : (fun w' : World => w'.cell? ⟨cb, 4, none⟩ = some (.slice (some ⟨tb, 0, none⟩) 2 2) ∧ w'.cell? ⟨cb, 1, none⟩ = some (.slice (some ⟨ob, 0, none⟩) 4 4) ∧ w'.cell? ⟨ob, 2, none⟩ = some (.pointer (some ⟨bo2 2, 0, none⟩)) ∧ w'.cell? ⟨tb, 0, none⟩ = some (tv 0)) w2 := ⟨D2.out.cc4, D2.out.cc1, D2.out.on (p := 2) (by omega) (upd_same _ _ _), D2.out.tt0⟩
      refine wpLast_take (i := 0) (oi := ⟨some 111, _, _, _, _, _⟩) (v := ?vv0) rfl (by kernel_rfl) (by kernel_rfl) (by kernel_rfl) (by kernel_rfl) (by decide) (fun _ _ _ h => h) (Or.inl ⟨by rfl, ?hy0⟩) (by assumption) ?rest0
      case hy0 => intro wq hSw; (try dsimp only at hSw); go_simp; (try with_reducible rfl)
      (try simp only [Act.put, List.setIfInBounds_toArray, List.set_cons_zero, List.set_cons_succ])
      refine wpLast_take (i := 1) (oi := ⟨some 112, _, _, _, _, _⟩) (v := ?vv1) rfl (by kernel_rfl) (by kernel_rfl) (by kernel_rfl) (by kernel_rfl) (by decide) (fun _ _ _ h => h) (Or.inl ⟨by rfl, ?hy1⟩) (by assumption) ?rest1
      case hy1 => intro wq hSw; (try dsimp only at hSw); go_simp; (try with_reducible rfl)
      (try simp only [Act.put, List.setIfInBounds_toArray, List.set_cons_zero, List.set_cons_succ])
      refine wpLast_take (i := 2) (oi := ⟨some 113, _, _, _, _, _⟩) (v := ?vv2) rfl (by kernel_rfl) (by kernel_rfl) (by kernel_rfl) (by kernel_rfl) (by decide) (fun _ _ _ h => h) (Or.inl ⟨by rfl, ?hy2⟩) (by assumption) ?rest2
      case hy2 => intro wq hSw; (try dsimp only at hSw); go_simp; (try with_reducible rfl)
      (try simp only [Act.put, List.setIfInBounds_toArray, List.set_cons_zero, List.set_cons_succ])
      refine wpLast_take (i := 3) (oi := ⟨some 114, _, _, _, _, _⟩) (v := ?vv3) rfl (by kernel_rfl) (by kernel_rfl) (by kernel_rfl) (by kernel_rfl) (by decide) (fun _ _ _ h => h) (Or.inl ⟨by rfl, ?hy3⟩) (by assumption) ?rest3
      case hy3 => intro wq hSw; (try dsimp only at hSw); go_simp; (try with_reducible rfl)
      (try simp only [Act.put, List.setIfInBounds_toArray, List.set_cons_zero, List.set_cons_succ])
      refine wpLast_take (i := 4) (oi := ⟨some 115, _, _, _, _, _⟩) (v := ?vv4) rfl (by kernel_rfl) (by kernel_rfl) (by kernel_rfl) (by kernel_rfl) (by decide) (fun _ _ _ h => h) (Or.inl ⟨by rfl, ?hy4⟩) (by assumption) ?rest4
      case hy4 => intro wq hSw; (try dsimp only at hSw); go_simp; (try with_reducible rfl)
      (try simp only [Act.put, List.setIfInBounds_toArray, List.set_cons_zero, List.set_cons_succ])
      refine wpLast_take (i := 5) (oi := ⟨some 116, _, _, _, _, _⟩) (v := ?vv5) rfl (by kernel_rfl) (by kernel_rfl) (by kernel_rfl) (by kernel_rfl) (by decide) (fun _ _ _ h => h) (Or.inl ⟨by rfl, ?hy5⟩) (by assumption) ?rest5
      case hy5 => intro wq hSw; (try dsimp only at hSw); go_simp; (try with_reducible rfl)
      (try simp only [Act.put, List.setIfInBounds_toArray, List.set_cons_zero, List.set_cons_succ])
      refine wpLast_take (i := 6) (oi := ⟨some 117, _, _, _, _, _⟩) (v := ?vv6) rfl (by kernel_rfl) (by kernel_rfl) (by kernel_rfl) (by kernel_rfl) (by decide) (fun _ _ _ h => h) (Or.inl ⟨by rfl, ?hy6⟩) (by assumption) ?rest6
      case hy6 => intro wq hSw; (try dsimp only at hSw); go_simp; (try with_reducible rfl)
      (try simp only [Act.put, List.setIfInBounds_toArray, List.set_cons_zero, List.set_cons_succ])
      refine wpLast_take (i := 7) (oi := ⟨some 118, _, _, _, _, _⟩) (v := ?vv7) rfl (by kernel_rfl) (by kernel_rfl) (by kernel_rfl) (by kernel_rfl) (by decide) (fun _ _ _ h => h) (Or.inl ⟨by rfl, ?hy7⟩) (by assumption) ?rest7
      case hy7 => intro wq hSw; (try dsimp only at hSw); go_simp; (try with_reducible rfl)
      (try simp only [Act.put, List.setIfInBounds_toArray, List.set_cons_zero, List.set_cons_succ])
      refine wpLast_take (i := 8) (oi := ⟨some 119, _, _, _, _, _⟩) (v := ?vv8) rfl (by kernel_rfl) (by kernel_rfl) (by kernel_rfl) (by kernel_rfl) (by decide) (fun _ _ _ h => h) (Or.inl ⟨by rfl, ?hy8⟩) (by assumption) ?rest8
      case hy8 => intro wq hSw; (try dsimp only at hSw); go_simp; (try with_reducible rfl)
      (try simp only [Act.put, List.setIfInBounds_toArray, List.set_cons_zero, List.set_cons_succ])
      refine wpLast_take (i := 9) (oi := ⟨some 120, _, _, _, _, _⟩) (v := ?vv9) rfl (by kernel_rfl) (by kernel_rfl) (by kernel_rfl) (by kernel_rfl) (by decide) (fun _ _ _ h => h) (Or.inl ⟨by rfl, ?hy9⟩) (by assumption) ?rest9
      case hy9 => intro wq hSw; (try dsimp only at hSw); go_simp; (try with_reducible rfl)
      (try simp only [Act.put, List.setIfInBounds_toArray, List.set_cons_zero, List.set_cons_succ])
      refine wpLast_take (i := 10) (oi := ⟨some 121, _, _, _, _, _⟩) (v := ?vv10) rfl (by kernel_rfl) (by kernel_rfl) (by kernel_rfl) (by kernel_rfl) (by decide) (fun _ _ _ h => h) (Or.inl ⟨by rfl, ?hy10⟩) (by assumption) ?rest10
      case hy10 => intro wq hSw; (try dsimp only at hSw); go_simp; (try with_reducible rfl)
      (try simp only [Act.put, List.setIfInBounds_toArray, List.set_cons_zero, List.set_cons_succ])
      refine wpLast_take (i := 11) (oi := ⟨some 122, _, _, _, _, _⟩) (v := ?vv11) rfl (by kernel_rfl) (by kernel_rfl) (by kernel_rfl) (by kernel_rfl) (by decide) (fun _ _ _ h => h) (Or.inl ⟨by rfl, ?hy11⟩) (by assumption) ?rest11
      case hy11 => intro wq hSw; (try dsimp only at hSw); go_simp; (try with_reducible rfl)
      (try simp only [Act.put, List.setIfInBounds_toArray, List.set_cons_zero, List.set_cons_succ])
      refine wpLast_take (i := 12) (oi := ⟨some 123, _, _, _, _, _⟩) (v := ?vv12) rfl (by kernel_rfl) (by kernel_rfl) (by kernel_rfl) (by kernel_rfl) (by decide) (fun _ _ _ h => h) (Or.inl ⟨by rfl, ?hy12⟩) (by assumption) ?rest12
      case hy12 => intro wq hSw; (try dsimp only at hSw); go_simp; (try with_reducible rfl)
      (try simp only [Act.put, List.setIfInBounds_toArray, List.set_cons_zero, List.set_cons_succ])
      refine wpLast_take (i := 13) (oi := ⟨some 124, _, _, _, _, _⟩) (v := ?vv13) rfl (by kernel_rfl) (by kernel_rfl) (by kernel_rfl) (by kernel_rfl) (by decide) (fun _ _ _ h => h) (Or.inl ⟨by rfl, ?hy13⟩) (by assumption) ?rest13
      case hy13 => intro wq hSw; (try dsimp only at hSw); go_simp; (try with_reducible rfl)
      (try simp only [Act.put, List.setIfInBounds_toArray, List.set_cons_zero, List.set_cons_succ])
      refine wpLast_take (i := 14) (oi := ⟨some 125, _, _, _, _, _⟩) (v := ?vv14) rfl (by kernel_rfl) (by kernel_rfl) (by kernel_rfl) (by kernel_rfl) (by decide) (fun _ _ _ h => h) (Or.inl ⟨by rfl, ?hy14⟩) (by assumption) ?rest14
      case hy14 => intro wq hSw; (try dsimp only at hSw); go_simp; (try with_reducible rfl)
      (try simp only [Act.put, List.setIfInBounds_toArray, List.set_cons_zero, List.set_cons_succ])
      refine wpLast_take (i := 15) (oi := ⟨some 126, _, _, _, _, _⟩) (v := ?vv15) rfl (by kernel_rfl) (by kernel_rfl) (by kernel_rfl) (by kernel_rfl) (by decide) (fun _ _ _ h => h) (Or.inl ⟨by rfl, ?hy15⟩) (by assumption) ?rest15
      case hy15 => intro wq hSw; (try dsimp only at hSw); go_simp; (try with_reducible rfl)
      (try simp only [Act.put, List.setIfInBounds_toArray, List.set_cons_zero, List.set_cons_succ])
      refine wpLast_take (i := 16) (oi := ⟨some 127, _, _, _, _, _⟩) (v := ?vv16) rfl (by kernel_rfl) (by kernel_rfl) (by kernel_rfl) (by kernel_rfl) (by decide) (fun _ _ _ h => h) (Or.inl ⟨by rfl, ?hy16⟩) (by assumption) ?rest16
      case hy16 => intro wq hSw; (try dsimp only at hSw); go_simp; (try with_reducible rfl)
      (try simp only [Act.put, List.setIfInBounds_toArray, List.set_cons_zero, List.set_cons_succ])
      refine wpLast_take (i := 17) (oi := ⟨some 128, _, _, _, _, _⟩) (v := ?vv17) rfl (by kernel_rfl) (by kernel_rfl) (by kernel_rfl) (by kernel_rfl) (by decide) (fun _ _ _ h => h) (Or.inl ⟨by rfl, ?hy17⟩) (by assumption) ?rest17
      case hy17 => intro wq hSw; (try dsimp only at hSw); go_simp; (try with_reducible rfl)
      (try simp only [Act.put, List.setIfInBounds_toArray, List.set_cons_zero, List.set_cons_succ])
      refine wpLast_take (i := 18) (oi := ⟨some 129, _, _, _, _, _⟩) (v := ?vv18) rfl (by kernel_rfl) (by kernel_rfl) (by kernel_rfl) (by kernel_rfl) (by decide) (fun _ _ _ h => h) (Or.inl ⟨by rfl, ?hy18⟩) (by assumption) ?rest18
      case hy18 => intro wq hSw; (try dsimp only at hSw); go_simp; (try with_reducible rfl)
      (try simp only [Act.put, List.setIfInBounds_toArray, List.set_cons_zero, List.set_cons_succ])
      refine wpLast_take (i := 19) (oi := ⟨some 130, _, _, _, _, _⟩) (v := ?vv19) rfl (by kernel_rfl) (by kernel_rfl) (by kernel_rfl) (by kernel_rfl) (by decide) (fun _ _ _ h => h) (Or.inl ⟨by rfl, ?hy19⟩) (by assumption) ?rest19
      case hy19 => intro wq hSw; (try dsimp only at hSw); go_simp; (try with_reducible rfl)
      (try simp only [Act.put, List.setIfInBounds_toArray, List.set_cons_zero, List.set_cons_succ])
      refine wpLast_take (i := 20) (oi := ⟨some 131, _, _, _, _, _⟩) (v := ?vv20) rfl (by kernel_rfl) (by kernel_rfl) (by kernel_rfl) (by kernel_rfl) (by decide) (fun _ _ _ h => h) (Or.inl ⟨by rfl, ?hy20⟩) (by assumption) ?rest20
      case hy20 => intro wq hSw; (try dsimp only at hSw); go_simp; (try with_reducible rfl)
      (try simp only [Act.put, List.setIfInBounds_toArray, List.set_cons_zero, List.set_cons_succ])
      refine wpLast_one (i := 21) (o := ⟨some 132, _, _, _, _, _⟩) (by kernel_rfl) rfl (fun K hK => ?_)
      go_simp
      refine (GValue_any X2.out).mono ?_
      rintro e wv ⟨rfl, rfl⟩
      rw [HGV.out]
      refine hK.out _ _ (fun _ => by assumption) ?_
      clear hK K
      (try simp only [Act.put, List.setIfInBounds_toArray, List.set_cons_zero, List.set_cons_succ])
      refine wpLast_one (i := 22) (o := ⟨some 133, _, _, _, _, _⟩) (by kernel_rfl) rfl (fun K hK => ?_)
      go_simp
      have D4 := hide (D2.out.only0 ((Only.refl S0 w2).alloc (.cells #[.int .u64 x.2.v] 28)))
      refine hK.out _ _ (fun _ => ⟨D4.out.cc4, D4.out.cc1, D4.out.on (p := 2) (by omega) (upd_same _ _ _), D4.out.tt0⟩) ?_
      clear hK K
      (try simp only [Act.put, List.setIfInBounds_toArray, List.set_cons_zero, List.set_cons_succ])
      refine wpLast_one (i := 23) (o := ⟨some 134, _, _, _, _, _⟩) (by kernel_rfl) rfl (fun K hK => ?_)
      refine step_append_lies _ (rfl) _ _ _ (rfl) B 28 i0 _ 1 8 Try.underlying35 hi0 hz0 hz1 hz2 rfl (by omega) (tv 0) (u64s (TK 0)).length (u64s (TK 0)) (rfl) (D4.out.tkS 0 (by omega)) ⟨w2.heap.size, 0, none⟩ 1 1 [.int .u64 x.2.v] (rfl) (rfl) (World.news_of_block (cs := #[.int .u64 x.2.v]) (t := 28) (fr := (0, 0)) (heap_alloc_new _ _)) (by simp [Value.oneCell']) (by omega) (by have := HLEN.out; unfold maxLen; omega) (by have := HLEN.out; omega) (by simp; omega) (w2.heap.size + 1) (by simp) ?_
      intro g6 c6 w3 hown hgrow hat hlt
      have hv' : Sl w3 B 28 (.slice (some ⟨g6, 0, none⟩) ((u64s (TK 0)).length + 1) c6) (u64s (TK 0 ++ [x.2.v])) := by
        rw [u64s_snoc]
        unfold Sl
        rw [List.length_append]
        exact hown
      have o6 : Only (fun k => (tv 0).ownBlock = some k) w2 w3 := ((Only.refl _ w2).alloc _).then (R := fun k => (tv 0).ownBlock = some k) (Only.of_grown hgrow fun k hk _ => hk) fun i _ hi => hi
      have hnew : (Value.slice (some ⟨g6, 0, none⟩) ((u64s (TK 0)).length + 1) c6).ownBlock = (tv 0).ownBlock ∨ ∃ k, (Value.slice (some ⟨g6, 0, none⟩) ((u64s (TK 0)).length + 1) c6).ownBlock = some k ∧ w2.heap.size ≤ k := by
        rcases hat with e | e
        · exact .inl (by rw [e]; rfl)
        · exact .inr ⟨g6, rfl, by omega⟩
      obtain ⟨g1, g2, g3, g4, g5, -⟩ := D2.out.grow o6 ⟨_, D2.out.tkS 0 (by omega)⟩ (D2.out.d2 0 (by omega)).1 (D2.out.d2 0 (by omega)).2
      have hon : w3.cell? ⟨ob, 2, none⟩ = some (.pointer (some ⟨bo2 2, 0, none⟩)) := by
        have := g3.cellv (optrs_get (upd act 2 true) bo2 (show 2 < 4 by omega))
        unfold optr at this
        rw [upd_same] at this
        exact this
      have kk3 : (fun w' : World => w'.cell? ⟨cb, 4, none⟩ = some (.slice (some ⟨tb, 0, none⟩) 2 2) ∧ w'.cell? ⟨cb, 1, none⟩ = some (.slice (some ⟨ob, 0, none⟩) 4 4) ∧ w'.cell? ⟨ob, 2, none⟩ = some (.pointer (some ⟨bo2 2, 0, none⟩)) ∧ w'.cell? ⟨tb, 0, none⟩ = some (tv 0)) w3 := ⟨g2.cellv (i := 4) rfl, g2.cellv (i := 1) rfl, hon, g5.cellv (i := 0) rfl⟩
      have q1 : w3.cell? ⟨tb, 0, none⟩ = some (tv 0) := g5.cellv (i := 0) rfl
      have q2 := g5.frozen 0
      have D3 := hide (D2.out.tkApp (p := 0) (by omega) o6 hv' hnew)
      have hin := D2.out.tkS 0 (by omega)
      have P3 := hide (P2.out.trans (o6.mono (R := SB B) fun k hk => (hin.block hk).1))
      clear hv' o6 hnew g1 g2 g3 g4 g5 hin hown hgrow hat hlt hon
      refine hK.out _ _ (fun _ => kk3) ?_
      clear hK K
      (try simp only [Act.put, List.setIfInBounds_toArray, List.set_cons_zero, List.set_cons_succ])
      refine wpLast_one (i := 24) (o := ⟨some 135, _, _, _, _, _⟩) (by kernel_rfl) rfl (fun K hK => ?_)
      go_simp
      refine hK.out _ _ (fun _ => kk3) ?_
      clear hK K
      (try simp only [Act.put, List.setIfInBounds_toArray, List.set_cons_zero, List.set_cons_succ])
      refine wpLast_one (i := 25) (o := ⟨none, _, _, _, _, _⟩) (by kernel_rfl) rfl (fun K hK => ?_)
      go_simp
      refine hK.out _ _ (fun h => absurd rfl h) ?_
      clear hK K
      (try simp only [Act.put, List.setIfInBounds_toArray, List.set_cons_zero, List.set_cons_succ])
      have P4 := hide (P3.out.set1 (g := tb) 0 H.out.b4 (.slice (some ⟨g6, 0, none⟩) ((u64s (TK 0)).length + 1) c6))
      refine wpLast_done (by kernel_rfl) ?_ _
      have q3 := D3.out.cc1
      have q4 := D3.out.on (p := 2) (by omega) (upd_same _ _ _)
      have q5 := D3.out.ops.frozen 2
      go_wp2_with fail
      go_end0
      rw [HXX.out]
      refine ⟨rfl, bo2, iv, upd tv 0 (.slice (some ⟨g6, 0, none⟩) ((u64s (TK 0)).length + 1) c6), ?_, P4.out.set1 (g := ob) 2 H.out.b2 (.pointer none)⟩
      have d2 := D3.out.nil_ (p := 2)
      rw [upd_upd] at d2
      rw [show decide (x.2.out = 0) = false from by simp [HZ.out], show inN x.2 2 nx2 IN = IN from by unfold inN; rw [if_neg (fun h => by omega)], show tkN x.2 2 TK = upd TK 0 (TK 0 ++ [x.2.v]) from by unfold tkN; rw [if_pos ⟨HONE.out, by omega⟩]]
      exact d2
    · have hob : (x.2.out == 1) = false := by simp [hone]
      have HONE := hide hone
      clear hone
      go_wp2_with fail
      refine (HX1.out.outcome).mono ?_
      rintro e w1' ⟨rfl, rfl⟩
      have kf := D1.out.ops.frozen 2
      go_wp2_with fail
      go_end0
      rw [HXX.out]
      refine ⟨rfl, bo2, iv, tv, ?_, P1.out.set1 (g := ob) 2 H.out.b2 (.pointer none)⟩
      have d2 := D1.out.nil_ (p := 2)
      rw [upd_upd] at d2
      rw [inN_no HONE.out, tkN_no HONE.out, show decide (x.2.out = 0) = false from by simp [HZ.out]]
      exact d2

set_option maxRecDepth 100000 in
set_option maxHeartbeats 4000000 in
theorem cstep_3 (h : CW w B cb ob nb tb bg bm bc n L tc act o bo nx iv tv IN TK) (more : Bool) (hm : act 3 = true ∨ more = true) (hok : GopOk 0 L.length (bOp act o nx 3 3)) (h0 : (bOp act o nx 3 3).out = 0)
    (hah : (bOp act o nx 3 3).ahead = aheadOf 3) (hn : 3 < 2 → nx 3 ≤ 100000) (hf : Few (tc + 10)) (hi : IN.length ≤ 100000) (hk : ∀ i, i < 2 → (TK i).length ≤ 100000) :
    Calls Try.prog 33 #[.pointer (some ⟨cb, 0, none⟩), .int .i64 3, .bool more] w fun e w' => e = .returned (.tuple #[]) ∧ Stepped w w' B cb ob nb tb bg bm bc n (tc + 1) act 3 (bOp act o nx 3) (gstep 0 n L (bOp act o nx 3 3)) (bNx act nx 3) IN TK := by
  have H := hide h
  have k1 := h.cc1
  have HM := hide hm
  have HOK := hide (And.intro hok (And.intro h0 hah))
  have HK := hide hk
  clear hn
  clear h hm hok h0 hah hk
  have hact : act 3 = true ∨ act 3 = false := by cases act 3 <;> simp
  have ko : ∃ v, w.cell? ⟨ob, 3, none⟩ = some (.pointer v) ∧ v = if act 3 then some ⟨bo 3, 0, none⟩ else none := by
    rcases hact with e | e
    · exact ⟨_, H.out.on (by omega) e, by rw [e]; rfl⟩
    · exact ⟨_, H.out.off (by omega) e, by rw [e]; rfl⟩
  obtain ⟨v, ko, hv⟩ := ko
  have HV := hide hv
  have HACT := hide hact
  clear hv hact
  obtain ⟨o2, ho2⟩ : ∃ o2, bOp act o nx 3 = o2 := ⟨_, rfl⟩
  obtain ⟨nx2, hnx2⟩ : ∃ nx2, bNx act nx 3 = nx2 := ⟨_, rfl⟩
  rw [ho2] at HOK ⊢
  rw [hnx2]
  have HO2 := hide ho2
  have HNX2 := hide hnx2
  clear ho2 hnx2
  go_enter Try.func33, Try.ntmps33
  go_upto_if 13 with fail

  go_cut [] (fun wx => ∃ bo', CW wx B cb ob nb tb bg bm bc n L tc (upd act 3 true) o2 bo' nx2 iv tv IN TK ∧ Only (SB B) w wx)
  case first =>
    rcases HACT.out with e | e
    · have hv' := HV.out
      rw [e] at hv'
      have HE := hide e
      rw [hv']
      clear ko
      clear hv' e
      go_wp2_with fail
      go_meet
      refine ⟨bo, ?_, Only.refl _ _⟩
      have q1 := HO2.out
      have q2 := HNX2.out
      unfold bOp at q1
      unfold bNx at q2
      rw [if_pos HE.out] at q1 q2
      rw [← q1, ← q2, show upd act 3 true = act from by rw [← HE.out]; exact upd_self _ _]
      exact H.out
    · have hv' := HV.out
      rw [e] at hv'
      have hmt : more = true := by
        rcases HM.out with h | h
        · rw [e] at h; cases h
        · exact h
      have HE := hide e
      rw [hv']
      clear ko
      subst hmt
      clear hv' e
      go_wp2_with fail
      have z0 := H.out.drew.cc0
      have z1 := H.out.drew.cc1
      clear k1
      go_region_held3 (fun w' => w'.cell? ⟨cb, 0, none⟩ = some (.pointer (some ⟨bg, 0, none⟩)) ∧ w'.cell? ⟨cb, 1, none⟩ = some (.slice (some ⟨ob, 0, none⟩) 4 4)) (first | exact ⟨z0, z1⟩ | exact ⟨y0, y1⟩ | exact ⟨y4, y5⟩) (first | (go_at_call 23; refine (GTake_all H.out.drew.env).mono ?_; rintro e w1 ⟨rb, rfl, g1, e1, o1, b1⟩; have y0 := (H.out.drew.only0 o1).cc0; have y1 := (H.out.drew.only0 o1).cc1; have y2 := (H.out.drew.only0 o1).off (p := 3) (by omega) HE.out; have y3 := (H.out.drew.only0 o1).ops.frozen 3; have C1 := hide (H.out.drew.begin_ (p := 3) (by omega) o1 g1 b1); have y4 := C1.out.cc0; have y5 := C1.out.cc1; have O1 := hide (((SB.s0 (B := B) ((Only.refl S0 w).drew.trans o1)).set1 (g := ob) 3 H.out.b2 (.pointer (some ⟨rb, 0, none⟩)))); clear o1 g1 e1 b1))
      rename_i hHeld
      clear hHeld y0 y1 y2 y3 y4 y5 z0 z1
      generalize w1.setCell ⟨ob, 3, none⟩ (.pointer (some ⟨rb, 0, none⟩)) = w2 at C1 O1 ⊢
      go_wp2_with fail
      go_meet
      refine ⟨upd bo 3 rb, ?_, O1.out⟩
      have q1 := HO2.out
      have q2 := HNX2.out
      unfold bOp at q1
      unfold bNx at q2
      rw [if_neg (by rw [HE.out]; decide)] at q1 q2
      rw [← q1, ← q2, show begunOp nx 3 = takeOp 0 from rfl, show nxOf nx 3 = nx from rfl]
      exact C1.out
  case rest =>
    obtain ⟨bo2, hc, hoo⟩ := hcut
    have HC := hide hc
    have OO := hide hoo
    have k1 := hc.cc1
    have ko := hc.on (p := 3) (by omega) (upd_same _ _ _)
    clear hc hoo
    go_wp2_with fail
    refine (GStep_all HC.out.env HOK.out.1 (HC.out.fam.at_ 3 (by omega) (upd_same _ _ _)) (hf.le_ (by omega))).mono ?_
    rintro e w1 ⟨rfl, h1, h2, o1⟩
    have hgt : gtick (o2 3) = 1 := by simp [gtick, HOK.out.2.1]
    rw [hgt] at h2
    obtain ⟨x, hx⟩ : ∃ x, gstep 0 n L (o2 3) = x := ⟨_, rfl⟩
    have hxa : x.2.ahead = aheadOf 3 := by rw [← hx, gstep_ahead]; exact HOK.out.2.2
    rw [hx] at h1 h2 ⊢
    have D1 := hide (HC.out.step (p := 3) (by omega) (upd_same _ _ _) o1 h1 h2)
    have hb2 := HC.out.fam.ge 3 (by omega) (upd_same _ _ _)
    have P1 := hide (OO.out.trans (o1.mono (R := SB B) fun k hk => by have := HC.out.b6; have := HC.out.b7; unfold SB; rcases hk with e | e | e <;> omega))
    have HX1 := hide (show GopIs w1 (bo2 3) bg x.2 from h1)
    have HXA := hide hxa
    have HXX := hide hx
    clear h1 h2 o1 hgt hx hxa k1 ko
    by_cases hz : x.2.out = 0
    · have hzb : (x.2.out != 0) = false := by rw [hz]; rfl
      have HZ := hide hz
      clear hz
      go_wp2_with fail
      refine bodyPost_ret (results_none rfl _ _ _) rfl ?_
      rw [HXX.out]
      refine ⟨rfl, bo2, iv, tv, ?_, P1.out⟩
      rw [inN_no (by rw [HZ.out]; decide), tkN_no (by rw [HZ.out]; decide), show decide (x.2.out = 0) = true from by simp [HZ.out]]
      exact D1.out
    have hzb : (x.2.out != 0) = true := by simp [hz]
    have HZ := hide hz
    clear hz
    have k1 := D1.out.cc1
    have ko := D1.out.on (p := 3) (by omega) (upd_same _ _ _)
    go_wp2_with fail
    refine (HX1.out.outcome).mono ?_
    rintro e w1' ⟨rfl, rfl⟩
    by_cases hone : x.2.out = 1
    · have hob : (x.2.out == 1) = true := by rw [hone]; rfl
      have HONE := hide hone
      clear hone
      go_wp2_with fail
      refine (HX1.out.outcome).mono ?_
      rintro e w1' ⟨rfl, rfl⟩
      go_wp2_with fail
      have D2 := hide D1.out.drew
      have P2 := hide P1.out.drew
      have X2 := hide (show GopIs w1.drew (bo2 3) bg x.2 from HX1.out)
      have HGV := hide (show gvalue x.2.ahead x.2.v x.2.out = x.2.v from by unfold gvalue; rw [if_pos ⟨HONE.out, by rw [HXA.out]; decide⟩])
      have hlen : (u64s (TK 1)).length ≤ 100000 := by rw [u64s_len]; exact HK.out 1 (by omega)
      have HLEN := hide hlen
      obtain ⟨i0, hi0, hz0, hz1, hz2⟩ := info_parts info_u64
      clear k1 ko hlen
      have ewq : IntKind.i64.wrap 1 = 1 := by decide
      refine wp_region_last 25 (fun w' : World => w'.cell? ⟨cb, 4, none⟩ = some (.slice (some ⟨tb, 0, none⟩) 2 2) ∧ w'.cell? ⟨cb, 1, none⟩ = some (.slice (some ⟨ob, 0, none⟩) 4 4) ∧ w'.cell? ⟨ob, 3, none⟩ = some (.pointer (some ⟨bo2 3, 0, none⟩)) ∧ w'.cell? ⟨tb, 1, none⟩ = some (tv 1)) (by kernel_rfl) ?_
      have hb0 : B ≤ w1.drew.heap.size := Nat.le_trans D2.out.b1 (Nat.le_of_lt D2.out.c.lt)
      generalize w1.drew = w2 at D2 P2 X2 hb0 ⊢
      have kk : (fun w' : World => w'.cell? ⟨cb, 4, none⟩ = some (.slice (some ⟨tb, 0, none⟩) 2 2) ∧ w'.cell? ⟨cb, 1, none⟩ = some (.slice (some ⟨ob, 0, none⟩) 4 4) ∧ w'.cell? ⟨ob, 3, none⟩ = some (.pointer (some ⟨bo2 3, 0, none⟩)) ∧ w'.cell? ⟨tb, 1, none⟩ = some (tv 1)) w2 := ⟨D2.out.cc4, D2.out.cc1, D2.out.on (p := 3) (by omega) (upd_same _ _ _), D2.out.tt1⟩
      refine wpLast_take (i := 0) (oi := ⟨some 111, _, _, _, _, _⟩) (v := ?vv0) rfl (by kernel_rfl) (by kernel_rfl) (by kernel_rfl) (by kernel_rfl) (by decide) (fun _ _ _ h => h) (Or.inl ⟨by rfl, ?hy0⟩) (by assumption) ?rest0
      case hy0 => intro wq hSw; (try dsimp only at hSw); go_simp; (try with_reducible rfl)
      (try simp only [Act.put, List.setIfInBounds_toArray, List.set_cons_zero, List.set_cons_succ])
      refine wpLast_take (i := 1) (oi := ⟨some 112, _, _, _, _, _⟩) (v := ?vv1) rfl (by kernel_rfl) (by kernel_rfl) (by kernel_rfl) (by kernel_rfl) (by decide) (fun _ _ _ h => h) (Or.inl ⟨by rfl, ?hy1⟩) (by assumption) ?rest1
      case hy1 => intro wq hSw; (try dsimp only at hSw); go_simp; (try with_reducible rfl)
      (try simp only [Act.put, List.setIfInBounds_toArray, List.set_cons_zero, List.set_cons_succ])
      refine wpLast_take (i := 2) (oi := ⟨some 113, _, _, _, _, _⟩) (v := ?vv2) rfl (by kernel_rfl) (by kernel_rfl) (by kernel_rfl) (by kernel_rfl) (by decide) (fun _ _ _ h => h) (Or.inl ⟨by rfl, ?hy2⟩) (by assumption) ?rest2
      case hy2 => intro wq hSw; (try dsimp only at hSw); go_simp; (try with_reducible rfl)
      (try simp only [Act.put, List.setIfInBounds_toArray, List.set_cons_zero, List.set_cons_succ])
      refine wpLast_take (i := 3) (oi := ⟨some 114, _, _, _, _, _⟩) (v := ?vv3) rfl (by kernel_rfl) (by kernel_rfl) (by kernel_rfl) (by kernel_rfl) (by decide) (fun _ _ _ h => h) (Or.inl ⟨by rfl, ?hy3⟩) (by assumption) ?rest3
      case hy3 => intro wq hSw; (try dsimp only at hSw); go_simp; (try with_reducible rfl)
      (try simp only [Act.put, List.setIfInBounds_toArray, List.set_cons_zero, List.set_cons_succ])
      refine wpLast_take (i := 4) (oi := ⟨some 115, _, _, _, _, _⟩) (v := ?vv4) rfl (by kernel_rfl) (by kernel_rfl) (by kernel_rfl) (by kernel_rfl) (by decide) (fun _ _ _ h => h) (Or.inl ⟨by rfl, ?hy4⟩) (by assumption) ?rest4
      case hy4 => intro wq hSw; (try dsimp only at hSw); go_simp; (try with_reducible rfl)
      (try simp only [Act.put, List.setIfInBounds_toArray, List.set_cons_zero, List.set_cons_succ])
      refine wpLast_take (i := 5) (oi := ⟨some 116, _, _, _, _, _⟩) (v := ?vv5) rfl (by kernel_rfl) (by kernel_rfl) (by kernel_rfl) (by kernel_rfl) (by decide) (fun _ _ _ h => h) (Or.inl ⟨by rfl, ?hy5⟩) (by assumption) ?rest5
      case hy5 => intro wq hSw; (try dsimp only at hSw); go_simp; (try with_reducible rfl)
      (try simp only [Act.put, List.setIfInBounds_toArray, List.set_cons_zero, List.set_cons_succ])
      refine wpLast_take (i := 6) (oi := ⟨some 117, _, _, _, _, _⟩) (v := ?vv6) rfl (by kernel_rfl) (by kernel_rfl) (by kernel_rfl) (by kernel_rfl) (by decide) (fun _ _ _ h => h) (Or.inl ⟨by rfl, ?hy6⟩) (by assumption) ?rest6
      case hy6 => intro wq hSw; (try dsimp only at hSw); go_simp; (try with_reducible rfl)
      (try simp only [Act.put, List.setIfInBounds_toArray, List.set_cons_zero, List.set_cons_succ])
      refine wpLast_take (i := 7) (oi := ⟨some 118, _, _, _, _, _⟩) (v := ?vv7) rfl (by kernel_rfl) (by kernel_rfl) (by kernel_rfl) (by kernel_rfl) (by decide) (fun _ _ _ h => h) (Or.inl ⟨by rfl, ?hy7⟩) (by assumption) ?rest7
      case hy7 => intro wq hSw; (try dsimp only at hSw); go_simp; (try with_reducible rfl)
      (try simp only [Act.put, List.setIfInBounds_toArray, List.set_cons_zero, List.set_cons_succ])
      refine wpLast_take (i := 8) (oi := ⟨some 119, _, _, _, _, _⟩) (v := ?vv8) rfl (by kernel_rfl) (by kernel_rfl) (by kernel_rfl) (by kernel_rfl) (by decide) (fun _ _ _ h => h) (Or.inl ⟨by rfl, ?hy8⟩) (by assumption) ?rest8
      case hy8 => intro wq hSw; (try dsimp only at hSw); go_simp; (try with_reducible rfl)
      (try simp only [Act.put, List.setIfInBounds_toArray, List.set_cons_zero, List.set_cons_succ])
      refine wpLast_take (i := 9) (oi := ⟨some 120, _, _, _, _, _⟩) (v := ?vv9) rfl (by kernel_rfl) (by kernel_rfl) (by kernel_rfl) (by kernel_rfl) (by decide) (fun _ _ _ h => h) (Or.inl ⟨by rfl, ?hy9⟩) (by assumption) ?rest9
      case hy9 => intro wq hSw; (try dsimp only at hSw); go_simp; (try with_reducible rfl)
      (try simp only [Act.put, List.setIfInBounds_toArray, List.set_cons_zero, List.set_cons_succ])
      refine wpLast_take (i := 10) (oi := ⟨some 121, _, _, _, _, _⟩) (v := ?vv10) rfl (by kernel_rfl) (by kernel_rfl) (by kernel_rfl) (by kernel_rfl) (by decide) (fun _ _ _ h => h) (Or.inl ⟨by rfl, ?hy10⟩) (by assumption) ?rest10
      case hy10 => intro wq hSw; (try dsimp only at hSw); go_simp; (try with_reducible rfl)
      (try simp only [Act.put, List.setIfInBounds_toArray, List.set_cons_zero, List.set_cons_succ])
      refine wpLast_take (i := 11) (oi := ⟨some 122, _, _, _, _, _⟩) (v := ?vv11) rfl (by kernel_rfl) (by kernel_rfl) (by kernel_rfl) (by kernel_rfl) (by decide) (fun _ _ _ h => h) (Or.inl ⟨by rfl, ?hy11⟩) (by assumption) ?rest11
      case hy11 => intro wq hSw; (try dsimp only at hSw); go_simp; (try with_reducible rfl)
      (try simp only [Act.put, List.setIfInBounds_toArray, List.set_cons_zero, List.set_cons_succ])
      refine wpLast_take (i := 12) (oi := ⟨some 123, _, _, _, _, _⟩) (v := ?vv12) rfl (by kernel_rfl) (by kernel_rfl) (by kernel_rfl) (by kernel_rfl) (by decide) (fun _ _ _ h => h) (Or.inl ⟨by rfl, ?hy12⟩) (by assumption) ?rest12
      case hy12 => intro wq hSw; (try dsimp only at hSw); go_simp; (try with_reducible rfl)
      (try simp only [Act.put, List.setIfInBounds_toArray, List.set_cons_zero, List.set_cons_succ])
      refine wpLast_take (i := 13) (oi := ⟨some 124, _, _, _, _, _⟩) (v := ?vv13) rfl (by kernel_rfl) (by kernel_rfl) (by kernel_rfl) (by kernel_rfl) (by decide) (fun _ _ _ h => h) (Or.inl ⟨by rfl, ?hy13⟩) (by assumption) ?rest13
      case hy13 => intro wq hSw; (try dsimp only at hSw); go_simp; (try with_reducible rfl)
      (try simp only [Act.put, List.setIfInBounds_toArray, List.set_cons_zero, List.set_cons_succ])
      refine wpLast_take (i := 14) (oi := ⟨some 125, _, _, _, _, _⟩) (v := ?vv14) rfl (by kernel_rfl) (by kernel_rfl) (by kernel_rfl) (by kernel_rfl) (by decide) (fun _ _ _ h => h) (Or.inl ⟨by rfl, ?hy14⟩) (by assumption) ?rest14
      case hy14 => intro wq hSw; (try dsimp only at hSw); go_simp; (try with_reducible rfl)
      (try simp only [Act.put, List.setIfInBounds_toArray, List.set_cons_zero, List.set_cons_succ])
      refine wpLast_take (i := 15) (oi := ⟨some 126, _, _, _, _, _⟩) (v := ?vv15) rfl (by kernel_rfl) (by kernel_rfl) (by kernel_rfl) (by kernel_rfl) (by decide) (fun _ _ _ h => h) (Or.inl ⟨by rfl, ?hy15⟩) (by assumption) ?rest15
      case hy15 => intro wq hSw; (try dsimp only at hSw); go_simp; (try with_reducible rfl)
      (try simp only [Act.put, List.setIfInBounds_toArray, List.set_cons_zero, List.set_cons_succ])
      refine wpLast_take (i := 16) (oi := ⟨some 127, _, _, _, _, _⟩) (v := ?vv16) rfl (by kernel_rfl) (by kernel_rfl) (by kernel_rfl) (by kernel_rfl) (by decide) (fun _ _ _ h => h) (Or.inl ⟨by rfl, ?hy16⟩) (by assumption) ?rest16
      case hy16 => intro wq hSw; (try dsimp only at hSw); go_simp; (try with_reducible rfl)
      (try simp only [Act.put, List.setIfInBounds_toArray, List.set_cons_zero, List.set_cons_succ])
      refine wpLast_take (i := 17) (oi := ⟨some 128, _, _, _, _, _⟩) (v := ?vv17) rfl (by kernel_rfl) (by kernel_rfl) (by kernel_rfl) (by kernel_rfl) (by decide) (fun _ _ _ h => h) (Or.inl ⟨by rfl, ?hy17⟩) (by assumption) ?rest17
      case hy17 => intro wq hSw; (try dsimp only at hSw); go_simp; (try with_reducible rfl)
      (try simp only [Act.put, List.setIfInBounds_toArray, List.set_cons_zero, List.set_cons_succ])
      refine wpLast_take (i := 18) (oi := ⟨some 129, _, _, _, _, _⟩) (v := ?vv18) rfl (by kernel_rfl) (by kernel_rfl) (by kernel_rfl) (by kernel_rfl) (by decide) (fun _ _ _ h => h) (Or.inl ⟨by rfl, ?hy18⟩) (by assumption) ?rest18
      case hy18 => intro wq hSw; (try dsimp only at hSw); go_simp; (try with_reducible rfl)
      (try simp only [Act.put, List.setIfInBounds_toArray, List.set_cons_zero, List.set_cons_succ])
      refine wpLast_take (i := 19) (oi := ⟨some 130, _, _, _, _, _⟩) (v := ?vv19) rfl (by kernel_rfl) (by kernel_rfl) (by kernel_rfl) (by kernel_rfl) (by decide) (fun _ _ _ h => h) (Or.inl ⟨by rfl, ?hy19⟩) (by assumption) ?rest19
      case hy19 => intro wq hSw; (try dsimp only at hSw); go_simp; (try with_reducible rfl)
      (try simp only [Act.put, List.setIfInBounds_toArray, List.set_cons_zero, List.set_cons_succ])
      refine wpLast_take (i := 20) (oi := ⟨some 131, _, _, _, _, _⟩) (v := ?vv20) rfl (by kernel_rfl) (by kernel_rfl) (by kernel_rfl) (by kernel_rfl) (by decide) (fun _ _ _ h => h) (Or.inl ⟨by rfl, ?hy20⟩) (by assumption) ?rest20
      case hy20 => intro wq hSw; (try dsimp only at hSw); go_simp; (try with_reducible rfl)
      (try simp only [Act.put, List.setIfInBounds_toArray, List.set_cons_zero, List.set_cons_succ])
      refine wpLast_one (i := 21) (o := ⟨some 132, _, _, _, _, _⟩) (by kernel_rfl) rfl (fun K hK => ?_)
      go_simp
      refine (GValue_any X2.out).mono ?_
      rintro e wv ⟨rfl, rfl⟩
      rw [HGV.out]
      refine hK.out _ _ (fun _ => by assumption) ?_
      clear hK K
      (try simp only [Act.put, List.setIfInBounds_toArray, List.set_cons_zero, List.set_cons_succ])
      refine wpLast_one (i := 22) (o := ⟨some 133, _, _, _, _, _⟩) (by kernel_rfl) rfl (fun K hK => ?_)
      go_simp
      have D4 := hide (D2.out.only0 ((Only.refl S0 w2).alloc (.cells #[.int .u64 x.2.v] 28)))
      refine hK.out _ _ (fun _ => ⟨D4.out.cc4, D4.out.cc1, D4.out.on (p := 3) (by omega) (upd_same _ _ _), D4.out.tt1⟩) ?_
      clear hK K
      (try simp only [Act.put, List.setIfInBounds_toArray, List.set_cons_zero, List.set_cons_succ])
      refine wpLast_one (i := 23) (o := ⟨some 134, _, _, _, _, _⟩) (by kernel_rfl) rfl (fun K hK => ?_)
      refine step_append_lies _ (rfl) _ _ _ (rfl) B 28 i0 _ 1 8 Try.underlying35 hi0 hz0 hz1 hz2 rfl (by omega) (tv 1) (u64s (TK 1)).length (u64s (TK 1)) (rfl) (D4.out.tkS 1 (by omega)) ⟨w2.heap.size, 0, none⟩ 1 1 [.int .u64 x.2.v] (rfl) (rfl) (World.news_of_block (cs := #[.int .u64 x.2.v]) (t := 28) (fr := (0, 0)) (heap_alloc_new _ _)) (by simp [Value.oneCell']) (by omega) (by have := HLEN.out; unfold maxLen; omega) (by have := HLEN.out; omega) (by simp; omega) (w2.heap.size + 1) (by simp) ?_
      intro g6 c6 w3 hown hgrow hat hlt
      have hv' : Sl w3 B 28 (.slice (some ⟨g6, 0, none⟩) ((u64s (TK 1)).length + 1) c6) (u64s (TK 1 ++ [x.2.v])) := by
        rw [u64s_snoc]
        unfold Sl
        rw [List.length_append]
        exact hown
      have o6 : Only (fun k => (tv 1).ownBlock = some k) w2 w3 := ((Only.refl _ w2).alloc _).then (R := fun k => (tv 1).ownBlock = some k) (Only.of_grown hgrow fun k hk _ => hk) fun i _ hi => hi
      have hnew : (Value.slice (some ⟨g6, 0, none⟩) ((u64s (TK 1)).length + 1) c6).ownBlock = (tv 1).ownBlock ∨ ∃ k, (Value.slice (some ⟨g6, 0, none⟩) ((u64s (TK 1)).length + 1) c6).ownBlock = some k ∧ w2.heap.size ≤ k := by
        rcases hat with e | e
        · exact .inl (by rw [e]; rfl)
        · exact .inr ⟨g6, rfl, by omega⟩
      obtain ⟨g1, g2, g3, g4, g5, -⟩ := D2.out.grow o6 ⟨_, D2.out.tkS 1 (by omega)⟩ (D2.out.d2 1 (by omega)).1 (D2.out.d2 1 (by omega)).2
      have hon : w3.cell? ⟨ob, 3, none⟩ = some (.pointer (some ⟨bo2 3, 0, none⟩)) := by
        have := g3.cellv (optrs_get (upd act 3 true) bo2 (show 3 < 4 by omega))
        unfold optr at this
        rw [upd_same] at this
        exact this
      have kk3 : (fun w' : World => w'.cell? ⟨cb, 4, none⟩ = some (.slice (some ⟨tb, 0, none⟩) 2 2) ∧ w'.cell? ⟨cb, 1, none⟩ = some (.slice (some ⟨ob, 0, none⟩) 4 4) ∧ w'.cell? ⟨ob, 3, none⟩ = some (.pointer (some ⟨bo2 3, 0, none⟩)) ∧ w'.cell? ⟨tb, 1, none⟩ = some (tv 1)) w3 := ⟨g2.cellv (i := 4) rfl, g2.cellv (i := 1) rfl, hon, g5.cellv (i := 1) rfl⟩
      have q1 : w3.cell? ⟨tb, 1, none⟩ = some (tv 1) := g5.cellv (i := 1) rfl
      have q2 := g5.frozen 1
      have D3 := hide (D2.out.tkApp (p := 1) (by omega) o6 hv' hnew)
      have hin := D2.out.tkS 1 (by omega)
      have P3 := hide (P2.out.trans (o6.mono (R := SB B) fun k hk => (hin.block hk).1))
      clear hv' o6 hnew g1 g2 g3 g4 g5 hin hown hgrow hat hlt hon
      refine hK.out _ _ (fun _ => kk3) ?_
      clear hK K
      (try simp only [Act.put, List.setIfInBounds_toArray, List.set_cons_zero, List.set_cons_succ])
      refine wpLast_one (i := 24) (o := ⟨some 135, _, _, _, _, _⟩) (by kernel_rfl) rfl (fun K hK => ?_)
      go_simp
      refine hK.out _ _ (fun _ => kk3) ?_
      clear hK K
      (try simp only [Act.put, List.setIfInBounds_toArray, List.set_cons_zero, List.set_cons_succ])
      refine wpLast_one (i := 25) (o := ⟨none, _, _, _, _, _⟩) (by kernel_rfl) rfl (fun K hK => ?_)
      go_simp
      refine hK.out _ _ (fun h => absurd rfl h) ?_
      clear hK K
      (try simp only [Act.put, List.setIfInBounds_toArray, List.set_cons_zero, List.set_cons_succ])
      have P4 := hide (P3.out.set1 (g := tb) 1 H.out.b4 (.slice (some ⟨g6, 0, none⟩) ((u64s (TK 1)).length + 1) c6))
      refine wpLast_done (by kernel_rfl) ?_ _
      have q3 := D3.out.cc1
      have q4 := D3.out.on (p := 3) (by omega) (upd_same _ _ _)
      have q5 := D3.out.ops.frozen 3
      go_wp2_with fail
      go_end0
      rw [HXX.out]
      refine ⟨rfl, bo2, iv, upd tv 1 (.slice (some ⟨g6, 0, none⟩) ((u64s (TK 1)).length + 1) c6), ?_, P4.out.set1 (g := ob) 3 H.out.b2 (.pointer none)⟩
      have d2 := D3.out.nil_ (p := 3)
      rw [upd_upd] at d2
      rw [show decide (x.2.out = 0) = false from by simp [HZ.out], show inN x.2 3 nx2 IN = IN from by unfold inN; rw [if_neg (fun h => by omega)], show tkN x.2 3 TK = upd TK 1 (TK 1 ++ [x.2.v]) from by unfold tkN; rw [if_pos ⟨HONE.out, by omega⟩]]
      exact d2
    · have hob : (x.2.out == 1) = false := by simp [hone]
      have HONE := hide hone
      clear hone
      go_wp2_with fail
      refine (HX1.out.outcome).mono ?_
      rintro e w1' ⟨rfl, rfl⟩
      have kf := D1.out.ops.frozen 3
      go_wp2_with fail
      go_end0
      rw [HXX.out]
      refine ⟨rfl, bo2, iv, tv, ?_, P1.out.set1 (g := ob) 3 H.out.b2 (.pointer none)⟩
      have d2 := D1.out.nil_ (p := 3)
      rw [upd_upd] at d2
      rw [inN_no HONE.out, tkN_no HONE.out, show decide (x.2.out = 0) = false from by simp [HZ.out]]
      exact d2
end
end Go.Proofs.Ytjjjjbfblhadnaa
