/-
  The owner's step of the gang (troupelaw04.gang.step), the walk.
-/
import Derived.Test.YtblkbfdmoanbfaaDeqE
namespace Go.Proofs.Ytblkbfdmoanbfaa
open Go.RowKit
set_option linter.unusedVariables false

/-- The table of operations that the owner steps with; its flag; its number. -/
def bOwn (act : Nat → Bool) (o : Nat → Dop) (what nx : Nat) : Nat → Dop := if act 0 then o else upd o 0 (if what = 0 then pushOp ((nx + 1 : Nat) : Int) else popOp)
def bPu (act : Nat → Bool) (pu : Bool) (what : Nat) : Bool := if act 0 then pu else decide (what = 0)
def bNx (act : Nat → Bool) (what nx : Nat) : Nat := if act 0 then nx else if what = 0 then nx + 1 else nx
def lens (XS : Nat → List Int) : Int := ((XS 0).length : Int) - ((XS 1).length : Int) - ((XS 2).length : Int)
def XSo (x : Dop) (pu : Bool) (nx : Nat) (XS : Nat → List Int) : Nat → List Int := upd (upd XS 0 (inG x pu nx (XS 0))) 1 (popG x pu (XS 1))
/-- Behind an owner's step. -/
def Owned (w w' : World) (B gb tb bd bm bc n : Nat) (tc : Int) (act : Nat → Bool) (o2 : Nat → Dop) (x : List Int × Dop) (pu : Bool) (nx : Nat) (XS : Nat → List Int) (lost most : Int) : Prop :=
  ∃ bo' sv' most', GW w' B gb tb bd bm bc n x.1 tc (upd act 0 (decide (x.2.out = 0))) (upd o2 0 x.2) bo' pu nx sv' (XSo x.2 pu nx XS) lost most' ∧ Only (SB B) w w' ∧ (most' = most ∨ (x.2.out ≠ 0 ∧ most' = lens (XSo x.2 pu nx XS)))
section
variable {w : World} {B gb tb bd bm bc n p : Nat} {L : List Int} {tc : Int} {act : Nat → Bool} {o : Nat → Dop} {bo : Nat → Nat} {pu : Bool} {nx : Nat} {sv : Nat → Value} {XS : Nat → List Int} {lost most : Int}
theorem XSo_no {x : Dop} (h : x.out ≠ 1) : XSo x pu nx XS = XS := by
  unfold XSo inG popG
  rw [if_neg (fun e => h e.1), if_neg (fun e => h e.1), upd_self, upd_self]
theorem XSo_in {x : Dop} (h : x.out = 1) : XSo x true nx XS = upd XS 0 (XS 0 ++ [(nx : Int)]) := by
  unfold XSo inG popG
  rw [if_pos ⟨h, rfl⟩, if_neg (fun e => by cases e.2)]
  funext i
  by_cases e : i = 1
  · subst e; rw [upd_same, upd_ne _ _ (by decide)]
  · rw [upd_ne _ _ e]
theorem XSo_pop {x : Dop} (h : x.out = 1) : XSo x false nx XS = upd XS 1 (XS 1 ++ [x.v]) := by
  unfold XSo inG popG
  rw [if_neg (fun e => by cases e.2), if_pos ⟨h, rfl⟩, upd_self]
theorem GW.oon (h : GW w B gb tb bd bm bc n L tc act o bo pu nx sv XS lost most) (ha : act 0 = true) : w.cell? ⟨gb, 1, none⟩ = some (.pointer (some ⟨bo 0, 0, none⟩)) := by rw [h.cc1, optr_on _ ha]
theorem GW.ooff (h : GW w B gb tb bd bm bc n L tc act o bo pu nx sv XS lost most) (ha : act 0 = false) : w.cell? ⟨gb, 1, none⟩ = some (.pointer none) := by rw [h.cc1, optr_off _ ha]
theorem max_wrap (a b : Int) : (if a < b then b else a) = a ∨ (if a < b then b else a) = b := by split <;> simp
theorem sl_form {B : Nat} {v : Value} {l : List Int} (h : Sl w B 28 v (u64s l)) : ∃ a c, v = .slice a l.length c := by
  obtain ⟨a, c, hv, _⟩ := h.rd
  rw [u64s_len] at hv
  exact ⟨a, c, hv⟩
set_option maxRecDepth 100000 in
set_option maxHeartbeats 8000000 in
theorem own_0 (h : GW w B gb tb bd bm bc n L tc act o bo pu nx sv XS lost most) (hok : DopOk (bOwn act o 0 nx 0)) (h0 : (bOwn act o 0 nx 0).out = 0) (hpu : (bOwn act o 0 nx 0).k ≤ 4 ↔ bPu act pu 0 = true)
    (hn : nx ≤ 100000) (hf : Few (tc + 10)) (hk : ∀ i, i < 3 → (XS i).length ≤ 100000) :
    Calls Try.prog 38 #[.pointer (some ⟨gb, 0, none⟩), .int .i64 0] w fun e w' => e = .returned (.tuple #[]) ∧ Owned w w' B gb tb bd bm bc n (tc + 1) act (bOwn act o 0 nx) (dstep 0 n L (bOwn act o 0 nx 0)) (bPu act pu 0) (bNx act 0 nx) XS lost most := by
  have H := hide h
  have HOK := hide (And.intro hok (And.intro h0 hpu))
  have HK := hide hk
  clear hok h0 hk hpu
  have hact : act 0 = true ∨ act 0 = false := by cases act 0 <;> simp
  have ko : ∃ v, w.cell? ⟨gb, 1, none⟩ = some (.pointer v) ∧ v = if act 0 then some ⟨bo 0, 0, none⟩ else none := by
    rcases hact with e | e
    · exact ⟨_, h.oon e, by rw [e]; rfl⟩
    · exact ⟨_, h.ooff e, by rw [e]; rfl⟩
  obtain ⟨v, ko, hv⟩ := ko
  have HV := hide hv
  have HACT := hide hact
  clear hv hact h
  obtain ⟨o2, ho2⟩ : ∃ o2, bOwn act o 0 nx = o2 := ⟨_, rfl⟩
  obtain ⟨nx2, hnx2⟩ : ∃ nx2, bNx act 0 nx = nx2 := ⟨_, rfl⟩
  obtain ⟨pu2, hpu2⟩ : ∃ pu2, bPu act pu 0 = pu2 := ⟨_, rfl⟩
  have hnb : nx2 ≤ 100001 := by rw [← hnx2]; unfold bNx; split <;> (try split) <;> omega
  rw [ho2, hpu2] at HOK
  rw [ho2, hnx2, hpu2]
  have HO2 := hide ho2
  have HNX2 := hide hnx2
  have HPU2 := hide hpu2
  clear ho2 hnx2 hpu2
  go_enter Try.func38, Try.ntmps38
  go_upto_if 14 with fail
  go_cut [] (fun wx => ∃ bo', GW wx B gb tb bd bm bc n L tc (upd act 0 true) o2 bo' pu2 nx2 sv XS lost most ∧ Only (SB B) w wx)
  case first =>
    rcases HACT.out with e | e
    · have hv' := HV.out
      rw [e] at hv'
      have HE := hide e
      rw [hv']
      clear ko
      clear hv' e
      go_wp2_with fail
      go_meet
      refine ⟨bo, ?_, Only.refl _ _⟩
      have q1 := HO2.out
      have q2 := HNX2.out
      have q3 := HPU2.out
      unfold bOwn at q1
      unfold bNx at q2
      unfold bPu at q3
      rw [if_pos HE.out] at q1 q2 q3
      rw [← q1, ← q2, ← q3, show upd act 0 true = act from by rw [← HE.out]; exact upd_self _ _]
      exact H.out
    · have hv' := HV.out
      rw [e] at hv'
      have HE := hide e
      rw [hv']
      have kf2 := H.out.g.frozen 2
      have kc2 := H.out.cc2
      have kc0 := H.out.cc0
      clear hv' e
      go_wp2_with fail
      have C0 := hide (H.out.setPu true)
      have O0 := hide (((Only.refl (SB B) w).set1 (g := gb) 2 H.out.b1 (.bool true)))
      clear kf2 kc2 kc0 ko
      generalize w.setCell ⟨gb, 2, none⟩ (.bool true) = w1 at C0 O0 ⊢
      refine (DPop_all C0.out.env).mono ?_
      rintro e w2 ⟨rb, rfl, g1, e1, o1, b1⟩
      have C1 := hide (C0.out.beginO o1 g1 b1)
      have kc1 := (C0.out.only0 o1).ooff HE.out
      have kf1 := (C0.out.only0 o1).g.frozen 1
      have kc2 := (C0.out.only0 o1).cc2
      have O1 := hide (((O0.out.trans (SB.s0 o1)).set1 (g := gb) 1 H.out.b1 (.pointer (some ⟨rb, 0, none⟩))))
      have kc3 := (C0.out.only0 o1).cc3
      have kf3 := (C0.out.only0 o1).g.frozen 3
      clear o1 g1 e1 b1
      go_wp2_with fail
      clear kc1 kf1 kc2 kc3 kf3
      generalize w2.setCell ⟨gb, 1, none⟩ (.pointer (some ⟨rb, 0, none⟩)) = w3 at C1 O1 ⊢
      have C3 := hide (C1.out.setNx ((nx + 1 : Nat) : Int))
      have O3 := hide (O1.out.set1 (g := gb) 3 H.out.b1 (.int .u64 ((nx + 1 : Nat) : Int)))
      rw [show ((nx + 1 : Nat) : Int) = (nx : Int) + 1 from by omega] at C3 O3
      generalize w3.setCell ⟨gb, 3, none⟩ (.int .u64 ((nx : Int) + 1)) = w4 at C3 O3 ⊢
      have z0 := C3.out.drew.cc0
      have z3 := C3.out.drew.cc3
      have zf := C3.out.drew.g.frozen 1
      have ze : (nx : Int) + 1 = ((nx + 1 : Nat) : Int) := by omega
      rw [ze] at z3
      obtain ⟨m, hm⟩ : ∃ m, nx + 1 = m := ⟨_, rfl⟩
      rw [hm] at z3
      have HMM := hide hm
      clear hm ze
      go_region_held3 (fun w' : World => w'.cell? ⟨gb, 0, none⟩ = some (.pointer (some ⟨bd, 0, none⟩)) ∧ w'.cell? ⟨gb, 3, none⟩ = some (.int .u64 (m : Int))) (first | exact ⟨z0, z3⟩ | exact ⟨y0, y3⟩ | exact ⟨x0, x3⟩) (first | (go_at_call 22; refine (DPush_all C3.out.drew.env (m : Int)).mono ?_; rintro e w5 ⟨rb2, rfl, g1, e1, o1, b1⟩; have D1 := hide (C3.out.drew.only0 o1); have y0 := D1.out.cc0; have y3 := D1.out.cc3; rw [show (nx : Int) + 1 = ((nx + 1 : Nat) : Int) from by omega, HMM.out] at y3; have y6 := D1.out.oon (upd_same _ _ _); have y7 := D1.out.g.frozen 1; have C4 := hide (C3.out.drew.beginO o1 g1 b1); have x0 := C4.out.cc0; have x3 := C4.out.cc3; rw [show (nx : Int) + 1 = ((nx + 1 : Nat) : Int) from by omega, HMM.out] at x3; have O4 := hide (((O3.out.drew.trans (SB.s0 o1)).set1 (g := gb) 1 H.out.b1 (.pointer (some ⟨rb2, 0, none⟩)))); clear o1 g1 e1 b1))
      rename_i hHeld
      clear hHeld y0 y3 y6 y7 x0 x3 z0 z3 zf
      generalize w5.setCell ⟨gb, 1, none⟩ (.pointer (some ⟨rb2, 0, none⟩)) = w6 at C4 O4 ⊢
      go_wp2_with fail
      go_meet
      refine ⟨upd bo 0 rb2, ?_, O4.out⟩
      have q1 := HO2.out
      have q2 := HNX2.out
      have q3 := HPU2.out
      unfold bOwn at q1
      unfold bNx at q2
      unfold bPu at q3
      rw [if_neg (by rw [HE.out]; decide), if_pos rfl] at q1 q2
      rw [if_neg (by rw [HE.out]; decide)] at q3
      have c4 := C4.out
      rw [upd_upd, upd_upd, upd_upd, show (nx : Int) + 1 = ((nx + 1 : Nat) : Int) from by omega] at c4
      rw [← q1, ← q2, ← q3, HMM.out]
      rw [HMM.out] at c4
      exact c4

  case rest =>
    obtain ⟨bo2, hc, hoo⟩ := hcut
    have HC := hide hc
    have OO := hide hoo
    have k1 := hc.oon (upd_same _ _ _)
    clear hc hoo ko
    go_wp2_with fail
    refine (DStep_all HC.out.env HOK.out.1 (HC.out.fam.at_ 0 (by omega) (upd_same _ _ _)) (hf.le_ (by omega))).mono ?_
    rintro e w1 ⟨rfl, h1, h2, o1⟩
    have hgt : dtick (o2 0) = 1 := by simp [dtick, HOK.out.2.1]
    rw [hgt] at h2
    obtain ⟨x, hx⟩ : ∃ x, dstep 0 n L (o2 0) = x := ⟨_, rfl⟩
    rw [hx] at h1 h2 ⊢
    have D1 := hide (HC.out.step (p := 0) (by omega) (upd_same _ _ _) o1 h1 h2)
    have hb2 := HC.out.fam.ge 0 (by omega) (upd_same _ _ _)
    have P1 := hide (OO.out.trans (o1.mono (R := SB B) fun k hk => by have := HC.out.b6; have := HC.out.b7; unfold SB; rcases hk with e | e | e <;> omega))
    have HX1 := hide (show DopIs w1 (bo2 0) bd x.2 from h1)
    have HXX := hide hx
    clear h1 h2 o1 hgt hx k1
    by_cases hz : x.2.out = 0
    · have hzb : (x.2.out != 0) = false := by rw [hz]; rfl
      have HZ := hide hz
      clear hz
      go_wp2_with fail
      refine bodyPost_ret (results_none rfl _ _ _) rfl ?_
      rw [HXX.out]
      refine ⟨rfl, bo2, sv, most, ?_, P1.out, .inl rfl⟩
      rw [XSo_no (by rw [HZ.out]; decide), show decide (x.2.out = 0) = true from by simp [HZ.out]]
      exact D1.out
    have hzb : (x.2.out != 0) = true := by simp [hz]
    have HZ := hide hz
    clear hz
    have k1 := D1.out.oon (upd_same _ _ _)
    have k2 := D1.out.cc2
    go_upto_region 9 with fail
    go_cut [68] (fun v wx => v = .bool (x.2.out == 1 && pu2) ∧ w1 = wx)
    case first =>
      go_wp2_with fail
      refine (HX1.out.outcome).mono ?_
      rintro e w1' ⟨rfl, rfl⟩
      by_cases hone : x.2.out = 1
      · have hob : (x.2.out == 1) = true := by rw [hone]; rfl
        clear hone
        go_wp2_with fail
        go_meet
        exact ⟨by rw [hob]; rfl, rfl⟩
      · have hob : (x.2.out == 1) = false := by simp [hone]
        clear hone
        go_wp2_with fail
        go_meet
        exact ⟨by rw [hob]; rfl, rfl⟩
    case rest =>
    obtain ⟨rfl, rfl⟩ := hcut
    go_upto_if 68 with fail
    go_cut [] (fun wx => ∃ sv', GW wx B gb tb bd bm bc n x.1 (tc + 1) (upd act 0 true) (upd o2 0 x.2) bo2 pu2 nx2 sv' (XSo x.2 pu2 nx2 XS) lost most ∧ Only (SB B) w wx)
    case first =>
      by_cases hone : x.2.out = 1
      · have hob : (x.2.out == 1) = true := by rw [hone]; rfl
        have HONE := hide hone
        clear hone
        cases pu2 with
        | true =>
          have hpb : (x.2.out == 1 && true) = true := by rw [hob]; rfl
          rw [hpb]
          clear hpb
          go_wp2_with fail
          have D2 := hide D1.out.drew
          have P2 := hide P1.out.drew
          have hlen : (u64s (XS 0)).length ≤ 100000 := by rw [u64s_len]; exact HK.out 0 (by omega)
          have HLEN := hide hlen
          obtain ⟨i0, hi0, hz0, hz1, hz2⟩ := info_parts info_u64
          clear k1 k2 hlen
          refine wp_region_last 13 (fun w' : World => w'.cell? ⟨gb, 4, none⟩ = some (sv 0) ∧ w'.cell? ⟨gb, 3, none⟩ = some (.int .u64 (nx2 : Int))) (by kernel_rfl) ?_
          have hb0 : B ≤ w1.drew.heap.size := Nat.le_trans D2.out.b1 (Nat.le_of_lt D2.out.g.lt)
          generalize w1.drew = w2 at D2 P2 hb0 ⊢
          have kk : (fun w' : World => w'.cell? ⟨gb, 4, none⟩ = some (sv 0) ∧ w'.cell? ⟨gb, 3, none⟩ = some (.int .u64 (nx2 : Int))) w2 := ⟨D2.out.cc4, D2.out.cc3⟩
          refine wpLast_take (i := 0) (oi := ⟨some 69, _, _, _, _, _⟩) (v := ?vv69x0) rfl (by kernel_rfl) (by kernel_rfl) (by kernel_rfl) (by kernel_rfl) (by decide) (fun _ _ _ h => h) (Or.inl ⟨by rfl, ?hy69x0⟩) (by assumption) ?rest69x0
          case hy69x0 => intro wq hSw; (try dsimp only at hSw); go_simp; (try with_reducible rfl)
          (try simp only [Act.put, List.setIfInBounds_toArray, List.set_cons_zero, List.set_cons_succ])
          refine wpLast_take (i := 1) (oi := ⟨some 70, _, _, _, _, _⟩) (v := ?vv69x1) rfl (by kernel_rfl) (by kernel_rfl) (by kernel_rfl) (by kernel_rfl) (by decide) (fun _ _ _ h => h) (Or.inl ⟨by rfl, ?hy69x1⟩) (by assumption) ?rest69x1
          case hy69x1 => intro wq hSw; (try dsimp only at hSw); go_simp; (try with_reducible rfl)
          (try simp only [Act.put, List.setIfInBounds_toArray, List.set_cons_zero, List.set_cons_succ])
          refine wpLast_take (i := 2) (oi := ⟨some 71, _, _, _, _, _⟩) (v := ?vv69x2) rfl (by kernel_rfl) (by kernel_rfl) (by kernel_rfl) (by kernel_rfl) (by decide) (fun _ _ _ h => h) (Or.inl ⟨by rfl, ?hy69x2⟩) (by assumption) ?rest69x2
          case hy69x2 => intro wq hSw; (try dsimp only at hSw); go_simp; (try with_reducible rfl)
          (try simp only [Act.put, List.setIfInBounds_toArray, List.set_cons_zero, List.set_cons_succ])
          refine wpLast_take (i := 3) (oi := ⟨some 72, _, _, _, _, _⟩) (v := ?vv69x3) rfl (by kernel_rfl) (by kernel_rfl) (by kernel_rfl) (by kernel_rfl) (by decide) (fun _ _ _ h => h) (Or.inl ⟨by rfl, ?hy69x3⟩) (by assumption) ?rest69x3
          case hy69x3 => intro wq hSw; (try dsimp only at hSw); go_simp; (try with_reducible rfl)
          (try simp only [Act.put, List.setIfInBounds_toArray, List.set_cons_zero, List.set_cons_succ])
          refine wpLast_take (i := 4) (oi := ⟨some 73, _, _, _, _, _⟩) (v := ?vv69x4) rfl (by kernel_rfl) (by kernel_rfl) (by kernel_rfl) (by kernel_rfl) (by decide) (fun _ _ _ h => h) (Or.inl ⟨by rfl, ?hy69x4⟩) (by assumption) ?rest69x4
          case hy69x4 => intro wq hSw; (try dsimp only at hSw); go_simp; (try with_reducible rfl)
          (try simp only [Act.put, List.setIfInBounds_toArray, List.set_cons_zero, List.set_cons_succ])
          refine wpLast_take (i := 5) (oi := ⟨some 74, _, _, _, _, _⟩) (v := ?vv69x5) rfl (by kernel_rfl) (by kernel_rfl) (by kernel_rfl) (by kernel_rfl) (by decide) (fun _ _ _ h => h) (Or.inl ⟨by rfl, ?hy69x5⟩) (by assumption) ?rest69x5
          case hy69x5 => intro wq hSw; (try dsimp only at hSw); go_simp; (try with_reducible rfl)
          (try simp only [Act.put, List.setIfInBounds_toArray, List.set_cons_zero, List.set_cons_succ])
          refine wpLast_take (i := 6) (oi := ⟨some 75, _, _, _, _, _⟩) (v := ?vv69x6) rfl (by kernel_rfl) (by kernel_rfl) (by kernel_rfl) (by kernel_rfl) (by decide) (fun _ _ _ h => h) (Or.inl ⟨by rfl, ?hy69x6⟩) (by assumption) ?rest69x6
          case hy69x6 => intro wq hSw; (try dsimp only at hSw); go_simp; (try with_reducible rfl)
          (try simp only [Act.put, List.setIfInBounds_toArray, List.set_cons_zero, List.set_cons_succ])
          refine wpLast_take (i := 7) (oi := ⟨some 76, _, _, _, _, _⟩) (v := ?vv69x7) rfl (by kernel_rfl) (by kernel_rfl) (by kernel_rfl) (by kernel_rfl) (by decide) (fun _ _ _ h => h) (Or.inl ⟨by rfl, ?hy69x7⟩) (by assumption) ?rest69x7
          case hy69x7 => intro wq hSw; (try dsimp only at hSw); go_simp; (try with_reducible rfl)
          (try simp only [Act.put, List.setIfInBounds_toArray, List.set_cons_zero, List.set_cons_succ])
          refine wpLast_take (i := 8) (oi := ⟨some 77, _, _, _, _, _⟩) (v := ?vv69x8) rfl (by kernel_rfl) (by kernel_rfl) (by kernel_rfl) (by kernel_rfl) (by decide) (fun _ _ _ h => h) (Or.inl ⟨by rfl, ?hy69x8⟩) (by assumption) ?rest69x8
          case hy69x8 => intro wq hSw; (try dsimp only at hSw); go_simp; (try with_reducible rfl)
          (try simp only [Act.put, List.setIfInBounds_toArray, List.set_cons_zero, List.set_cons_succ])
          refine wpLast_one (i := 9) (o := ⟨some 78, _, _, _, _, _⟩) (by kernel_rfl) rfl (fun K hK => ?_)
          go_simp
          have D4 := hide (D2.out.only0 ((Only.refl S0 w2).alloc (.cells #[.int .u64 (nx2 : Int)] 28)))
          refine hK.out _ _ (fun _ => ⟨D4.out.cc4, D4.out.cc3⟩) ?_
          clear hK K
          (try simp only [Act.put, List.setIfInBounds_toArray, List.set_cons_zero, List.set_cons_succ])
          refine wpLast_one (i := 10) (o := ⟨some 79, _, _, _, _, _⟩) (by kernel_rfl) rfl (fun K hK => ?_)
          refine step_append_lies _ (rfl) _ _ _ (rfl) B 28 i0 _ 1 8 Try.underlying35 hi0 hz0 hz1 hz2 rfl (by omega) (sv 0) (u64s (XS 0)).length (u64s (XS 0)) (rfl) (D4.out.sl 0 (by omega)) ⟨w2.heap.size, 0, none⟩ 1 1 [.int .u64 ((nx2 : Int))] (rfl) (rfl) (World.news_of_block (cs := #[.int .u64 ((nx2 : Int))]) (t := 28) (fr := (0, 0)) (heap_alloc_new _ _)) (by simp [Value.oneCell']) (by omega) (by have := HLEN.out; unfold maxLen; omega) (by have := HLEN.out; omega) (by simp; omega) (w2.heap.size + 1) (by simp) ?_
          intro g6 c6 w3 hown hgrow hat hlt
          have hv' : Sl w3 B 28 (.slice (some ⟨g6, 0, none⟩) ((u64s (XS 0)).length + 1) c6) (u64s (XS 0 ++ [(nx2 : Int)])) := by
            rw [u64s_snoc]
            unfold Sl
            rw [List.length_append]
            exact hown
          have o6 : Only (fun k => (sv 0).ownBlock = some k) w2 w3 := ((Only.refl _ w2).alloc _).then (R := fun k => (sv 0).ownBlock = some k) (Only.of_grown hgrow fun k hk _ => hk) fun i _ hi => hi
          have hnew : (Value.slice (some ⟨g6, 0, none⟩) ((u64s (XS 0)).length + 1) c6).ownBlock = (sv 0).ownBlock ∨ ∃ k, (Value.slice (some ⟨g6, 0, none⟩) ((u64s (XS 0)).length + 1) c6).ownBlock = some k ∧ w2.heap.size ≤ k := by
            rcases hat with e | e
            · exact .inl (by rw [e]; rfl)
            · exact .inr ⟨g6, rfl, by omega⟩
          obtain ⟨g1, g2, g3, g4, -⟩ := D2.out.grow (p := 0) (by omega) o6
          have KK3 : (fun w' : World => w'.cell? ⟨gb, 4, none⟩ = some (sv 0) ∧ w'.cell? ⟨gb, 3, none⟩ = some (.int .u64 (nx2 : Int))) w3 := ⟨g2.cellv (i := 4) rfl, g2.cellv (i := 3) rfl⟩
          have kk3 : (fun w' : World => w'.cell? ⟨gb, 4, none⟩ = some (sv 0) ∧ w'.cell? ⟨gb, 3, none⟩ = some (.int .u64 (nx2 : Int))) w3 := KK3
          have q1 : w3.cell? ⟨gb, 4, none⟩ = some (sv 0) := g2.cellv (i := 4) rfl
          have q2 := g2.frozen 4
          have d3 := D2.out.app (p := 0) (by omega) o6 hv' hnew
          rw [show ixS 0 = 4 from rfl] at d3
          have D3 := hide d3
          have hin := D2.out.sl 0 (by omega)
          have P3 := hide (P2.out.trans (o6.mono (R := SB B) fun k hk => (hin.block hk).1))
          clear hv' o6 hnew g1 g2 g3 g4 hin hown hgrow hat hlt d3 KK3
          refine hK.out _ _ (fun _ => kk3) ?_
          clear hK K
          (try simp only [Act.put, List.setIfInBounds_toArray, List.set_cons_zero, List.set_cons_succ])
          refine wpLast_one (i := 11) (o := ⟨some 80, _, _, _, _, _⟩) (by kernel_rfl) rfl (fun K hK => ?_)
          go_simp
          refine hK.out _ _ (fun _ => kk3) ?_
          clear hK K
          (try simp only [Act.put, List.setIfInBounds_toArray, List.set_cons_zero, List.set_cons_succ])
          refine wpLast_one (i := 12) (o := ⟨some 81, _, _, _, _, _⟩) (by kernel_rfl) rfl (fun K hK => ?_)
          go_simp
          refine hK.out _ _ (fun _ => kk3) ?_
          clear hK K
          (try simp only [Act.put, List.setIfInBounds_toArray, List.set_cons_zero, List.set_cons_succ])
          refine wpLast_one (i := 13) (o := ⟨none, _, _, _, _, _⟩) (by kernel_rfl) rfl (fun K hK => ?_)
          go_simp
          refine hK.out _ _ (fun h => absurd rfl h) ?_
          clear hK K
          (try simp only [Act.put, List.setIfInBounds_toArray, List.set_cons_zero, List.set_cons_succ])

          have P4 := hide (P3.out.set1 (g := gb) 4 H.out.b1 (.slice (some ⟨g6, 0, none⟩) ((u64s (XS 0)).length + 1) c6))
          refine wpLast_done (by kernel_rfl) ?_ _
          go_wp2_with fail
          go_meet
          refine ⟨upd sv 0 (.slice (some ⟨g6, 0, none⟩) ((u64s (XS 0)).length + 1) c6), ?_, P4.out⟩
          rw [XSo_in HONE.out]
          exact D3.out
        | false =>
          have hpb : (x.2.out == 1 && false) = false := by rw [hob]; rfl
          rw [hpb]
          clear hpb
          go_wp2_with fail
          refine (HX1.out.outcome).mono ?_
          rintro e w1' ⟨rfl, rfl⟩
          go_wp2_with fail
          have D2 := hide D1.out.drew
          have P2 := hide P1.out.drew
          have X2 := hide (show DopIs w1.drew (bo2 0) bd x.2 from HX1.out)
          have HGV := hide (show dvalue x.2.v x.2.out = x.2.v from by unfold dvalue; rw [if_pos HONE.out])
          have hlen : (u64s (XS 1)).length ≤ 100000 := by rw [u64s_len]; exact HK.out 1 (by omega)
          have HLEN := hide hlen
          obtain ⟨i0, hi0, hz0, hz1, hz2⟩ := info_parts info_u64
          clear k1 k2 hlen
          refine wp_region_last 14 (fun w' : World => w'.cell? ⟨gb, 5, none⟩ = some (sv 1) ∧ w'.cell? ⟨gb, 1, none⟩ = some (.pointer (some ⟨bo2 0, 0, none⟩))) (by kernel_rfl) ?_
          have hb0 : B ≤ w1.drew.heap.size := Nat.le_trans D2.out.b1 (Nat.le_of_lt D2.out.g.lt)
          generalize w1.drew = w2 at D2 P2 X2 hb0 ⊢
          have kk : (fun w' : World => w'.cell? ⟨gb, 5, none⟩ = some (sv 1) ∧ w'.cell? ⟨gb, 1, none⟩ = some (.pointer (some ⟨bo2 0, 0, none⟩))) w2 := ⟨D2.out.cc5, D2.out.oon (upd_same _ _ _)⟩
          refine wpLast_take (i := 0) (oi := ⟨some 88, _, _, _, _, _⟩) (v := ?vv88x0) rfl (by kernel_rfl) (by kernel_rfl) (by kernel_rfl) (by kernel_rfl) (by decide) (fun _ _ _ h => h) (Or.inl ⟨by rfl, ?hy88x0⟩) (by assumption) ?rest88x0
          case hy88x0 => intro wq hSw; (try dsimp only at hSw); go_simp; (try with_reducible rfl)
          (try simp only [Act.put, List.setIfInBounds_toArray, List.set_cons_zero, List.set_cons_succ])
          refine wpLast_take (i := 1) (oi := ⟨some 89, _, _, _, _, _⟩) (v := ?vv88x1) rfl (by kernel_rfl) (by kernel_rfl) (by kernel_rfl) (by kernel_rfl) (by decide) (fun _ _ _ h => h) (Or.inl ⟨by rfl, ?hy88x1⟩) (by assumption) ?rest88x1
          case hy88x1 => intro wq hSw; (try dsimp only at hSw); go_simp; (try with_reducible rfl)
          (try simp only [Act.put, List.setIfInBounds_toArray, List.set_cons_zero, List.set_cons_succ])
          refine wpLast_take (i := 2) (oi := ⟨some 90, _, _, _, _, _⟩) (v := ?vv88x2) rfl (by kernel_rfl) (by kernel_rfl) (by kernel_rfl) (by kernel_rfl) (by decide) (fun _ _ _ h => h) (Or.inl ⟨by rfl, ?hy88x2⟩) (by assumption) ?rest88x2
          case hy88x2 => intro wq hSw; (try dsimp only at hSw); go_simp; (try with_reducible rfl)
          (try simp only [Act.put, List.setIfInBounds_toArray, List.set_cons_zero, List.set_cons_succ])
          refine wpLast_take (i := 3) (oi := ⟨some 91, _, _, _, _, _⟩) (v := ?vv88x3) rfl (by kernel_rfl) (by kernel_rfl) (by kernel_rfl) (by kernel_rfl) (by decide) (fun _ _ _ h => h) (Or.inl ⟨by rfl, ?hy88x3⟩) (by assumption) ?rest88x3
          case hy88x3 => intro wq hSw; (try dsimp only at hSw); go_simp; (try with_reducible rfl)
          (try simp only [Act.put, List.setIfInBounds_toArray, List.set_cons_zero, List.set_cons_succ])
          refine wpLast_take (i := 4) (oi := ⟨some 92, _, _, _, _, _⟩) (v := ?vv88x4) rfl (by kernel_rfl) (by kernel_rfl) (by kernel_rfl) (by kernel_rfl) (by decide) (fun _ _ _ h => h) (Or.inl ⟨by rfl, ?hy88x4⟩) (by assumption) ?rest88x4
          case hy88x4 => intro wq hSw; (try dsimp only at hSw); go_simp; (try with_reducible rfl)
          (try simp only [Act.put, List.setIfInBounds_toArray, List.set_cons_zero, List.set_cons_succ])
          refine wpLast_take (i := 5) (oi := ⟨some 93, _, _, _, _, _⟩) (v := ?vv88x5) rfl (by kernel_rfl) (by kernel_rfl) (by kernel_rfl) (by kernel_rfl) (by decide) (fun _ _ _ h => h) (Or.inl ⟨by rfl, ?hy88x5⟩) (by assumption) ?rest88x5
          case hy88x5 => intro wq hSw; (try dsimp only at hSw); go_simp; (try with_reducible rfl)
          (try simp only [Act.put, List.setIfInBounds_toArray, List.set_cons_zero, List.set_cons_succ])
          refine wpLast_take (i := 6) (oi := ⟨some 94, _, _, _, _, _⟩) (v := ?vv88x6) rfl (by kernel_rfl) (by kernel_rfl) (by kernel_rfl) (by kernel_rfl) (by decide) (fun _ _ _ h => h) (Or.inl ⟨by rfl, ?hy88x6⟩) (by assumption) ?rest88x6
          case hy88x6 => intro wq hSw; (try dsimp only at hSw); go_simp; (try with_reducible rfl)
          (try simp only [Act.put, List.setIfInBounds_toArray, List.set_cons_zero, List.set_cons_succ])
          refine wpLast_take (i := 7) (oi := ⟨some 95, _, _, _, _, _⟩) (v := ?vv88x7) rfl (by kernel_rfl) (by kernel_rfl) (by kernel_rfl) (by kernel_rfl) (by decide) (fun _ _ _ h => h) (Or.inl ⟨by rfl, ?hy88x7⟩) (by assumption) ?rest88x7
          case hy88x7 => intro wq hSw; (try dsimp only at hSw); go_simp; (try with_reducible rfl)
          (try simp only [Act.put, List.setIfInBounds_toArray, List.set_cons_zero, List.set_cons_succ])
          refine wpLast_take (i := 8) (oi := ⟨some 96, _, _, _, _, _⟩) (v := ?vv88x8) rfl (by kernel_rfl) (by kernel_rfl) (by kernel_rfl) (by kernel_rfl) (by decide) (fun _ _ _ h => h) (Or.inl ⟨by rfl, ?hy88x8⟩) (by assumption) ?rest88x8
          case hy88x8 => intro wq hSw; (try dsimp only at hSw); go_simp; (try with_reducible rfl)
          (try simp only [Act.put, List.setIfInBounds_toArray, List.set_cons_zero, List.set_cons_succ])
          refine wpLast_one (i := 9) (o := ⟨some 97, _, _, _, _, _⟩) (by kernel_rfl) rfl (fun K hK => ?_)
          go_simp
          refine (X2.out.value).mono ?_
          rintro e wv ⟨rfl, rfl⟩
          rw [HGV.out]
          refine hK.out _ _ (fun _ => by assumption) ?_
          clear hK K
          (try simp only [Act.put, List.setIfInBounds_toArray, List.set_cons_zero, List.set_cons_succ])
          refine wpLast_one (i := 10) (o := ⟨some 98, _, _, _, _, _⟩) (by kernel_rfl) rfl (fun K hK => ?_)
          go_simp
          have D4 := hide (D2.out.only0 ((Only.refl S0 w2).alloc (.cells #[.int .u64 x.2.v] 28)))
          refine hK.out _ _ (fun _ => ⟨D4.out.cc5, D4.out.oon (upd_same _ _ _)⟩) ?_
          clear hK K
          (try simp only [Act.put, List.setIfInBounds_toArray, List.set_cons_zero, List.set_cons_succ])
          refine wpLast_one (i := 11) (o := ⟨some 99, _, _, _, _, _⟩) (by kernel_rfl) rfl (fun K hK => ?_)
          refine step_append_lies _ (rfl) _ _ _ (rfl) B 28 i0 _ 1 8 Try.underlying35 hi0 hz0 hz1 hz2 rfl (by omega) (sv 1) (u64s (XS 1)).length (u64s (XS 1)) (rfl) (D4.out.sl 1 (by omega)) ⟨w2.heap.size, 0, none⟩ 1 1 [.int .u64 (x.2.v)] (rfl) (rfl) (World.news_of_block (cs := #[.int .u64 (x.2.v)]) (t := 28) (fr := (0, 0)) (heap_alloc_new _ _)) (by simp [Value.oneCell']) (by omega) (by have := HLEN.out; unfold maxLen; omega) (by have := HLEN.out; omega) (by simp; omega) (w2.heap.size + 1) (by simp) ?_
          intro g6 c6 w3 hown hgrow hat hlt
          have hv' : Sl w3 B 28 (.slice (some ⟨g6, 0, none⟩) ((u64s (XS 1)).length + 1) c6) (u64s (XS 1 ++ [x.2.v])) := by
            rw [u64s_snoc]
            unfold Sl
            rw [List.length_append]
            exact hown
          have o6 : Only (fun k => (sv 1).ownBlock = some k) w2 w3 := ((Only.refl _ w2).alloc _).then (R := fun k => (sv 1).ownBlock = some k) (Only.of_grown hgrow fun k hk _ => hk) fun i _ hi => hi
          have hnew : (Value.slice (some ⟨g6, 0, none⟩) ((u64s (XS 1)).length + 1) c6).ownBlock = (sv 1).ownBlock ∨ ∃ k, (Value.slice (some ⟨g6, 0, none⟩) ((u64s (XS 1)).length + 1) c6).ownBlock = some k ∧ w2.heap.size ≤ k := by
            rcases hat with e | e
            · exact .inl (by rw [e]; rfl)
            · exact .inr ⟨g6, rfl, by omega⟩
          obtain ⟨g1, g2, g3, g4, -⟩ := D2.out.grow (p := 1) (by omega) o6
          have KK3 : (fun w' : World => w'.cell? ⟨gb, 5, none⟩ = some (sv 1) ∧ w'.cell? ⟨gb, 1, none⟩ = some (.pointer (some ⟨bo2 0, 0, none⟩))) w3 := by
            refine ⟨g2.cellv (i := 5) rfl, ?_⟩
            have := g2.cellv (show (gangC bd tb (upd act 0 true) bo2 false nx2 sv lost most)[1]? = some (optr (upd act 0 true) bo2 0) from rfl)
            rw [optr_on _ (upd_same _ _ _)] at this
            exact this
          have kk3 : (fun w' : World => w'.cell? ⟨gb, 5, none⟩ = some (sv 1) ∧ w'.cell? ⟨gb, 1, none⟩ = some (.pointer (some ⟨bo2 0, 0, none⟩))) w3 := KK3
          have q1 : w3.cell? ⟨gb, 5, none⟩ = some (sv 1) := g2.cellv (i := 5) rfl
          have q2 := g2.frozen 5
          have d3 := D2.out.app (p := 1) (by omega) o6 hv' hnew
          rw [show ixS 1 = 5 from rfl] at d3
          have D3 := hide d3
          have hin := D2.out.sl 1 (by omega)
          have P3 := hide (P2.out.trans (o6.mono (R := SB B) fun k hk => (hin.block hk).1))
          clear hv' o6 hnew g1 g2 g3 g4 hin hown hgrow hat hlt d3 KK3
          refine hK.out _ _ (fun _ => kk3) ?_
          clear hK K
          (try simp only [Act.put, List.setIfInBounds_toArray, List.set_cons_zero, List.set_cons_succ])
          refine wpLast_one (i := 12) (o := ⟨some 100, _, _, _, _, _⟩) (by kernel_rfl) rfl (fun K hK => ?_)
          go_simp
          refine hK.out _ _ (fun _ => kk3) ?_
          clear hK K
          (try simp only [Act.put, List.setIfInBounds_toArray, List.set_cons_zero, List.set_cons_succ])
          refine wpLast_one (i := 13) (o := ⟨some 101, _, _, _, _, _⟩) (by kernel_rfl) rfl (fun K hK => ?_)
          go_simp
          refine hK.out _ _ (fun _ => kk3) ?_
          clear hK K
          (try simp only [Act.put, List.setIfInBounds_toArray, List.set_cons_zero, List.set_cons_succ])
          refine wpLast_one (i := 14) (o := ⟨none, _, _, _, _, _⟩) (by kernel_rfl) rfl (fun K hK => ?_)
          go_simp
          refine hK.out _ _ (fun h => absurd rfl h) ?_
          clear hK K
          (try simp only [Act.put, List.setIfInBounds_toArray, List.set_cons_zero, List.set_cons_succ])

          have P4 := hide (P3.out.set1 (g := gb) 5 H.out.b1 (.slice (some ⟨g6, 0, none⟩) ((u64s (XS 1)).length + 1) c6))
          refine wpLast_done (by kernel_rfl) ?_ _
          go_wp2_with fail
          go_meet
          refine ⟨upd sv 1 (.slice (some ⟨g6, 0, none⟩) ((u64s (XS 1)).length + 1) c6), ?_, P4.out⟩
          rw [XSo_pop HONE.out]
          exact D3.out
      · have hob : (x.2.out == 1) = false := by simp [hone]
        have HONE := hide hone
        have hpb : (x.2.out == 1 && pu2) = false := by rw [hob]; rfl
        rw [hpb]
        clear hone hpb
        go_wp2_with fail
        refine (HX1.out.outcome).mono ?_
        rintro e w1' ⟨rfl, rfl⟩
        go_wp2_with fail
        go_meet
        refine ⟨sv, ?_, P1.out⟩
        rw [XSo_no HONE.out]
        exact D1.out
    case rest =>
      clear k1 k2
      obtain ⟨sv2, hd, hp⟩ := hcut
      have kc1 := hd.oon (upd_same _ _ _)
      have kf1 := hd.g.frozen 1
      have D1' := hide hd.endO
      have P1' := hide (hp.set1 (g := gb) 1 H.out.b1 (.pointer none))
      clear hd hp
      go_wp2_with fail
      clear kc1 kf1
      generalize wc.setCell ⟨gb, 1, none⟩ (.pointer none) = w2 at D1' P1' ⊢
      have hx0 : (XSo x.2 pu2 nx2 XS 0).length ≤ 100001 := by
        have := HK.out 0 (by omega)
        unfold XSo inG
        rw [upd_ne _ _ (by decide), upd_same]
        split <;> (try rw [List.length_append]) <;> (try simp) <;> omega
      have hx1 : (XSo x.2 pu2 nx2 XS 1).length ≤ 100001 := by
        have := HK.out 1 (by omega)
        unfold XSo popG
        rw [upd_same]
        split <;> (try rw [List.length_append]) <;> (try simp) <;> omega
      have hx2 : (XSo x.2 pu2 nx2 XS 2).length ≤ 100001 := by
        have := HK.out 2 (by omega)
        unfold XSo
        rw [upd_ne _ _ (by decide), upd_ne _ _ (by decide)]
        omega
      obtain ⟨l0, hl0⟩ : ∃ l0, (XSo x.2 pu2 nx2 XS 0).length = l0 := ⟨_, rfl⟩
      obtain ⟨l1, hl1⟩ : ∃ l1, (XSo x.2 pu2 nx2 XS 1).length = l1 := ⟨_, rfl⟩
      obtain ⟨l2, hl2⟩ : ∃ l2, (XSo x.2 pu2 nx2 XS 2).length = l2 := ⟨_, rfl⟩
      have D2 := hide D1'.out.drew
      have P2 := hide P1'.out.drew
      obtain ⟨a0, c0, e0⟩ := sl_form (D2.out.sl 0 (by omega))
      obtain ⟨a1, c1, e1⟩ := sl_form (D2.out.sl 1 (by omega))
      obtain ⟨a2, c2, e2⟩ := sl_form (D2.out.sl 2 (by omega))
      have z4 := D2.out.cc4
      have z5 := D2.out.cc5
      have z7 := D2.out.cc7
      have z9 := D2.out.cc9
      rw [e0] at z4
      rw [e1] at z5
      rw [e2] at z7
      rw [hl0] at hx0 z4
      rw [hl1] at hx1 z5
      rw [hl2] at hx2 z7
      have HLS := hide (show lens (XSo x.2 pu2 nx2 XS) = (l0 : Int) - (l1 : Int) - (l2 : Int) from by unfold lens; rw [hl0, hl1, hl2])
      clear e0 e1 e2 hl0 hl1 hl2
      have u1 : IntKind.i64.wrap ((l0 : Int) - (l1 : Int)) = (l0 : Int) - (l1 : Int) := IntWalk.i64_in _ (by omega)
      have u2 : IntKind.i64.wrap ((l0 : Int) - (l1 : Int) - (l2 : Int)) = (l0 : Int) - (l1 : Int) - (l2 : Int) := IntWalk.i64_in _ (by omega)
      have f9 := D2.out.g.frozen 9
      refine wp_region_last 25 (fun w' : World => w'.cell? ⟨gb, 9, none⟩ = some (.int .i64 most) ∧ w'.cell? ⟨gb, 4, none⟩ = some (.slice a0 l0 c0) ∧ w'.cell? ⟨gb, 5, none⟩ = some (.slice a1 l1 c1) ∧ w'.cell? ⟨gb, 7, none⟩ = some (.slice a2 l2 c2)) (by kernel_rfl) ?_
      generalize w2.drew = w3 at D2 P2 z4 z5 z7 z9 f9 ⊢
      have kk : (fun w' : World => w'.cell? ⟨gb, 9, none⟩ = some (.int .i64 most) ∧ w'.cell? ⟨gb, 4, none⟩ = some (.slice a0 l0 c0) ∧ w'.cell? ⟨gb, 5, none⟩ = some (.slice a1 l1 c1) ∧ w'.cell? ⟨gb, 7, none⟩ = some (.slice a2 l2 c2)) w3 := ⟨z9, z4, z5, z7⟩
      refine wpLast_take (i := 0) (oi := ⟨some 105, _, _, _, _, _⟩) (v := ?vv105x0) rfl (by kernel_rfl) (by kernel_rfl) (by kernel_rfl) (by kernel_rfl) (by decide) (fun _ _ _ h => h) (Or.inl ⟨by rfl, ?hy105x0⟩) (by assumption) ?rest105x0
      case hy105x0 => intro wq hSw; (try dsimp only at hSw); go_simp; (try with_reducible rfl)
      (try simp only [Act.put, List.setIfInBounds_toArray, List.set_cons_zero, List.set_cons_succ])
      refine wpLast_take (i := 1) (oi := ⟨some 106, _, _, _, _, _⟩) (v := ?vv105x1) rfl (by kernel_rfl) (by kernel_rfl) (by kernel_rfl) (by kernel_rfl) (by decide) (fun _ _ _ h => h) (Or.inl ⟨by rfl, ?hy105x1⟩) (by assumption) ?rest105x1
      case hy105x1 => intro wq hSw; (try dsimp only at hSw); go_simp; (try with_reducible rfl)
      (try simp only [Act.put, List.setIfInBounds_toArray, List.set_cons_zero, List.set_cons_succ])
      refine wpLast_take (i := 2) (oi := ⟨some 107, _, _, _, _, _⟩) (v := ?vv105x2) rfl (by kernel_rfl) (by kernel_rfl) (by kernel_rfl) (by kernel_rfl) (by decide) (fun _ _ _ h => h) (Or.inl ⟨by rfl, ?hy105x2⟩) (by assumption) ?rest105x2
      case hy105x2 => intro wq hSw; (try dsimp only at hSw); go_simp; (try with_reducible rfl)
      (try simp only [Act.put, List.setIfInBounds_toArray, List.set_cons_zero, List.set_cons_succ])
      refine wpLast_take (i := 3) (oi := ⟨some 108, _, _, _, _, _⟩) (v := ?vv105x3) rfl (by kernel_rfl) (by kernel_rfl) (by kernel_rfl) (by kernel_rfl) (by decide) (fun _ _ _ h => h) (Or.inl ⟨by rfl, ?hy105x3⟩) (by assumption) ?rest105x3
      case hy105x3 => intro wq hSw; (try dsimp only at hSw); go_simp; (try with_reducible rfl)
      (try simp only [Act.put, List.setIfInBounds_toArray, List.set_cons_zero, List.set_cons_succ])
      refine wpLast_take (i := 4) (oi := ⟨some 109, _, _, _, _, _⟩) (v := ?vv105x4) rfl (by kernel_rfl) (by kernel_rfl) (by kernel_rfl) (by kernel_rfl) (by decide) (fun _ _ _ h => h) (Or.inl ⟨by rfl, ?hy105x4⟩) (by assumption) ?rest105x4
      case hy105x4 => intro wq hSw; (try dsimp only at hSw); go_simp; (try with_reducible rfl)
      (try simp only [Act.put, List.setIfInBounds_toArray, List.set_cons_zero, List.set_cons_succ])
      refine wpLast_take (i := 5) (oi := ⟨some 110, _, _, _, _, _⟩) (v := ?vv105x5) rfl (by kernel_rfl) (by kernel_rfl) (by kernel_rfl) (by kernel_rfl) (by decide) (fun _ _ _ h => h) (Or.inl ⟨by rfl, ?hy105x5⟩) (by assumption) ?rest105x5
      case hy105x5 => intro wq hSw; (try dsimp only at hSw); go_simp; (try with_reducible rfl)
      (try simp only [Act.put, List.setIfInBounds_toArray, List.set_cons_zero, List.set_cons_succ])
      refine wpLast_take (i := 6) (oi := ⟨some 111, _, _, _, _, _⟩) (v := ?vv105x6) rfl (by kernel_rfl) (by kernel_rfl) (by kernel_rfl) (by kernel_rfl) (by decide) (fun _ _ _ h => h) (Or.inl ⟨by rfl, ?hy105x6⟩) (by assumption) ?rest105x6
      case hy105x6 => intro wq hSw; (try dsimp only at hSw); go_simp; (try with_reducible rfl)
      (try simp only [Act.put, List.setIfInBounds_toArray, List.set_cons_zero, List.set_cons_succ])
      refine wpLast_take (i := 7) (oi := ⟨some 112, _, _, _, _, _⟩) (v := ?vv105x7) rfl (by kernel_rfl) (by kernel_rfl) (by kernel_rfl) (by kernel_rfl) (by decide) (fun _ _ _ h => h) (Or.inl ⟨by rfl, ?hy105x7⟩) (by assumption) ?rest105x7
      case hy105x7 => intro wq hSw; (try dsimp only at hSw); go_simp; (try with_reducible rfl)
      (try simp only [Act.put, List.setIfInBounds_toArray, List.set_cons_zero, List.set_cons_succ])
      refine wpLast_take (i := 8) (oi := ⟨some 113, _, _, _, _, _⟩) (v := ?vv105x8) rfl (by kernel_rfl) (by kernel_rfl) (by kernel_rfl) (by kernel_rfl) (by decide) (fun _ _ _ h => h) (Or.inl ⟨by rfl, ?hy105x8⟩) (by assumption) ?rest105x8
      case hy105x8 => intro wq hSw; (try dsimp only at hSw); go_simp; (try with_reducible rfl)
      (try simp only [Act.put, List.setIfInBounds_toArray, List.set_cons_zero, List.set_cons_succ])
      refine wpLast_take (i := 9) (oi := ⟨some 114, _, _, _, _, _⟩) (v := ?vv105x9) rfl (by kernel_rfl) (by kernel_rfl) (by kernel_rfl) (by kernel_rfl) (by decide) (fun _ _ _ h => h) (Or.inl ⟨by rfl, ?hy105x9⟩) (by assumption) ?rest105x9
      case hy105x9 => intro wq hSw; (try dsimp only at hSw); go_simp; (try with_reducible rfl)
      (try simp only [Act.put, List.setIfInBounds_toArray, List.set_cons_zero, List.set_cons_succ])
      refine wpLast_take (i := 10) (oi := ⟨some 115, _, _, _, _, _⟩) (v := ?vv105x10) rfl (by kernel_rfl) (by kernel_rfl) (by kernel_rfl) (by kernel_rfl) (by decide) (fun _ _ _ h => h) (Or.inl ⟨by rfl, ?hy105x10⟩) (by assumption) ?rest105x10
      case hy105x10 => intro wq hSw; (try dsimp only at hSw); go_simp; (try with_reducible rfl)
      (try simp only [Act.put, List.setIfInBounds_toArray, List.set_cons_zero, List.set_cons_succ])
      refine wpLast_take (i := 11) (oi := ⟨some 116, _, _, _, _, _⟩) (v := ?vv105x11) rfl (by kernel_rfl) (by kernel_rfl) (by kernel_rfl) (by kernel_rfl) (by decide) (fun _ _ _ h => h) (Or.inl ⟨by rfl, ?hy105x11⟩) (by assumption) ?rest105x11
      case hy105x11 => intro wq hSw; (try dsimp only at hSw); go_simp; (try with_reducible rfl)
      (try simp only [Act.put, List.setIfInBounds_toArray, List.set_cons_zero, List.set_cons_succ])
      refine wpLast_take (i := 12) (oi := ⟨some 117, _, _, _, _, _⟩) (v := ?vv105x12) rfl (by kernel_rfl) (by kernel_rfl) (by kernel_rfl) (by kernel_rfl) (by decide) (fun _ _ _ h => h) (Or.inl ⟨by rfl, ?hy105x12⟩) (by assumption) ?rest105x12
      case hy105x12 => intro wq hSw; (try dsimp only at hSw); go_simp; (try with_reducible rfl)
      (try simp only [Act.put, List.setIfInBounds_toArray, List.set_cons_zero, List.set_cons_succ])
      refine wpLast_take (i := 13) (oi := ⟨some 118, _, _, _, _, _⟩) (v := ?vv105x13) rfl (by kernel_rfl) (by kernel_rfl) (by kernel_rfl) (by kernel_rfl) (by decide) (fun _ _ _ h => h) (Or.inl ⟨by rfl, ?hy105x13⟩) (by assumption) ?rest105x13
      case hy105x13 => intro wq hSw; (try dsimp only at hSw); go_simp; (try with_reducible rfl)
      (try simp only [Act.put, List.setIfInBounds_toArray, List.set_cons_zero, List.set_cons_succ])
      refine wpLast_take (i := 14) (oi := ⟨some 119, _, _, _, _, _⟩) (v := ?vv105x14) rfl (by kernel_rfl) (by kernel_rfl) (by kernel_rfl) (by kernel_rfl) (by decide) (fun _ _ _ h => h) (Or.inl ⟨by rfl, ?hy105x14⟩) (by assumption) ?rest105x14
      case hy105x14 => intro wq hSw; (try dsimp only at hSw); go_simp; (try with_reducible rfl)
      (try simp only [Act.put, List.setIfInBounds_toArray, List.set_cons_zero, List.set_cons_succ])
      refine wpLast_take (i := 15) (oi := ⟨some 120, _, _, _, _, _⟩) (v := ?vv105x15) rfl (by kernel_rfl) (by kernel_rfl) (by kernel_rfl) (by kernel_rfl) (by decide) (fun _ _ _ h => h) (Or.inl ⟨by rfl, ?hy105x15⟩) (by assumption) ?rest105x15
      case hy105x15 => intro wq hSw; (try dsimp only at hSw); go_simp; (try with_reducible rfl)
      (try simp only [Act.put, List.setIfInBounds_toArray, List.set_cons_zero, List.set_cons_succ])
      refine wpLast_take (i := 16) (oi := ⟨some 121, _, _, _, _, _⟩) (v := ?vv105x16) rfl (by kernel_rfl) (by kernel_rfl) (by kernel_rfl) (by kernel_rfl) (by decide) (fun _ _ _ h => h) (Or.inl ⟨by rfl, ?hy105x16⟩) (by assumption) ?rest105x16
      case hy105x16 => intro wq hSw; (try dsimp only at hSw); go_simp; (try with_reducible rfl)
      (try simp only [Act.put, List.setIfInBounds_toArray, List.set_cons_zero, List.set_cons_succ])
      refine wpLast_take (i := 17) (oi := ⟨some 122, _, _, _, _, _⟩) (v := ?vv105x17) rfl (by kernel_rfl) (by kernel_rfl) (by kernel_rfl) (by kernel_rfl) (by decide) (fun _ _ _ h => h) (Or.inl ⟨by rfl, ?hy105x17⟩) (by assumption) ?rest105x17
      case hy105x17 => intro wq hSw; (try dsimp only at hSw); go_simp; (try with_reducible rfl)
      (try simp only [Act.put, List.setIfInBounds_toArray, List.set_cons_zero, List.set_cons_succ])
      refine wpLast_take (i := 18) (oi := ⟨some 123, _, _, _, _, _⟩) (v := ?vv105x18) rfl (by kernel_rfl) (by kernel_rfl) (by kernel_rfl) (by kernel_rfl) (by decide) (fun _ _ _ h => h) (Or.inl ⟨by rfl, ?hy105x18⟩) (by assumption) ?rest105x18
      case hy105x18 => intro wq hSw; (try dsimp only at hSw); go_simp; (try with_reducible rfl)
      (try simp only [Act.put, List.setIfInBounds_toArray, List.set_cons_zero, List.set_cons_succ])
      refine wpLast_take (i := 19) (oi := ⟨some 124, _, _, _, _, _⟩) (v := ?vv105x19) rfl (by kernel_rfl) (by kernel_rfl) (by kernel_rfl) (by kernel_rfl) (by decide) (fun _ _ _ h => h) (Or.inl ⟨by rfl, ?hy105x19⟩) (by assumption) ?rest105x19
      case hy105x19 => intro wq hSw; (try dsimp only at hSw); go_simp; (try with_reducible rfl)
      (try simp only [Act.put, List.setIfInBounds_toArray, List.set_cons_zero, List.set_cons_succ])
      refine wpLast_take (i := 20) (oi := ⟨some 125, _, _, _, _, _⟩) (v := ?vv105x20) rfl (by kernel_rfl) (by kernel_rfl) (by kernel_rfl) (by kernel_rfl) (by decide) (fun _ _ _ h => h) (Or.inl ⟨by rfl, ?hy105x20⟩) (by assumption) ?rest105x20
      case hy105x20 => intro wq hSw; (try dsimp only at hSw); go_simp; (try with_reducible rfl)
      (try simp only [Act.put, List.setIfInBounds_toArray, List.set_cons_zero, List.set_cons_succ])
      refine wpLast_take (i := 21) (oi := ⟨some 126, _, _, _, _, _⟩) (v := ?vv105x21) rfl (by kernel_rfl) (by kernel_rfl) (by kernel_rfl) (by kernel_rfl) (by decide) (fun _ _ _ h => h) (Or.inl ⟨by rfl, ?hy105x21⟩) (by assumption) ?rest105x21
      case hy105x21 => intro wq hSw; (try dsimp only at hSw); go_simp; (try with_reducible rfl)
      (try simp only [Act.put, List.setIfInBounds_toArray, List.set_cons_zero, List.set_cons_succ])
      refine wpLast_one (i := 22) (o := ⟨some 127, _, _, _, _, _⟩) (by kernel_rfl) rfl (fun K hK => ?_)
      go_simp
      refine hK.out _ _ (fun _ => by assumption) ?_
      clear hK K
      (try simp only [Act.put, List.setIfInBounds_toArray, List.set_cons_zero, List.set_cons_succ])
      refine wpLast_one (i := 23) (o := ⟨some 128, _, _, _, _, _⟩) (by kernel_rfl) rfl (fun K hK => ?_)
      go_simp
      refine hK.out _ _ (fun _ => by assumption) ?_
      clear hK K
      (try simp only [Act.put, List.setIfInBounds_toArray, List.set_cons_zero, List.set_cons_succ])
      refine wpLast_one (i := 24) (o := ⟨some 129, _, _, _, _, _⟩) (by kernel_rfl) rfl (fun K hK => ?_)
      go_simp
      refine hK.out _ _ (fun _ => by assumption) ?_
      clear hK K
      (try simp only [Act.put, List.setIfInBounds_toArray, List.set_cons_zero, List.set_cons_succ])
      refine wpLast_one (i := 25) (o := ⟨none, _, _, _, _, _⟩) (by kernel_rfl) rfl (fun K hK => ?_)
      go_simp
      refine hK.out _ _ (fun h => absurd rfl h) ?_
      clear hK K
      (try simp only [Act.put, List.setIfInBounds_toArray, List.set_cons_zero, List.set_cons_succ])

      refine wpLast_done (by kernel_rfl) ?_ _
      go_wp2_with fail
      all_goals go_end0
      all_goals rw [HXX.out]
      · refine ⟨rfl, bo2, sv2, (l0 : Int) - (l1 : Int) - (l2 : Int), ?_, P2.out.set1 (g := gb) 9 H.out.b1 (.int .i64 ((l0 : Int) - (l1 : Int) - (l2 : Int))), .inr ⟨HZ.out, HLS.out.symm⟩⟩
        have d2 := D2.out.setMost ((l0 : Int) - (l1 : Int) - (l2 : Int))
        rw [upd_upd] at d2
        rw [show decide (x.2.out = 0) = false from by simp [HZ.out]]
        exact d2
      · refine ⟨rfl, bo2, sv2, most, ?_, P2.out.set1 (g := gb) 9 H.out.b1 (.int .i64 most), .inl rfl⟩
        have d2 := D2.out.setMost most
        rw [upd_upd] at d2
        rw [show decide (x.2.out = 0) = false from by simp [HZ.out]]
        exact d2

set_option maxRecDepth 100000 in
set_option maxHeartbeats 8000000 in
theorem own_1 (h : GW w B gb tb bd bm bc n L tc act o bo pu nx sv XS lost most) (hok : DopOk (bOwn act o 1 nx 0)) (h0 : (bOwn act o 1 nx 0).out = 0) (hpu : (bOwn act o 1 nx 0).k ≤ 4 ↔ bPu act pu 1 = true)
    (hn : nx ≤ 100000) (hf : Few (tc + 10)) (hk : ∀ i, i < 3 → (XS i).length ≤ 100000) :
    Calls Try.prog 38 #[.pointer (some ⟨gb, 0, none⟩), .int .i64 1] w fun e w' => e = .returned (.tuple #[]) ∧ Owned w w' B gb tb bd bm bc n (tc + 1) act (bOwn act o 1 nx) (dstep 0 n L (bOwn act o 1 nx 0)) (bPu act pu 1) (bNx act 1 nx) XS lost most := by
  have H := hide h
  have HOK := hide (And.intro hok (And.intro h0 hpu))
  have HK := hide hk
  clear hok h0 hk hpu
  have hact : act 0 = true ∨ act 0 = false := by cases act 0 <;> simp
  have ko : ∃ v, w.cell? ⟨gb, 1, none⟩ = some (.pointer v) ∧ v = if act 0 then some ⟨bo 0, 0, none⟩ else none := by
    rcases hact with e | e
    · exact ⟨_, h.oon e, by rw [e]; rfl⟩
    · exact ⟨_, h.ooff e, by rw [e]; rfl⟩
  obtain ⟨v, ko, hv⟩ := ko
  have HV := hide hv
  have HACT := hide hact
  clear hv hact h
  obtain ⟨o2, ho2⟩ : ∃ o2, bOwn act o 1 nx = o2 := ⟨_, rfl⟩
  obtain ⟨nx2, hnx2⟩ : ∃ nx2, bNx act 1 nx = nx2 := ⟨_, rfl⟩
  obtain ⟨pu2, hpu2⟩ : ∃ pu2, bPu act pu 1 = pu2 := ⟨_, rfl⟩
  have hnb : nx2 ≤ 100001 := by rw [← hnx2]; unfold bNx; split <;> (try split) <;> omega
  rw [ho2, hpu2] at HOK
  rw [ho2, hnx2, hpu2]
  have HO2 := hide ho2
  have HNX2 := hide hnx2
  have HPU2 := hide hpu2
  clear ho2 hnx2 hpu2
  go_enter Try.func38, Try.ntmps38
  go_upto_if 14 with fail
  go_cut [] (fun wx => ∃ bo', GW wx B gb tb bd bm bc n L tc (upd act 0 true) o2 bo' pu2 nx2 sv XS lost most ∧ Only (SB B) w wx)
  case first =>
    rcases HACT.out with e | e
    · have hv' := HV.out
      rw [e] at hv'
      have HE := hide e
      rw [hv']
      clear ko
      clear hv' e
      go_wp2_with fail
      go_meet
      refine ⟨bo, ?_, Only.refl _ _⟩
      have q1 := HO2.out
      have q2 := HNX2.out
      have q3 := HPU2.out
      unfold bOwn at q1
      unfold bNx at q2
      unfold bPu at q3
      rw [if_pos HE.out] at q1 q2 q3
      rw [← q1, ← q2, ← q3, show upd act 0 true = act from by rw [← HE.out]; exact upd_self _ _]
      exact H.out
    · have hv' := HV.out
      rw [e] at hv'
      have HE := hide e
      rw [hv']
      have kf2 := H.out.g.frozen 2
      have kc2 := H.out.cc2
      have kc0 := H.out.cc0
      clear hv' e
      go_wp2_with fail
      have C0 := hide (H.out.setPu false)
      have O0 := hide (((Only.refl (SB B) w).set1 (g := gb) 2 H.out.b1 (.bool false)))
      clear kf2 kc2 kc0 ko
      generalize w.setCell ⟨gb, 2, none⟩ (.bool false) = w1 at C0 O0 ⊢
      refine (DPop_all C0.out.env).mono ?_
      rintro e w2 ⟨rb, rfl, g1, e1, o1, b1⟩
      have C1 := hide (C0.out.beginO o1 g1 b1)
      have kc1 := (C0.out.only0 o1).ooff HE.out
      have kf1 := (C0.out.only0 o1).g.frozen 1
      have kc2 := (C0.out.only0 o1).cc2
      have O1 := hide (((O0.out.trans (SB.s0 o1)).set1 (g := gb) 1 H.out.b1 (.pointer (some ⟨rb, 0, none⟩))))
      have kc3 := (C0.out.only0 o1).cc3
      have kf3 := (C0.out.only0 o1).g.frozen 3
      clear o1 g1 e1 b1
      go_wp2_with fail
      go_meet
      refine ⟨upd bo 0 rb, ?_, O1.out⟩
      have q1 := HO2.out
      have q2 := HNX2.out
      have q3 := HPU2.out
      unfold bOwn at q1
      unfold bNx at q2
      unfold bPu at q3
      rw [if_neg (by rw [HE.out]; decide), if_neg (by decide)] at q1 q2
      rw [if_neg (by rw [HE.out]; decide)] at q3
      rw [← q1, ← q2, ← q3]
      exact C1.out

  case rest =>
    obtain ⟨bo2, hc, hoo⟩ := hcut
    have HC := hide hc
    have OO := hide hoo
    have k1 := hc.oon (upd_same _ _ _)
    clear hc hoo ko
    go_wp2_with fail
    refine (DStep_all HC.out.env HOK.out.1 (HC.out.fam.at_ 0 (by omega) (upd_same _ _ _)) (hf.le_ (by omega))).mono ?_
    rintro e w1 ⟨rfl, h1, h2, o1⟩
    have hgt : dtick (o2 0) = 1 := by simp [dtick, HOK.out.2.1]
    rw [hgt] at h2
    obtain ⟨x, hx⟩ : ∃ x, dstep 0 n L (o2 0) = x := ⟨_, rfl⟩
    rw [hx] at h1 h2 ⊢
    have D1 := hide (HC.out.step (p := 0) (by omega) (upd_same _ _ _) o1 h1 h2)
    have hb2 := HC.out.fam.ge 0 (by omega) (upd_same _ _ _)
    have P1 := hide (OO.out.trans (o1.mono (R := SB B) fun k hk => by have := HC.out.b6; have := HC.out.b7; unfold SB; rcases hk with e | e | e <;> omega))
    have HX1 := hide (show DopIs w1 (bo2 0) bd x.2 from h1)
    have HXX := hide hx
    clear h1 h2 o1 hgt hx k1
    by_cases hz : x.2.out = 0
    · have hzb : (x.2.out != 0) = false := by rw [hz]; rfl
      have HZ := hide hz
      clear hz
      go_wp2_with fail
      refine bodyPost_ret (results_none rfl _ _ _) rfl ?_
      rw [HXX.out]
      refine ⟨rfl, bo2, sv, most, ?_, P1.out, .inl rfl⟩
      rw [XSo_no (by rw [HZ.out]; decide), show decide (x.2.out = 0) = true from by simp [HZ.out]]
      exact D1.out
    have hzb : (x.2.out != 0) = true := by simp [hz]
    have HZ := hide hz
    clear hz
    have k1 := D1.out.oon (upd_same _ _ _)
    have k2 := D1.out.cc2
    go_upto_region 9 with fail
    go_cut [68] (fun v wx => v = .bool (x.2.out == 1 && pu2) ∧ w1 = wx)
    case first =>
      go_wp2_with fail
      refine (HX1.out.outcome).mono ?_
      rintro e w1' ⟨rfl, rfl⟩
      by_cases hone : x.2.out = 1
      · have hob : (x.2.out == 1) = true := by rw [hone]; rfl
        clear hone
        go_wp2_with fail
        go_meet
        exact ⟨by rw [hob]; rfl, rfl⟩
      · have hob : (x.2.out == 1) = false := by simp [hone]
        clear hone
        go_wp2_with fail
        go_meet
        exact ⟨by rw [hob]; rfl, rfl⟩
    case rest =>
    obtain ⟨rfl, rfl⟩ := hcut
    go_upto_if 68 with fail
    go_cut [] (fun wx => ∃ sv', GW wx B gb tb bd bm bc n x.1 (tc + 1) (upd act 0 true) (upd o2 0 x.2) bo2 pu2 nx2 sv' (XSo x.2 pu2 nx2 XS) lost most ∧ Only (SB B) w wx)
    case first =>
      by_cases hone : x.2.out = 1
      · have hob : (x.2.out == 1) = true := by rw [hone]; rfl
        have HONE := hide hone
        clear hone
        cases pu2 with
        | true =>
          have hpb : (x.2.out == 1 && true) = true := by rw [hob]; rfl
          rw [hpb]
          clear hpb
          go_wp2_with fail
          have D2 := hide D1.out.drew
          have P2 := hide P1.out.drew
          have hlen : (u64s (XS 0)).length ≤ 100000 := by rw [u64s_len]; exact HK.out 0 (by omega)
          have HLEN := hide hlen
          obtain ⟨i0, hi0, hz0, hz1, hz2⟩ := info_parts info_u64
          clear k1 k2 hlen
          refine wp_region_last 13 (fun w' : World => w'.cell? ⟨gb, 4, none⟩ = some (sv 0) ∧ w'.cell? ⟨gb, 3, none⟩ = some (.int .u64 (nx2 : Int))) (by kernel_rfl) ?_
          have hb0 : B ≤ w1.drew.heap.size := Nat.le_trans D2.out.b1 (Nat.le_of_lt D2.out.g.lt)
          generalize w1.drew = w2 at D2 P2 hb0 ⊢
          have kk : (fun w' : World => w'.cell? ⟨gb, 4, none⟩ = some (sv 0) ∧ w'.cell? ⟨gb, 3, none⟩ = some (.int .u64 (nx2 : Int))) w2 := ⟨D2.out.cc4, D2.out.cc3⟩
          refine wpLast_take (i := 0) (oi := ⟨some 69, _, _, _, _, _⟩) (v := ?vv69x0) rfl (by kernel_rfl) (by kernel_rfl) (by kernel_rfl) (by kernel_rfl) (by decide) (fun _ _ _ h => h) (Or.inl ⟨by rfl, ?hy69x0⟩) (by assumption) ?rest69x0
          case hy69x0 => intro wq hSw; (try dsimp only at hSw); go_simp; (try with_reducible rfl)
          (try simp only [Act.put, List.setIfInBounds_toArray, List.set_cons_zero, List.set_cons_succ])
          refine wpLast_take (i := 1) (oi := ⟨some 70, _, _, _, _, _⟩) (v := ?vv69x1) rfl (by kernel_rfl) (by kernel_rfl) (by kernel_rfl) (by kernel_rfl) (by decide) (fun _ _ _ h => h) (Or.inl ⟨by rfl, ?hy69x1⟩) (by assumption) ?rest69x1
          case hy69x1 => intro wq hSw; (try dsimp only at hSw); go_simp; (try with_reducible rfl)
          (try simp only [Act.put, List.setIfInBounds_toArray, List.set_cons_zero, List.set_cons_succ])
          refine wpLast_take (i := 2) (oi := ⟨some 71, _, _, _, _, _⟩) (v := ?vv69x2) rfl (by kernel_rfl) (by kernel_rfl) (by kernel_rfl) (by kernel_rfl) (by decide) (fun _ _ _ h => h) (Or.inl ⟨by rfl, ?hy69x2⟩) (by assumption) ?rest69x2
          case hy69x2 => intro wq hSw; (try dsimp only at hSw); go_simp; (try with_reducible rfl)
          (try simp only [Act.put, List.setIfInBounds_toArray, List.set_cons_zero, List.set_cons_succ])
          refine wpLast_take (i := 3) (oi := ⟨some 72, _, _, _, _, _⟩) (v := ?vv69x3) rfl (by kernel_rfl) (by kernel_rfl) (by kernel_rfl) (by kernel_rfl) (by decide) (fun _ _ _ h => h) (Or.inl ⟨by rfl, ?hy69x3⟩) (by assumption) ?rest69x3
          case hy69x3 => intro wq hSw; (try dsimp only at hSw); go_simp; (try with_reducible rfl)
          (try simp only [Act.put, List.setIfInBounds_toArray, List.set_cons_zero, List.set_cons_succ])
          refine wpLast_take (i := 4) (oi := ⟨some 73, _, _, _, _, _⟩) (v := ?vv69x4) rfl (by kernel_rfl) (by kernel_rfl) (by kernel_rfl) (by kernel_rfl) (by decide) (fun _ _ _ h => h) (Or.inl ⟨by rfl, ?hy69x4⟩) (by assumption) ?rest69x4
          case hy69x4 => intro wq hSw; (try dsimp only at hSw); go_simp; (try with_reducible rfl)
          (try simp only [Act.put, List.setIfInBounds_toArray, List.set_cons_zero, List.set_cons_succ])
          refine wpLast_take (i := 5) (oi := ⟨some 74, _, _, _, _, _⟩) (v := ?vv69x5) rfl (by kernel_rfl) (by kernel_rfl) (by kernel_rfl) (by kernel_rfl) (by decide) (fun _ _ _ h => h) (Or.inl ⟨by rfl, ?hy69x5⟩) (by assumption) ?rest69x5
          case hy69x5 => intro wq hSw; (try dsimp only at hSw); go_simp; (try with_reducible rfl)
          (try simp only [Act.put, List.setIfInBounds_toArray, List.set_cons_zero, List.set_cons_succ])
          refine wpLast_take (i := 6) (oi := ⟨some 75, _, _, _, _, _⟩) (v := ?vv69x6) rfl (by kernel_rfl) (by kernel_rfl) (by kernel_rfl) (by kernel_rfl) (by decide) (fun _ _ _ h => h) (Or.inl ⟨by rfl, ?hy69x6⟩) (by assumption) ?rest69x6
          case hy69x6 => intro wq hSw; (try dsimp only at hSw); go_simp; (try with_reducible rfl)
          (try simp only [Act.put, List.setIfInBounds_toArray, List.set_cons_zero, List.set_cons_succ])
          refine wpLast_take (i := 7) (oi := ⟨some 76, _, _, _, _, _⟩) (v := ?vv69x7) rfl (by kernel_rfl) (by kernel_rfl) (by kernel_rfl) (by kernel_rfl) (by decide) (fun _ _ _ h => h) (Or.inl ⟨by rfl, ?hy69x7⟩) (by assumption) ?rest69x7
          case hy69x7 => intro wq hSw; (try dsimp only at hSw); go_simp; (try with_reducible rfl)
          (try simp only [Act.put, List.setIfInBounds_toArray, List.set_cons_zero, List.set_cons_succ])
          refine wpLast_take (i := 8) (oi := ⟨some 77, _, _, _, _, _⟩) (v := ?vv69x8) rfl (by kernel_rfl) (by kernel_rfl) (by kernel_rfl) (by kernel_rfl) (by decide) (fun _ _ _ h => h) (Or.inl ⟨by rfl, ?hy69x8⟩) (by assumption) ?rest69x8
          case hy69x8 => intro wq hSw; (try dsimp only at hSw); go_simp; (try with_reducible rfl)
          (try simp only [Act.put, List.setIfInBounds_toArray, List.set_cons_zero, List.set_cons_succ])
          refine wpLast_one (i := 9) (o := ⟨some 78, _, _, _, _, _⟩) (by kernel_rfl) rfl (fun K hK => ?_)
          go_simp
          have D4 := hide (D2.out.only0 ((Only.refl S0 w2).alloc (.cells #[.int .u64 (nx2 : Int)] 28)))
          refine hK.out _ _ (fun _ => ⟨D4.out.cc4, D4.out.cc3⟩) ?_
          clear hK K
          (try simp only [Act.put, List.setIfInBounds_toArray, List.set_cons_zero, List.set_cons_succ])
          refine wpLast_one (i := 10) (o := ⟨some 79, _, _, _, _, _⟩) (by kernel_rfl) rfl (fun K hK => ?_)
          refine step_append_lies _ (rfl) _ _ _ (rfl) B 28 i0 _ 1 8 Try.underlying35 hi0 hz0 hz1 hz2 rfl (by omega) (sv 0) (u64s (XS 0)).length (u64s (XS 0)) (rfl) (D4.out.sl 0 (by omega)) ⟨w2.heap.size, 0, none⟩ 1 1 [.int .u64 ((nx2 : Int))] (rfl) (rfl) (World.news_of_block (cs := #[.int .u64 ((nx2 : Int))]) (t := 28) (fr := (0, 0)) (heap_alloc_new _ _)) (by simp [Value.oneCell']) (by omega) (by have := HLEN.out; unfold maxLen; omega) (by have := HLEN.out; omega) (by simp; omega) (w2.heap.size + 1) (by simp) ?_
          intro g6 c6 w3 hown hgrow hat hlt
          have hv' : Sl w3 B 28 (.slice (some ⟨g6, 0, none⟩) ((u64s (XS 0)).length + 1) c6) (u64s (XS 0 ++ [(nx2 : Int)])) := by
            rw [u64s_snoc]
            unfold Sl
            rw [List.length_append]
            exact hown
          have o6 : Only (fun k => (sv 0).ownBlock = some k) w2 w3 := ((Only.refl _ w2).alloc _).then (R := fun k => (sv 0).ownBlock = some k) (Only.of_grown hgrow fun k hk _ => hk) fun i _ hi => hi
          have hnew : (Value.slice (some ⟨g6, 0, none⟩) ((u64s (XS 0)).length + 1) c6).ownBlock = (sv 0).ownBlock ∨ ∃ k, (Value.slice (some ⟨g6, 0, none⟩) ((u64s (XS 0)).length + 1) c6).ownBlock = some k ∧ w2.heap.size ≤ k := by
            rcases hat with e | e
            · exact .inl (by rw [e]; rfl)
            · exact .inr ⟨g6, rfl, by omega⟩
          obtain ⟨g1, g2, g3, g4, -⟩ := D2.out.grow (p := 0) (by omega) o6
          have KK3 : (fun w' : World => w'.cell? ⟨gb, 4, none⟩ = some (sv 0) ∧ w'.cell? ⟨gb, 3, none⟩ = some (.int .u64 (nx2 : Int))) w3 := ⟨g2.cellv (i := 4) rfl, g2.cellv (i := 3) rfl⟩
          have kk3 : (fun w' : World => w'.cell? ⟨gb, 4, none⟩ = some (sv 0) ∧ w'.cell? ⟨gb, 3, none⟩ = some (.int .u64 (nx2 : Int))) w3 := KK3
          have q1 : w3.cell? ⟨gb, 4, none⟩ = some (sv 0) := g2.cellv (i := 4) rfl
          have q2 := g2.frozen 4
          have d3 := D2.out.app (p := 0) (by omega) o6 hv' hnew
          rw [show ixS 0 = 4 from rfl] at d3
          have D3 := hide d3
          have hin := D2.out.sl 0 (by omega)
          have P3 := hide (P2.out.trans (o6.mono (R := SB B) fun k hk => (hin.block hk).1))
          clear hv' o6 hnew g1 g2 g3 g4 hin hown hgrow hat hlt d3 KK3
          refine hK.out _ _ (fun _ => kk3) ?_
          clear hK K
          (try simp only [Act.put, List.setIfInBounds_toArray, List.set_cons_zero, List.set_cons_succ])
          refine wpLast_one (i := 11) (o := ⟨some 80, _, _, _, _, _⟩) (by kernel_rfl) rfl (fun K hK => ?_)
          go_simp
          refine hK.out _ _ (fun _ => kk3) ?_
          clear hK K
          (try simp only [Act.put, List.setIfInBounds_toArray, List.set_cons_zero, List.set_cons_succ])
          refine wpLast_one (i := 12) (o := ⟨some 81, _, _, _, _, _⟩) (by kernel_rfl) rfl (fun K hK => ?_)
          go_simp
          refine hK.out _ _ (fun _ => kk3) ?_
          clear hK K
          (try simp only [Act.put, List.setIfInBounds_toArray, List.set_cons_zero, List.set_cons_succ])
          refine wpLast_one (i := 13) (o := ⟨none, _, _, _, _, _⟩) (by kernel_rfl) rfl (fun K hK => ?_)
          go_simp
          refine hK.out _ _ (fun h => absurd rfl h) ?_
          clear hK K
          (try simp only [Act.put, List.setIfInBounds_toArray, List.set_cons_zero, List.set_cons_succ])

          have P4 := hide (P3.out.set1 (g := gb) 4 H.out.b1 (.slice (some ⟨g6, 0, none⟩) ((u64s (XS 0)).length + 1) c6))
          refine wpLast_done (by kernel_rfl) ?_ _
          go_wp2_with fail
          go_meet
          refine ⟨upd sv 0 (.slice (some ⟨g6, 0, none⟩) ((u64s (XS 0)).length + 1) c6), ?_, P4.out⟩
          rw [XSo_in HONE.out]
          exact D3.out
        | false =>
          have hpb : (x.2.out == 1 && false) = false := by rw [hob]; rfl
          rw [hpb]
          clear hpb
          go_wp2_with fail
          refine (HX1.out.outcome).mono ?_
          rintro e w1' ⟨rfl, rfl⟩
          go_wp2_with fail
          have D2 := hide D1.out.drew
          have P2 := hide P1.out.drew
          have X2 := hide (show DopIs w1.drew (bo2 0) bd x.2 from HX1.out)
          have HGV := hide (show dvalue x.2.v x.2.out = x.2.v from by unfold dvalue; rw [if_pos HONE.out])
          have hlen : (u64s (XS 1)).length ≤ 100000 := by rw [u64s_len]; exact HK.out 1 (by omega)
          have HLEN := hide hlen
          obtain ⟨i0, hi0, hz0, hz1, hz2⟩ := info_parts info_u64
          clear k1 k2 hlen
          refine wp_region_last 14 (fun w' : World => w'.cell? ⟨gb, 5, none⟩ = some (sv 1) ∧ w'.cell? ⟨gb, 1, none⟩ = some (.pointer (some ⟨bo2 0, 0, none⟩))) (by kernel_rfl) ?_
          have hb0 : B ≤ w1.drew.heap.size := Nat.le_trans D2.out.b1 (Nat.le_of_lt D2.out.g.lt)
          generalize w1.drew = w2 at D2 P2 X2 hb0 ⊢
          have kk : (fun w' : World => w'.cell? ⟨gb, 5, none⟩ = some (sv 1) ∧ w'.cell? ⟨gb, 1, none⟩ = some (.pointer (some ⟨bo2 0, 0, none⟩))) w2 := ⟨D2.out.cc5, D2.out.oon (upd_same _ _ _)⟩
          refine wpLast_take (i := 0) (oi := ⟨some 88, _, _, _, _, _⟩) (v := ?vv88x0) rfl (by kernel_rfl) (by kernel_rfl) (by kernel_rfl) (by kernel_rfl) (by decide) (fun _ _ _ h => h) (Or.inl ⟨by rfl, ?hy88x0⟩) (by assumption) ?rest88x0
          case hy88x0 => intro wq hSw; (try dsimp only at hSw); go_simp; (try with_reducible rfl)
          (try simp only [Act.put, List.setIfInBounds_toArray, List.set_cons_zero, List.set_cons_succ])
          refine wpLast_take (i := 1) (oi := ⟨some 89, _, _, _, _, _⟩) (v := ?vv88x1) rfl (by kernel_rfl) (by kernel_rfl) (by kernel_rfl) (by kernel_rfl) (by decide) (fun _ _ _ h => h) (Or.inl ⟨by rfl, ?hy88x1⟩) (by assumption) ?rest88x1
          case hy88x1 => intro wq hSw; (try dsimp only at hSw); go_simp; (try with_reducible rfl)
          (try simp only [Act.put, List.setIfInBounds_toArray, List.set_cons_zero, List.set_cons_succ])
          refine wpLast_take (i := 2) (oi := ⟨some 90, _, _, _, _, _⟩) (v := ?vv88x2) rfl (by kernel_rfl) (by kernel_rfl) (by kernel_rfl) (by kernel_rfl) (by decide) (fun _ _ _ h => h) (Or.inl ⟨by rfl, ?hy88x2⟩) (by assumption) ?rest88x2
          case hy88x2 => intro wq hSw; (try dsimp only at hSw); go_simp; (try with_reducible rfl)
          (try simp only [Act.put, List.setIfInBounds_toArray, List.set_cons_zero, List.set_cons_succ])
          refine wpLast_take (i := 3) (oi := ⟨some 91, _, _, _, _, _⟩) (v := ?vv88x3) rfl (by kernel_rfl) (by kernel_rfl) (by kernel_rfl) (by kernel_rfl) (by decide) (fun _ _ _ h => h) (Or.inl ⟨by rfl, ?hy88x3⟩) (by assumption) ?rest88x3
          case hy88x3 => intro wq hSw; (try dsimp only at hSw); go_simp; (try with_reducible rfl)
          (try simp only [Act.put, List.setIfInBounds_toArray, List.set_cons_zero, List.set_cons_succ])
          refine wpLast_take (i := 4) (oi := ⟨some 92, _, _, _, _, _⟩) (v := ?vv88x4) rfl (by kernel_rfl) (by kernel_rfl) (by kernel_rfl) (by kernel_rfl) (by decide) (fun _ _ _ h => h) (Or.inl ⟨by rfl, ?hy88x4⟩) (by assumption) ?rest88x4
          case hy88x4 => intro wq hSw; (try dsimp only at hSw); go_simp; (try with_reducible rfl)
          (try simp only [Act.put, List.setIfInBounds_toArray, List.set_cons_zero, List.set_cons_succ])
          refine wpLast_take (i := 5) (oi := ⟨some 93, _, _, _, _, _⟩) (v := ?vv88x5) rfl (by kernel_rfl) (by kernel_rfl) (by kernel_rfl) (by kernel_rfl) (by decide) (fun _ _ _ h => h) (Or.inl ⟨by rfl, ?hy88x5⟩) (by assumption) ?rest88x5
          case hy88x5 => intro wq hSw; (try dsimp only at hSw); go_simp; (try with_reducible rfl)
          (try simp only [Act.put, List.setIfInBounds_toArray, List.set_cons_zero, List.set_cons_succ])
          refine wpLast_take (i := 6) (oi := ⟨some 94, _, _, _, _, _⟩) (v := ?vv88x6) rfl (by kernel_rfl) (by kernel_rfl) (by kernel_rfl) (by kernel_rfl) (by decide) (fun _ _ _ h => h) (Or.inl ⟨by rfl, ?hy88x6⟩) (by assumption) ?rest88x6
          case hy88x6 => intro wq hSw; (try dsimp only at hSw); go_simp; (try with_reducible rfl)
          (try simp only [Act.put, List.setIfInBounds_toArray, List.set_cons_zero, List.set_cons_succ])
          refine wpLast_take (i := 7) (oi := ⟨some 95, _, _, _, _, _⟩) (v := ?vv88x7) rfl (by kernel_rfl) (by kernel_rfl) (by kernel_rfl) (by kernel_rfl) (by decide) (fun _ _ _ h => h) (Or.inl ⟨by rfl, ?hy88x7⟩) (by assumption) ?rest88x7
          case hy88x7 => intro wq hSw; (try dsimp only at hSw); go_simp; (try with_reducible rfl)
          (try simp only [Act.put, List.setIfInBounds_toArray, List.set_cons_zero, List.set_cons_succ])
          refine wpLast_take (i := 8) (oi := ⟨some 96, _, _, _, _, _⟩) (v := ?vv88x8) rfl (by kernel_rfl) (by kernel_rfl) (by kernel_rfl) (by kernel_rfl) (by decide) (fun _ _ _ h => h) (Or.inl ⟨by rfl, ?hy88x8⟩) (by assumption) ?rest88x8
          case hy88x8 => intro wq hSw; (try dsimp only at hSw); go_simp; (try with_reducible rfl)
          (try simp only [Act.put, List.setIfInBounds_toArray, List.set_cons_zero, List.set_cons_succ])
          refine wpLast_one (i := 9) (o := ⟨some 97, _, _, _, _, _⟩) (by kernel_rfl) rfl (fun K hK => ?_)
          go_simp
          refine (X2.out.value).mono ?_
          rintro e wv ⟨rfl, rfl⟩
          rw [HGV.out]
          refine hK.out _ _ (fun _ => by assumption) ?_
          clear hK K
          (try simp only [Act.put, List.setIfInBounds_toArray, List.set_cons_zero, List.set_cons_succ])
          refine wpLast_one (i := 10) (o := ⟨some 98, _, _, _, _, _⟩) (by kernel_rfl) rfl (fun K hK => ?_)
          go_simp
          have D4 := hide (D2.out.only0 ((Only.refl S0 w2).alloc (.cells #[.int .u64 x.2.v] 28)))
          refine hK.out _ _ (fun _ => ⟨D4.out.cc5, D4.out.oon (upd_same _ _ _)⟩) ?_
          clear hK K
          (try simp only [Act.put, List.setIfInBounds_toArray, List.set_cons_zero, List.set_cons_succ])
          refine wpLast_one (i := 11) (o := ⟨some 99, _, _, _, _, _⟩) (by kernel_rfl) rfl (fun K hK => ?_)
          refine step_append_lies _ (rfl) _ _ _ (rfl) B 28 i0 _ 1 8 Try.underlying35 hi0 hz0 hz1 hz2 rfl (by omega) (sv 1) (u64s (XS 1)).length (u64s (XS 1)) (rfl) (D4.out.sl 1 (by omega)) ⟨w2.heap.size, 0, none⟩ 1 1 [.int .u64 (x.2.v)] (rfl) (rfl) (World.news_of_block (cs := #[.int .u64 (x.2.v)]) (t := 28) (fr := (0, 0)) (heap_alloc_new _ _)) (by simp [Value.oneCell']) (by omega) (by have := HLEN.out; unfold maxLen; omega) (by have := HLEN.out; omega) (by simp; omega) (w2.heap.size + 1) (by simp) ?_
          intro g6 c6 w3 hown hgrow hat hlt
          have hv' : Sl w3 B 28 (.slice (some ⟨g6, 0, none⟩) ((u64s (XS 1)).length + 1) c6) (u64s (XS 1 ++ [x.2.v])) := by
            rw [u64s_snoc]
            unfold Sl
            rw [List.length_append]
            exact hown
          have o6 : Only (fun k => (sv 1).ownBlock = some k) w2 w3 := ((Only.refl _ w2).alloc _).then (R := fun k => (sv 1).ownBlock = some k) (Only.of_grown hgrow fun k hk _ => hk) fun i _ hi => hi
          have hnew : (Value.slice (some ⟨g6, 0, none⟩) ((u64s (XS 1)).length + 1) c6).ownBlock = (sv 1).ownBlock ∨ ∃ k, (Value.slice (some ⟨g6, 0, none⟩) ((u64s (XS 1)).length + 1) c6).ownBlock = some k ∧ w2.heap.size ≤ k := by
            rcases hat with e | e
            · exact .inl (by rw [e]; rfl)
            · exact .inr ⟨g6, rfl, by omega⟩
          obtain ⟨g1, g2, g3, g4, -⟩ := D2.out.grow (p := 1) (by omega) o6
          have KK3 : (fun w' : World => w'.cell? ⟨gb, 5, none⟩ = some (sv 1) ∧ w'.cell? ⟨gb, 1, none⟩ = some (.pointer (some ⟨bo2 0, 0, none⟩))) w3 := by
            refine ⟨g2.cellv (i := 5) rfl, ?_⟩
            have := g2.cellv (show (gangC bd tb (upd act 0 true) bo2 false nx2 sv lost most)[1]? = some (optr (upd act 0 true) bo2 0) from rfl)
            rw [optr_on _ (upd_same _ _ _)] at this
            exact this
          have kk3 : (fun w' : World => w'.cell? ⟨gb, 5, none⟩ = some (sv 1) ∧ w'.cell? ⟨gb, 1, none⟩ = some (.pointer (some ⟨bo2 0, 0, none⟩))) w3 := KK3
          have q1 : w3.cell? ⟨gb, 5, none⟩ = some (sv 1) := g2.cellv (i := 5) rfl
          have q2 := g2.frozen 5
          have d3 := D2.out.app (p := 1) (by omega) o6 hv' hnew
          rw [show ixS 1 = 5 from rfl] at d3
          have D3 := hide d3
          have hin := D2.out.sl 1 (by omega)
          have P3 := hide (P2.out.trans (o6.mono (R := SB B) fun k hk => (hin.block hk).1))
          clear hv' o6 hnew g1 g2 g3 g4 hin hown hgrow hat hlt d3 KK3
          refine hK.out _ _ (fun _ => kk3) ?_
          clear hK K
          (try simp only [Act.put, List.setIfInBounds_toArray, List.set_cons_zero, List.set_cons_succ])
          refine wpLast_one (i := 12) (o := ⟨some 100, _, _, _, _, _⟩) (by kernel_rfl) rfl (fun K hK => ?_)
          go_simp
          refine hK.out _ _ (fun _ => kk3) ?_
          clear hK K
          (try simp only [Act.put, List.setIfInBounds_toArray, List.set_cons_zero, List.set_cons_succ])
          refine wpLast_one (i := 13) (o := ⟨some 101, _, _, _, _, _⟩) (by kernel_rfl) rfl (fun K hK => ?_)
          go_simp
          refine hK.out _ _ (fun _ => kk3) ?_
          clear hK K
          (try simp only [Act.put, List.setIfInBounds_toArray, List.set_cons_zero, List.set_cons_succ])
          refine wpLast_one (i := 14) (o := ⟨none, _, _, _, _, _⟩) (by kernel_rfl) rfl (fun K hK => ?_)
          go_simp
          refine hK.out _ _ (fun h => absurd rfl h) ?_
          clear hK K
          (try simp only [Act.put, List.setIfInBounds_toArray, List.set_cons_zero, List.set_cons_succ])

          have P4 := hide (P3.out.set1 (g := gb) 5 H.out.b1 (.slice (some ⟨g6, 0, none⟩) ((u64s (XS 1)).length + 1) c6))
          refine wpLast_done (by kernel_rfl) ?_ _
          go_wp2_with fail
          go_meet
          refine ⟨upd sv 1 (.slice (some ⟨g6, 0, none⟩) ((u64s (XS 1)).length + 1) c6), ?_, P4.out⟩
          rw [XSo_pop HONE.out]
          exact D3.out
      · have hob : (x.2.out == 1) = false := by simp [hone]
        have HONE := hide hone
        have hpb : (x.2.out == 1 && pu2) = false := by rw [hob]; rfl
        rw [hpb]
        clear hone hpb
        go_wp2_with fail
        refine (HX1.out.outcome).mono ?_
        rintro e w1' ⟨rfl, rfl⟩
        go_wp2_with fail
        go_meet
        refine ⟨sv, ?_, P1.out⟩
        rw [XSo_no HONE.out]
        exact D1.out
    case rest =>
      clear k1 k2
      obtain ⟨sv2, hd, hp⟩ := hcut
      have kc1 := hd.oon (upd_same _ _ _)
      have kf1 := hd.g.frozen 1
      have D1' := hide hd.endO
      have P1' := hide (hp.set1 (g := gb) 1 H.out.b1 (.pointer none))
      clear hd hp
      go_wp2_with fail
      clear kc1 kf1
      generalize wc.setCell ⟨gb, 1, none⟩ (.pointer none) = w2 at D1' P1' ⊢
      have hx0 : (XSo x.2 pu2 nx2 XS 0).length ≤ 100001 := by
        have := HK.out 0 (by omega)
        unfold XSo inG
        rw [upd_ne _ _ (by decide), upd_same]
        split <;> (try rw [List.length_append]) <;> (try simp) <;> omega
      have hx1 : (XSo x.2 pu2 nx2 XS 1).length ≤ 100001 := by
        have := HK.out 1 (by omega)
        unfold XSo popG
        rw [upd_same]
        split <;> (try rw [List.length_append]) <;> (try simp) <;> omega
      have hx2 : (XSo x.2 pu2 nx2 XS 2).length ≤ 100001 := by
        have := HK.out 2 (by omega)
        unfold XSo
        rw [upd_ne _ _ (by decide), upd_ne _ _ (by decide)]
        omega
      obtain ⟨l0, hl0⟩ : ∃ l0, (XSo x.2 pu2 nx2 XS 0).length = l0 := ⟨_, rfl⟩
      obtain ⟨l1, hl1⟩ : ∃ l1, (XSo x.2 pu2 nx2 XS 1).length = l1 := ⟨_, rfl⟩
      obtain ⟨l2, hl2⟩ : ∃ l2, (XSo x.2 pu2 nx2 XS 2).length = l2 := ⟨_, rfl⟩
      have D2 := hide D1'.out.drew
      have P2 := hide P1'.out.drew
      obtain ⟨a0, c0, e0⟩ := sl_form (D2.out.sl 0 (by omega))
      obtain ⟨a1, c1, e1⟩ := sl_form (D2.out.sl 1 (by omega))
      obtain ⟨a2, c2, e2⟩ := sl_form (D2.out.sl 2 (by omega))
      have z4 := D2.out.cc4
      have z5 := D2.out.cc5
      have z7 := D2.out.cc7
      have z9 := D2.out.cc9
      rw [e0] at z4
      rw [e1] at z5
      rw [e2] at z7
      rw [hl0] at hx0 z4
      rw [hl1] at hx1 z5
      rw [hl2] at hx2 z7
      have HLS := hide (show lens (XSo x.2 pu2 nx2 XS) = (l0 : Int) - (l1 : Int) - (l2 : Int) from by unfold lens; rw [hl0, hl1, hl2])
      clear e0 e1 e2 hl0 hl1 hl2
      have u1 : IntKind.i64.wrap ((l0 : Int) - (l1 : Int)) = (l0 : Int) - (l1 : Int) := IntWalk.i64_in _ (by omega)
      have u2 : IntKind.i64.wrap ((l0 : Int) - (l1 : Int) - (l2 : Int)) = (l0 : Int) - (l1 : Int) - (l2 : Int) := IntWalk.i64_in _ (by omega)
      have f9 := D2.out.g.frozen 9
      refine wp_region_last 25 (fun w' : World => w'.cell? ⟨gb, 9, none⟩ = some (.int .i64 most) ∧ w'.cell? ⟨gb, 4, none⟩ = some (.slice a0 l0 c0) ∧ w'.cell? ⟨gb, 5, none⟩ = some (.slice a1 l1 c1) ∧ w'.cell? ⟨gb, 7, none⟩ = some (.slice a2 l2 c2)) (by kernel_rfl) ?_
      generalize w2.drew = w3 at D2 P2 z4 z5 z7 z9 f9 ⊢
      have kk : (fun w' : World => w'.cell? ⟨gb, 9, none⟩ = some (.int .i64 most) ∧ w'.cell? ⟨gb, 4, none⟩ = some (.slice a0 l0 c0) ∧ w'.cell? ⟨gb, 5, none⟩ = some (.slice a1 l1 c1) ∧ w'.cell? ⟨gb, 7, none⟩ = some (.slice a2 l2 c2)) w3 := ⟨z9, z4, z5, z7⟩
      refine wpLast_take (i := 0) (oi := ⟨some 105, _, _, _, _, _⟩) (v := ?vv105x0) rfl (by kernel_rfl) (by kernel_rfl) (by kernel_rfl) (by kernel_rfl) (by decide) (fun _ _ _ h => h) (Or.inl ⟨by rfl, ?hy105x0⟩) (by assumption) ?rest105x0
      case hy105x0 => intro wq hSw; (try dsimp only at hSw); go_simp; (try with_reducible rfl)
      (try simp only [Act.put, List.setIfInBounds_toArray, List.set_cons_zero, List.set_cons_succ])
      refine wpLast_take (i := 1) (oi := ⟨some 106, _, _, _, _, _⟩) (v := ?vv105x1) rfl (by kernel_rfl) (by kernel_rfl) (by kernel_rfl) (by kernel_rfl) (by decide) (fun _ _ _ h => h) (Or.inl ⟨by rfl, ?hy105x1⟩) (by assumption) ?rest105x1
      case hy105x1 => intro wq hSw; (try dsimp only at hSw); go_simp; (try with_reducible rfl)
      (try simp only [Act.put, List.setIfInBounds_toArray, List.set_cons_zero, List.set_cons_succ])
      refine wpLast_take (i := 2) (oi := ⟨some 107, _, _, _, _, _⟩) (v := ?vv105x2) rfl (by kernel_rfl) (by kernel_rfl) (by kernel_rfl) (by kernel_rfl) (by decide) (fun _ _ _ h => h) (Or.inl ⟨by rfl, ?hy105x2⟩) (by assumption) ?rest105x2
      case hy105x2 => intro wq hSw; (try dsimp only at hSw); go_simp; (try with_reducible rfl)
      (try simp only [Act.put, List.setIfInBounds_toArray, List.set_cons_zero, List.set_cons_succ])
      refine wpLast_take (i := 3) (oi := ⟨some 108, _, _, _, _, _⟩) (v := ?vv105x3) rfl (by kernel_rfl) (by kernel_rfl) (by kernel_rfl) (by kernel_rfl) (by decide) (fun _ _ _ h => h) (Or.inl ⟨by rfl, ?hy105x3⟩) (by assumption) ?rest105x3
      case hy105x3 => intro wq hSw; (try dsimp only at hSw); go_simp; (try with_reducible rfl)
      (try simp only [Act.put, List.setIfInBounds_toArray, List.set_cons_zero, List.set_cons_succ])
      refine wpLast_take (i := 4) (oi := ⟨some 109, _, _, _, _, _⟩) (v := ?vv105x4) rfl (by kernel_rfl) (by kernel_rfl) (by kernel_rfl) (by kernel_rfl) (by decide) (fun _ _ _ h => h) (Or.inl ⟨by rfl, ?hy105x4⟩) (by assumption) ?rest105x4
      case hy105x4 => intro wq hSw; (try dsimp only at hSw); go_simp; (try with_reducible rfl)
      (try simp only [Act.put, List.setIfInBounds_toArray, List.set_cons_zero, List.set_cons_succ])
      refine wpLast_take (i := 5) (oi := ⟨some 110, _, _, _, _, _⟩) (v := ?vv105x5) rfl (by kernel_rfl) (by kernel_rfl) (by kernel_rfl) (by kernel_rfl) (by decide) (fun _ _ _ h => h) (Or.inl ⟨by rfl, ?hy105x5⟩) (by assumption) ?rest105x5
      case hy105x5 => intro wq hSw; (try dsimp only at hSw); go_simp; (try with_reducible rfl)
      (try simp only [Act.put, List.setIfInBounds_toArray, List.set_cons_zero, List.set_cons_succ])
      refine wpLast_take (i := 6) (oi := ⟨some 111, _, _, _, _, _⟩) (v := ?vv105x6) rfl (by kernel_rfl) (by kernel_rfl) (by kernel_rfl) (by kernel_rfl) (by decide) (fun _ _ _ h => h) (Or.inl ⟨by rfl, ?hy105x6⟩) (by assumption) ?rest105x6
      case hy105x6 => intro wq hSw; (try dsimp only at hSw); go_simp; (try with_reducible rfl)
      (try simp only [Act.put, List.setIfInBounds_toArray, List.set_cons_zero, List.set_cons_succ])
      refine wpLast_take (i := 7) (oi := ⟨some 112, _, _, _, _, _⟩) (v := ?vv105x7) rfl (by kernel_rfl) (by kernel_rfl) (by kernel_rfl) (by kernel_rfl) (by decide) (fun _ _ _ h => h) (Or.inl ⟨by rfl, ?hy105x7⟩) (by assumption) ?rest105x7
      case hy105x7 => intro wq hSw; (try dsimp only at hSw); go_simp; (try with_reducible rfl)
      (try simp only [Act.put, List.setIfInBounds_toArray, List.set_cons_zero, List.set_cons_succ])
      refine wpLast_take (i := 8) (oi := ⟨some 113, _, _, _, _, _⟩) (v := ?vv105x8) rfl (by kernel_rfl) (by kernel_rfl) (by kernel_rfl) (by kernel_rfl) (by decide) (fun _ _ _ h => h) (Or.inl ⟨by rfl, ?hy105x8⟩) (by assumption) ?rest105x8
      case hy105x8 => intro wq hSw; (try dsimp only at hSw); go_simp; (try with_reducible rfl)
      (try simp only [Act.put, List.setIfInBounds_toArray, List.set_cons_zero, List.set_cons_succ])
      refine wpLast_take (i := 9) (oi := ⟨some 114, _, _, _, _, _⟩) (v := ?vv105x9) rfl (by kernel_rfl) (by kernel_rfl) (by kernel_rfl) (by kernel_rfl) (by decide) (fun _ _ _ h => h) (Or.inl ⟨by rfl, ?hy105x9⟩) (by assumption) ?rest105x9
      case hy105x9 => intro wq hSw; (try dsimp only at hSw); go_simp; (try with_reducible rfl)
      (try simp only [Act.put, List.setIfInBounds_toArray, List.set_cons_zero, List.set_cons_succ])
      refine wpLast_take (i := 10) (oi := ⟨some 115, _, _, _, _, _⟩) (v := ?vv105x10) rfl (by kernel_rfl) (by kernel_rfl) (by kernel_rfl) (by kernel_rfl) (by decide) (fun _ _ _ h => h) (Or.inl ⟨by rfl, ?hy105x10⟩) (by assumption) ?rest105x10
      case hy105x10 => intro wq hSw; (try dsimp only at hSw); go_simp; (try with_reducible rfl)
      (try simp only [Act.put, List.setIfInBounds_toArray, List.set_cons_zero, List.set_cons_succ])
      refine wpLast_take (i := 11) (oi := ⟨some 116, _, _, _, _, _⟩) (v := ?vv105x11) rfl (by kernel_rfl) (by kernel_rfl) (by kernel_rfl) (by kernel_rfl) (by decide) (fun _ _ _ h => h) (Or.inl ⟨by rfl, ?hy105x11⟩) (by assumption) ?rest105x11
      case hy105x11 => intro wq hSw; (try dsimp only at hSw); go_simp; (try with_reducible rfl)
      (try simp only [Act.put, List.setIfInBounds_toArray, List.set_cons_zero, List.set_cons_succ])
      refine wpLast_take (i := 12) (oi := ⟨some 117, _, _, _, _, _⟩) (v := ?vv105x12) rfl (by kernel_rfl) (by kernel_rfl) (by kernel_rfl) (by kernel_rfl) (by decide) (fun _ _ _ h => h) (Or.inl ⟨by rfl, ?hy105x12⟩) (by assumption) ?rest105x12
      case hy105x12 => intro wq hSw; (try dsimp only at hSw); go_simp; (try with_reducible rfl)
      (try simp only [Act.put, List.setIfInBounds_toArray, List.set_cons_zero, List.set_cons_succ])
      refine wpLast_take (i := 13) (oi := ⟨some 118, _, _, _, _, _⟩) (v := ?vv105x13) rfl (by kernel_rfl) (by kernel_rfl) (by kernel_rfl) (by kernel_rfl) (by decide) (fun _ _ _ h => h) (Or.inl ⟨by rfl, ?hy105x13⟩) (by assumption) ?rest105x13
      case hy105x13 => intro wq hSw; (try dsimp only at hSw); go_simp; (try with_reducible rfl)
      (try simp only [Act.put, List.setIfInBounds_toArray, List.set_cons_zero, List.set_cons_succ])
      refine wpLast_take (i := 14) (oi := ⟨some 119, _, _, _, _, _⟩) (v := ?vv105x14) rfl (by kernel_rfl) (by kernel_rfl) (by kernel_rfl) (by kernel_rfl) (by decide) (fun _ _ _ h => h) (Or.inl ⟨by rfl, ?hy105x14⟩) (by assumption) ?rest105x14
      case hy105x14 => intro wq hSw; (try dsimp only at hSw); go_simp; (try with_reducible rfl)
      (try simp only [Act.put, List.setIfInBounds_toArray, List.set_cons_zero, List.set_cons_succ])
      refine wpLast_take (i := 15) (oi := ⟨some 120, _, _, _, _, _⟩) (v := ?vv105x15) rfl (by kernel_rfl) (by kernel_rfl) (by kernel_rfl) (by kernel_rfl) (by decide) (fun _ _ _ h => h) (Or.inl ⟨by rfl, ?hy105x15⟩) (by assumption) ?rest105x15
      case hy105x15 => intro wq hSw; (try dsimp only at hSw); go_simp; (try with_reducible rfl)
      (try simp only [Act.put, List.setIfInBounds_toArray, List.set_cons_zero, List.set_cons_succ])
      refine wpLast_take (i := 16) (oi := ⟨some 121, _, _, _, _, _⟩) (v := ?vv105x16) rfl (by kernel_rfl) (by kernel_rfl) (by kernel_rfl) (by kernel_rfl) (by decide) (fun _ _ _ h => h) (Or.inl ⟨by rfl, ?hy105x16⟩) (by assumption) ?rest105x16
      case hy105x16 => intro wq hSw; (try dsimp only at hSw); go_simp; (try with_reducible rfl)
      (try simp only [Act.put, List.setIfInBounds_toArray, List.set_cons_zero, List.set_cons_succ])
      refine wpLast_take (i := 17) (oi := ⟨some 122, _, _, _, _, _⟩) (v := ?vv105x17) rfl (by kernel_rfl) (by kernel_rfl) (by kernel_rfl) (by kernel_rfl) (by decide) (fun _ _ _ h => h) (Or.inl ⟨by rfl, ?hy105x17⟩) (by assumption) ?rest105x17
      case hy105x17 => intro wq hSw; (try dsimp only at hSw); go_simp; (try with_reducible rfl)
      (try simp only [Act.put, List.setIfInBounds_toArray, List.set_cons_zero, List.set_cons_succ])
      refine wpLast_take (i := 18) (oi := ⟨some 123, _, _, _, _, _⟩) (v := ?vv105x18) rfl (by kernel_rfl) (by kernel_rfl) (by kernel_rfl) (by kernel_rfl) (by decide) (fun _ _ _ h => h) (Or.inl ⟨by rfl, ?hy105x18⟩) (by assumption) ?rest105x18
      case hy105x18 => intro wq hSw; (try dsimp only at hSw); go_simp; (try with_reducible rfl)
      (try simp only [Act.put, List.setIfInBounds_toArray, List.set_cons_zero, List.set_cons_succ])
      refine wpLast_take (i := 19) (oi := ⟨some 124, _, _, _, _, _⟩) (v := ?vv105x19) rfl (by kernel_rfl) (by kernel_rfl) (by kernel_rfl) (by kernel_rfl) (by decide) (fun _ _ _ h => h) (Or.inl ⟨by rfl, ?hy105x19⟩) (by assumption) ?rest105x19
      case hy105x19 => intro wq hSw; (try dsimp only at hSw); go_simp; (try with_reducible rfl)
      (try simp only [Act.put, List.setIfInBounds_toArray, List.set_cons_zero, List.set_cons_succ])
      refine wpLast_take (i := 20) (oi := ⟨some 125, _, _, _, _, _⟩) (v := ?vv105x20) rfl (by kernel_rfl) (by kernel_rfl) (by kernel_rfl) (by kernel_rfl) (by decide) (fun _ _ _ h => h) (Or.inl ⟨by rfl, ?hy105x20⟩) (by assumption) ?rest105x20
      case hy105x20 => intro wq hSw; (try dsimp only at hSw); go_simp; (try with_reducible rfl)
      (try simp only [Act.put, List.setIfInBounds_toArray, List.set_cons_zero, List.set_cons_succ])
      refine wpLast_take (i := 21) (oi := ⟨some 126, _, _, _, _, _⟩) (v := ?vv105x21) rfl (by kernel_rfl) (by kernel_rfl) (by kernel_rfl) (by kernel_rfl) (by decide) (fun _ _ _ h => h) (Or.inl ⟨by rfl, ?hy105x21⟩) (by assumption) ?rest105x21
      case hy105x21 => intro wq hSw; (try dsimp only at hSw); go_simp; (try with_reducible rfl)
      (try simp only [Act.put, List.setIfInBounds_toArray, List.set_cons_zero, List.set_cons_succ])
      refine wpLast_one (i := 22) (o := ⟨some 127, _, _, _, _, _⟩) (by kernel_rfl) rfl (fun K hK => ?_)
      go_simp
      refine hK.out _ _ (fun _ => by assumption) ?_
      clear hK K
      (try simp only [Act.put, List.setIfInBounds_toArray, List.set_cons_zero, List.set_cons_succ])
      refine wpLast_one (i := 23) (o := ⟨some 128, _, _, _, _, _⟩) (by kernel_rfl) rfl (fun K hK => ?_)
      go_simp
      refine hK.out _ _ (fun _ => by assumption) ?_
      clear hK K
      (try simp only [Act.put, List.setIfInBounds_toArray, List.set_cons_zero, List.set_cons_succ])
      refine wpLast_one (i := 24) (o := ⟨some 129, _, _, _, _, _⟩) (by kernel_rfl) rfl (fun K hK => ?_)
      go_simp
      refine hK.out _ _ (fun _ => by assumption) ?_
      clear hK K
      (try simp only [Act.put, List.setIfInBounds_toArray, List.set_cons_zero, List.set_cons_succ])
      refine wpLast_one (i := 25) (o := ⟨none, _, _, _, _, _⟩) (by kernel_rfl) rfl (fun K hK => ?_)
      go_simp
      refine hK.out _ _ (fun h => absurd rfl h) ?_
      clear hK K
      (try simp only [Act.put, List.setIfInBounds_toArray, List.set_cons_zero, List.set_cons_succ])

      refine wpLast_done (by kernel_rfl) ?_ _
      go_wp2_with fail
      all_goals go_end0
      all_goals rw [HXX.out]
      · refine ⟨rfl, bo2, sv2, (l0 : Int) - (l1 : Int) - (l2 : Int), ?_, P2.out.set1 (g := gb) 9 H.out.b1 (.int .i64 ((l0 : Int) - (l1 : Int) - (l2 : Int))), .inr ⟨HZ.out, HLS.out.symm⟩⟩
        have d2 := D2.out.setMost ((l0 : Int) - (l1 : Int) - (l2 : Int))
        rw [upd_upd] at d2
        rw [show decide (x.2.out = 0) = false from by simp [HZ.out]]
        exact d2
      · refine ⟨rfl, bo2, sv2, most, ?_, P2.out.set1 (g := gb) 9 H.out.b1 (.int .i64 most), .inl rfl⟩
        have d2 := D2.out.setMost most
        rw [upd_upd] at d2
        rw [show decide (x.2.out = 0) = false from by simp [HZ.out]]
        exact d2
end
end Go.Proofs.Ytblkbfdmoanbfaa
