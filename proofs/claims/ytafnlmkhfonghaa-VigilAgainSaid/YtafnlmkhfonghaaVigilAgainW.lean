/-
  VigilAgain, the walk.
-/
import Derived.Test.YtafnlmkhfonghaaAlive19
import Derived.Test.YtafnlmkhfonghaaOpen
namespace Go.Proofs.Ytafnlmkhfonghaa
open Go.RowKit
set_option linter.unusedVariables false

theorem vc0_in {n x y : Int} (h : vin n x y) : ∃ c : Nat, vc0 0 n x y = (c : Int) ∧ (c : Int) < n * n := by
  have := vcell_in (base := 0) h (by decide)
  refine ⟨(vcell 0 n x y).toNat, ?_, ?_⟩
  · rw [vc0, if_pos h]; omega
  · omega
theorem vo0_in {n x y : Int} (h : vin n x y) : vo0 n x y = 0 := by rw [vo0, if_pos h]


section
variable {c : Nat} {L : List Int} {v : Int}
theorem vd_watch (hv : at_ L (c : Int) = v) (h1 : v ≠ 1) : vdone 100 L ⟨0, c, 0, 0⟩ = (L.set c 1, ⟨0, c, v, 1⟩, 2) :=
  vdone_cons rfl (show vstep L ⟨0, c, 0, 0⟩ = (L, ⟨1, c, v, 0⟩) by simp [vstep, hv, h1]) (vdone_cons rfl (by simp [vstep, hv]) (vdone_over _ _ _ (by simp)))
theorem vd_watch1 (hv : at_ L (c : Int) = 1) : vdone 100 L ⟨0, c, 0, 0⟩ = (L, ⟨1, c, 1, 4⟩, 1) :=
  vdone_cons rfl (by simp [vstep, hv]) (vdone_over _ _ _ (by simp))
theorem vd_unwatch (hv : at_ L (c : Int) = 1) : vdone 100 L ⟨2, c, 0, 0⟩ = (L.set c 0, ⟨2, c, 1, 1⟩, 2) :=
  vdone_cons rfl (show vstep L ⟨2, c, 0, 0⟩ = (L, ⟨3, c, 1, 0⟩) by simp [vstep, hv]) (vdone_cons rfl (by simp [vstep, hv]) (vdone_over _ _ _ (by simp)))
theorem vd_unwatch0 (hv : at_ L (c : Int) = v) (h1 : v ≠ 1) : vdone 100 L ⟨2, c, 0, 0⟩ = (L, ⟨3, c, v, 4⟩, 1) :=
  vdone_cons rfl (by simp [vstep, hv, h1]) (vdone_over _ _ _ (by simp))
theorem vd_claim (hv : at_ L (c : Int) = 1) : vdone 100 L ⟨4, c, 0, 0⟩ = (L.set c 2, ⟨4, c, 0, 1⟩, 1) :=
  vdone_cons rfl (by simp [vstep, hv]) (vdone_over _ _ _ (by simp))
theorem vd_claim0 (hv : at_ L (c : Int) ≠ 1) : vdone 100 L ⟨4, c, 0, 0⟩ = (L, ⟨4, c, 0, 4⟩, 1) :=
  vdone_cons rfl (by simp [vstep, hv]) (vdone_over _ _ _ (by simp))
theorem at_rep0 (m i : Nat) : at_ (List.replicate m 0) (i : Int) = 0 := by
  unfold at_
  simp only [List.getD, Int.toNat_natCast, List.getElem?_replicate]
  split <;> rfl
theorem at_same (hc : c < L.length) (x : Int) : at_ (L.set c x) (c : Int) = x := by rw [at_set _ _ _ _ hc, if_pos rfl]
end

set_option maxRecDepth 100000 in
set_option maxHeartbeats 6000000 in
theorem vigilAgain_walk (a0 a1 a2 : Int) (a : Option Addr) (len cap : Nat) (xs : List Bool) (w : World) (w0 : (Lit.int .u8 a0).wf = true) (w1 : (Lit.int .u8 a1).wf = true) (w2 : (Lit.int .u8 a2).wf = true) (w3 : InBools w a len xs) :
    Calls Try.prog 6 #[.int .u8 a0, .int .u8 a1, .int .u8 a2, .slice a len cap] w fun e w' => e = .returned (.bool true) ∧ Below w.heap.size w w' := by
  have hbig := w3.big
  have k1 := (bounds_u8 w0).1
  have k2 := (bounds_u8 w0).2
  have k3 := (bounds_u8 w1).1
  have k4 := (bounds_u8 w1).2
  have k5 := (bounds_u8 w2).1
  have k6 := (bounds_u8 w2).2
  have HC := hide w3.cells
  clear w0 w1 w2 w3
  obtain ⟨n, hn⟩ : ∃ n : Nat, 1 + a0 % 6 = (n : Int) := ⟨(1 + a0 % 6).toNat, by omega⟩
  have n1 : 1 ≤ n := by omega
  have n6 : n ≤ 6 := by omega
  obtain ⟨x, hx⟩ : ∃ x : Int, 1 + a1 % (n : Int) = x := ⟨_, rfl⟩
  obtain ⟨y, hy⟩ : ∃ y : Int, 1 + a2 % (n : Int) = y := ⟨_, rfl⟩
  have hx1 : 1 ≤ x := by have := Int.emod_nonneg a1 (show (n : Int) ≠ 0 by omega); omega
  have hx2 : x ≤ n := by have := Int.emod_lt_of_pos a1 (show (0 : Int) < n by omega); omega
  have hy1 : 1 ≤ y := by have := Int.emod_nonneg a2 (show (n : Int) ≠ 0 by omega); omega
  have hy2 : y ≤ n := by have := Int.emod_lt_of_pos a2 (show (0 : Int) < n by omega); omega
  have HV := hide (show vin n x y from ⟨hx1, hx2, hy1, hy2⟩)
  obtain ⟨sz, hz⟩ : ∃ sz : Nat, n * n = sz := ⟨_, rfl⟩
  have hzz : (n : Int) * (n : Int) = (sz : Int) := by rw [← hz]; exact (Int.natCast_mul n n).symm
  have hsb := sq_bound (n := (n : Int)) (by omega) (by omega)
  rw [hzz] at hsb
  obtain ⟨hsb1, hsb2⟩ := hsb
  obtain ⟨c, hc1, hc2⟩ := vc0_in HV.out
  rw [hzz] at hc2
  have hcs : c < sz := by omega
  have HC1 := hide hc1
  have HZ := hide hz
  have k7 : 0 ≤ a1 % (n : Int) := by omega
  have k8 : a1 % (n : Int) < n := by omega
  have k9 : 0 ≤ a2 % (n : Int) := by omega
  have k10 : a2 % (n : Int) < n := by omega
  have k11 : ((n : Int) == 0) = false := by rw [beq_eq_false_iff_ne]; omega
  clear hc1 hz hc2
  go_enter Try.func6, Try.ntmps6
  go_wp2_with fail
  refine (alive19_any w).mono ?_
  rintro e wa ⟨rfl, p1⟩
  have P1 := hide p1
  clear p1
  have ht1 : a1.tmod (n : Int) = x - 1 := by rw [Int.tmod_eq_emod_of_nonneg k3]; omega
  have ht2 : a2.tmod (n : Int) = y - 1 := by rw [Int.tmod_eq_emod_of_nonneg k5]; omega
  have ht3 : IntKind.i64.wrap (1 + (x - 1)) = x := by rw [IntWalk.i64_in _ (by omega)]; omega
  have ht4 : IntKind.i64.wrap (1 + (y - 1)) = y := by rw [IntWalk.i64_in _ (by omega)]; omega
  clear hx hy k7 k8 k9 k10
  go_wp2_with fail
  go_quiet (fail)
  go_wp2_with fail
  refine (made19_any n sz n1 (by omega) HZ.out).mono ?_
  rintro e wb ⟨vb, bm, bc, rfl, he, p2, b1, b2, b3⟩
  have HE := hide he
  have PP := hide ((P1.out.drewN _).trans p2)
  have c2 : w.heap.size ≤ bm := Nat.le_trans P1.out.size b2
  have c3 : w.heap.size ≤ bc := Nat.le_trans P1.out.size b3
  clear he p2 b1 b2 b3 P1
  go_wp2_with fail
  have HN := hide hn
  have HZZ := hide hzz
  clear hn hzz k1 k2 k3 k4 k5 k6 k11 ht1 ht2 ht3 ht4
  go_loopg [14, 15, 16, 17, 18, 19, 20, 21, 22, 23, 24, 25, 26, 27, 28] 50 (fun q iv a15 a16 a17 a18 a19 a20 a21 a22 a23 a24 a25 a26 a27 a28 wr => ∃ (i : Nat) (L : List Int) (v tc : Int), q = 50 - i ∧ i ≤ 50 ∧ i ≤ len ∧ iv = .int .i64 i ∧ L.length = sz + 1 ∧ at_ L (c : Int) = v ∧ v ≠ 1 ∧ tc ≤ 1000 + 20 * i ∧ VE wr vb bm bc 0 n tc L ∧ Only S0 w wr)
  case atStart => exact ⟨0, _, 0, _, rfl, by omega, by omega, rfl, by simp, at_rep0 _ _, by decide, by omega, HE.out, PP.out⟩
  case round =>
  clear HE PP
  obtain ⟨i, L, v, tc, rfl, hi, hil, rfl, hl, hv, hv1, htc, he, ho⟩ := hrel
  have HE := hide he
  have PP := hide ho
  have HL := hide hl
  have HA := hide hv
  have HA1 := hide hv1
  clear he ho hl hv hv1
  by_cases hlt : i < len
  · by_cases hlt5 : i < 50
    · obtain ⟨g, off, rfl, hg, hc⟩ := HC.out (by omega)
      have HCE := hide fun (w' : World) (h : Only S0 w w') => (h.cell (p := ⟨g, off + i, none⟩) hg (fun h => h)).trans (hc i hlt)
      have HCC := hide hc
      clear hc
      obtain ⟨x0, hx0⟩ : ∃ x, eltB xs i = x := ⟨_, rfl⟩
      rw [hx0] at HCE
      clear hx0
      have hcl : c < L.length := by rw [HL.out]; omega
      have B1 := hide (at_same hcl 1)
      have B2 := hide (at_same (L := L.set c 1) (by simpa using hcl) 0)
      have B3 := hide (at_same (L := L.set c 1) (by simpa using hcl) 2)
      clear hcl
      go_wp2_with fail
      refine (VWatch_all x y HE.out).mono ?_
      rintro e w5 ⟨bo, rfl, h5, he5, p5, b5⟩
      have hok := vok_new he5 0 (by decide) x y
      rw [HC1.out, vo0_in HV.out] at h5 hok
      have H5 := hide h5
      have HE5 := hide he5
      have HOK := hide hok
      have P5 := hide (PP.out.trans p5)
      have b5' : w.heap.size ≤ bo := Nat.le_trans PP.out.size b5
      clear h5 he5 hok p5 PP HE b5
      go_wp2_with fail
      refine (vdone_any HE5.out.env HOK.out H5.out (few_of _ (by omega))).mono ?_
      rintro e w6 ⟨rfl, _, he6, p6, hl6⟩
      have he7 := HE5.out.step p6 H5.out he6 hl6
      rw [vd_watch HA.out HA1.out] at he7 ⊢
      unfold vdoneV
      have HE := hide he7
      have PP := hide (S0.then3 P5.out p6 b5' c2 c3)
      clear he6 he7 hl6 p6 P5 HE5 H5 HOK b5'
      go_wp2_with fail
      refine (VWatch_all x y HE.out).mono ?_
      rintro e w5 ⟨bo, rfl, h5, he5, p5, b5⟩
      have hok := vok_new he5 0 (by decide) x y
      rw [HC1.out, vo0_in HV.out] at h5 hok
      have H5 := hide h5
      have HE5 := hide he5
      have HOK := hide hok
      have P5 := hide (PP.out.trans p5)
      have b5' : w.heap.size ≤ bo := Nat.le_trans PP.out.size b5
      clear h5 he5 hok p5 PP HE b5
      go_wp2_with fail
      refine (vdone_any HE5.out.env HOK.out H5.out (few_of _ (by omega))).mono ?_
      rintro e w6 ⟨rfl, _, he6, p6, hl6⟩
      have he7 := HE5.out.step p6 H5.out he6 hl6
      rw [vd_watch1 B1.out] at he7 ⊢
      unfold vdoneV
      have HE := hide he7
      have PP := hide (S0.then3 P5.out p6 b5' c2 c3)
      clear he6 he7 hl6 p6 P5 HE5 H5 HOK b5'
      have ce := HCE.out _ PP.out
      cases x0 with
      | true =>
        go_wp2_with fail
        refine (VUnwatch_all x y HE.out).mono ?_
        rintro e w5 ⟨bo, rfl, h5, he5, p5, b5⟩
        have hok := vok_new he5 2 (by decide) x y
        rw [HC1.out, vo0_in HV.out] at h5 hok
        have H5 := hide h5
        have HE5 := hide he5
        have HOK := hide hok
        have P5 := hide (PP.out.trans p5)
        have b5' : w.heap.size ≤ bo := Nat.le_trans PP.out.size b5
        clear h5 he5 hok p5 PP HE b5
        go_wp2_with fail
        refine (vdone_any HE5.out.env HOK.out H5.out (few_of _ (by omega))).mono ?_
        rintro e w6 ⟨rfl, _, he6, p6, hl6⟩
        have he7 := HE5.out.step p6 H5.out he6 hl6
        rw [vd_unwatch B1.out] at he7 ⊢
        unfold vdoneV
        have HE := hide he7
        have PP := hide (S0.then3 P5.out p6 b5' c2 c3)
        clear he6 he7 hl6 p6 P5 HE5 H5 HOK b5'
        go_wp2_with fail
        refine (VClaim_all x y HE.out).mono ?_
        rintro e w5 ⟨bo, rfl, h5, he5, p5, b5⟩
        have hok := vok_new he5 4 (by decide) x y
        rw [HC1.out, vo0_in HV.out] at h5 hok
        have H5 := hide h5
        have HE5 := hide he5
        have HOK := hide hok
        have P5 := hide (PP.out.trans p5)
        have b5' : w.heap.size ≤ bo := Nat.le_trans PP.out.size b5
        clear h5 he5 hok p5 PP HE b5
        go_wp2_with fail
        refine (vdone_any HE5.out.env HOK.out H5.out (few_of _ (by omega))).mono ?_
        rintro e w6 ⟨rfl, _, he6, p6, hl6⟩
        have he7 := HE5.out.step p6 H5.out he6 hl6
        rw [vd_claim0 (by rw [B2.out]; decide)] at he7 ⊢
        unfold vdoneV
        have HE := hide he7
        have PP := hide (S0.then3 P5.out p6 b5' c2 c3)
        clear he6 he7 hl6 p6 P5 HE5 H5 HOK b5'
        go_wp2_with fail
        go_roundg (50 - (i + 1))
        case rel => exact ⟨i + 1, _, _, _, rfl, by omega, by omega, by go_num, by simpa using HL.out, B2.out, by decide, by simp; omega, HE.out, PP.out⟩
        case measure => omega

      | false =>
        go_wp2_with fail
        refine (VClaim_all x y HE.out).mono ?_
        rintro e w5 ⟨bo, rfl, h5, he5, p5, b5⟩
        have hok := vok_new he5 4 (by decide) x y
        rw [HC1.out, vo0_in HV.out] at h5 hok
        have H5 := hide h5
        have HE5 := hide he5
        have HOK := hide hok
        have P5 := hide (PP.out.trans p5)
        have b5' : w.heap.size ≤ bo := Nat.le_trans PP.out.size b5
        clear h5 he5 hok p5 PP HE b5
        go_wp2_with fail
        refine (vdone_any HE5.out.env HOK.out H5.out (few_of _ (by omega))).mono ?_
        rintro e w6 ⟨rfl, _, he6, p6, hl6⟩
        have he7 := HE5.out.step p6 H5.out he6 hl6
        rw [vd_claim B1.out] at he7 ⊢
        unfold vdoneV
        have HE := hide he7
        have PP := hide (S0.then3 P5.out p6 b5' c2 c3)
        clear he6 he7 hl6 p6 P5 HE5 H5 HOK b5'
        go_wp2_with fail
        refine (VClaim_all x y HE.out).mono ?_
        rintro e w5 ⟨bo, rfl, h5, he5, p5, b5⟩
        have hok := vok_new he5 4 (by decide) x y
        rw [HC1.out, vo0_in HV.out] at h5 hok
        have H5 := hide h5
        have HE5 := hide he5
        have HOK := hide hok
        have P5 := hide (PP.out.trans p5)
        have b5' : w.heap.size ≤ bo := Nat.le_trans PP.out.size b5
        clear h5 he5 hok p5 PP HE b5
        go_wp2_with fail
        refine (vdone_any HE5.out.env HOK.out H5.out (few_of _ (by omega))).mono ?_
        rintro e w6 ⟨rfl, _, he6, p6, hl6⟩
        have he7 := HE5.out.step p6 H5.out he6 hl6
        rw [vd_claim0 (by rw [B3.out]; decide)] at he7 ⊢
        unfold vdoneV
        have HE := hide he7
        have PP := hide (S0.then3 P5.out p6 b5' c2 c3)
        clear he6 he7 hl6 p6 P5 HE5 H5 HOK b5'
        go_wp2_with fail
        refine (VUnwatch_all x y HE.out).mono ?_
        rintro e w5 ⟨bo, rfl, h5, he5, p5, b5⟩
        have hok := vok_new he5 2 (by decide) x y
        rw [HC1.out, vo0_in HV.out] at h5 hok
        have H5 := hide h5
        have HE5 := hide he5
        have HOK := hide hok
        have P5 := hide (PP.out.trans p5)
        have b5' : w.heap.size ≤ bo := Nat.le_trans PP.out.size b5
        clear h5 he5 hok p5 PP HE b5
        go_wp2_with fail
        refine (vdone_any HE5.out.env HOK.out H5.out (few_of _ (by omega))).mono ?_
        rintro e w6 ⟨rfl, _, he6, p6, hl6⟩
        have he7 := HE5.out.step p6 H5.out he6 hl6
        rw [vd_unwatch0 B3.out (by decide)] at he7 ⊢
        unfold vdoneV
        have HE := hide he7
        have PP := hide (S0.then3 P5.out p6 b5' c2 c3)
        clear he6 he7 hl6 p6 P5 HE5 H5 HOK b5'
        go_wp2_with fail
        go_roundg (50 - (i + 1))
        case rel => exact ⟨i + 1, _, _, _, rfl, by omega, by omega, by go_num, by simpa using HL.out, B3.out, by decide, by simp; omega, HE.out, PP.out⟩
        case measure => omega
    · go_wp2_with fail
      go_ret
      exact ⟨rfl, S0.below PP.out⟩
  · go_wp2_with fail
    go_ret
    exact ⟨rfl, S0.below PP.out⟩
end Go.Proofs.Ytafnlmkhfonghaa
