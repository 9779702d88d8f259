/-
  VigilMeets, the walk.
-/
import Derived.Test.YtafnlmkhfonghaaVigilMeetsP
import Derived.Test.YtafnlmkhfonghaaOpen
namespace Go.Proofs.Ytafnlmkhfonghaa
open Go.RowKit
set_option linter.unusedVariables false

theorem vc0_in {n x y : Int} (h : vin n x y) : ∃ c : Nat, vc0 0 n x y = (c : Int) ∧ (c : Int) < n * n := by
  have := vcell_in (base := 0) h (by decide)
  refine ⟨(vcell 0 n x y).toNat, ?_, ?_⟩
  · rw [vc0, if_pos h]; omega
  · omega
theorem vo0_in {n x y : Int} (h : vin n x y) : vo0 n x y = 0 := by rw [vo0, if_pos h]

set_option maxRecDepth 100000 in
set_option maxHeartbeats 6000000 in
theorem vigilMeets_walk (a0 a1 a2 : Int) (a : Option Addr) (len cap : Nat) (xs : List Bool) (w : World) (w0 : (Lit.int .u8 a0).wf = true) (w1 : (Lit.int .u8 a1).wf = true) (w2 : (Lit.int .u8 a2).wf = true) (w3 : InBools w a len xs) :
    Calls Try.prog 5 #[.int .u8 a0, .int .u8 a1, .int .u8 a2, .slice a len cap] w fun e w' => e = .returned (.bool true) ∧ Below w.heap.size w w' := by
  have hbig := w3.big
  have k1 := (bounds_u8 w0).1
  have k2 := (bounds_u8 w0).2
  have k3 := (bounds_u8 w1).1
  have k4 := (bounds_u8 w1).2
  have k5 := (bounds_u8 w2).1
  have k6 := (bounds_u8 w2).2
  have HC := hide w3.cells
  clear w0 w1 w2 w3
  obtain ⟨n, hn⟩ : ∃ n : Nat, 1 + a0 % 6 = (n : Int) := ⟨(1 + a0 % 6).toNat, by omega⟩
  have n1 : 1 ≤ n := by omega
  have n6 : n ≤ 6 := by omega
  obtain ⟨x, hx⟩ : ∃ x : Int, 1 + a1 % (n : Int) = x := ⟨_, rfl⟩
  obtain ⟨y, hy⟩ : ∃ y : Int, 1 + a2 % (n : Int) = y := ⟨_, rfl⟩
  have hx1 : 1 ≤ x := by have := Int.emod_nonneg a1 (show (n : Int) ≠ 0 by omega); omega
  have hx2 : x ≤ n := by have := Int.emod_lt_of_pos a1 (show (0 : Int) < n by omega); omega
  have hy1 : 1 ≤ y := by have := Int.emod_nonneg a2 (show (n : Int) ≠ 0 by omega); omega
  have hy2 : y ≤ n := by have := Int.emod_lt_of_pos a2 (show (0 : Int) < n by omega); omega
  have HV := hide (show vin n x y from ⟨hx1, hx2, hy1, hy2⟩)
  obtain ⟨sz, hz⟩ : ∃ sz : Nat, n * n = sz := ⟨_, rfl⟩
  have hzz : (n : Int) * (n : Int) = (sz : Int) := by rw [← hz]; exact (Int.natCast_mul n n).symm
  have hsb := sq_bound (n := (n : Int)) (by omega) (by omega)
  rw [hzz] at hsb
  obtain ⟨hsb1, hsb2⟩ := hsb
  obtain ⟨c, hc1, hc2⟩ := vc0_in HV.out
  rw [hzz] at hc2
  have hcs : c < sz := by omega
  have HC1 := hide hc1
  have HZ := hide hz
  have k7 : 0 ≤ a1 % (n : Int) := by omega
  have k8 : a1 % (n : Int) < n := by omega
  have k9 : 0 ≤ a2 % (n : Int) := by omega
  have k10 : a2 % (n : Int) < n := by omega
  have k11 : ((n : Int) == 0) = false := by rw [beq_eq_false_iff_ne]; omega
  clear hc1 hz hc2
  go_enter Try.func5, Try.ntmps5
  go_wp2_with fail
  refine (alive19_any w).mono ?_
  rintro e wa ⟨rfl, p1⟩
  have P1 := hide p1
  clear p1
  have ht1 : a1.tmod (n : Int) = x - 1 := by rw [Int.tmod_eq_emod_of_nonneg k3]; omega
  have ht2 : a2.tmod (n : Int) = y - 1 := by rw [Int.tmod_eq_emod_of_nonneg k5]; omega
  have ht3 : IntKind.i64.wrap (1 + (x - 1)) = x := by rw [IntWalk.i64_in _ (by omega)]; omega
  have ht4 : IntKind.i64.wrap (1 + (y - 1)) = y := by rw [IntWalk.i64_in _ (by omega)]; omega
  clear hx hy k7 k8 k9 k10
  go_wp2_with fail
  go_quiet (fail)
  go_wp2_with fail
  refine (made19_any n sz n1 (by omega) HZ.out).mono ?_
  rintro e wb ⟨vb, bm, bc, rfl, he, p2, b1, b2, b3⟩
  have HE := hide he
  have PP := hide ((P1.out.drewN _).trans p2)
  have c2 : w.heap.size ≤ bm := Nat.le_trans P1.out.size b2
  have c3 : w.heap.size ≤ bc := Nat.le_trans P1.out.size b3
  clear he p2 b1 b2 b3 P1
  go_wp2_with fail
  have HN := hide hn
  have HZZ := hide hzz
  clear hn hzz k1 k2 k3 k4 k5 k6 k11 ht1 ht2 ht3 ht4
  refine (VWatch_all x y HE.out).mono ?_
  rintro e w3 ⟨wb_, rfl, h3, he3, p3, b3⟩
  rw [HC1.out, vo0_in HV.out] at h3
  have H_wb_ := hide h3
  have HE3 := hide he3
  have P3 := hide (PP.out.trans p3)
  have c_wb_ : w.heap.size ≤ wb_ := Nat.le_trans PP.out.size b3
  clear h3 he3 p3 b3 HE PP
  have HE := HE3
  have PP := P3
  clear HE3 P3
  go_wp2_with fail
  refine (VClaim_all x y HE.out).mono ?_
  rintro e w3 ⟨cb_, rfl, h3, he3, p3, b3⟩
  rw [HC1.out, vo0_in HV.out] at h3
  have hwc : wb_ ≠ cb_ := by have := Blk.lt H_wb_.out; omega
  have H_wb2 := hide (H_wb_.out.only p3 (fun h => h))
  clear H_wb_
  have H_wb_ := H_wb2
  clear H_wb2
  have H_cb_ := hide h3
  have HE3 := hide he3
  have P3 := hide (PP.out.trans p3)
  have c_cb_ : w.heap.size ≤ cb_ := Nat.le_trans PP.out.size b3
  clear h3 he3 p3 b3 HE PP
  have HE := HE3
  have PP := P3
  clear HE3 P3
  go_wp2_with fail
  refine (VClaim_all x y HE.out).mono ?_
  rintro e w3 ⟨eb_, rfl, h3, he3, p3, b3⟩
  rw [HC1.out, vo0_in HV.out] at h3
  have hwe : wb_ ≠ eb_ := by have := Blk.lt H_wb_.out; omega
  have hce : cb_ ≠ eb_ := by have := Blk.lt H_cb_.out; omega
  have H_wb2 := hide (H_wb_.out.only p3 (fun h => h))
  have H_cb2 := hide (H_cb_.out.only p3 (fun h => h))
  clear H_wb_ H_cb_
  have H_wb_ := H_wb2
  have H_cb_ := H_cb2
  clear H_wb2 H_cb2
  have H_eb_ := hide h3
  have HE3 := hide he3
  have P3 := hide (PP.out.trans p3)
  have c_eb_ : w.heap.size ≤ eb_ := Nat.le_trans PP.out.size b3
  clear h3 he3 p3 b3 HE PP
  have HE := HE3
  have PP := P3
  clear HE3 P3
  go_wp2_with fail
  have hnm1 : wb_ ≠ bm := Blk.ne_ H_wb_.out HE.out.mem.mem (by decide)
  have hnc1 : wb_ ≠ bc := Blk.ne_ H_wb_.out HE.out.mem.cells (by decide)
  have hnm2 : cb_ ≠ bm := Blk.ne_ H_cb_.out HE.out.mem.mem (by decide)
  have hnc2 : cb_ ≠ bc := Blk.ne_ H_cb_.out HE.out.mem.cells (by decide)
  have hnm3 : eb_ ≠ bm := Blk.ne_ H_eb_.out HE.out.mem.mem (by decide)
  have hnc3 : eb_ ≠ bc := Blk.ne_ H_eb_.out HE.out.mem.cells (by decide)
  go_loopg [18, 19, 20, 21, 22, 23] (len + 20) (fun q looked saw marked iv v22 v23 wr => ∃ (i : Nat) (L : List Int) (W C E : Vop) (tc : Int) (bk bs bg : Bool), q = len + 20 - i ∧ i ≤ len + 20 ∧ iv = .int .i64 i ∧ looked = .bool bk ∧ saw = .bool bs ∧ marked = .bool bg ∧
    VEnv wr bm bc tc L ∧ VopIs wr wb_ bm W ∧ VopIs wr cb_ bm C ∧ VopIs wr eb_ bm E ∧ tc ≤ 1000 + 2 * i ∧ VMeets sz c L W C E bk bs bg ∧ v1 W C bk bs ≤ 20 - (i - len) ∧ v2 E bg ≤ 20 - (i - len) ∧ Only S0 w wr)
  case atStart => exact ⟨0, _, _, _, _, _, false, false, false, rfl, by omega, rfl, rfl, rfl, rfl, HE.out.env, H_wb_.out, H_cb_.out, H_eb_.out, by omega, vmeets_start hcs, by simp [v1], by simp [v2], PP.out⟩
  case round =>
  clear HE PP H_wb_ H_cb_ H_eb_
  obtain ⟨i, L, W, C, E, tc, bk, bs, bg, rfl, hi, rfl, rfl, rfl, rfl, he, hwb, hcb, heb, htc, hm, hv1, hv2, ho⟩ := hrel
  have HE := hide he
  have HW := hide hwb
  have HCB := hide hcb
  have HEB := hide heb
  have HM := hide hm
  have HO := hide ho
  have HV1 := hide hv1
  have HV2 := hide hv2
  clear he hwb hcb heb hm ho hv1 hv2
  by_cases hlt : i < len
  · obtain ⟨g, off, rfl, hg, hc⟩ := HC.out (by omega)
    have ce := (HO.out.cell (p := ⟨g, off + i, none⟩) hg (fun h => h)).trans (hc i hlt)
    have HCC := hide hc
    clear hc
    obtain ⟨x0, hx0⟩ : ∃ x, eltB xs i = x := ⟨_, rfl⟩
    rw [hx0] at ce
    have HX0 := hide hx0
    clear hx0
    cases x0 with
    | true =>
      by_cases hs0 : W.out = 0
      · have HS0 := hide hs0
        clear hs0
        go_wp2_with fail
        refine (HW.out.over0 HS0.out).mono ?_
        rintro e w5 ⟨rfl, rfl⟩
        go_wp2_with fail
        refine (VStep_all HE.out HM.out.okW HW.out (few_of _ (by omega))).mono ?_
        rintro e w6 ⟨rfl, h1, h2, o1⟩
        have htk : vtick W = 1 := by simp [vtick, HS0.out]
        rw [htk] at h2
        generalize hgb : ((vstep L W).2.out != 0) = gb
        have HW2 := hide h1
        have HE2 := hide h2
        have HC2 := hide (HCB.out.only o1 (fun h => by unfold S3 at h; omega))
        have HEB2 := hide (HEB.out.only o1 (fun h => by unfold S3 at h; omega))
        have HO2 := hide (S0.then3 HO.out o1 c_wb_ c2 c3)
        have ce6 := (HO2.out.cell (p := ⟨g, off + i, none⟩) hg (fun h => h)).trans (HCC.out i hlt)
        rw [HX0.out] at ce6
        obtain ⟨hm', hmm'⟩ := HM.out.watch HS0.out
        have HMX := hide hm'
        have HMM := hide hmm'
        clear h1 h2 o1 hm' hmm' hgb htk
        generalize (vstep L W).1 = L2 at HE2 HMX
        generalize (vstep L W).2 = W2 at HW2 HMX HMM
        go_wp2_with fail
        go_roundg (len + 20 - (i + 1))
        case rel => exact ⟨i + 1, L2, W2, C, E, (tc + 1), bk, bs, bg, rfl, by omega, by go_num, rfl, rfl, rfl, HE2.out, HW2.out, HC2.out, HEB2.out, by omega, HMX.out, by have := HMM.out; have := HV1.out; omega, by have := HV2.out; omega, HO2.out⟩
        case measure => omega
      · cases bk with
        | false =>
          have HS0 := hide hs0
          clear hs0
          go_wp2_with fail
          refine (HW.out.over1 HS0.out).mono ?_
          rintro e w5 ⟨rfl, rfl⟩
          go_wp2_with fail
          refine (Load_in (sz : Int) HE.out.mem HE.out.few (by omega) (by rw [HM.out.lenL]; omega)).mono ?_
          rintro e w6 ⟨rfl, h1, o1⟩
          have HE2 := hide (show VEnv w6 bm bc (tc + 1) L from ⟨h1, few_of _ (by omega)⟩)
          have HW2 := hide (HW.out.only o1 (fun h => hnm1 h))
          have HC2 := hide (HCB.out.only o1 (fun h => hnm2 h))
          have HEB2 := hide (HEB.out.only o1 (fun h => hnm3 h))
          have HO2 := hide (S0.then1 HO.out o1 c2)
          have ce6 := (HO2.out.cell (p := ⟨g, off + i, none⟩) hg (fun h => h)).trans (HCC.out i hlt)
          rw [HX0.out] at ce6
          obtain ⟨hm', hmm'⟩ := HM.out.look HS0.out
          have HMX := hide hm'
          have HMM := hide hmm'
          clear h1 o1 hm' hmm'
          generalize at_ L (sz : Int) = lv at HMX HMM ⊢
          go_wp2_with fail
          go_roundg (len + 20 - (i + 1))
          case rel => exact ⟨i + 1, L, W, C, E, (tc + 1), true, (lv == 1), bg, rfl, by omega, by go_num, rfl, rfl, rfl, HE2.out, HW2.out, HC2.out, HEB2.out, by omega, HMX.out, by have := HMM.out; have := HV1.out; omega, by have := HV2.out; omega, HO2.out⟩
          case measure => omega
        | true =>
          cases bs with
          | true =>
            have HS0 := hide hs0
            clear hs0
            go_wp2_with fail
            refine (HW.out.over1 HS0.out).mono ?_
            rintro e w5 ⟨rfl, rfl⟩
            go_wp2_with fail
            refine (VStep_all HE.out HM.out.okC HCB.out (few_of _ (by omega))).mono ?_
            rintro e w6 ⟨rfl, h1, h2, o1⟩
            have htk : vtick C ≤ 1 := by unfold vtick; split <;> omega
            obtain ⟨tk, htk2⟩ : ∃ tk, tc + vtick C = tk := ⟨_, rfl⟩
            have htk3 : tk ≤ tc + 1 := by omega
            rw [htk2] at h2
            generalize hgb : ((vstep L C).2.out != 0) = gb
            have HC2 := hide h1
            have HE2 := hide h2
            have HW2 := hide (HW.out.only o1 (fun h => by unfold S3 at h; omega))
            have HEB2 := hide (HEB.out.only o1 (fun h => by unfold S3 at h; omega))
            have HO2 := hide (S0.then3 HO.out o1 c_cb_ c2 c3)
            have ce6 := (HO2.out.cell (p := ⟨g, off + i, none⟩) hg (fun h => h)).trans (HCC.out i hlt)
            rw [HX0.out] at ce6
            obtain ⟨hm', hmm'⟩ := HM.out.claim
            have HMX := hide hm'
            have HMM := hide hmm'
            clear h1 h2 o1 hm' hmm' hgb htk htk2
            generalize (vstep L C).1 = L2 at HE2 HMX
            generalize (vstep L C).2 = C2 at HC2 HMX HMM
            go_wp2_with fail
            go_roundg (len + 20 - (i + 1))
            case rel => exact ⟨i + 1, L2, W, C2, E, tk, true, true, bg, rfl, by omega, by go_num, rfl, rfl, rfl, HE2.out, HW2.out, HC2.out, HEB2.out, by omega, HMX.out, by have := HMM.out; have := HV1.out; omega, by have := HV2.out; omega, HO2.out⟩
            case measure => omega
          | false =>
            have HS0 := hide hs0
            clear hs0
            go_wp2_with fail
            refine (HW.out.over1 HS0.out).mono ?_
            rintro e w5 ⟨rfl, rfl⟩
            have HMM := hide (show v1 W C true false = 0 by simp [v1, HS0.out])
            go_wp2_with fail
            go_roundg (len + 20 - (i + 1))
            case rel => exact ⟨i + 1, L, W, C, E, tc, true, false, bg, rfl, by omega, by go_num, rfl, rfl, rfl, HE.out, HW.out, HCB.out, HEB.out, by omega, HM.out, by rw [HMM.out]; omega, by have := HV2.out; omega, HO.out⟩
            case measure => omega
    | false =>
      cases bg with
      | false =>
        go_wp2_with fail
        refine (Store_in (sz : Int) 1 HE.out.mem HE.out.few (by omega) (by rw [HM.out.lenL]; omega)).mono ?_
        rintro e w7 ⟨rfl, h1, o1⟩
        rw [show ((sz : Int)).toNat = sz by omega] at h1
        have HE9 := hide (show VEnv w7 bm bc (tc + 1) _ from ⟨h1, few_of _ (by omega)⟩)
        have HW9 := hide (HW.out.only o1 (fun h => by unfold S2 at h; omega))
        have HC9 := hide (HCB.out.only o1 (fun h => by unfold S2 at h; omega))
        have HEB9 := hide (HEB.out.only o1 (fun h => by unfold S2 at h; omega))
        have HO9 := hide (S0.then2 HO.out o1 c2 c3)
        obtain ⟨hm', hmm'⟩ := HM.out.mark
        have HM9 := hide hm'
        have HMM9 := hide hmm'
        clear h1 o1 hm' hmm'
        go_wp2_with fail
        go_roundg (len + 20 - (i + 1))
        case rel => exact ⟨i + 1, _, W, C, E, tc + 1, bk, bs, true, rfl, by omega, by go_num, rfl, rfl, rfl, HE9.out, HW9.out, HC9.out, HEB9.out, by omega, HM9.out, by have := HV1.out; omega, by have := HMM9.out; have := HV2.out; omega, HO9.out⟩
        case measure => omega
      | true =>
        go_wp2_with fail
        refine (VStep_all HE.out HM.out.okE HEB.out (few_of _ (by omega))).mono ?_
        rintro e w7 ⟨rfl, h1, h2, o1⟩
        have htk : tc + vtick E ≤ tc + 1 := by unfold vtick; split <;> omega
        have HE9 := hide h2
        generalize hgb : ((vstep L E).2.out != 0) = gb
        have HEB9 := hide h1
        have HW9 := hide (HW.out.only o1 (fun h => by unfold S3 at h; omega))
        have HC9 := hide (HCB.out.only o1 (fun h => by unfold S3 at h; omega))
        have HO9 := hide (S0.then3 HO.out o1 c_eb_ c2 c3)
        obtain ⟨hm', hmm'⟩ := HM.out.end_
        have HM9 := hide hm'
        have HMM9 := hide hmm'
        have HTK := hide htk
        clear h1 h2 o1 hm' hmm' hgb htk
        go_wp2_with fail
        go_roundg (len + 20 - (i + 1))
        case rel => exact ⟨i + 1, _, W, C, _, _, bk, bs, true, rfl, by omega, by go_num, rfl, rfl, rfl, HE9.out, HW9.out, HC9.out, HEB9.out, by have := HTK.out; omega, HM9.out, by have := HV1.out; omega, by rw [HMM9.out]; omega, HO9.out⟩
        case measure => omega
  by_cases hlt2 : i < len + 20
  · by_cases hs0 : W.out = 0
    · have HS0 := hide hs0
      clear hs0
      go_wp2_with fail
      refine (HW.out.over0 HS0.out).mono ?_
      rintro e w5 ⟨rfl, rfl⟩
      go_wp2_with fail
      refine (VStep_all HE.out HM.out.okW HW.out (few_of _ (by omega))).mono ?_
      rintro e w6 ⟨rfl, h1, h2, o1⟩
      have htk : vtick W = 1 := by simp [vtick, HS0.out]
      rw [htk] at h2
      generalize hgb : ((vstep L W).2.out != 0) = gb
      have HW2 := hide h1
      have HE2 := hide h2
      have HC2 := hide (HCB.out.only o1 (fun h => by unfold S3 at h; omega))
      have HEB2 := hide (HEB.out.only o1 (fun h => by unfold S3 at h; omega))
      have HO2 := hide (S0.then3 HO.out o1 c_wb_ c2 c3)
      obtain ⟨hm', hmm'⟩ := HM.out.watch HS0.out
      have HMX := hide hm'
      have HMM := hide hmm'
      clear h1 h2 o1 hm' hmm' hgb htk
      generalize (vstep L W).1 = L2 at HE2 HMX
      generalize (vstep L W).2 = W2 at HW2 HMX HMM
      cases bg with
      | false =>
        go_wp2_with fail
        refine (Store_in (sz : Int) 1 HE2.out.mem HE2.out.few (by omega) (by rw [HMX.out.lenL]; omega)).mono ?_
        rintro e w7 ⟨rfl, h1, o1⟩
        rw [show ((sz : Int)).toNat = sz by omega] at h1
        have HE9 := hide (show VEnv w7 bm bc ((tc + 1) + 1) _ from ⟨h1, few_of _ (by omega)⟩)
        have HW9 := hide (HW2.out.only o1 (fun h => by unfold S2 at h; omega))
        have HC9 := hide (HC2.out.only o1 (fun h => by unfold S2 at h; omega))
        have HEB9 := hide (HEB2.out.only o1 (fun h => by unfold S2 at h; omega))
        have HO9 := hide (S0.then2 HO2.out o1 c2 c3)
        obtain ⟨hm', hmm'⟩ := HMX.out.mark
        have HM9 := hide hm'
        have HMM9 := hide hmm'
        clear h1 o1 hm' hmm'
        go_wp2_with fail
        go_roundg (len + 20 - (i + 1))
        case rel => exact ⟨i + 1, _, W2, C, E, (tc + 1) + 1, bk, bs, true, rfl, by omega, by go_num, rfl, rfl, rfl, HE9.out, HW9.out, HC9.out, HEB9.out, by omega, HM9.out, by have := HMM.out; have := HV1.out; omega, by have := HMM9.out; have := HV2.out; omega, HO9.out⟩
        case measure => omega
      | true =>
        go_wp2_with fail
        refine (VStep_all HE2.out HMX.out.okE HEB2.out (few_of _ (by omega))).mono ?_
        rintro e w7 ⟨rfl, h1, h2, o1⟩
        have htk : (tc + 1) + vtick E ≤ (tc + 1) + 1 := by unfold vtick; split <;> omega
        have HE9 := hide h2
        generalize hgb : ((vstep L2 E).2.out != 0) = gb
        have HEB9 := hide h1
        have HW9 := hide (HW2.out.only o1 (fun h => by unfold S3 at h; omega))
        have HC9 := hide (HC2.out.only o1 (fun h => by unfold S3 at h; omega))
        have HO9 := hide (S0.then3 HO2.out o1 c_eb_ c2 c3)
        obtain ⟨hm', hmm'⟩ := HMX.out.end_
        have HM9 := hide hm'
        have HMM9 := hide hmm'
        have HTK := hide htk
        clear h1 h2 o1 hm' hmm' hgb htk
        go_wp2_with fail
        go_roundg (len + 20 - (i + 1))
        case rel => exact ⟨i + 1, _, W2, C, _, _, bk, bs, true, rfl, by omega, by go_num, rfl, rfl, rfl, HE9.out, HW9.out, HC9.out, HEB9.out, by have := HTK.out; omega, HM9.out, by have := HMM.out; have := HV1.out; omega, by rw [HMM9.out]; omega, HO9.out⟩
        case measure => omega
    · cases bk with
      | false =>
        have HS0 := hide hs0
        clear hs0
        go_wp2_with fail
        refine (HW.out.over1 HS0.out).mono ?_
        rintro e w5 ⟨rfl, rfl⟩
        go_wp2_with fail
        refine (Load_in (sz : Int) HE.out.mem HE.out.few (by omega) (by rw [HM.out.lenL]; omega)).mono ?_
        rintro e w6 ⟨rfl, h1, o1⟩
        have HE2 := hide (show VEnv w6 bm bc (tc + 1) L from ⟨h1, few_of _ (by omega)⟩)
        have HW2 := hide (HW.out.only o1 (fun h => hnm1 h))
        have HC2 := hide (HCB.out.only o1 (fun h => hnm2 h))
        have HEB2 := hide (HEB.out.only o1 (fun h => hnm3 h))
        have HO2 := hide (S0.then1 HO.out o1 c2)
        obtain ⟨hm', hmm'⟩ := HM.out.look HS0.out
        have HMX := hide hm'
        have HMM := hide hmm'
        clear h1 o1 hm' hmm'
        generalize at_ L (sz : Int) = lv at HMX HMM ⊢
        cases bg with
        | false =>
          go_wp2_with fail
          refine (Store_in (sz : Int) 1 HE2.out.mem HE2.out.few (by omega) (by rw [HMX.out.lenL]; omega)).mono ?_
          rintro e w7 ⟨rfl, h1, o1⟩
          rw [show ((sz : Int)).toNat = sz by omega] at h1
          have HE9 := hide (show VEnv w7 bm bc ((tc + 1) + 1) _ from ⟨h1, few_of _ (by omega)⟩)
          have HW9 := hide (HW2.out.only o1 (fun h => by unfold S2 at h; omega))
          have HC9 := hide (HC2.out.only o1 (fun h => by unfold S2 at h; omega))
          have HEB9 := hide (HEB2.out.only o1 (fun h => by unfold S2 at h; omega))
          have HO9 := hide (S0.then2 HO2.out o1 c2 c3)
          obtain ⟨hm', hmm'⟩ := HMX.out.mark
          have HM9 := hide hm'
          have HMM9 := hide hmm'
          clear h1 o1 hm' hmm'
          go_wp2_with fail
          go_roundg (len + 20 - (i + 1))
          case rel => exact ⟨i + 1, _, W, C, E, (tc + 1) + 1, true, (lv == 1), true, rfl, by omega, by go_num, rfl, rfl, rfl, HE9.out, HW9.out, HC9.out, HEB9.out, by omega, HM9.out, by have := HMM.out; have := HV1.out; omega, by have := HMM9.out; have := HV2.out; omega, HO9.out⟩
          case measure => omega
        | true =>
          go_wp2_with fail
          refine (VStep_all HE2.out HMX.out.okE HEB2.out (few_of _ (by omega))).mono ?_
          rintro e w7 ⟨rfl, h1, h2, o1⟩
          have htk : (tc + 1) + vtick E ≤ (tc + 1) + 1 := by unfold vtick; split <;> omega
          have HE9 := hide h2
          generalize hgb : ((vstep L E).2.out != 0) = gb
          have HEB9 := hide h1
          have HW9 := hide (HW2.out.only o1 (fun h => by unfold S3 at h; omega))
          have HC9 := hide (HC2.out.only o1 (fun h => by unfold S3 at h; omega))
          have HO9 := hide (S0.then3 HO2.out o1 c_eb_ c2 c3)
          obtain ⟨hm', hmm'⟩ := HMX.out.end_
          have HM9 := hide hm'
          have HMM9 := hide hmm'
          have HTK := hide htk
          clear h1 h2 o1 hm' hmm' hgb htk
          go_wp2_with fail
          go_roundg (len + 20 - (i + 1))
          case rel => exact ⟨i + 1, _, W, C, _, _, true, (lv == 1), true, rfl, by omega, by go_num, rfl, rfl, rfl, HE9.out, HW9.out, HC9.out, HEB9.out, by have := HTK.out; omega, HM9.out, by have := HMM.out; have := HV1.out; omega, by rw [HMM9.out]; omega, HO9.out⟩
          case measure => omega
      | true =>
        cases bs with
        | true =>
          have HS0 := hide hs0
          clear hs0
          go_wp2_with fail
          refine (HW.out.over1 HS0.out).mono ?_
          rintro e w5 ⟨rfl, rfl⟩
          go_wp2_with fail
          refine (VStep_all HE.out HM.out.okC HCB.out (few_of _ (by omega))).mono ?_
          rintro e w6 ⟨rfl, h1, h2, o1⟩
          have htk : vtick C ≤ 1 := by unfold vtick; split <;> omega
          obtain ⟨tk, htk2⟩ : ∃ tk, tc + vtick C = tk := ⟨_, rfl⟩
          have htk3 : tk ≤ tc + 1 := by omega
          rw [htk2] at h2
          generalize hgb : ((vstep L C).2.out != 0) = gb
          have HC2 := hide h1
          have HE2 := hide h2
          have HW2 := hide (HW.out.only o1 (fun h => by unfold S3 at h; omega))
          have HEB2 := hide (HEB.out.only o1 (fun h => by unfold S3 at h; omega))
          have HO2 := hide (S0.then3 HO.out o1 c_cb_ c2 c3)
          obtain ⟨hm', hmm'⟩ := HM.out.claim
          have HMX := hide hm'
          have HMM := hide hmm'
          clear h1 h2 o1 hm' hmm' hgb htk htk2
          generalize (vstep L C).1 = L2 at HE2 HMX
          generalize (vstep L C).2 = C2 at HC2 HMX HMM
          cases bg with
          | false =>
            go_wp2_with fail
            refine (Store_in (sz : Int) 1 HE2.out.mem HE2.out.few (by omega) (by rw [HMX.out.lenL]; omega)).mono ?_
            rintro e w7 ⟨rfl, h1, o1⟩
            rw [show ((sz : Int)).toNat = sz by omega] at h1
            have HE9 := hide (show VEnv w7 bm bc (tk + 1) _ from ⟨h1, few_of _ (by omega)⟩)
            have HW9 := hide (HW2.out.only o1 (fun h => by unfold S2 at h; omega))
            have HC9 := hide (HC2.out.only o1 (fun h => by unfold S2 at h; omega))
            have HEB9 := hide (HEB2.out.only o1 (fun h => by unfold S2 at h; omega))
            have HO9 := hide (S0.then2 HO2.out o1 c2 c3)
            obtain ⟨hm', hmm'⟩ := HMX.out.mark
            have HM9 := hide hm'
            have HMM9 := hide hmm'
            clear h1 o1 hm' hmm'
            go_wp2_with fail
            go_roundg (len + 20 - (i + 1))
            case rel => exact ⟨i + 1, _, W, C2, E, tk + 1, true, true, true, rfl, by omega, by go_num, rfl, rfl, rfl, HE9.out, HW9.out, HC9.out, HEB9.out, by omega, HM9.out, by have := HMM.out; have := HV1.out; omega, by have := HMM9.out; have := HV2.out; omega, HO9.out⟩
            case measure => omega
          | true =>
            go_wp2_with fail
            refine (VStep_all HE2.out HMX.out.okE HEB2.out (few_of _ (by omega))).mono ?_
            rintro e w7 ⟨rfl, h1, h2, o1⟩
            have htk : tk + vtick E ≤ tk + 1 := by unfold vtick; split <;> omega
            have HE9 := hide h2
            generalize hgb : ((vstep L2 E).2.out != 0) = gb
            have HEB9 := hide h1
            have HW9 := hide (HW2.out.only o1 (fun h => by unfold S3 at h; omega))
            have HC9 := hide (HC2.out.only o1 (fun h => by unfold S3 at h; omega))
            have HO9 := hide (S0.then3 HO2.out o1 c_eb_ c2 c3)
            obtain ⟨hm', hmm'⟩ := HMX.out.end_
            have HM9 := hide hm'
            have HMM9 := hide hmm'
            have HTK := hide htk
            clear h1 h2 o1 hm' hmm' hgb htk
            go_wp2_with fail
            go_roundg (len + 20 - (i + 1))
            case rel => exact ⟨i + 1, _, W, C2, _, _, true, true, true, rfl, by omega, by go_num, rfl, rfl, rfl, HE9.out, HW9.out, HC9.out, HEB9.out, by have := HTK.out; omega, HM9.out, by have := HMM.out; have := HV1.out; omega, by rw [HMM9.out]; omega, HO9.out⟩
            case measure => omega
        | false =>
          have HS0 := hide hs0
          clear hs0
          go_wp2_with fail
          refine (HW.out.over1 HS0.out).mono ?_
          rintro e w5 ⟨rfl, rfl⟩
          have HMM := hide (show v1 W C true false = 0 by simp [v1, HS0.out])
          cases bg with
          | false =>
            go_wp2_with fail
            refine (Store_in (sz : Int) 1 HE.out.mem HE.out.few (by omega) (by rw [HM.out.lenL]; omega)).mono ?_
            rintro e w7 ⟨rfl, h1, o1⟩
            rw [show ((sz : Int)).toNat = sz by omega] at h1
            have HE9 := hide (show VEnv w7 bm bc (tc + 1) _ from ⟨h1, few_of _ (by omega)⟩)
            have HW9 := hide (HW.out.only o1 (fun h => by unfold S2 at h; omega))
            have HC9 := hide (HCB.out.only o1 (fun h => by unfold S2 at h; omega))
            have HEB9 := hide (HEB.out.only o1 (fun h => by unfold S2 at h; omega))
            have HO9 := hide (S0.then2 HO.out o1 c2 c3)
            obtain ⟨hm', hmm'⟩ := HM.out.mark
            have HM9 := hide hm'
            have HMM9 := hide hmm'
            clear h1 o1 hm' hmm'
            go_wp2_with fail
            go_roundg (len + 20 - (i + 1))
            case rel => exact ⟨i + 1, _, W, C, E, tc + 1, true, false, true, rfl, by omega, by go_num, rfl, rfl, rfl, HE9.out, HW9.out, HC9.out, HEB9.out, by omega, HM9.out, by rw [HMM.out]; omega, by have := HMM9.out; have := HV2.out; omega, HO9.out⟩
            case measure => omega
          | true =>
            go_wp2_with fail
            refine (VStep_all HE.out HM.out.okE HEB.out (few_of _ (by omega))).mono ?_
            rintro e w7 ⟨rfl, h1, h2, o1⟩
            have htk : tc + vtick E ≤ tc + 1 := by unfold vtick; split <;> omega
            have HE9 := hide h2
            generalize hgb : ((vstep L E).2.out != 0) = gb
            have HEB9 := hide h1
            have HW9 := hide (HW.out.only o1 (fun h => by unfold S3 at h; omega))
            have HC9 := hide (HCB.out.only o1 (fun h => by unfold S3 at h; omega))
            have HO9 := hide (S0.then3 HO.out o1 c_eb_ c2 c3)
            obtain ⟨hm', hmm'⟩ := HM.out.end_
            have HM9 := hide hm'
            have HMM9 := hide hmm'
            have HTK := hide htk
            clear h1 h2 o1 hm' hmm' hgb htk
            go_wp2_with fail
            go_roundg (len + 20 - (i + 1))
            case rel => exact ⟨i + 1, _, W, C, _, _, true, false, true, rfl, by omega, by go_num, rfl, rfl, rfl, HE9.out, HW9.out, HC9.out, HEB9.out, by have := HTK.out; omega, HM9.out, by rw [HMM.out]; omega, by rw [HMM9.out]; omega, HO9.out⟩
            case measure => omega
  obtain rfl : i = len + 20 := by omega
  obtain ⟨rfl, hw1, rfl, hh⟩ := HM.out.fin (by have := HV1.out; omega) (by have := HV2.out; omega)
  have HW1 := hide hw1
  clear hw1
  rcases hh with ⟨rfl, rfl⟩ | ⟨rfl, rfl, rfl⟩ | ⟨rfl, rfl, rfl⟩
  · go_wp2_with fail
    refine (HEB.out.over1 (by simp)).mono ?_
    rintro e w5 ⟨rfl, rfl⟩
    go_wp2_with fail
    refine HW.out.outcome.mono ?_
    rintro e w5 ⟨rfl, rfl⟩
    rw [HW1.out]
    go_wp2_with fail
    refine HEB.out.outcome.mono ?_
    rintro e w5 ⟨rfl, rfl⟩
    go_wp2_with fail
    go_ret
    exact ⟨rfl, S0.below HO.out⟩
  · go_wp2_with fail
    refine HCB.out.outcome.mono ?_
    rintro e w5 ⟨rfl, rfl⟩
    go_wp2_with fail
    refine (HEB.out.over1 (by simp)).mono ?_
    rintro e w5 ⟨rfl, rfl⟩
    go_wp2_with fail
    refine HW.out.outcome.mono ?_
    rintro e w5 ⟨rfl, rfl⟩
    rw [HW1.out]
    go_wp2_with fail
    refine HEB.out.outcome.mono ?_
    rintro e w5 ⟨rfl, rfl⟩
    go_wp2_with fail
    go_ret
    exact ⟨rfl, S0.below HO.out⟩
  · go_wp2_with fail
    refine HCB.out.outcome.mono ?_
    rintro e w5 ⟨rfl, rfl⟩
    go_wp2_with fail
    refine (HEB.out.over1 (by simp)).mono ?_
    rintro e w5 ⟨rfl, rfl⟩
    go_wp2_with fail
    refine HW.out.outcome.mono ?_
    rintro e w5 ⟨rfl, rfl⟩
    rw [HW1.out]
    go_wp2_with fail
    refine HEB.out.outcome.mono ?_
    rintro e w5 ⟨rfl, rfl⟩
    go_wp2_with fail
    go_ret
    exact ⟨rfl, S0.below HO.out⟩
end Go.Proofs.Ytafnlmkhfonghaa
