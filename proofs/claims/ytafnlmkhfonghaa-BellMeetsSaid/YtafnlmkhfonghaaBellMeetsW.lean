/-
  BellMeets, the walk.
-/
import Derived.Test.YtafnlmkhfonghaaBellMeetsP
namespace Go.Proofs.Ytafnlmkhfonghaa
open Go.RowKit
set_option linter.unusedVariables false

set_option maxRecDepth 100000 in
set_option maxHeartbeats 4000000 in
theorem bellMeets_walk (a0 a1 : Int) (a : Option Addr) (len cap : Nat) (xs : List Bool) (w : World) (w0 : (Lit.int .u8 a0).wf = true) (w1 : (Lit.int .u8 a1).wf = true) (w2 : InBools w a len xs) :
    Calls Try.prog 3 #[.int .u8 a0, .int .u8 a1, .slice a len cap] w fun e w' => e = .returned (.bool true) ∧ Below w.heap.size w w' := by
  have hbig := w2.big
  have k1 := (bounds_u8 w0).1
  have k2 := (bounds_u8 w0).2
  have k3 := (bounds_u8 w1).1
  have k4 := (bounds_u8 w1).2
  have HC := hide w2.cells
  clear w0 w1 w2
  obtain ⟨n, hn⟩ : ∃ n : Nat, 1 + a0 % 8 = (n : Int) := ⟨(1 + a0 % 8).toNat, by omega⟩
  have n1 : 1 ≤ n := by omega
  have n8 : n ≤ 8 := by omega
  obtain ⟨s, hs⟩ : ∃ s : Nat, a1 % (n : Int) = (s : Int) := ⟨(a1 % (n : Int)).toNat, by have := Int.emod_nonneg a1 (show (n : Int) ≠ 0 by omega); omega⟩
  have hsn : s < n := by have := Int.emod_lt_of_pos a1 (show (0 : Int) < n by omega); omega
  go_enter Try.func3, Try.ntmps3
  go_wp2_with fail
  refine (alive6_any w).mono ?_
  rintro e wa ⟨rfl, p1⟩
  have P1 := hide p1
  clear p1
  go_wp2_with fail
  simp only [hs]
  have HN := hide hn
  have HS := hide hs
  clear hn hs k1 k2 k3 k4
  refine (made6_any n (w := wa) (a := none) (len := 0) (cap := 0) (xs := []) n1 n8 ⟨rfl, by omega, fun h => (h rfl).elim⟩).mono ?_
  rintro e wb ⟨bb, bm, bc, L0, tc0, rfl, he, htc, hm, p2, b1, b2, b3⟩
  have HE := hide he
  have HM := hide hm
  have PP := hide (P1.out.trans p2)
  have c1 : w.heap.size ≤ bb := Nat.le_trans P1.out.size b1
  have c2 : w.heap.size ≤ bm := Nat.le_trans P1.out.size b2
  have c3 : w.heap.size ≤ bc := Nat.le_trans P1.out.size b3
  clear he hm p2 b1 b2 b3 P1
  go_wp2_with fail
  refine (BSleep_all (s : Int) HE.out).mono ?_
  rintro e w3 ⟨sb, rfl, h3, he3, p3, b3⟩
  rw [bout0_in (by omega) (by omega)] at h3
  have HSB := hide h3
  have HE3 := hide he3
  have P3 := hide (PP.out.trans p3)
  have c4 : w.heap.size ≤ sb := Nat.le_trans PP.out.size b3
  clear h3 he3 p3 b3 HE PP
  go_wp2_with fail
  refine (BRing_all HE3.out).mono ?_
  rintro e w4 ⟨rb, rfl, h3, he3, p3, b3⟩
  rw [bout0_in (by omega) (by omega)] at h3
  have HRB := hide h3
  have HE := hide he3
  have hsr : sb ≠ rb := by have := Blk.lt HSB.out; omega
  have HSB4 := hide (HSB.out.only p3 (fun h => h))
  have PP := hide (P3.out.trans p3)
  have c5 : w.heap.size ≤ rb := Nat.le_trans P3.out.size b3
  clear h3 he3 p3 b3 HE3 P3 HSB
  go_wp2_with fail
  have hnm : sb ≠ bm := Blk.ne_ HSB4.out HE.out.mem.mem (by decide)
  have hnc : sb ≠ bc := Blk.ne_ HSB4.out HE.out.mem.cells (by decide)
  have hrm : rb ≠ bm := Blk.ne_ HRB.out HE.out.mem.mem (by decide)
  have hrc : rb ≠ bc := Blk.ne_ HRB.out HE.out.mem.cells (by decide)
  have hbm : bb ≠ bm := Blk.ne_ HE.out.bell HE.out.mem.mem (by decide)
  have hbc : bb ≠ bc := Blk.ne_ HE.out.bell HE.out.mem.cells (by decide)
  go_loopg [13, 14, 15, 16, 17, 18] (len + 40) (fun q saw looked brought iv v17 v18 wr => ∃ (i : Nat) (L : List Int) (S R : Bop) (tc : Int) (bs bk bg : Bool), q = len + 40 - i ∧ i ≤ len + 40 ∧ iv = .int .i64 i ∧ saw = .bool bs ∧ looked = .bool bk ∧ brought = .bool bg ∧
    BellEnv wr bb bm bc 0 n tc L ∧ BopIs wr sb bb S ∧ BopIs wr rb bb R ∧ tc ≤ 1000 + 2 * i ∧ Meets n s L S R bk bs bg ∧ m1 S bk ≤ 40 - (i - len) ∧ m2 n R bg ≤ 40 - (i - len) ∧ Only S0 w wr)
  case atStart =>
    refine ⟨0, L0, ⟨0, s, 0⟩, ⟨3, 0, 0⟩, tc0, false, false, false, rfl, by omega, rfl, rfl, rfl, rfl, HE.out, HSB4.out, HRB.out, by omega, meets_start hsn HM.out.lenL (fun i => ?_), by simp [m1], by simp [m2]; omega, PP.out⟩
    by_cases hi : i < n
    · rw [HM.out.done i hi, slept, if_neg (by omega)]
    · exact HM.out.rest i (by omega)
  case round =>
    clear HE PP HSB4 HRB HM
    obtain ⟨i, L, S, R, tc, bs, bk, bg, rfl, hi, rfl, rfl, rfl, rfl, he, hsb, hrb, htc, hm, hm1, hm2, ho⟩ := hrel
    have HE := hide he
    have HSB := hide hsb
    have HRB := hide hrb
    have HM := hide hm
    have HO := hide ho
    have HM1 := hide hm1
    have HM2 := hide hm2
    clear he hsb hrb hm ho hm1 hm2
    by_cases hlt : i < len
    · obtain ⟨g, off, rfl, hg, hc⟩ := HC.out (by omega)
      have ce := (HO.out.cell (p := ⟨g, off + i, none⟩) hg (fun h => h)).trans (hc i hlt)
      have HCC := hide hc
      clear hc
      obtain ⟨x, hx⟩ : ∃ x, eltB xs i = x := ⟨_, rfl⟩
      rw [hx] at ce
      have HX := hide hx
      clear hx
      cases x with
      | true =>
        by_cases hs0 : S.out = 0
        · have HS0 := hide hs0
          clear hs0
          go_wp2_with fail
          refine (HSB.out.over0 HS0.out).mono ?_
          rintro e w5 ⟨rfl, rfl⟩
          go_wp2_with fail
          refine (BStep_all HE.out HM.out.okS HSB.out (few_of _ (by omega))).mono ?_
          rintro e w6 ⟨rfl, h1, h2, o1⟩
          have htk : btick S = 1 := by simp [btick, HS0.out]
          rw [htk] at h2
          generalize hgb : ((bstep 0 n L S).2.out != 0) = gb
          have HSB2 := hide h1
          have HE2 := hide h2
          have HRB2 := hide (HRB.out.only o1 (fun h => by unfold S3 at h; omega))
          have HO2 := hide (S0.then3 HO.out o1 c4 c2 c3)
          have ce6 := (HO2.out.cell (p := ⟨g, off + i, none⟩) hg (fun h => h)).trans (HCC.out i hlt)
          rw [HX.out] at ce6
          obtain ⟨hm', hmm'⟩ := HM.out.sleep HS0.out
          have HMX := hide hm'
          have HMM := hide hmm'
          clear h1 h2 o1 hm' hmm' hgb htk
          generalize (bstep 0 n L S).1 = L2 at HE2 HMX
          generalize (bstep 0 n L S).2 = S2' at HSB2 HMX HMM
          go_wp2_with fail
          go_roundg (len + 40 - (i + 1))
          case rel => exact ⟨i + 1, L2, S2', R, (tc + 1), bs, bk, bg, rfl, by omega, by go_num, rfl, rfl, rfl, HE2.out, HSB2.out, HRB2.out, by omega, HMX.out, by have := HMM.out; have := HM1.out; omega, by have := HM2.out; omega, HO2.out⟩
          case measure => omega
        · cases bk with
          | false =>
            have HS0 := hide hs0
            clear hs0
            go_wp2_with fail
            refine (HSB.out.over1 HS0.out).mono ?_
            rintro e w5 ⟨rfl, rfl⟩
            go_wp2_with fail
            refine (Load_in (n : Int) HE.out.mem HE.out.few (by omega) (by rw [HM.out.lenL]; omega)).mono ?_
            rintro e w6 ⟨rfl, h1, o1⟩
            have HE2 := hide (show BellEnv w6 bb bm bc 0 n (tc + 1) L from HE.out.next h1 (few_of _ (by omega)) rfl (HE.out.bell.only o1 (fun h => hbm h)))
            have HSB2 := hide (HSB.out.only o1 (fun h => hnm h))
            have HRB2 := hide (HRB.out.only o1 (fun h => hrm h))
            have HO2 := hide (S0.then1 HO.out o1 c2)
            have ce6 := (HO2.out.cell (p := ⟨g, off + i, none⟩) hg (fun h => h)).trans (HCC.out i hlt)
            rw [HX.out] at ce6
            obtain ⟨hm', hmm'⟩ := HM.out.look HS0.out
            have HMX := hide hm'
            have HMM := hide hmm'
            clear h1 o1 hm' hmm'
            generalize at_ L (n : Int) = lv at HMX ⊢
            go_wp2_with fail
            go_roundg (len + 40 - (i + 1))
            case rel => exact ⟨i + 1, L, S, R, (tc + 1), (lv == 1), true, bg, rfl, by omega, by go_num, rfl, rfl, rfl, HE2.out, HSB2.out, HRB2.out, by omega, HMX.out, by have := HMM.out; have := HM1.out; omega, by have := HM2.out; omega, HO2.out⟩
            case measure => omega
          | true =>
            have HS0 := hide hs0
            clear hs0
            go_wp2_with fail
            refine (HSB.out.over1 HS0.out).mono ?_
            rintro e w5 ⟨rfl, rfl⟩
            have HMM := hide (show m1 S true = 0 by simp [m1, HS0.out])
            go_wp2_with fail
            go_roundg (len + 40 - (i + 1))
            case rel => exact ⟨i + 1, L, S, R, tc, bs, true, bg, rfl, by omega, by go_num, rfl, rfl, rfl, HE.out, HSB.out, HRB.out, by omega, HM.out, by rw [HMM.out]; omega, by have := HM2.out; omega, HO.out⟩
            case measure => omega
      | false =>
        cases bg with
        | false =>
          go_wp2_with fail
          refine (Store_in (n : Int) 1 HE.out.mem HE.out.few (by omega) (by rw [HM.out.lenL]; omega)).mono ?_
          rintro e w7 ⟨rfl, h1, o1⟩
          rw [show ((n : Int)).toNat = n by omega] at h1
          have HE9 := hide (HE.out.next h1 (few_of _ (by omega)) (by simp) (HE.out.bell.only o1 (fun h => by unfold S2 at h; omega)))
          have HSB9 := hide (HSB.out.only o1 (fun h => by unfold S2 at h; omega))
          have HRB9 := hide (HRB.out.only o1 (fun h => by unfold S2 at h; omega))
          have HO9 := hide (S0.then2 HO.out o1 c2 c3)
          obtain ⟨hm', hmm'⟩ := HM.out.bring
          have HM9 := hide hm'
          have HMM9 := hide hmm'
          clear h1 o1 hm' hmm'
          go_wp2_with fail
          go_roundg (len + 40 - (i + 1))
          case rel => exact ⟨i + 1, _, S, R, tc + 1, bs, bk, true, rfl, by omega, by go_num, rfl, rfl, rfl, HE9.out, HSB9.out, HRB9.out, by omega, HM9.out, by have := HM1.out; omega, by have := HMM9.out; have := HM2.out; omega, HO9.out⟩
          case measure => omega
        | true =>
          go_wp2_with fail
          refine (BStep_all HE.out HM.out.okR HRB.out (few_of _ (by omega))).mono ?_
          rintro e w7 ⟨rfl, h1, h2, o1⟩
          have htk : tc + btick R ≤ tc + 1 := by unfold btick; split <;> omega
          have HE9 := hide h2
          generalize hgb : ((bstep 0 n L R).2.out != 0) = gb
          have HRB9 := hide h1
          have HSB9 := hide (HSB.out.only o1 (fun h => by unfold S3 at h; omega))
          have HO9 := hide (S0.then3 HO.out o1 c5 c2 c3)
          obtain ⟨hm', hmm'⟩ := HM.out.ring
          have HM9 := hide hm'
          have HMM9 := hide hmm'
          have HTK := hide htk
          clear h1 h2 o1 hm' hmm' hgb htk
          go_wp2_with fail
          go_roundg (len + 40 - (i + 1))
          case rel => exact ⟨i + 1, _, S, _, _, bs, bk, true, rfl, by omega, by go_num, rfl, rfl, rfl, HE9.out, HSB9.out, HRB9.out, by have := HTK.out; omega, HM9.out, by have := HM1.out; omega, by have := HMM9.out; have := HM2.out; omega, HO9.out⟩
          case measure => omega
    · by_cases hlt2 : i < len + 40
      · by_cases hs0 : S.out = 0
        · have HS0 := hide hs0
          clear hs0
          go_wp2_with fail
          refine (HSB.out.over0 HS0.out).mono ?_
          rintro e w5 ⟨rfl, rfl⟩
          go_wp2_with fail
          refine (BStep_all HE.out HM.out.okS HSB.out (few_of _ (by omega))).mono ?_
          rintro e w6 ⟨rfl, h1, h2, o1⟩
          have htk : btick S = 1 := by simp [btick, HS0.out]
          rw [htk] at h2
          generalize hgb : ((bstep 0 n L S).2.out != 0) = gb
          have HSB2 := hide h1
          have HE2 := hide h2
          have HRB2 := hide (HRB.out.only o1 (fun h => by unfold S3 at h; omega))
          have HO2 := hide (S0.then3 HO.out o1 c4 c2 c3)
          obtain ⟨hm', hmm'⟩ := HM.out.sleep HS0.out
          have HMX := hide hm'
          have HMM := hide hmm'
          clear h1 h2 o1 hm' hmm' hgb htk
          generalize (bstep 0 n L S).1 = L2 at HE2 HMX
          generalize (bstep 0 n L S).2 = S2' at HSB2 HMX HMM
          cases bg with
          | false =>
            go_wp2_with fail
            refine (Store_in (n : Int) 1 HE2.out.mem HE2.out.few (by omega) (by rw [HMX.out.lenL]; omega)).mono ?_
            rintro e w7 ⟨rfl, h1, o1⟩
            rw [show ((n : Int)).toNat = n by omega] at h1
            have HE9 := hide (HE2.out.next h1 (few_of _ (by omega)) (by simp) (HE2.out.bell.only o1 (fun h => by unfold S2 at h; omega)))
            have HSB9 := hide (HSB2.out.only o1 (fun h => by unfold S2 at h; omega))
            have HRB9 := hide (HRB2.out.only o1 (fun h => by unfold S2 at h; omega))
            have HO9 := hide (S0.then2 HO2.out o1 c2 c3)
            obtain ⟨hm', hmm'⟩ := HMX.out.bring
            have HM9 := hide hm'
            have HMM9 := hide hmm'
            clear h1 o1 hm' hmm'
            go_wp2_with fail
            go_roundg (len + 40 - (i + 1))
            case rel => exact ⟨i + 1, _, S2', R, (tc + 1) + 1, bs, bk, true, rfl, by omega, by go_num, rfl, rfl, rfl, HE9.out, HSB9.out, HRB9.out, by omega, HM9.out, by have := HMM.out; have := HM1.out; omega, by have := HMM9.out; have := HM2.out; omega, HO9.out⟩
            case measure => omega
          | true =>
            go_wp2_with fail
            refine (BStep_all HE2.out HMX.out.okR HRB2.out (few_of _ (by omega))).mono ?_
            rintro e w7 ⟨rfl, h1, h2, o1⟩
            have htk : (tc + 1) + btick R ≤ (tc + 1) + 1 := by unfold btick; split <;> omega
            have HE9 := hide h2
            generalize hgb : ((bstep 0 n L2 R).2.out != 0) = gb
            have HRB9 := hide h1
            have HSB9 := hide (HSB2.out.only o1 (fun h => by unfold S3 at h; omega))
            have HO9 := hide (S0.then3 HO2.out o1 c5 c2 c3)
            obtain ⟨hm', hmm'⟩ := HMX.out.ring
            have HM9 := hide hm'
            have HMM9 := hide hmm'
            have HTK := hide htk
            clear h1 h2 o1 hm' hmm' hgb htk
            go_wp2_with fail
            go_roundg (len + 40 - (i + 1))
            case rel => exact ⟨i + 1, _, S2', _, _, bs, bk, true, rfl, by omega, by go_num, rfl, rfl, rfl, HE9.out, HSB9.out, HRB9.out, by have := HTK.out; omega, HM9.out, by have := HMM.out; have := HM1.out; omega, by have := HMM9.out; have := HM2.out; omega, HO9.out⟩
            case measure => omega
        · cases bk with
          | false =>
            have HS0 := hide hs0
            clear hs0
            go_wp2_with fail
            refine (HSB.out.over1 HS0.out).mono ?_
            rintro e w5 ⟨rfl, rfl⟩
            go_wp2_with fail
            refine (Load_in (n : Int) HE.out.mem HE.out.few (by omega) (by rw [HM.out.lenL]; omega)).mono ?_
            rintro e w6 ⟨rfl, h1, o1⟩
            have HE2 := hide (show BellEnv w6 bb bm bc 0 n (tc + 1) L from HE.out.next h1 (few_of _ (by omega)) rfl (HE.out.bell.only o1 (fun h => hbm h)))
            have HSB2 := hide (HSB.out.only o1 (fun h => hnm h))
            have HRB2 := hide (HRB.out.only o1 (fun h => hrm h))
            have HO2 := hide (S0.then1 HO.out o1 c2)
            obtain ⟨hm', hmm'⟩ := HM.out.look HS0.out
            have HMX := hide hm'
            have HMM := hide hmm'
            clear h1 o1 hm' hmm'
            generalize at_ L (n : Int) = lv at HMX ⊢
            cases bg with
            | false =>
              go_wp2_with fail
              refine (Store_in (n : Int) 1 HE2.out.mem HE2.out.few (by omega) (by rw [HMX.out.lenL]; omega)).mono ?_
              rintro e w7 ⟨rfl, h1, o1⟩
              rw [show ((n : Int)).toNat = n by omega] at h1
              have HE9 := hide (HE2.out.next h1 (few_of _ (by omega)) (by simp) (HE2.out.bell.only o1 (fun h => by unfold S2 at h; omega)))
              have HSB9 := hide (HSB2.out.only o1 (fun h => by unfold S2 at h; omega))
              have HRB9 := hide (HRB2.out.only o1 (fun h => by unfold S2 at h; omega))
              have HO9 := hide (S0.then2 HO2.out o1 c2 c3)
              obtain ⟨hm', hmm'⟩ := HMX.out.bring
              have HM9 := hide hm'
              have HMM9 := hide hmm'
              clear h1 o1 hm' hmm'
              go_wp2_with fail
              go_roundg (len + 40 - (i + 1))
              case rel => exact ⟨i + 1, _, S, R, (tc + 1) + 1, (lv == 1), true, true, rfl, by omega, by go_num, rfl, rfl, rfl, HE9.out, HSB9.out, HRB9.out, by omega, HM9.out, by have := HMM.out; have := HM1.out; omega, by have := HMM9.out; have := HM2.out; omega, HO9.out⟩
              case measure => omega
            | true =>
              go_wp2_with fail
              refine (BStep_all HE2.out HMX.out.okR HRB2.out (few_of _ (by omega))).mono ?_
              rintro e w7 ⟨rfl, h1, h2, o1⟩
              have htk : (tc + 1) + btick R ≤ (tc + 1) + 1 := by unfold btick; split <;> omega
              have HE9 := hide h2
              generalize hgb : ((bstep 0 n L R).2.out != 0) = gb
              have HRB9 := hide h1
              have HSB9 := hide (HSB2.out.only o1 (fun h => by unfold S3 at h; omega))
              have HO9 := hide (S0.then3 HO2.out o1 c5 c2 c3)
              obtain ⟨hm', hmm'⟩ := HMX.out.ring
              have HM9 := hide hm'
              have HMM9 := hide hmm'
              have HTK := hide htk
              clear h1 h2 o1 hm' hmm' hgb htk
              go_wp2_with fail
              go_roundg (len + 40 - (i + 1))
              case rel => exact ⟨i + 1, _, S, _, _, (lv == 1), true, true, rfl, by omega, by go_num, rfl, rfl, rfl, HE9.out, HSB9.out, HRB9.out, by have := HTK.out; omega, HM9.out, by have := HMM.out; have := HM1.out; omega, by have := HMM9.out; have := HM2.out; omega, HO9.out⟩
              case measure => omega
          | true =>
            have HS0 := hide hs0
            clear hs0
            go_wp2_with fail
            refine (HSB.out.over1 HS0.out).mono ?_
            rintro e w5 ⟨rfl, rfl⟩
            have HMM := hide (show m1 S true = 0 by simp [m1, HS0.out])
            cases bg with
            | false =>
              go_wp2_with fail
              refine (Store_in (n : Int) 1 HE.out.mem HE.out.few (by omega) (by rw [HM.out.lenL]; omega)).mono ?_
              rintro e w7 ⟨rfl, h1, o1⟩
              rw [show ((n : Int)).toNat = n by omega] at h1
              have HE9 := hide (HE.out.next h1 (few_of _ (by omega)) (by simp) (HE.out.bell.only o1 (fun h => by unfold S2 at h; omega)))
              have HSB9 := hide (HSB.out.only o1 (fun h => by unfold S2 at h; omega))
              have HRB9 := hide (HRB.out.only o1 (fun h => by unfold S2 at h; omega))
              have HO9 := hide (S0.then2 HO.out o1 c2 c3)
              obtain ⟨hm', hmm'⟩ := HM.out.bring
              have HM9 := hide hm'
              have HMM9 := hide hmm'
              clear h1 o1 hm' hmm'
              go_wp2_with fail
              go_roundg (len + 40 - (i + 1))
              case rel => exact ⟨i + 1, _, S, R, tc + 1, bs, true, true, rfl, by omega, by go_num, rfl, rfl, rfl, HE9.out, HSB9.out, HRB9.out, by omega, HM9.out, by rw [HMM.out]; omega, by have := HMM9.out; have := HM2.out; omega, HO9.out⟩
              case measure => omega
            | true =>
              go_wp2_with fail
              refine (BStep_all HE.out HM.out.okR HRB.out (few_of _ (by omega))).mono ?_
              rintro e w7 ⟨rfl, h1, h2, o1⟩
              have htk : tc + btick R ≤ tc + 1 := by unfold btick; split <;> omega
              have HE9 := hide h2
              generalize hgb : ((bstep 0 n L R).2.out != 0) = gb
              have HRB9 := hide h1
              have HSB9 := hide (HSB.out.only o1 (fun h => by unfold S3 at h; omega))
              have HO9 := hide (S0.then3 HO.out o1 c5 c2 c3)
              obtain ⟨hm', hmm'⟩ := HM.out.ring
              have HM9 := hide hm'
              have HMM9 := hide hmm'
              have HTK := hide htk
              clear h1 h2 o1 hm' hmm' hgb htk
              go_wp2_with fail
              go_roundg (len + 40 - (i + 1))
              case rel => exact ⟨i + 1, _, S, _, _, bs, true, true, rfl, by omega, by go_num, rfl, rfl, rfl, HE9.out, HSB9.out, HRB9.out, by have := HTK.out; omega, HM9.out, by rw [HMM.out]; omega, by have := HMM9.out; have := HM2.out; omega, HO9.out⟩
              case measure => omega
      · obtain rfl : i = len + 40 := by omega
        obtain ⟨rfl, hs0, rfl, hh⟩ := HM.out.end_ (by have := HM1.out; omega) (by have := HM2.out; omega)
        have hs1 : (0 : Int) ≤ s := by omega
        have hs2 : (s : Int) < n := by omega
        have HH := hide hh
        have hneg : ((-1 : Int) == (s : Int)) = false := by rw [beq_eq_false_iff_ne]; omega
        clear hh hs0
        go_wp2_with fail
        refine (BPoll_all (s : Int) HE.out).mono ?_
        rintro e w5 ⟨pb, rfl, h3, he3, p3, b3⟩
        have HPB := hide h3
        have HE3 := hide he3
        have HRB3 := hide (HRB.out.only p3 (fun h => h))
        have HO3 := hide (HO.out.trans p3)
        have c6 : w.heap.size ≤ pb := Nat.le_trans HO.out.size b3
        have hrp : rb ≠ pb := by have := Blk.lt HRB.out; omega
        clear h3 he3 p3 b3
        go_wp2_with fail
        refine (bdone_any HE3.out (bok_new _ (by decide) _ _) HPB.out (few_of _ (by omega))).mono ?_
        rintro e w6 ⟨rfl, -, -, -, o1, -⟩
        rw [bdone_poll _ _ _ _ hs1 hs2]
        unfold bdoneV
        have HO4 := hide (S0.then3 HO3.out o1 c6 c2 c3)
        have HRB4 := hide (HRB3.out.only o1 (fun h => by unfold S3 at h; omega))
        clear o1
        rcases HH.out with ⟨hr, rfl, hp⟩ | ⟨hr, hp⟩
        · rw [hp]
          subst hr
          clear hp HH
          go_wp2_with fail
          refine (HRB4.out.over1 (by simp)).mono ?_
          rintro e w7 ⟨rfl, rfl⟩
          go_wp2_with fail
          refine HRB4.out.whoIs.mono ?_
          rintro e w7 ⟨rfl, rfl⟩
          rw [show bwho (⟨3, (n : Int), 4⟩ : Bop).who (⟨3, (n : Int), 4⟩ : Bop).out = -1 from by simp [bwho]]
          go_wp2_with fail
          go_ret
          exact ⟨rfl, S0.below HO4.out⟩
        · rw [hp]
          subst hr
          clear hp HH hneg
          cases bs with
          | true =>
            go_wp2_with fail
            refine (HRB4.out.over1 (by simp)).mono ?_
            rintro e w7 ⟨rfl, rfl⟩
            go_wp2_with fail
            refine HRB4.out.whoIs.mono ?_
            rintro e w7 ⟨rfl, rfl⟩
            rw [show bwho (⟨4, (s : Int), 7⟩ : Bop).who (⟨4, (s : Int), 7⟩ : Bop).out = s from by simp [bwho]]
            go_wp2_with fail
            go_ret
            exact ⟨rfl, S0.below HO4.out⟩
          | false =>
            go_wp2_with fail
            refine (HRB4.out.over1 (by simp)).mono ?_
            rintro e w7 ⟨rfl, rfl⟩
            go_wp2_with fail
            refine HRB4.out.whoIs.mono ?_
            rintro e w7 ⟨rfl, rfl⟩
            rw [show bwho (⟨4, (s : Int), 7⟩ : Bop).who (⟨4, (s : Int), 7⟩ : Bop).out = s from by simp [bwho]]
            go_wp2_with fail
            refine HRB4.out.whoIs.mono ?_
            rintro e w7 ⟨rfl, rfl⟩
            rw [show bwho (⟨4, (s : Int), 7⟩ : Bop).who (⟨4, (s : Int), 7⟩ : Bop).out = s from by simp [bwho]]
            go_wp2_with fail
            go_ret
            exact ⟨rfl, S0.below HO4.out⟩
end Go.Proofs.Ytafnlmkhfonghaa
