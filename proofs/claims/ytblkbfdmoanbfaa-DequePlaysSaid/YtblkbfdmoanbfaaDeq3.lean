/-
  Package deque: operations that are done at once.
-/
import Derived.Test.YtblkbfdmoanbfaaDeq2
import Derived.Test.YtblkbfdmoanbfaaRef1
import Derived.Deep.LoopGhost
namespace Go.Proofs.Ytblkbfdmoanbfaa
open Go.RowKit
set_option linter.unusedVariables false

/-- An operation that is done at once: the cells, the operation, how many steps. -/
def ddone (base n : Int) : Nat → List Int → Dop → List Int × Dop × Nat
  | 0, L, o => (L, o, 0)
  | k + 1, L, o => if o.out ≠ 0 then (L, o, 0) else
    ((ddone base n k (dstep base n L o).1 (dstep base n L o).2).1, (ddone base n k (dstep base n L o).1 (dstep base n L o).2).2.1, (ddone base n k (dstep base n L o).1 (dstep base n L o).2).2.2 + 1)
theorem ddone_over (base n : Int) (k : Nat) (L : List Int) (o : Dop) (h : o.out ≠ 0) : ddone base n k L o = (L, o, 0) := by
  cases k <;> simp [ddone, h]
theorem ddone_succ (base n : Int) (k : Nat) (L : List Int) (o : Dop) (h : o.out = 0) : ddone base n (k + 1) L o =
    ((ddone base n k (dstep base n L o).1 (dstep base n L o).2).1, (ddone base n k (dstep base n L o).1 (dstep base n L o).2).2.1, (ddone base n k (dstep base n L o).1 (dstep base n L o).2).2.2 + 1) := by
  simp [ddone, h]
section
variable {w : World} {bo bd bm bc : Nat} {base n tc : Int} {L : List Int} {o : Dop}
/-- What 'done' answers. -/
def doneV (r : List Int × Dop × Nat) : Value := .tuple #[.int .i64 r.2.1.out, .int .u64 (dvalue r.2.1.v r.2.1.out), .int .i64 (r.2.2 : Int)]
set_option maxHeartbeats 1000000 in
theorem done_any (he : DeqEnv w bd bm bc base n tc L) (ho : DopOk o) (h : DopIs w bo bd o) (hf : Few (tc + 100)) :
    Calls Try.prog 21 #[.pointer (some ⟨bo, 0, none⟩)] w fun e w' => e = .returned (doneV (ddone base n 100 L o)) ∧ DopIs w' bo bd (ddone base n 100 L o).2.1 ∧
      DopOk (ddone base n 100 L o).2.1 ∧ DeqEnv w' bd bm bc base n (tc + ((ddone base n 100 L o).2.2 : Nat)) (ddone base n 100 L o).1 ∧ Only (S3 bo bm bc) w w' ∧ (ddone base n 100 L o).1.length = L.length := by
  obtain ⟨r, hr⟩ : ∃ r, ddone base n 100 L o = r := ⟨_, rfl⟩
  rw [hr]
  have HE := hide he
  have HO := hide ho
  have H := hide h
  have HF := hide hf
  have HR := hide hr
  clear he ho h hf hr
  go_enter Try.func21, Try.ntmps21
  go_wp2_with fail
  go_loopg [5] 100 (fun q iv wr => ∃ (k : Nat) (L' : List Int) (o' : Dop), q = 100 - k ∧ k ≤ 100 ∧ iv = .int .i64 k ∧ L'.length = L.length ∧ DopIs wr bo bd o' ∧ DopOk o' ∧ DeqEnv wr bd bm bc base n (tc + k) L' ∧ Only (S3 bo bm bc) w wr ∧
      r = ((ddone base n (100 - k) L' o').1, (ddone base n (100 - k) L' o').2.1, (ddone base n (100 - k) L' o').2.2 + k))
  case atStart => exact ⟨0, L, o, rfl, by omega, rfl, rfl, H.out, HO.out, by simpa using HE.out, Only.refl _ _, HR.out.symm⟩
  case round =>
    obtain ⟨k, L', o', rfl, hk, rfl, hl, hi, hok, henv, hon, hrr⟩ := hrel
    have HL := hide hl
    have HI := hide hi
    have HOK := hide hok
    have HENV := hide henv
    have HON := hide hon
    have HRR := hide hrr
    clear hl hi hok henv hon hrr
    by_cases hlt : k < 100
    · by_cases hov : o'.out = 0
      · have HOV := hide hov
        clear hov
        go_wp2_with fail
        refine (HI.out.over0 HOV.out).mono ?_
        rintro e w1 ⟨rfl, rfl⟩
        go_wp2_with fail
        refine (DStep_all HENV.out HOK.out HI.out (HF.out.le_ (by omega))).mono ?_
        rintro e w1 ⟨rfl, h1, h2, h3⟩
        generalize hb : ((dstep base n L' o').2.out != 0) = b
        have H1 := hide h1
        have htk : dtick o' = 1 := by simp [dtick, HOV.out]
        rw [htk] at h2
        have H2 := hide h2
        have H3 := hide (HON.out.trans h3)
        have H4 := hide (dstep_ok base n L' o' HENV.out.u HOK.out)
        clear h1 h2 h3 hb htk
        go_wp2_with fail
        go_roundg (100 - (k + 1))
        case rel =>
          refine ⟨k + 1, (dstep base n L' o').1, (dstep base n L' o').2, rfl, by omega, by go_num, ?_, H1.out, ?_, ?_, H3.out, ?_⟩
          · rw [dstep_len]; exact HL.out
          · exact H4.out
          · have := H2.out
            rw [show tc + ((k + 1 : Nat) : Int) = tc + k + 1 by omega]
            exact this
          · rw [HRR.out, show 100 - k = (100 - (k + 1)) + 1 by omega, ddone_succ _ _ _ _ _ HOV.out]
            simp; omega
        case measure => omega
      · have HOV := hide hov
        clear hov
        go_wp2_with fail
        refine (HI.out.over1 HOV.out).mono ?_
        rintro e w1 ⟨rfl, rfl⟩
        go_wp2_with fail
        refine (HI.out.outcome).mono ?_
        rintro e w1 ⟨rfl, rfl⟩
        go_wp2_with fail
        refine (HI.out.value).mono ?_
        rintro e w1 ⟨rfl, rfl⟩
        go_wp2_with fail
        go_ret3
        have hrr := HRR.out
        rw [ddone_over _ _ _ _ _ HOV.out] at hrr
        subst hrr
        refine ⟨by simp [doneV], HI.out, HOK.out, ?_, HON.out, HL.out⟩
        simpa using HENV.out
    · obtain rfl : k = 100 := by omega
      go_wp2_with fail
      refine (HI.out.outcome).mono ?_
      rintro e w1 ⟨rfl, rfl⟩
      go_wp2_with fail
      refine (HI.out.value).mono ?_
      rintro e w1 ⟨rfl, rfl⟩
      go_wp2_with fail
      go_ret3
      have hrr := HRR.out
      rw [show 100 - 100 = 0 by omega, ddone] at hrr
      subst hrr
      refine ⟨by simp [doneV], HI.out, HOK.out, ?_, HON.out, HL.out⟩
      simpa using HENV.out
end
end Go.Proofs.Ytblkbfdmoanbfaa
