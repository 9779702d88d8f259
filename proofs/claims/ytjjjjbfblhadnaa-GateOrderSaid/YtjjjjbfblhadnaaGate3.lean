/-
  Package gate: operations that are done at once; Size and Make; the examples.
-/
import Derived.Test.YtjjjjbfblhadnaaGate2
import Derived.Test.YtjjjjbfblhadnaaRef1
namespace Go.Proofs.Ytjjjjbfblhadnaa
open Go.RowKit
set_option linter.unusedVariables false

/-- An operation that is done at once: the cells, the operation, how many steps. -/
def gdone (base n : Int) : Nat → List Int → Gop → List Int × Gop × Nat
  | 0, L, o => (L, o, 0)
  | k + 1, L, o => if o.out ≠ 0 then (L, o, 0) else
    ((gdone base n k (gstep base n L o).1 (gstep base n L o).2).1, (gdone base n k (gstep base n L o).1 (gstep base n L o).2).2.1, (gdone base n k (gstep base n L o).1 (gstep base n L o).2).2.2 + 1)
theorem gdone_over (base n : Int) (k : Nat) (L : List Int) (o : Gop) (h : o.out ≠ 0) : gdone base n k L o = (L, o, 0) := by
  cases k <;> simp [gdone, h]
theorem gdone_succ (base n : Int) (k : Nat) (L : List Int) (o : Gop) (h : o.out = 0) : gdone base n (k + 1) L o =
    ((gdone base n k (gstep base n L o).1 (gstep base n L o).2).1, (gdone base n k (gstep base n L o).1 (gstep base n L o).2).2.1, (gdone base n k (gstep base n L o).1 (gstep base n L o).2).2.2 + 1) := by
  simp [gdone, h]
section
variable {w : World} {bo bg bm bc : Nat} {base n tc : Int} {L : List Int} {o : Gop}
theorem GopIs.over0 (h : GopIs w bo bg o) (ho : o.out = 0) : Calls Try.prog 24 #[.pointer (some ⟨bo, 0, none⟩)] w fun e w' => e = .returned (.bool false) ∧ w = w' := by
  unfold GopIs at h
  rw [ho] at h
  exact GOver_pend h
theorem GopIs.over1 (h : GopIs w bo bg o) (ho : o.out ≠ 0) : Calls Try.prog 24 #[.pointer (some ⟨bo, 0, none⟩)] w fun e w' => e = .returned (.bool true) ∧ w = w' := GOver_over h ho
theorem GopIs.outcome (h : GopIs w bo bg o) : Calls Try.prog 34 #[.pointer (some ⟨bo, 0, none⟩)] w fun e w' => e = .returned (.int .i64 o.out) ∧ w = w' := GOutcome_any h
theorem GopIs.value (h : GopIs w bo bg o) : Calls Try.prog 35 #[.pointer (some ⟨bo, 0, none⟩)] w fun e w' => e = .returned (.int .u64 (gvalue o.ahead o.v o.out)) ∧ w = w' := GValue_any h

/-- What 'done' answers. -/
def doneV (r : List Int × Gop × Nat) : Value := .tuple #[.int .i64 r.2.1.out, .int .u64 (gvalue r.2.1.ahead r.2.1.v r.2.1.out), .int .i64 (r.2.2 : Int)]
set_option maxHeartbeats 1000000 in
theorem done_any (he : GateEnv w bg bm bc base n tc L) (ho : GopOk base L.length o) (h : GopIs w bo bg o) (hf : Few (tc + 100)) :
    Calls Try.prog 21 #[.pointer (some ⟨bo, 0, none⟩)] w fun e w' => e = .returned (doneV (gdone base n 100 L o)) ∧ GopIs w' bo bg (gdone base n 100 L o).2.1 ∧
      GopOk base L.length (gdone base n 100 L o).2.1 ∧ GateEnv w' bg bm bc base n (tc + ((gdone base n 100 L o).2.2 : Nat)) (gdone base n 100 L o).1 ∧ Only (S3 bo bm bc) w w' ∧ (gdone base n 100 L o).1.length = L.length := by
  obtain ⟨r, hr⟩ : ∃ r, gdone base n 100 L o = r := ⟨_, rfl⟩
  rw [hr]
  have HE := hide he
  have HO := hide ho
  have H := hide h
  have HF := hide hf
  have HR := hide hr
  clear he ho h hf hr
  go_enter Try.func21, Try.ntmps21
  go_wp2_with fail
  go_loopg [5] 100 (fun q iv wr => ∃ (k : Nat) (L' : List Int) (o' : Gop), q = 100 - k ∧ k ≤ 100 ∧ iv = .int .i64 k ∧ L'.length = L.length ∧ GopIs wr bo bg o' ∧ GopOk base L.length o' ∧ GateEnv wr bg bm bc base n (tc + k) L' ∧ Only (S3 bo bm bc) w wr ∧
      r = ((gdone base n (100 - k) L' o').1, (gdone base n (100 - k) L' o').2.1, (gdone base n (100 - k) L' o').2.2 + k))
  case atStart => exact ⟨0, L, o, rfl, by omega, rfl, rfl, H.out, HO.out, by simpa using HE.out, Only.refl _ _, HR.out.symm⟩
  case round =>
    obtain ⟨k, L', o', rfl, hk, rfl, hl, hi, hok, henv, hon, hrr⟩ := hrel
    have HL := hide hl
    have HI := hide hi
    have HOK := hide hok
    have HENV := hide henv
    have HON := hide hon
    have HRR := hide hrr
    clear hl hi hok henv hon hrr
    by_cases hlt : k < 100
    · by_cases hov : o'.out = 0
      · have HOV := hide hov
        clear hov
        go_wp2_with fail
        refine (HI.out.over0 HOV.out).mono ?_
        rintro e w1 ⟨rfl, rfl⟩
        go_wp2_with fail
        refine (GStep_all HENV.out (by rw [HL.out]; exact HOK.out) HI.out (HF.out.le_ (by omega))).mono ?_
        rintro e w1 ⟨rfl, h1, h2, h3⟩
        generalize hb : ((gstep base n L' o').2.out != 0) = b
        have H1 := hide h1
        have htk : gtick o' = 1 := by simp [gtick, HOV.out]
        rw [htk] at h2
        have H2 := hide h2
        have H3 := hide (HON.out.trans h3)
        have H4 := hide (gstep_ok base n L' o' HENV.out.u (by rw [HL.out]; exact HOK.out))
        clear h1 h2 h3 hb htk
        go_wp2_with fail
        go_roundg (100 - (k + 1))
        case rel =>
          refine ⟨k + 1, (gstep base n L' o').1, (gstep base n L' o').2, rfl, by omega, by go_num, ?_, H1.out, ?_, ?_, H3.out, ?_⟩
          · rw [gstep_len]; exact HL.out
          · have := H4.out; rw [HL.out] at this; exact this
          · have := H2.out
            rw [show tc + ((k + 1 : Nat) : Int) = tc + k + 1 by omega]
            exact this
          · rw [HRR.out, show 100 - k = (100 - (k + 1)) + 1 by omega, gdone_succ _ _ _ _ _ HOV.out]
            simp; omega
        case measure => omega
      · have HOV := hide hov
        clear hov
        go_wp2_with fail
        refine (HI.out.over1 HOV.out).mono ?_
        rintro e w1 ⟨rfl, rfl⟩
        go_wp2_with fail
        refine (HI.out.outcome).mono ?_
        rintro e w1 ⟨rfl, rfl⟩
        go_wp2_with fail
        refine (HI.out.value).mono ?_
        rintro e w1 ⟨rfl, rfl⟩
        go_wp2_with fail
        go_ret3
        have hrr := HRR.out
        rw [gdone_over _ _ _ _ _ HOV.out] at hrr
        subst hrr
        refine ⟨by simp [doneV], HI.out, HOK.out, ?_, HON.out, HL.out⟩
        simpa using HENV.out
    · obtain rfl : k = 100 := by omega
      go_wp2_with fail
      refine (HI.out.outcome).mono ?_
      rintro e w1 ⟨rfl, rfl⟩
      go_wp2_with fail
      refine (HI.out.value).mono ?_
      rintro e w1 ⟨rfl, rfl⟩
      go_wp2_with fail
      go_ret3
      have hrr := HRR.out
      rw [show 100 - 100 = 0 by omega, gdone] at hrr
      subst hrr
      refine ⟨by simp [doneV], HI.out, HOK.out, ?_, HON.out, HL.out⟩
      simpa using HENV.out
end
end Go.Proofs.Ytjjjjbfblhadnaa
