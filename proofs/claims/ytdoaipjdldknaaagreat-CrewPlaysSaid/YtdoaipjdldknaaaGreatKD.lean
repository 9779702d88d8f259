/-
  A crew's operations that are done at once; the document's examples.
-/
import Derived.Test.YtdoaipjdldknaaaGreatKC18
namespace Go.Proofs.YtdoaipjdldknaaaGreat
open Go.RowKit
set_option linter.unusedVariables false

/-- An operation that is done at once: the cells, the operation, how many steps. -/
def cdone (F : CLay) : Nat → List Int → CSt → List Int × CSt × Nat
  | 0, L, o => (L, o, 0)
  | k + 1, L, o => if o.out ≠ 0 then (L, o, 0) else
    ((cdone F k (cstep F L o).1 (cstep F L o).2).1, (cdone F k (cstep F L o).1 (cstep F L o).2).2.1, (cdone F k (cstep F L o).1 (cstep F L o).2).2.2 + 1)
theorem cdone_over (F : CLay) (k : Nat) (L : List Int) (o : CSt) (h : o.out ≠ 0) : cdone F k L o = (L, o, 0) := by
  cases k <;> simp [cdone, h]
theorem cdone_succ (F : CLay) (k : Nat) (L : List Int) (o : CSt) (h : o.out = 0) : cdone F (k + 1) L o =
    ((cdone F k (cstep F L o).1 (cstep F L o).2).1, (cdone F k (cstep F L o).1 (cstep F L o).2).2.1, (cdone F k (cstep F L o).1 (cstep F L o).2).2.2 + 1) := by
  simp [cdone, h]
def SB (bm bc B : Nat) : Nat → Prop := fun k => k = bm ∨ k = bc ∨ B ≤ k
section
variable {w : World} {F : CLay} {cb bb bg bm bc co B : Nat} {dv : Value} {bd : Nat → Nat} {tc : Int} {L : List Int} {st : CSt}
/-- What 'done' answers. -/
def cdoneV (r : List Int × CSt × Nat) : Value := .tuple #[.int .i64 r.2.1.out, .int .u64 r.2.1.value, .int .i64 (r.2.2 : Int)]
theorem CLeft.below {w' : World} (h : CLeft w F cb bb bg bm bc dv bd (fun k => B ≤ k) co tc L st w') (hB : B ≤ w.heap.size) :
    CIs w' cb bb bg bc bd (fun k => B ≤ k) co (cstep F L st).2 ∧ CEnv w' F cb bb bg bm bc dv bd (tc + 1) (cstep F L st).1 ∧ Only (SB bm bc B) w w' := by
  obtain ⟨h1, h2, S, h3, h4⟩ := h
  exact ⟨h1.more fun k hk => by rcases hk with hk | hk <;> omega, h2, h3.mono fun k hk => by
    rcases h4 k hk with h | h | ⟨h, _⟩
    · exact .inl h
    · exact .inr (.inl h)
    · exact .inr (.inr h)⟩
theorem CIs.only0 {w' : World} {O : Nat → Prop} (h : CIs w cb bb bg bc bd O co st) (he : CEnv w F cb bb bg bm bc dv bd tc L) (ho : Only S0 w w') : CIs w' cb bb bg bc bd O co st :=
  h.away he.mem.mem ⟨_, he.mem.cells⟩ ho ⟨fun _ h => h.elim, fun _ _ h => h⟩
theorem cover_any (h : CIs w cb bb bg bc bd (fun k => B ≤ k) co st) : Calls Tryz.prog 16 #[.pointer (some ⟨co, 0, none⟩)] w fun e w' => e = .returned (.bool (st.out != 0)) ∧ w = w' := by
  obtain ⟨c, t, hc⟩ := h.cop
  exact COver_any hc
theorem coutcome_any (h : CIs w cb bb bg bc bd (fun k => B ≤ k) co st) : Calls Tryz.prog 22 #[.pointer (some ⟨co, 0, none⟩)] w fun e w' => e = .returned (.int .i64 st.out) ∧ w = w' := by
  obtain ⟨c, t, hc⟩ := h.cop
  exact COutcome_any hc
theorem cvalue_any (h : CIs w cb bb bg bc bd (fun k => B ≤ k) co st) : Calls Tryz.prog 23 #[.pointer (some ⟨co, 0, none⟩)] w fun e w' => e = .returned (.int .u64 st.value) ∧ w = w' := by
  obtain ⟨c, t, hc⟩ := h.cop
  exact CValue_any hc
set_option maxRecDepth 100000 in
set_option maxHeartbeats 1000000 in
theorem cdone_any (he : CEnv w F cb bb bg bm bc dv bd tc L) (ho : CStOk F L.length st) (h : CIs w cb bb bg bc bd (fun k => B ≤ k) co st) (hB : B ≤ w.heap.size) (hf : Few (tc + 200)) :
    Calls Tryz.prog 24 #[.pointer (some ⟨co, 0, none⟩)] w fun e w' => e = .returned (cdoneV (cdone F 200 L st)) ∧
      CEnv w' F cb bb bg bm bc dv bd (tc + ((cdone F 200 L st).2.2 : Nat)) (cdone F 200 L st).1 ∧ Only (SB bm bc B) w w' ∧ (cdone F 200 L st).1.length = L.length := by
  obtain ⟨r, hr⟩ : ∃ r, cdone F 200 L st = r := ⟨_, rfl⟩
  rw [hr]
  have HE := hide he
  have HO := hide ho
  have H := hide h
  have HF := hide hf
  have HR := hide hr
  have HB := hide hB
  clear he ho h hf hr hB
  go_enter Tryz.func24, Tryz.ntmps24
  go_wp2_with fail
  go_loopg [5] 200 (fun q iv wr => ∃ (k : Nat) (L' : List Int) (o' : CSt), q = 200 - k ∧ k ≤ 200 ∧ iv = .int .i64 k ∧ L'.length = L.length ∧ CIs wr cb bb bg bc bd (fun k => B ≤ k) co o' ∧ CStOk F L'.length o' ∧ CEnv wr F cb bb bg bm bc dv bd (tc + k) L' ∧ Only (SB bm bc B) w wr ∧
      r = ((cdone F (200 - k) L' o').1, (cdone F (200 - k) L' o').2.1, (cdone F (200 - k) L' o').2.2 + k))
  case atStart => exact ⟨0, L, st, rfl, by omega, rfl, rfl, H.out, HO.out, by simpa using HE.out, Only.refl _ _, HR.out.symm⟩
  case round =>
    obtain ⟨k, L', o', rfl, hk, rfl, hl, hi, hok, henv, hon, hrr⟩ := hrel
    have HL := hide hl
    have HI := hide hi
    have HOK := hide hok
    have HENV := hide henv
    have HON := hide hon
    have HRR := hide hrr
    clear hl hi hok henv hon hrr
    by_cases hlt : k < 200
    · by_cases hov : o'.out = 0
      · have HOV := hide hov
        clear hov
        go_wp2_with fail
        refine (cover_any HI.out).mono ?_
        rintro e w1 ⟨rfl, rfl⟩
        rw [show (o'.out != 0) = false from by rw [HOV.out]; rfl]
        go_wp2_with fail
        refine (COp_step HENV.out HOK.out HI.out (HF.out.le_ (by omega)) HOV.out).mono ?_
        rintro e w1 ⟨rfl, h1⟩
        generalize hb : ((cstep F L' o').2.out != 0) = b
        have H1 := hide (h1.below (by have := HB.out; have := HON.out.size; omega))
        have H4 := hide (cstep_ok HENV.out.fit HENV.out.u HOK.out)
        clear h1 hb
        go_wp2_with fail
        go_roundg (200 - (k + 1))
        case rel =>
          refine ⟨k + 1, (cstep F L' o').1, (cstep F L' o').2, rfl, by omega, by go_num, ?_, H1.out.1, ?_, ?_, HON.out.trans H1.out.2.2, ?_⟩
          · rw [cstep_len]; exact HL.out
          · rw [cstep_len]; exact H4.out
          · rw [show tc + ((k + 1 : Nat) : Int) = tc + k + 1 by omega]
            exact H1.out.2.1
          · rw [HRR.out, show 200 - k = (200 - (k + 1)) + 1 by omega, cdone_succ _ _ _ _ HOV.out]
            simp; omega
        case measure => omega
      · have HOV := hide hov
        clear hov
        go_wp2_with fail
        refine (cover_any HI.out).mono ?_
        rintro e w1 ⟨rfl, rfl⟩
        rw [show (o'.out != 0) = true from by simp [HOV.out]]
        go_upto_region 5 with fail
        have HQ1 := hide fun (m : Nat) => coutcome_any (HI.out.only0 HENV.out ((Only.refl S0 wr).drewN m))
        have HQ2 := hide fun (m : Nat) => cvalue_any (HI.out.only0 HENV.out ((Only.refl S0 wr).drewN m))
        have hfin := hide fun (m : Nat) => And.intro (HENV.out.only0 ((Only.refl S0 wr).drewN m)) (HON.out.drewN m)
        (go_quiet ((first | (go_at_call 22; exact quiet_eq (HQ1.out _)) | (go_at_call 23; exact quiet_eq (HQ2.out _)))))
        go_wp2_with fail
        go_ret3
        have hrr := HRR.out
        rw [cdone_over _ _ _ _ HOV.out] at hrr
        subst hrr
        exact ⟨by simp [cdoneV], by simpa using (hfin.out _).1, (hfin.out _).2, HL.out⟩
    · obtain rfl : k = 200 := by omega
      go_upto_region 5 with fail
      have HQ1 := hide fun (m : Nat) => coutcome_any (HI.out.only0 HENV.out ((Only.refl S0 wr).drewN m))
      have HQ2 := hide fun (m : Nat) => cvalue_any (HI.out.only0 HENV.out ((Only.refl S0 wr).drewN m))
      have hfin := hide fun (m : Nat) => And.intro (HENV.out.only0 ((Only.refl S0 wr).drewN m)) (HON.out.drewN m)
      (go_quiet ((first | (go_at_call 22; exact quiet_eq (HQ1.out _)) | (go_at_call 23; exact quiet_eq (HQ2.out _)))))
      go_wp2_with fail
      go_ret3
      have hrr := HRR.out
      rw [show 200 - 200 = 0 by omega, cdone] at hrr
      subst hrr
      exact ⟨by simp [cdoneV], by simpa using (hfin.out _).1, (hfin.out _).2, HL.out⟩
end
end Go.Proofs.YtdoaipjdldknaaaGreat
