/-
  like: an operation of a bell is what the document says.
-/
import Derived.Test.YtafnlmkhfonghaaBellN3
import Derived.Test.YtafnlmkhfonghaaPlay
namespace Go.Proofs.Ytafnlmkhfonghaa
open Go.RowKit
set_option linter.unusedVariables false
section
variable {w : World} {bo bb : Nat} {base : Int} {o : Bop}
set_option maxRecDepth 100000 in
set_option maxHeartbeats 2000000 in
theorem like6_any (h : BopIs w bo bb o) (hw : o.out = 7 → 0 ≤ o.who ∧ o.who ≤ 100) :
    Calls Try.prog 48 #[.pointer (some ⟨bo, 0, none⟩), gwV (baskOf base o)] w fun e w' => e = .returned (.bool true) ∧ Only S0 w w' := by
  obtain ⟨W, hW⟩ : ∃ W, baskOf base o = W := ⟨_, rfl⟩
  rw [hW]
  obtain ⟨ov, what, cell, aa, bb2, out, value⟩ := W
  have o1 := (Only.refl S0 w).alloc (.cells #[.bool ov, .int .i64 what, .int .i64 cell, .int .u64 aa, .int .u64 bb2, .int .i64 out, .int .u64 value, .int .u64 0] 78)
  have H1 := hide (BopIs.only h o1 (fun h => h))
  have HO1 := hide o1
  unfold gwV
  clear h o1
  by_cases h0 : o.out = 0
  · have hov : ov = false := by
      have : (baskOf base o).over = ov := by rw [hW]
      rw [← this]
      unfold baskOf
      rw [if_neg (by rw [h0]; decide)]
      (repeat' split) <;> rfl
    subst hov
    have H0 := hide h0
    clear hw hW h0
    go_enter Try.func48, Try.ntmps48
    go_wp2_with fail
    refine (H1.out.over0 H0.out).mono ?_
    rintro e w1 ⟨rfl, rfl⟩
    go_wp2_with fail
    refine H1.out.outcome.mono ?_
    rintro e w1 ⟨rfl, rfl⟩
    rw [H0.out]
    go_wp2_with fail
    refine H1.out.whoIs.mono ?_
    rintro e w1 ⟨rfl, rfl⟩
    rw [H0.out, show bwho o.who 0 = -1 from by simp [bwho]]
    go_wp2_with fail
    go_ret
    exact ⟨rfl, HO1.out⟩
  · have hb : baskOf base o = wOver o.out (if o.out = 7 then o.who else 0) := by unfold baskOf; rw [if_pos h0]
    rw [hb] at hW
    injection hW with e1 e2 e3 e4 e5 e6 e7
    subst e1 e2 e3 e4 e5 e6
    have H0 := hide h0
    have HQ1 := hide fun (m : Nat) => (show BopIs ((w.alloc (.cells #[.bool true, .int .i64 0, .int .i64 0, .int .u64 0, .int .u64 0, .int .i64 o.out, .int .u64 value, .int .u64 0] 78)).drewN m) bo bb o from H1.out).over1 H0.out
    have HQ2 := hide fun (m : Nat) => (show BopIs ((w.alloc (.cells #[.bool true, .int .i64 0, .int .i64 0, .int .u64 0, .int .u64 0, .int .i64 o.out, .int .u64 value, .int .u64 0] 78)).drewN m) bo bb o from H1.out).outcome
    have HQ3 := hide fun (m : Nat) => (show BopIs ((w.alloc (.cells #[.bool true, .int .i64 0, .int .i64 0, .int .u64 0, .int .u64 0, .int .i64 o.out, .int .u64 value, .int .u64 0] 78)).drewN m) bo bb o from H1.out).whoIs
    by_cases h7 : o.out = 7
    · rw [if_pos h7] at e7
      subst e7
      obtain ⟨w0, w1⟩ := hw h7
      rw [h7] at HQ2 HQ3 H1 HO1 HQ1 ⊢
      rw [show bwho o.who 7 = o.who from by simp [bwho]] at HQ3
      generalize o.who = who at *
      clear h0 hb h7 hw H1
      go_enter Try.func48, Try.ntmps48
      go_wp2_with fail
      go_quiet ((first | (go_at_call 17; exact quiet_eq (HQ1.out _)) | (go_at_call 25; exact quiet_eq (HQ2.out _)) | (go_at_call 23; exact quiet_eq (HQ3.out _))))
      go_wp2_with fail
      go_ret
      exact ⟨rfl, HO1.out.drewN _⟩
    · rw [if_neg h7] at e7
      subst e7
      have h7b : (o.out == 7) = false := by simp [h7]
      rw [show bwho o.who o.out = -1 from by simp [bwho, h7]] at HQ3
      generalize o.out = out at *
      clear h0 hb h7 hw H1
      go_enter Try.func48, Try.ntmps48
      go_wp2_with fail
      go_quiet ((first | (go_at_call 17; exact quiet_eq (HQ1.out _)) | (go_at_call 25; exact quiet_eq (HQ2.out _)) | (go_at_call 23; exact quiet_eq (HQ3.out _))))
      go_wp2_with fail
      go_ret
      exact ⟨rfl, HO1.out.drewN _⟩
end
end Go.Proofs.Ytafnlmkhfonghaa
