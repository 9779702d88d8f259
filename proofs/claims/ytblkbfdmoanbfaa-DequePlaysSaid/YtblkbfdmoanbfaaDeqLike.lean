/-
  like: an operation of a deque is what the document says.
-/
import Derived.Test.YtblkbfdmoanbfaaDeqN5
import Derived.Test.YtblkbfdmoanbfaaPlay
namespace Go.Proofs.Ytblkbfdmoanbfaa
open Go.RowKit
set_option linter.unusedVariables false
section
variable {w : World} {bo bb : Nat} {base n : Int} {o : Dop}
set_option maxRecDepth 100000 in
set_option maxHeartbeats 2000000 in
theorem like4_any (h : DopIs w bo bb o) :
    Calls Try.prog 33 #[.pointer (some ⟨bo, 0, none⟩), gwV (daskOf base n o)] w fun e w' => e = .returned (.bool true) ∧ Only S0 w w' := by
  obtain ⟨W, hW⟩ : ∃ W, daskOf base n o = W := ⟨_, rfl⟩
  rw [hW]
  obtain ⟨ov, what, cell, aa, bb2, out, value⟩ := W
  have o1 := (Only.refl S0 w).alloc (.cells #[.bool ov, .int .i64 what, .int .i64 cell, .int .u64 aa, .int .u64 bb2, .int .i64 out, .int .u64 value, .int .u64 0] 73)
  have H1 := hide (show DopIs _ bo bb o from DopAt.only h o1 (fun h => h))
  have HO1 := hide o1
  unfold gwV
  clear h o1
  by_cases h0 : o.out = 0
  · have hov : ov = false := by
      have : (daskOf base n o).over = ov := by rw [hW]
      rw [← this]
      unfold daskOf daskPush daskPop daskSteal
      rw [if_neg (by rw [h0]; decide)]
      (repeat' split) <;> rfl
    subst hov
    have H0 := hide h0
    clear hW h0
    go_enter Try.func33, Try.ntmps33
    go_wp2_with fail
    refine (H1.out.over0 H0.out).mono ?_
    rintro e w1 ⟨rfl, rfl⟩
    go_wp2_with fail
    refine H1.out.outcome.mono ?_
    rintro e w1 ⟨rfl, rfl⟩
    rw [H0.out]
    go_wp2_with fail
    refine H1.out.value.mono ?_
    rintro e w1 ⟨rfl, rfl⟩
    rw [H0.out, show dvalue o.v 0 = 0 from by simp [dvalue]]
    go_wp2_with fail
    go_ret
    exact ⟨rfl, HO1.out⟩
  · have hb : daskOf base n o = wOver o.out (dvalue o.v o.out) := by unfold daskOf; rw [if_pos h0]
    rw [hb] at hW
    injection hW with e1 e2 e3 e4 e5 e6 e7
    subst e1 e2 e3 e4 e5 e6
    have H0 := hide h0
    have HQ1 := hide fun (m : Nat) => (show DopIs ((w.alloc (.cells #[.bool true, .int .i64 0, .int .i64 0, .int .u64 0, .int .u64 0, .int .i64 o.out, .int .u64 value, .int .u64 0] 73)).drewN m) bo bb o from H1.out).over1 H0.out
    have HQ2 := hide fun (m : Nat) => (show DopIs ((w.alloc (.cells #[.bool true, .int .i64 0, .int .i64 0, .int .u64 0, .int .u64 0, .int .i64 o.out, .int .u64 value, .int .u64 0] 73)).drewN m) bo bb o from H1.out).outcome
    have HQ3 := hide fun (m : Nat) => (show DopIs ((w.alloc (.cells #[.bool true, .int .i64 0, .int .i64 0, .int .u64 0, .int .u64 0, .int .i64 o.out, .int .u64 value, .int .u64 0] 73)).drewN m) bo bb o from H1.out).value
    rw [e7] at HQ3
    generalize o.out = out at *
    clear h0 hb H1 e7
    go_enter Try.func33, Try.ntmps33
    go_wp2_with fail
    go_quiet ((first | (go_at_call 27; exact quiet_eq (HQ1.out _)) | (go_at_call 28; exact quiet_eq (HQ2.out _)) | (go_at_call 29; exact quiet_eq (HQ3.out _))))
    go_wp2_with fail
    go_ret
    exact ⟨rfl, HO1.out.drewN _⟩
end
end Go.Proofs.Ytblkbfdmoanbfaa
