/-
  like: an operation of a gate is what the document says.
-/
import Derived.Test.YtjjjjbfblhadnaaGateN5
import Derived.Test.YtjjjjbfblhadnaaPlay
namespace Go.Proofs.Ytjjjjbfblhadnaa
open Go.RowKit
set_option linter.unusedVariables false
section
variable {w : World} {bo bb : Nat} {base n : Int} {o : Gop}
set_option maxRecDepth 100000 in
set_option maxHeartbeats 2000000 in
theorem like5_any (h : GopIs w bo bb o) :
    Calls Try.prog 28 #[.pointer (some ⟨bo, 0, none⟩), gwV (askOf base n o)] w fun e w' => e = .returned (.bool true) ∧ Only S0 w w' := by
  obtain ⟨W, hW⟩ : ∃ W, askOf base n o = W := ⟨_, rfl⟩
  rw [hW]
  obtain ⟨ov, what, cell, aa, bb2, out, value⟩ := W
  have o1 := (Only.refl S0 w).alloc (.cells #[.bool ov, .int .i64 what, .int .i64 cell, .int .u64 aa, .int .u64 bb2, .int .i64 out, .int .u64 value, .int .u64 0] 72)
  have H1 := hide (show GopIs _ bo bb o from GopAt.only h o1 (fun h => h))
  have HO1 := hide o1
  unfold gwV
  clear h o1
  by_cases h0 : o.out = 0
  · have hov : ov = false := by
      have : (askOf base n o).over = ov := by rw [hW]
      rw [← this]
      unfold askOf
      rw [if_neg (by rw [h0]; decide)]
      (repeat' split) <;> rfl
    subst hov
    have H0 := hide h0
    clear hW h0
    go_enter Try.func28, Try.ntmps28
    go_wp2_with fail
    refine (H1.out.over0 H0.out).mono ?_
    rintro e w1 ⟨rfl, rfl⟩
    go_wp2_with fail
    refine H1.out.outcome.mono ?_
    rintro e w1 ⟨rfl, rfl⟩
    rw [H0.out]
    go_wp2_with fail
    refine H1.out.value.mono ?_
    rintro e w1 ⟨rfl, rfl⟩
    rw [H0.out, show gvalue o.ahead o.v 0 = 0 from by simp [gvalue]]
    go_wp2_with fail
    go_ret
    exact ⟨rfl, HO1.out⟩
  · have hb : askOf base n o = wOver o.out (gvalue o.ahead o.v o.out) := by unfold askOf; rw [if_pos h0]
    rw [hb] at hW
    injection hW with e1 e2 e3 e4 e5 e6 e7
    subst e1 e2 e3 e4 e5 e6
    have H0 := hide h0
    have HQ1 := hide fun (m : Nat) => (show GopIs ((w.alloc (.cells #[.bool true, .int .i64 0, .int .i64 0, .int .u64 0, .int .u64 0, .int .i64 o.out, .int .u64 value, .int .u64 0] 72)).drewN m) bo bb o from H1.out).over1 H0.out
    have HQ2 := hide fun (m : Nat) => (show GopIs ((w.alloc (.cells #[.bool true, .int .i64 0, .int .i64 0, .int .u64 0, .int .u64 0, .int .i64 o.out, .int .u64 value, .int .u64 0] 72)).drewN m) bo bb o from H1.out).outcome
    have HQ3 := hide fun (m : Nat) => (show GopIs ((w.alloc (.cells #[.bool true, .int .i64 0, .int .i64 0, .int .u64 0, .int .u64 0, .int .i64 o.out, .int .u64 value, .int .u64 0] 72)).drewN m) bo bb o from H1.out).value
    rw [e7] at HQ3
    generalize o.out = out at *
    clear h0 hb H1 e7
    go_enter Try.func28, Try.ntmps28
    go_wp2_with fail
    go_quiet ((first | (go_at_call 24; exact quiet_eq (HQ1.out _)) | (go_at_call 34; exact quiet_eq (HQ2.out _)) | (go_at_call 35; exact quiet_eq (HQ3.out _))))
    go_wp2_with fail
    go_ret
    exact ⟨rfl, HO1.out.drewN _⟩
end
end Go.Proofs.Ytjjjjbfblhadnaa
