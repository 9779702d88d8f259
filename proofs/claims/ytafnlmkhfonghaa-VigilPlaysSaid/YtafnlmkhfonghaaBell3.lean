/-
  Package bell: Size and Make.
-/
import Derived.Test.YtafnlmkhfonghaaBell2
namespace Go.Proofs.Ytafnlmkhfonghaa
open Go.RowKit
set_option linter.unusedVariables false

/-- How many cells a bell takes. -/
def bsize (n : Int) : Int := if 1 ≤ n ∧ n ≤ 8 then n else 0
theorem BSize_any (n : Int) (w : World) : Calls Try.prog 38 #[.int .i64 n] w fun e w' => e = .returned (.int .i64 (bsize n)) ∧ w = w' := by
  by_cases h : 1 ≤ n ∧ n ≤ 8
  · have hs : bsize n = n := by simp [bsize, h]
    rw [hs]
    obtain ⟨h1, h2⟩ := h
    clear hs
    go_enter Try.func38, Try.ntmps38
    go_wp2_with fail
    go_ret
    exact ⟨rfl, rfl⟩
  · have hs : bsize n = 0 := by simp [bsize, h]
    rw [hs]
    clear hs
    by_cases h1 : n < 1
    · clear h
      go_enter Try.func38, Try.ntmps38
      go_wp2_with fail
      go_ret
      exact ⟨rfl, rfl⟩
    · have h2 : 8 < n := by omega
      clear h
      go_enter Try.func38, Try.ntmps38
      go_wp2_with fail
      go_ret
      exact ⟨rfl, rfl⟩

theorem BMake_nil (base n : Int) (w : World) : Calls Try.prog 37 #[.pointer none, .int .i64 base, .int .i64 n] w fun e w' => e = .returned (.tuple #[.pointer none, .int .i64 1]) ∧ w = w' := by
  go_enter Try.func37, Try.ntmps37
  go_wp2_with fail
  refine (BSize_any n w).mono ?_
  rintro e w1 ⟨rfl, rfl⟩
  go_wp2_with fail
  go_ret2
  exact ⟨rfl, rfl⟩
section
variable {w : World} {bm bc : Nat} {L : List Int} {tc : Int}
theorem BMake_bad (base n : Int) (h : MemAt w bm bc L tc) (hb : bsize n = 0 ∨ base < 0 ∨ (L.length : Int) - bsize n < base) :
    Calls Try.prog 37 #[.pointer (some ⟨bm, 0, none⟩), .int .i64 base, .int .i64 n] w fun e w' => e = .returned (.tuple #[.pointer none, .int .i64 1]) ∧ w = w' := by
  obtain ⟨sz, hsz⟩ : ∃ sz, bsize n = sz := ⟨_, rfl⟩
  have hs0 : 0 ≤ sz ∧ sz ≤ 200 := by rw [← hsz]; unfold bsize; split <;> omega
  rw [hsz] at hb
  have HSZ := hide hsz
  have H := hide h
  obtain ⟨s1, s2⟩ := hs0
  have hl := h.len
  clear hsz h
  by_cases c1 : sz = 0
  · subst c1
    clear hb
    go_enter Try.func37, Try.ntmps37
    go_wp2_with fail
    refine (BSize_any n w).mono ?_
    rintro e w1 ⟨rfl, rfl⟩
    rw [HSZ.out]
    go_wp2_with fail
    go_ret2
    exact ⟨rfl, rfl⟩
  · have c1' : (sz == 0) = false := by simp [c1]
    by_cases c2 : base < 0
    · clear hb
      go_enter Try.func37, Try.ntmps37
      go_wp2_with fail
      refine (BSize_any n w).mono ?_
      rintro e w1 ⟨rfl, rfl⟩
      rw [HSZ.out]
      go_wp2_with fail
      go_ret2
      exact ⟨rfl, rfl⟩
    · have c3 : (L.length : Int) - sz < base := by omega
      clear hb
      go_enter Try.func37, Try.ntmps37
      go_wp2_with fail
      refine (BSize_any n w).mono ?_
      rintro e w1 ⟨rfl, rfl⟩
      rw [HSZ.out]
      go_wp2_with fail
      refine (Len_any H.out).mono ?_
      rintro e w1 ⟨rfl, rfl⟩
      go_wp2_with fail
      go_ret2
      exact ⟨rfl, rfl⟩

set_option maxHeartbeats 1000000 in
theorem BMake_good (b n : Nat) (h : MemAt w bm bc L tc) (hf : Few (tc + 200)) (h1 : 1 ≤ n) (h8 : n ≤ 8) (hin : b + n ≤ L.length) :
    Calls Try.prog 37 #[.pointer (some ⟨bm, 0, none⟩), .int .i64 b, .int .i64 n] w fun e w' => ∃ bb, e = .returned (.tuple #[.pointer (some ⟨bb, 0, none⟩), .int .i64 0]) ∧
      BellAt w' bb bm b n ∧ MemAt w' bm bc (zeroL L b n) (tc + (n : Nat)) ∧ Only (S2 bm bc) w w' ∧ w.heap.size ≤ bb := by
  have hn : bsize n = (n : Nat) := by unfold bsize; rw [if_pos (by omega)]
  have hl := h.len
  have hz2 : n ≤ 130 := by omega
  have c1 : ((n : Int) == 0) = false := by simp; omega
  have c3 : ¬ (L.length : Int) - (n : Int) < (b : Int) := by omega
  have HSZ := hide hn
  have H := hide h
  have HF := hide hf
  clear hn h hf
  go_enter Try.func37, Try.ntmps37
  go_wp2_with fail
  refine (BSize_any n w).mono ?_
  rintro e w1 ⟨rfl, rfl⟩
  rw [HSZ.out]
  go_wp2_with fail
  refine (Len_any H.out).mono ?_
  rintro e w1 ⟨rfl, rfl⟩
  go_wp2_with fail
  go_loopg [31] n (fun q iv wr => ∃ (k : Nat), q = n - k ∧ k ≤ n ∧ iv = .int .i64 k ∧ MemAt wr bm bc (zeroL L b k) (tc + k) ∧ Only (S2 bm bc) w wr)
  case atStart => exact ⟨0, rfl, Nat.zero_le _, rfl, by simpa [zeroL] using H.out, Only.refl _ _⟩
  case round =>
    obtain ⟨k, rfl, hk, rfl, hm, ho⟩ := hrel
    have HM := hide hm
    have HO := hide ho
    clear hm ho
    by_cases hlt : k < n
    · go_wp2_with fail
      refine (Store_in ((b : Int) + (k : Int)) 0 HM.out (HF.out.le_ (by omega)) (by omega) (by rw [zeroL_len]; omega)).mono ?_
      rintro e w2 ⟨rfl, h2, o2⟩
      rw [show ((b : Int) + (k : Int)).toNat = b + k by omega] at h2
      have H2 := hide h2
      have O2 := hide (HO.out.trans o2)
      clear h2 o2
      go_wp2_with fail
      go_roundg (n - (k + 1))
      case rel => exact ⟨k + 1, rfl, by omega, by go_num, by rw [show tc + ((k + 1 : Nat) : Int) = tc + k + 1 by omega]; exact H2.out, O2.out⟩
      case measure => omega
    · obtain rfl : k = n := by omega
      go_wp2_with fail
      go_ret2
      refine ⟨_, rfl, Blk.new _ _ _, ?_, HO.out.alloc _, HO.out.size⟩
      exact ⟨HM.out.mem.alloc _, HM.out.cells.alloc _, HM.out.len, HM.out.tc0⟩

theorem bok_new (k : Nat) (hk : k = 0 ∨ k = 1 ∨ k = 2 ∨ k = 3 ∨ k = 4) (n x : Int) : BopOk n ⟨k, x, bout0 n x⟩ := by
  refine ⟨hk, fun h => ?_, fun h => ?_⟩
  all_goals
    show _
    unfold bout0 at h
    by_cases c : 0 ≤ x ∧ x < n
    · first | exact c.1 | exact c.2
    · rw [if_neg c] at h; cases h
theorem BSleep_all (x : Int) {bb : Nat} {base n : Int} (he : BellEnv w bb bm bc base n tc L) : Calls Try.prog 15 #[.pointer (some ⟨bb, 0, none⟩), .int .i64 x] w fun e w' =>
    ∃ bo, e = .returned (.pointer (some ⟨bo, 0, none⟩)) ∧ BopIs w' bo bb ⟨0, x, bout0 n x⟩ ∧ BellEnv w' bb bm bc base n tc L ∧ Only S0 w w' ∧ w.heap.size ≤ bo := by
  refine (Sleep_any x he.bell).mono ?_
  rintro e w' ⟨bo, rfl, h1, h2, h3⟩
  exact ⟨bo, rfl, h1, he.only0 h2, h2, h3⟩
theorem BUp_all (x : Int) {bb : Nat} {base n : Int} (he : BellEnv w bb bm bc base n tc L) : Calls Try.prog 63 #[.pointer (some ⟨bb, 0, none⟩), .int .i64 x] w fun e w' =>
    ∃ bo, e = .returned (.pointer (some ⟨bo, 0, none⟩)) ∧ BopIs w' bo bb ⟨1, x, bout0 n x⟩ ∧ BellEnv w' bb bm bc base n tc L ∧ Only S0 w w' ∧ w.heap.size ≤ bo := by
  refine (Up_any x he.bell).mono ?_
  rintro e w' ⟨bo, rfl, h1, h2, h3⟩
  exact ⟨bo, rfl, h1, he.only0 h2, h2, h3⟩
theorem BPoll_all (x : Int) {bb : Nat} {base n : Int} (he : BellEnv w bb bm bc base n tc L) : Calls Try.prog 22 #[.pointer (some ⟨bb, 0, none⟩), .int .i64 x] w fun e w' =>
    ∃ bo, e = .returned (.pointer (some ⟨bo, 0, none⟩)) ∧ BopIs w' bo bb ⟨2, x, bout0 n x⟩ ∧ BellEnv w' bb bm bc base n tc L ∧ Only S0 w w' ∧ w.heap.size ≤ bo := by
  refine (Poll_any x he.bell).mono ?_
  rintro e w' ⟨bo, rfl, h1, h2, h3⟩
  exact ⟨bo, rfl, h1, he.only0 h2, h2, h3⟩
theorem BRing_all {bb : Nat} {base n : Int} (he : BellEnv w bb bm bc base n tc L) : Calls Try.prog 16 #[.pointer (some ⟨bb, 0, none⟩)] w fun e w' =>
    ∃ bo, e = .returned (.pointer (some ⟨bo, 0, none⟩)) ∧ BopIs w' bo bb ⟨3, 0, bout0 n 0⟩ ∧ BellEnv w' bb bm bc base n tc L ∧ Only S0 w w' ∧ w.heap.size ≤ bo := by
  refine (Ring_any he.bell).mono ?_
  rintro e w' ⟨bo, rfl, h1, h2, h3⟩
  exact ⟨bo, rfl, h1, he.only0 h2, h2, h3⟩
end
end Go.Proofs.Ytafnlmkhfonghaa
