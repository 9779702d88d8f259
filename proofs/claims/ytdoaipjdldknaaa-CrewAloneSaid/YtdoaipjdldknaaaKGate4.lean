/-
  Package gate: Size and Make.
-/
import Derived.Test.YtdoaipjdldknaaaKGate3
namespace Go.Proofs.Ytdoaipjdldknaaa
open Go.RowKit
set_option linter.unusedVariables false

/-- How many cells a gate takes. -/
def gsize (n : Int) : Int := if 1 ≤ n ∧ n ≤ 64 then 2 + 2 * n else 0
theorem GSize_any (n : Int) (w : World) : Calls Try.prog 22 #[.int .i64 n] w fun e w' => e = .returned (.int .i64 (gsize n)) ∧ w = w' := by
  by_cases h : 1 ≤ n ∧ n ≤ 64
  · have hs : gsize n = 2 + 2 * n := by simp [gsize, h]
    rw [hs]
    obtain ⟨h1, h2⟩ := h
    clear hs
    go_enter Try.func22, Try.ntmps22
    go_wp2_with fail
    go_ret
    exact ⟨rfl, rfl⟩
  · have hs : gsize n = 0 := by simp [gsize, h]
    rw [hs]
    clear hs
    by_cases h1 : n < 1
    · clear h
      go_enter Try.func22, Try.ntmps22
      go_wp2_with fail
      go_ret
      exact ⟨rfl, rfl⟩
    · have h2 : 64 < n := by omega
      clear h
      go_enter Try.func22, Try.ntmps22
      go_wp2_with fail
      go_ret
      exact ⟨rfl, rfl⟩

theorem GMake_nil (base n : Int) (w : World) : Calls Try.prog 21 #[.pointer none, .int .i64 base, .int .i64 n] w fun e w' => e = .returned (.tuple #[.pointer none, .int .i64 1]) ∧ w = w' := by
  go_enter Try.func21, Try.ntmps21
  go_wp2_with fail
  refine (GSize_any n w).mono ?_
  rintro e w1 ⟨rfl, rfl⟩
  go_wp2_with fail
  go_ret2
  exact ⟨rfl, rfl⟩
section
variable {w : World} {bm bc : Nat} {L : List Int} {tc : Int}
theorem GMake_bad (base n : Int) (h : MemAt w bm bc L tc) (hb : gsize n = 0 ∨ base < 0 ∨ (L.length : Int) - gsize n < base) :
    Calls Try.prog 21 #[.pointer (some ⟨bm, 0, none⟩), .int .i64 base, .int .i64 n] w fun e w' => e = .returned (.tuple #[.pointer none, .int .i64 1]) ∧ w = w' := by
  obtain ⟨sz, hsz⟩ : ∃ sz, gsize n = sz := ⟨_, rfl⟩
  have hs0 : 0 ≤ sz ∧ sz ≤ 200 := by rw [← hsz]; unfold gsize; split <;> omega
  rw [hsz] at hb
  have HSZ := hide hsz
  have H := hide h
  obtain ⟨s1, s2⟩ := hs0
  have hl := h.len
  clear hsz h
  by_cases c1 : sz = 0
  · subst c1
    clear hb
    go_enter Try.func21, Try.ntmps21
    go_wp2_with fail
    refine (GSize_any n w).mono ?_
    rintro e w1 ⟨rfl, rfl⟩
    rw [HSZ.out]
    go_wp2_with fail
    go_ret2
    exact ⟨rfl, rfl⟩
  · have c1' : (sz == 0) = false := by simp [c1]
    by_cases c2 : base < 0
    · clear hb
      go_enter Try.func21, Try.ntmps21
      go_wp2_with fail
      refine (GSize_any n w).mono ?_
      rintro e w1 ⟨rfl, rfl⟩
      rw [HSZ.out]
      go_wp2_with fail
      go_ret2
      exact ⟨rfl, rfl⟩
    · have c3 : (L.length : Int) - sz < base := by omega
      clear hb
      go_enter Try.func21, Try.ntmps21
      go_wp2_with fail
      refine (GSize_any n w).mono ?_
      rintro e w1 ⟨rfl, rfl⟩
      rw [HSZ.out]
      go_wp2_with fail
      refine (Len_any H.out).mono ?_
      rintro e w1 ⟨rfl, rfl⟩
      go_wp2_with fail
      go_ret2
      exact ⟨rfl, rfl⟩

set_option maxHeartbeats 1000000 in
theorem GMake_good (b n : Nat) (h : MemAt w bm bc L tc) (hf : Few (tc + 200)) (h1 : 1 ≤ n) (h64 : n ≤ 64) (hin : b + (2 + 2 * n) ≤ L.length) :
    Calls Try.prog 21 #[.pointer (some ⟨bm, 0, none⟩), .int .i64 b, .int .i64 n] w fun e w' => ∃ bg, e = .returned (.tuple #[.pointer (some ⟨bg, 0, none⟩), .int .i64 0]) ∧
      GateAt w' bg bm b n ∧ MemAt w' bm bc (zeroL L b (2 + 2 * n)) (tc + (2 + 2 * n : Nat)) ∧ Only (S2 bm bc) w w' ∧ w.heap.size ≤ bg := by
  have hsz : gsize n = (2 + 2 * n : Nat) := by unfold gsize; rw [if_pos (by omega)]; omega
  have hl := h.len
  obtain ⟨sz, hz⟩ : ∃ sz, 2 + 2 * n = sz := ⟨_, rfl⟩
  rw [hz] at hsz hin ⊢
  have hz1 : 1 ≤ sz := by omega
  have hz2 : sz ≤ 130 := by omega
  have c1 : ((sz : Int) == 0) = false := by simp; omega
  have c3 : ¬ (L.length : Int) - (sz : Int) < (b : Int) := by omega
  have HSZ := hide hsz
  have H := hide h
  have HF := hide hf
  clear hsz h hf hz
  go_enter Try.func21, Try.ntmps21
  go_wp2_with fail
  refine (GSize_any n w).mono ?_
  rintro e w1 ⟨rfl, rfl⟩
  rw [HSZ.out]
  go_wp2_with fail
  refine (Len_any H.out).mono ?_
  rintro e w1 ⟨rfl, rfl⟩
  go_wp2_with fail
  go_loopg [31] sz (fun q iv wr => ∃ (k : Nat), q = sz - k ∧ k ≤ sz ∧ iv = .int .i64 k ∧ MemAt wr bm bc (zeroL L b k) (tc + k) ∧ Only (S2 bm bc) w wr)
  case atStart => exact ⟨0, rfl, Nat.zero_le _, rfl, by simpa [zeroL] using H.out, Only.refl _ _⟩
  case round =>
    obtain ⟨k, rfl, hk, rfl, hm, ho⟩ := hrel
    have HM := hide hm
    have HO := hide ho
    clear hm ho
    by_cases hlt : k < sz
    · go_wp2_with fail
      refine (Store_in ((b : Int) + (k : Int)) 0 HM.out (HF.out.le_ (by omega)) (by omega) (by rw [zeroL_len]; omega)).mono ?_
      rintro e w2 ⟨rfl, h2, o2⟩
      rw [show ((b : Int) + (k : Int)).toNat = b + k by omega] at h2
      have H2 := hide h2
      have O2 := hide (HO.out.trans o2)
      clear h2 o2
      go_wp2_with fail
      go_roundg (sz - (k + 1))
      case rel => exact ⟨k + 1, rfl, by omega, by go_num, by rw [show tc + ((k + 1 : Nat) : Int) = tc + k + 1 by omega]; exact H2.out, O2.out⟩
      case measure => omega
    · obtain rfl : k = sz := by omega
      go_wp2_with fail
      go_ret2
      refine ⟨_, rfl, Blk.new _ _ _, ?_, HO.out.alloc _, HO.out.size⟩
      exact ⟨HM.out.mem.alloc _, HM.out.cells.alloc _, HM.out.len, HM.out.tc0⟩
end
end Go.Proofs.Ytdoaipjdldknaaa
