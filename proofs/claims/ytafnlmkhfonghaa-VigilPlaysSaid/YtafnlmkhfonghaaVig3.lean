/-
  Package vigil: Size and Make; a vigil and its memory.
-/
import Derived.Test.YtafnlmkhfonghaaVig2
namespace Go.Proofs.Ytafnlmkhfonghaa
open Go.RowKit
set_option linter.unusedVariables false

/-- How many cells a vigil takes. -/
def vsize (n : Int) : Int := if 1 ≤ n ∧ n ≤ 16 then n * n else 0
theorem sq_bound {n : Int} (h1 : 1 ≤ n) (h2 : n ≤ 16) : 1 ≤ n * n ∧ n * n ≤ 256 := by
  have h3 : n * n ≤ 16 * 16 := Int.mul_le_mul h2 h2 (by omega) (by decide)
  have h4 : 1 * 1 ≤ n * n := Int.mul_le_mul h1 h1 (by decide) (by omega)
  omega
theorem VSize_any (n : Int) (w : World) : Calls Try.prog 43 #[.int .i64 n] w fun e w' => e = .returned (.int .i64 (vsize n)) ∧ w = w' := by
  by_cases h : 1 ≤ n ∧ n ≤ 16
  · have hs : vsize n = n * n := by simp [vsize, h]
    rw [hs]
    obtain ⟨h1, h2⟩ := h
    obtain ⟨q1, q2⟩ := sq_bound h1 h2
    clear hs
    go_enter Try.func43, Try.ntmps43
    go_wp2_with fail
    go_ret
    exact ⟨rfl, rfl⟩
  · have hs : vsize n = 0 := by simp [vsize, h]
    rw [hs]
    clear hs
    by_cases h1 : n < 1
    · clear h
      go_enter Try.func43, Try.ntmps43
      go_wp2_with fail
      go_ret
      exact ⟨rfl, rfl⟩
    · have h2 : 16 < n := by omega
      clear h
      go_enter Try.func43, Try.ntmps43
      go_wp2_with fail
      go_ret
      exact ⟨rfl, rfl⟩

theorem VMake_nil (base n : Int) (w : World) : Calls Try.prog 42 #[.pointer none, .int .i64 base, .int .i64 n] w fun e w' => e = .returned (.tuple #[.pointer none, .int .i64 1]) ∧ w = w' := by
  go_enter Try.func42, Try.ntmps42
  go_wp2_with fail
  refine (VSize_any n w).mono ?_
  rintro e w1 ⟨rfl, rfl⟩
  go_wp2_with fail
  go_ret2
  exact ⟨rfl, rfl⟩
section
variable {w : World} {bm bc : Nat} {L : List Int} {tc : Int}
theorem VMake_bad (base n : Int) (h : MemAt w bm bc L tc) (hb : vsize n = 0 ∨ base < 0 ∨ (L.length : Int) - vsize n < base) :
    Calls Try.prog 42 #[.pointer (some ⟨bm, 0, none⟩), .int .i64 base, .int .i64 n] w fun e w' => e = .returned (.tuple #[.pointer none, .int .i64 1]) ∧ w = w' := by
  obtain ⟨sz, hsz⟩ : ∃ sz, vsize n = sz := ⟨_, rfl⟩
  have hs0 : 0 ≤ sz ∧ sz ≤ 256 := by
    rw [← hsz]
    unfold vsize
    split
    · rename_i hh
      have := sq_bound hh.1 hh.2
      omega
    · omega
  rw [hsz] at hb
  have HSZ := hide hsz
  have H := hide h
  obtain ⟨s1, s2⟩ := hs0
  have hl := h.len
  clear hsz h
  by_cases c1 : sz = 0
  · subst c1
    clear hb
    go_enter Try.func42, Try.ntmps42
    go_wp2_with fail
    refine (VSize_any n w).mono ?_
    rintro e w1 ⟨rfl, rfl⟩
    rw [HSZ.out]
    go_wp2_with fail
    go_ret2
    exact ⟨rfl, rfl⟩
  · have c1' : (sz == 0) = false := by simp [c1]
    by_cases c2 : base < 0
    · clear hb
      go_enter Try.func42, Try.ntmps42
      go_wp2_with fail
      refine (VSize_any n w).mono ?_
      rintro e w1 ⟨rfl, rfl⟩
      rw [HSZ.out]
      go_wp2_with fail
      go_ret2
      exact ⟨rfl, rfl⟩
    · have c3 : (L.length : Int) - sz < base := by omega
      clear hb
      go_enter Try.func42, Try.ntmps42
      go_wp2_with fail
      refine (VSize_any n w).mono ?_
      rintro e w1 ⟨rfl, rfl⟩
      rw [HSZ.out]
      go_wp2_with fail
      refine (Len_any H.out).mono ?_
      rintro e w1 ⟨rfl, rfl⟩
      go_wp2_with fail
      go_ret2
      exact ⟨rfl, rfl⟩

set_option maxHeartbeats 1000000 in
theorem VMake_good (b n sz : Nat) (h : MemAt w bm bc L tc) (hf : Few (tc + 300)) (h1 : 1 ≤ n) (h16 : n ≤ 16) (hz : n * n = sz) (hin : b + sz ≤ L.length) :
    Calls Try.prog 42 #[.pointer (some ⟨bm, 0, none⟩), .int .i64 b, .int .i64 n] w fun e w' => ∃ vb, e = .returned (.tuple #[.pointer (some ⟨vb, 0, none⟩), .int .i64 0]) ∧
      VigAt w' vb bm b n ∧ MemAt w' bm bc (zeroL L b sz) (tc + (sz : Nat)) ∧ Only (S2 bm bc) w w' ∧ w.heap.size ≤ vb := by
  have hzz : (n : Int) * (n : Int) = (sz : Int) := by rw [← hz]; exact (Int.natCast_mul n n).symm
  have hsz : vsize n = (sz : Nat) := by unfold vsize; rw [if_pos (by omega), hzz]
  have hl := h.len
  have hsb := sq_bound (n := (n : Int)) (by omega) (by omega)
  rw [hzz] at hsb
  obtain ⟨hsb1, hsb2⟩ := hsb
  have hz1 : 1 ≤ sz := by omega
  have hz2 : sz ≤ 256 := by omega
  have c1 : ((sz : Int) == 0) = false := by simp; omega
  have c3 : ¬ (L.length : Int) - (sz : Int) < (b : Int) := by omega
  have HSZ := hide hsz
  have H := hide h
  have HF := hide hf
  clear hsz h hf hz hzz
  go_enter Try.func42, Try.ntmps42
  go_wp2_with fail
  refine (VSize_any n w).mono ?_
  rintro e w1 ⟨rfl, rfl⟩
  rw [HSZ.out]
  go_wp2_with fail
  refine (Len_any H.out).mono ?_
  rintro e w1 ⟨rfl, rfl⟩
  go_wp2_with fail
  go_loopg [31] sz (fun q iv wr => ∃ (k : Nat), q = sz - k ∧ k ≤ sz ∧ iv = .int .i64 k ∧ MemAt wr bm bc (zeroL L b k) (tc + k) ∧ Only (S2 bm bc) w wr)
  case atStart => exact ⟨0, rfl, Nat.zero_le _, rfl, by simpa [zeroL] using H.out, Only.refl _ _⟩
  case round =>
    obtain ⟨k, rfl, hk, rfl, hm, ho⟩ := hrel
    have HM := hide hm
    have HO := hide ho
    clear hm ho
    by_cases hlt : k < sz
    · go_wp2_with fail
      refine (Store_in ((b : Int) + (k : Int)) 0 HM.out (HF.out.le_ (by omega)) (by omega) (by rw [zeroL_len]; omega)).mono ?_
      rintro e w2 ⟨rfl, h2, o2⟩
      rw [show ((b : Int) + (k : Int)).toNat = b + k by omega] at h2
      have H2 := hide h2
      have O2 := hide (HO.out.trans o2)
      clear h2 o2
      go_wp2_with fail
      go_roundg (sz - (k + 1))
      case rel => exact ⟨k + 1, rfl, by omega, by go_num, by rw [show tc + ((k + 1 : Nat) : Int) = tc + k + 1 by omega]; exact H2.out, O2.out⟩
      case measure => omega
    · obtain rfl : k = sz := by omega
      go_wp2_with fail
      go_ret2
      refine ⟨_, rfl, Blk.new _ _ _, ?_, HO.out.alloc _, HO.out.size⟩
      exact ⟨HM.out.mem.alloc _, HM.out.cells.alloc _, HM.out.len, HM.out.tc0⟩
end

/-- A vigil and its memory. -/
structure VE (w : World) (vb bm bc : Nat) (base n tc : Int) (L : List Int) : Prop where
  vig : VigAt w vb bm base n
  mem : MemAt w bm bc L tc
  few : Few tc
  n1 : 1 ≤ n
  n16 : n ≤ 16
  b0 : 0 ≤ base
  b1 : base ≤ 70000
  in_ : base + n * n ≤ L.length
section
variable {w : World} {bo vb bm bc : Nat} {base n tc : Int} {L : List Int}
theorem VE.env (h : VE w vb bm bc base n tc L) : VEnv w bm bc tc L := ⟨h.mem, h.few⟩
theorem VE.only {w' : World} {S : Nat → Prop} (he : VE w vb bm bc base n tc L) (ho : Only S w w') (h1 : ¬ S vb) (h2 : ¬ S bm) (h3 : ¬ S bc) : VE w' vb bm bc base n tc L :=
  ⟨he.vig.only ho h1, he.mem.only ho h2 h3, he.few, he.n1, he.n16, he.b0, he.b1, he.in_⟩
theorem VE.only0 {w' : World} (he : VE w vb bm bc base n tc L) (ho : Only S0 w w') : VE w' vb bm bc base n tc L := he.only ho (fun h => h) (fun h => h) (fun h => h)
theorem VE.step {w' : World} {L' : List Int} {tc' : Int} (he : VE w vb bm bc base n tc L) (ho : Only (S3 bo bm bc) w w') {o : Vop} (h : VopIs w bo bm o) (hv : VEnv w' bm bc tc' L') (hl : L'.length = L.length) : VE w' vb bm bc base n tc' L' := by
  have hne : vb ≠ bo := Blk.ne_ he.vig h (by decide)
  have hnm : vb ≠ bm := Blk.ne_ he.vig he.mem.mem (by decide)
  have hnc : vb ≠ bc := Blk.ne_ he.vig he.mem.cells (by decide)
  exact ⟨he.vig.only ho (fun k => by unfold S3 at k; omega), hv.mem, hv.few, he.n1, he.n16, he.b0, he.b1, by rw [hl]; exact he.in_⟩
theorem vok_new (he : VE w vb bm bc base n tc L) (k : Nat) (hk : k = 0 ∨ k = 1 ∨ k = 2 ∨ k = 3 ∨ k = 4) (x y : Int) : VopOk L.length ⟨k, vc0 base n x y, 0, vo0 n x y⟩ := by
  have hb := he.b0
  have hi := he.in_
  refine ⟨hk, fun h => ?_, fun h => ?_⟩
  all_goals
    have h' : vo0 n x y = 0 := h
    unfold vo0 at h'
    by_cases c : vin n x y
    · have := vcell_in c hb
      simp only [vc0, if_pos c]
      omega
    · rw [if_neg c] at h'; cases h'
theorem VWatch_all (x y : Int) (he : VE w vb bm bc base n tc L) : Calls Try.prog 28 #[.pointer (some ⟨vb, 0, none⟩), .int .i64 x, .int .i64 y] w fun e w' =>
    ∃ bo, e = .returned (.pointer (some ⟨bo, 0, none⟩)) ∧ VopIs w' bo bm ⟨0, vc0 base n x y, 0, vo0 n x y⟩ ∧ VE w' vb bm bc base n tc L ∧ Only S0 w w' ∧ w.heap.size ≤ bo := by
  refine (Watch_any x y he.vig he.b0 he.b1 he.n16).mono ?_
  rintro e w' ⟨bo, rfl, h1, h2, h3⟩
  exact ⟨bo, rfl, h1, he.only0 h2, h2, h3⟩
theorem VUnwatch_all (x y : Int) (he : VE w vb bm bc base n tc L) : Calls Try.prog 34 #[.pointer (some ⟨vb, 0, none⟩), .int .i64 x, .int .i64 y] w fun e w' =>
    ∃ bo, e = .returned (.pointer (some ⟨bo, 0, none⟩)) ∧ VopIs w' bo bm ⟨2, vc0 base n x y, 0, vo0 n x y⟩ ∧ VE w' vb bm bc base n tc L ∧ Only S0 w w' ∧ w.heap.size ≤ bo := by
  refine (Unwatch_any x y he.vig he.b0 he.b1 he.n16).mono ?_
  rintro e w' ⟨bo, rfl, h1, h2, h3⟩
  exact ⟨bo, rfl, h1, he.only0 h2, h2, h3⟩
theorem VClaim_all (x y : Int) (he : VE w vb bm bc base n tc L) : Calls Try.prog 29 #[.pointer (some ⟨vb, 0, none⟩), .int .i64 x, .int .i64 y] w fun e w' =>
    ∃ bo, e = .returned (.pointer (some ⟨bo, 0, none⟩)) ∧ VopIs w' bo bm ⟨4, vc0 base n x y, 0, vo0 n x y⟩ ∧ VE w' vb bm bc base n tc L ∧ Only S0 w w' ∧ w.heap.size ≤ bo := by
  refine (Claim_any x y he.vig he.b0 he.b1 he.n16).mono ?_
  rintro e w' ⟨bo, rfl, h1, h2, h3⟩
  exact ⟨bo, rfl, h1, he.only0 h2, h2, h3⟩
end
end Go.Proofs.Ytafnlmkhfonghaa
