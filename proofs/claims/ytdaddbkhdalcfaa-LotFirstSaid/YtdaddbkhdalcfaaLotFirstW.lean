/-
  LotFirst, the walk.
-/
import Derived.Test.YtdaddbkhdalcfaaLotAllW
namespace Go.Proofs.Ytdaddbkhdalcfaa
open Go.RowKit
set_option linter.unusedVariables false

theorem oth_mono (n s i j : Nat) (hij : i < j) (hj : j < (othN n s).length) : (othN n s).getD i 0 < (othN n s).getD j 0 := by
  have hp : (othN n s).Pairwise (· < ·) := List.Pairwise.sublist List.filter_sublist List.pairwise_lt_range
  have h := (List.pairwise_iff_getElem.1 hp) i j (by omega) hj hij
  simpa [List.getD, hj, show i < (othN n s).length by omega] using h
theorem ordZ_first (d n s : Nat) (h0 : n ≤ 8) (h1 : s < n) (hd : d < n - 1) : (ordZ d n s).getD 0 0 = (othN n s).getD d 0 := by
  unfold ordZ
  rw [othZ_good n s h0 h1]
  have hl := othN_len n s h1
  have hne : othN n s ≠ [] := fun e => by rw [e] at hl; simp at hl; omega
  obtain ⟨m, hm⟩ : ∃ m, (othN n s).length = m + 1 := ⟨n - 2, by omega⟩
  rw [hm, ordN_succ _ _ _ hne]
  rw [Nat.mod_eq_of_lt (by omega)]
  rfl
/-- The first one of the draw before (-1: there was none). -/
def lastOf (n s k : Nat) : Int := if k = 0 then -1 else ((othN n s).getD (k - 1) 0 : Nat)
theorem lastOf_lt (n s k : Nat) (h1 : s < n) (hk : k < n - 1) : lastOf n s k < ((othN n s).getD k 0 : Nat) := by
  unfold lastOf
  split
  · omega
  · have := oth_mono n s (k - 1) k (by omega) (by rw [othN_len n s h1]; exact hk)
    omega

set_option maxHeartbeats 1000000 in
theorem lotFirst_walk (wk who : Int) (w : World) (w1 : (Lit.int .u8 wk).wf = true) (w2 : (Lit.int .u8 who).wf = true) :
    Calls Try.prog 12 #[.int .u8 wk, .int .u8 who] w fun e w' => e = .returned (.bool true) ∧ Below w.heap.size w w' := by
  have k1 := (bounds_u8 w1).1
  have k2 := (bounds_u8 w1).2
  have k3 := (bounds_u8 w2).1
  have k4 := (bounds_u8 w2).2
  clear w1 w2
  obtain ⟨n, hn⟩ : ∃ n : Nat, 1 + wk % 8 = (n : Int) := ⟨(1 + wk % 8).toNat, by omega⟩
  have n1 : 1 ≤ n := by omega
  have n8 : n ≤ 8 := by omega
  obtain ⟨s, hs⟩ : ∃ s : Nat, who % (n : Int) = (s : Int) := ⟨(who % (n : Int)).toNat, by have := Int.emod_nonneg who (show (n : Int) ≠ 0 by omega); omega⟩
  have sn : s < n := by have := Int.emod_lt_of_pos who (show (0 : Int) < (n : Int) by omega); omega
  go_enter Try.func12, Try.ntmps12
  go_wp2_with fail
  refine (alive7_any w).mono ?_
  rintro e w1 ⟨rfl, p1⟩
  have P1 := hide p1
  clear p1
  go_wp2_with fail
  simp only [hs]
  go_loopg [7, 8] (n - 1) (fun q lv iv wr => ∃ (k : Nat), q = n - 1 - k ∧ k ≤ n - 1 ∧ iv = .int .i64 k ∧ lv = .int .i64 (lastOf n s k) ∧ Only S0 w wr)
  case atStart => exact ⟨0, rfl, Nat.zero_le _, rfl, rfl, P1.out⟩
  case round =>
    obtain ⟨k, rfl, hk, rfl, rfl, ho⟩ := hrel
    have HO := hide ho
    clear ho
    by_cases hlt : k < n - 1
    · have hlt' : (k : Int) < (n : Int) - 1 := by omega
      have hlen : ((n - 1 : Nat) : Int) = (n : Int) - 1 := by omega
      have hfst := ordZ_first k n s n8 sn hlt
      have hlast := lastOf_lt n s k sn hlt
      have hsz := ordZ_size k n s n8 sn
      obtain ⟨x, hx⟩ : ∃ x, (othN n s).getD k 0 = x := ⟨_, rfl⟩
      rw [hx] at hfst hlast
      have HNX := hide (show lastOf n s (k + 1) = (x : Int) from by unfold lastOf; rw [if_neg (by omega), Nat.add_sub_cancel, hx])
      generalize lastOf n s k = lst at hlast ⊢
      have HFST := hide hfst
      have HSZ := hide hsz
      clear hfst hsz hx
      go_wp2_with fail
      refine (Order_any k n s _ (by omega) (by omega)).mono ?_
      rintro e w2 ⟨v, rfl, hv, p2⟩
      rw [Int.toNat_natCast] at hv
      obtain ⟨a9, c9, rfl, hcell⟩ := hv.rd
      rw [vN_len, HSZ.out] at hcell ⊢
      obtain ⟨g, off, rfl, hg, hc⟩ := hcell (by omega)
      have c1 := hc 0 _ (vN_at _ 0 (by rw [HSZ.out]; omega))
      rw [HFST.out, Nat.add_zero] at c1
      have P2 := hide (HO.out.trans p2)
      clear hv hcell hc p2
      go_wp2_with fail
      go_roundg (n - 1 - (k + 1))
      case rel => exact ⟨k + 1, rfl, by omega, by go_num, by rw [HNX.out], P2.out⟩
      case measure => omega
    · have hlt' : ¬ (k : Int) < (n : Int) - 1 := by omega
      go_wp2_with fail
      go_ret
      exact ⟨rfl, S0.below HO.out⟩
end Go.Proofs.Ytdaddbkhdalcfaa
