/-
  troupelaw06.made: a bell of so many workers, of whom those sleep that are named.
-/
import Derived.Test.YtafnlmkhfonghaaAlive6
import Derived.Test.YtafnlmkhfonghaaOpen
namespace Go.Proofs.Ytafnlmkhfonghaa
open Go.RowKit
set_option linter.unusedVariables false

theorem bout0_in {n x : Int} (h0 : 0 ≤ x) (h1 : x < n) : bout0 n x = 0 := by unfold bout0; rw [if_pos ⟨h0, h1⟩]
/-- One Sleep, done at once. -/
theorem bdone_sleep (base n x : Int) (L : List Int) (h0 : 0 ≤ x) (h1 : x < n) : bdone base n 100 L ⟨0, x, bout0 n x⟩ = (L.set (base + x).toNat 1, ⟨0, x, 1⟩, 1) := by
  rw [bout0_in h0 h1]
  exact bdone_cons rfl (by simp [bstep]) (bdone_over _ _ _ _ _ (by simp))
theorem bdone_up (base n x : Int) (L : List Int) (h0 : 0 ≤ x) (h1 : x < n) : bdone base n 100 L ⟨1, x, bout0 n x⟩ = (L.set (base + x).toNat 0, ⟨1, x, 1⟩, 1) := by
  rw [bout0_in h0 h1]
  exact bdone_cons rfl (by simp [bstep]) (bdone_over _ _ _ _ _ (by simp))
theorem pollOut_ne (v : Int) : pollOut v ≠ 0 := by unfold pollOut; split <;> decide
theorem bdone_poll (base n x : Int) (L : List Int) (h0 : 0 ≤ x) (h1 : x < n) : bdone base n 100 L ⟨2, x, bout0 n x⟩ = (L, ⟨2, x, pollOut (at_ L (base + x))⟩, 1) := by
  rw [bout0_in h0 h1]
  exact bdone_cons rfl (by simp [bstep]) (bdone_over _ _ _ _ _ (pollOut_ne _))
theorem bout0_out {n x : Int} (h : ¬ (0 ≤ x ∧ x < n)) : bout0 n x = 4 := by unfold bout0; rw [if_neg h]
theorem bdone_none (base n x : Int) (k : Nat) (L : List Int) (h : ¬ (0 ≤ x ∧ x < n)) : bdone base n 100 L ⟨k, x, bout0 n x⟩ = (L, ⟨k, x, 4⟩, 0) := by
  rw [bout0_out h]
  exact bdone_over _ _ _ _ _ (by simp)

/-- Who sleeps at first. -/
def slept (len : Nat) (xs : List Bool) (i : Nat) : Int := if i < len ∧ eltB xs i = true then 1 else 0
structure MadeL (n len : Nat) (xs : List Bool) (k : Nat) (L : List Int) : Prop where
  lenL : L.length = n + 1
  done : ∀ i, i < k → at_ L (i : Int) = slept len xs i
  rest : ∀ i, k ≤ i → at_ L (i : Int) = 0
theorem madeL_zero (n len : Nat) (xs : List Bool) : MadeL n len xs 0 (List.replicate (n + 1) 0) := by
  refine ⟨by simp, fun i h => by omega, fun i _ => ?_⟩
  unfold at_
  simp only [List.getD, Int.toNat_natCast, List.getElem?_replicate]
  split <;> rfl
theorem MadeL.yes {n len k : Nat} {xs : List Bool} {L : List Int} (h : MadeL n len xs k L) (hn : k < n) (hk : k < len) (hx : eltB xs k = true) : MadeL n len xs (k + 1) (L.set (0 + (k : Int)).toNat 1) := by
  have hl := h.lenL
  have e : (0 + (k : Int)).toNat = k := by omega
  rw [e]
  refine ⟨by simpa using h.lenL, fun i hi => ?_, fun i hi => ?_⟩
  · rw [at_set _ _ _ _ (by omega)]
    by_cases hik : i = k
    · subst hik
      rw [if_pos rfl, slept, if_pos ⟨hk, hx⟩]
    · rw [if_neg hik]
      exact h.done i (by omega)
  · rw [at_set _ _ _ _ (by omega), if_neg (by omega)]
    exact h.rest i (by omega)
theorem MadeL.no {n len k : Nat} {xs : List Bool} {L : List Int} (h : MadeL n len xs k L) (hx : eltB xs k = false) : MadeL n len xs (k + 1) L := by
  refine ⟨h.lenL, fun i hi => ?_, fun i hi => h.rest i (by omega)⟩
  by_cases hik : i = k
  · subst hik
    rw [slept, if_neg (by simp [hx])]
    exact h.rest i (by omega)
  · exact h.done i (by omega)
theorem MadeL.end_ {n len k : Nat} {xs : List Bool} {L : List Int} (h : MadeL n len xs k L) (hk : len ≤ k) (hn : k ≤ n) : MadeL n len xs n L := by
  refine ⟨h.lenL, fun i hi => ?_, fun i hi => h.rest i (by omega)⟩
  by_cases hik : i < k
  · exact h.done i hik
  · rw [slept, if_neg (by omega)]
    exact h.rest i (by omega)

set_option maxHeartbeats 2000000 in
theorem made6_any (n : Nat) {w : World} {a : Option Addr} {len cap : Nat} {xs : List Bool} (h1 : 1 ≤ n) (h8 : n ≤ 8) (hb : InBools w a len xs) :
    Calls Try.prog 14 #[.int .i64 n, .slice a len cap] w fun e w' => ∃ bb bm bc L tc, e = .returned (.tuple #[.pointer (some ⟨bb, 0, none⟩), .pointer (some ⟨bm, 0, none⟩)]) ∧
      BellEnv w' bb bm bc 0 n tc L ∧ tc ≤ 1000 ∧ MadeL n len xs n L ∧ Only S0 w w' ∧ w.heap.size ≤ bb ∧ w.heap.size ≤ bm ∧ w.heap.size ≤ bc := by
  have HC := hide hb.cells
  have hbig := hb.big
  clear hb
  go_enter Try.func14, Try.ntmps14
  go_wp2_with fail
  refine (New_any _).mono ?_
  rintro e w1 ⟨bm, bc, rfl, q1, p1, b1, b2⟩
  rw [show countOf ((n : Int) + 1) = n + 1 by unfold countOf; omega] at q1
  have HQ := hide q1
  have HP := hide p1
  clear q1 p1
  go_wp2_with fail
  refine (BMake_good 0 n HQ.out (few_of _ (by omega)) h1 h8 (by simp)).mono ?_
  rintro e w2 ⟨bb, rfl, g2, q2, p2, b3⟩
  rw [zeroL_rep] at q2
  have HE := hide (show BellEnv w2 bb bm bc 0 n (0 + (n : Int)) (List.replicate (n + 1) 0) from ⟨g2, q2, few_of _ (by omega), by omega, by omega, by omega, by omega, by simp; omega⟩)
  have PP := hide (S0.then2 HP.out p2 b1 b2)
  have b4 : w.heap.size ≤ bb := Nat.le_trans HP.out.size b3
  clear g2 q2 p2 HQ HP b3
  go_wp2_with fail
  go_loopg [9] n (fun q iv wr => ∃ (k : Nat) (L : List Int) (tc : Int), q = n - k ∧ k ≤ n ∧ iv = .int .i64 k ∧ BellEnv wr bb bm bc 0 n tc L ∧ tc ≤ 20 + k ∧ MadeL n len xs k L ∧ Only S0 w wr)
  case atStart => exact ⟨0, _, _, rfl, Nat.zero_le _, rfl, HE.out, by omega, madeL_zero _ _ _, PP.out⟩
  case round =>
    clear HE PP
    obtain ⟨k, L, tc, rfl, hk, rfl, he, htc, hm, ho⟩ := hrel
    have HE := hide he
    have HM := hide hm
    have HO := hide ho
    clear he hm ho
    by_cases hkn : k < n
    · by_cases hkl : k < len
      · obtain ⟨g, off, rfl, hg, hc⟩ := HC.out (by omega)
        have ce := (HO.out.cell (p := ⟨g, off + k, none⟩) hg (fun h => h)).trans (hc k hkl)
        have HCC := hide hc
        clear hc
        obtain ⟨x, hx⟩ : ∃ x, eltB xs k = x := ⟨_, rfl⟩
        rw [hx] at ce
        have HX := hide hx
        clear hx
        cases x with
        | true =>
          go_wp2_with fail
          refine (BSleep_all (k : Int) HE.out).mono ?_
          rintro e w3 ⟨bo, rfl, h3, he3, p3, b3⟩
          have H3 := hide h3
          have HE3 := hide he3
          have P3 := hide (HO.out.trans p3)
          have b5 : w.heap.size ≤ bo := Nat.le_trans HO.out.size b3
          clear h3 he3 p3 b3 ce
          go_wp2_with fail
          refine (bdone_any HE3.out (bok_new _ (by decide) _ _) H3.out (few_of _ (by omega))).mono ?_
          rintro e w4 ⟨rfl, -, -, he4, p4, -⟩
          rw [bdone_sleep _ _ _ _ (by omega) (by omega)] at he4 ⊢
          have HE4 := hide he4
          have P4 := hide (S0.then3 P3.out p4 b5 b1 b2)
          clear he4 p4
          unfold bdoneV
          go_wp2_with fail
          go_roundg (n - (k + 1))
          case rel => exact ⟨k + 1, _, _, rfl, by omega, by go_num, HE4.out, by simp; omega, HM.out.yes hkn hkl HX.out, P4.out⟩
          case measure => omega
        | false =>
          go_wp2_with fail
          go_roundg (n - (k + 1))
          case rel => exact ⟨k + 1, _, _, rfl, by omega, by go_num, HE.out, by omega, HM.out.no HX.out, HO.out⟩
          case measure => omega
      · go_wp2_with fail
        go_ret2
        exact ⟨bb, bm, bc, L, tc, rfl, HE.out, by omega, HM.out.end_ (by omega) (by omega), HO.out, b4, b1, b2⟩
    · obtain rfl : k = n := by omega
      go_wp2_with fail
      go_ret2
      exact ⟨bb, bm, bc, L, tc, rfl, HE.out, by omega, HM.out, HO.out, b4, b1, b2⟩
end Go.Proofs.Ytafnlmkhfonghaa
