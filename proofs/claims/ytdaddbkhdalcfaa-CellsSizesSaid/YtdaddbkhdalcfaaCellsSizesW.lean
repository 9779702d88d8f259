/-
  CellsSizes, the walk.
-/
import Derived.Test.YtdaddbkhdalcfaaAlive1
import Derived.Test.YtdaddbkhdalcfaaOpen
import Derived.Test.YtdaddbkhdalcfaaRef1
namespace Go.Proofs.Ytdaddbkhdalcfaa
open Go.RowKit
set_option linter.unusedVariables false

theorem at_set (L : List Int) (i v : Int) (h0 : 0 ≤ i) (h1 : i < L.length) : at_ (L.set i.toNat v) i = v := by
  have : i.toNat < L.length := by omega
  simp [at_, List.getD, this]
theorem at_set_ne (L : List Int) (i j v : Int) (h0 : 0 ≤ i) (h1 : 0 ≤ j) (h : i ≠ j) : at_ (L.set i.toNat v) j = at_ L j := by
  have : i.toNat ≠ j.toNat := by omega
  simp [at_, List.getD, this]

set_option maxHeartbeats 1000000 in
theorem cellsSizes_walk (n : Int) (w : World) (w0 : (Lit.int .i64 n).wf = true) :
    Calls Try.prog 6 #[.int .i64 n] w fun e w' => e = .returned (.bool true) ∧ Below w.heap.size w w' := by
  clear w0
  have hk : countOf n ≤ 65536 := by unfold countOf; omega
  go_enter Try.func6, Try.ntmps6
  go_wp2_with fail
  refine (New_any n).mono ?_
  rintro e w1 ⟨bm, bc, rfl, h1, p1, b1, b2⟩
  obtain ⟨L, hL, hLk⟩ : ∃ L, List.replicate (countOf n) (0 : Int) = L ∧ L.length = countOf n := ⟨_, rfl, by simp⟩
  rw [hL] at h1
  clear hL
  obtain ⟨k, hkn⟩ : ∃ k, countOf n = k := ⟨_, rfl⟩
  rw [hkn] at hk hLk
  have HK := hide hkn
  have H1 := hide h1
  have P1 := hide p1
  have HL := hide hLk
  clear h1 p1 hLk hkn
  go_wp2_with fail
  refine (alive1_any w1).mono ?_
  rintro e w2 ⟨rfl, p2⟩
  have P2 := hide (P1.out.trans p2)
  have H2 := hide (H1.out.only p2 (fun h => h) (fun h => h))
  clear p2 H1 P1
  go_wp2_with fail
  refine (Count_any n _).mono ?_
  rintro e w3 ⟨rfl, rfl⟩
  rw [HK.out]
  go_wp2_with fail
  refine (Len_any H2.out).mono ?_
  rintro e w3 ⟨rfl, rfl⟩
  rw [HL.out]
  go_wp2_with fail
  refine (Store_out k 1 H2.out (.inr (by rw [HL.out]; omega))).mono ?_
  rintro e w3 ⟨rfl, rfl⟩
  go_wp2_with fail
  refine (Store_out (-1) 1 H2.out (.inl (by omega))).mono ?_
  rintro e w3 ⟨rfl, rfl⟩
  by_cases hk0 : k = 0
  · subst hk0
    have hL0 : L = [] := List.eq_nil_of_length_eq_zero HL.out
    go_wp2_with fail
    refine (All_any H2.out).mono ?_
    rintro e w3 ⟨v, rfl, hv, p3⟩
    subst hL0
    rcases hv.form with ⟨rfl, _⟩ | ⟨g, cap, cur, rfl, _⟩
    all_goals
      have P3 := hide p3
      clear hv p3
      go_wp2_with fail
      go_ret
      exact ⟨rfl, S0.below (P2.out.trans P3.out)⟩
  · have hk1 : 0 ≤ (k : Int) - 1 := by omega
    have hb : ((k : Int) == 0) = false := by simp; omega
    have hin : (k : Int) - 1 < L.length := by rw [HL.out]; omega
    have HI := hide hin
    clear hin
    go_wp2_with fail
    refine (Store_in ((k : Int) - 1) 5 H2.out (few_of _ (by omega)) hk1 HI.out).mono ?_
    rintro e w3 ⟨rfl, h3, p3⟩
    have P3 := hide (S0.then2 P2.out p3 b1 b2)
    have H3 := hide h3
    clear h3 p3
    go_wp2_with fail
    refine (Peek_in ((k : Int) - 1) H3.out hk1 (by rw [List.length_set]; exact HI.out)).mono ?_
    rintro e w4 ⟨rfl, rfl⟩
    rw [at_set _ _ _ hk1 HI.out]
    go_wp2_with fail
    refine (Touched_any H3.out).mono ?_
    rintro e w4 ⟨rfl, rfl⟩
    go_wp2_with fail
    go_ret
    exact ⟨rfl, S0.below P3.out⟩
end Go.Proofs.Ytdaddbkhdalcfaa
