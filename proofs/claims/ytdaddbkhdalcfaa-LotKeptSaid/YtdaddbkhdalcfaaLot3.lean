/-
  Package lot: Order and Rank, told for all arguments.
-/
import Derived.Test.YtdaddbkhdalcfaaLot2
namespace Go.Proofs.Ytdaddbkhdalcfaa
open Go.RowKit
set_option linter.unusedVariables false

/-- The others, of whatever numbers. -/
def othZ (n s : Int) : List Nat := if 1 ≤ n ∧ n ≤ 8 ∧ 0 ≤ s ∧ s < n then othN n.toNat s.toNat else []
/-- The order of a draw, of whatever numbers. -/
def ordZ (d : Nat) (n s : Int) : List Nat := ordN (othZ n s).length d (othZ n s)
theorem othZ_good (n s : Nat) (h0 : n ≤ 8) (h1 : s < n) : othZ n s = othN n s := by
  unfold othZ
  rw [if_pos (by omega)]
  simp
theorem othZ_len (n s : Int) : (othZ n s).length ≤ 7 := by
  unfold othZ
  split
  · rename_i h
    rw [othN_len _ _ (by omega)]
    omega
  · simp
theorem ordZ_len (d : Nat) (n s : Int) : (ordZ d n s).length = (othZ n s).length := ord_len _ _ _ rfl
theorem others_any (n s : Int) (w : World) :
    Calls Try.prog 41 #[.int .i64 n, .int .i64 s] w fun e w' => ∃ v, e = .returned v ∧ Sl w' w.heap.size 3 v (vN (othZ n s)) ∧ Only S0 w w' := by
  by_cases h : 1 ≤ n ∧ n ≤ 8 ∧ 0 ≤ s ∧ s < n
  · obtain ⟨n', rfl⟩ := Int.eq_ofNat_of_zero_le (show 0 ≤ n by omega)
    obtain ⟨s', rfl⟩ := Int.eq_ofNat_of_zero_le (show 0 ≤ s by omega)
    rw [othZ_good n' s' (by omega) (by omega)]
    exact others_good n' s' w (by omega) (by omega)
  · have e : othZ n s = [] := by unfold othZ; rw [if_neg h]
    rw [e]
    refine (others_bad n s w (by omega)).mono ?_
    rintro e w' ⟨rfl, rfl⟩
    exact ⟨_, rfl, Sl.nil _ _ _, Only.refl _ _⟩
theorem Order_any (d : Int) (n s : Int) (w : World) (h0 : 0 ≤ d) (h1 : d < 18446744073709551616) :
    Calls Try.prog 34 #[.int .u64 d, .int .i64 n, .int .i64 s] w fun e w' => ∃ v, e = .returned v ∧ Sl w' w.heap.size 3 v (vN (ordZ d.toNat n s)) ∧ Only S0 w w' := by
  obtain ⟨d', rfl⟩ := Int.eq_ofNat_of_zero_le h0
  exact order_of d' n s w (by omega) (othZ n s) (by have := othZ_len n s; omega) (others_any n s w)

theorem rank_short (n s : Int) (order : List Nat) (w : World) (va : Value) (hva : Rd w va (vN order)) (hbig : order.length ≤ 1000000) (hlen : order.length ≠ (othZ n s).length) :
    Calls Try.prog 38 #[va, .int .i64 n, .int .i64 s] w fun e w' => e = .returned (rankV none) ∧ Only S0 w w' := by
  obtain ⟨av, cv, rfl, _⟩ := hva
  rw [vN_len]
  have hb : (((othZ n s).length : Int) != (order.length : Int)) = true := by simp; omega
  have hol := othZ_len n s
  clear hlen
  go_enter Try.func38, Try.ntmps38
  go_wp2_with fail
  refine (others_any n s w).mono ?_
  rintro e w1 ⟨v0, rfl, hv0, o1⟩
  have HO1 := hide o1
  obtain ⟨a8, c8, hv8, _⟩ := hv0.rd
  subst hv8
  rw [vN_len]
  clear hv0 o1
  generalize (othZ n s).length = m at hb hol ⊢
  go_wp2_with fail
  go_ret2
  exact ⟨rfl, HO1.out⟩
theorem rank_none (n s : Int) (a : Option Addr) (c : Nat) (w : World) (hbad : ¬ (1 ≤ n ∧ n ≤ 8 ∧ 0 ≤ s ∧ s < n)) :
    Calls Try.prog 38 #[.slice a 0 c, .int .i64 n, .int .i64 s] w fun e w' => e = .returned (rankV none) ∧ Only S0 w w' := by
  by_cases hn : n < 1 ∨ 8 < n
  · have HN := hide hn
    have HB := hide hbad
    clear hn hbad
    go_enter Try.func38, Try.ntmps38
    go_wp2_with fail
    refine (others_bad n s w (by have := HN.out; omega)).mono ?_
    rintro e w1 ⟨rfl, rfl⟩
    go_wp2_with fail
    refine (Ways_bad n w HN.out).mono ?_
    rintro e w1 ⟨rfl, rfl⟩
    go_wp2_with fail
    go_ret2
    exact ⟨rfl, Only.refl _ _⟩
  · obtain ⟨nn, rfl⟩ := Int.eq_ofNat_of_zero_le (show 0 ≤ n by omega)
    have hfb : (((facN nn : Nat) : Int) == 0) = false := by have := facN_pos nn; simp; omega
    have HN := hide hn
    have HB := hide hbad
    clear hn
    generalize hfx : facN nn = fx at hfb
    have HFX := hide hfx
    clear hfx
    by_cases hs : s < 0
    · clear hbad
      go_enter Try.func38, Try.ntmps38
      go_wp2_with fail
      refine (others_bad nn s w (by have := HN.out; omega)).mono ?_
      rintro e w1 ⟨rfl, rfl⟩
      go_wp2_with fail
      refine (Ways_good nn w (by have := HN.out; omega) (by have := HN.out; omega)).mono ?_
      rintro e w1 ⟨rfl, rfl⟩
      rw [HFX.out]
      go_wp2_with fail
      go_ret2
      exact ⟨rfl, Only.refl _ _⟩
    · have hs' : (nn : Int) ≤ s := by have := HN.out; omega
      clear hbad
      go_enter Try.func38, Try.ntmps38
      go_wp2_with fail
      refine (others_bad nn s w (by have := HN.out; omega)).mono ?_
      rintro e w1 ⟨rfl, rfl⟩
      go_wp2_with fail
      refine (Ways_good nn w (by have := HN.out; omega) (by have := HN.out; omega)).mono ?_
      rintro e w1 ⟨rfl, rfl⟩
      rw [HFX.out]
      go_wp2_with fail
      go_ret2
      exact ⟨rfl, Only.refl _ _⟩
/-- Rank, of whatever list of numbers that fit. -/
def rankZ (n s : Int) (o : List Nat) : Option Nat := if o.length = (othZ n s).length ∧ (1 ≤ n ∧ n ≤ 8 ∧ 0 ≤ s ∧ s < n) then rankF (othZ n s) o else none
theorem Rank_any (n s : Int) (order : List Nat) (w : World) (va : Value) (hva : Rd w va (vN order)) (hbig : order.length ≤ 1000000) :
    Calls Try.prog 38 #[va, .int .i64 n, .int .i64 s] w fun e w' => e = .returned (rankV (rankZ n s order)) ∧ Only S0 w w' := by
  unfold rankZ
  by_cases hl : order.length = (othZ n s).length
  · by_cases h : 1 ≤ n ∧ n ≤ 8 ∧ 0 ≤ s ∧ s < n
    · rw [if_pos ⟨hl, h⟩]
      exact rank_of n s (othZ n s) order w va (othZ_len n s) hl hva h.1 h.2.1 h.2.2.1 h.2.2.2 (others_any n s w)
    · rw [if_neg (fun k => h k.2)]
      have e : othZ n s = [] := by unfold othZ; rw [if_neg h]
      rw [e] at hl
      obtain ⟨av, cv, rfl, _⟩ := hva
      rw [vN_len, hl]
      exact rank_none n s av cv w h
  · rw [if_neg (fun k => hl k.1)]
    exact rank_short n s order w va hva hbig hl
end Go.Proofs.Ytdaddbkhdalcfaa
