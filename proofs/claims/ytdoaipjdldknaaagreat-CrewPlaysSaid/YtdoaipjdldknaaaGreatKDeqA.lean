/-
  A deque that is alone: operations done at once (plain lists; no program).
-/
import Derived.Test.YtdoaipjdldknaaaGreatKDeq5
namespace Go.Proofs.YtdoaipjdldknaaaGreat
open Go.RowKit
set_option linter.unusedVariables false

theorem dslot_nat (n B : Nat) : dslotOf 0 n B = ((2 + B % n : Nat) : Int) := by unfold dslotOf; omega
theorem w64_add (B : Nat) (h : B ≤ 1000000) : IntKind.u64.wrap ((B : Int) + 1) = ((B + 1 : Nat) : Int) := by rw [IntKind.wrap_u64]; omega
theorem w64_sub (B : Nat) (h : B ≤ 1000000) (h1 : 1 ≤ B) : IntKind.u64.wrap ((B : Int) - 1) = ((B - 1 : Nat) : Int) := by rw [IntKind.wrap_u64]; omega
theorem w64_diff (B T : Nat) (h : B ≤ 1000000) (h1 : T ≤ B) : IntKind.u64.wrap ((B : Int) - T) = ((B - T : Nat) : Int) := by rw [IntKind.wrap_u64]; omega
/-- Two numbers less than n apart lie in different slots. -/
theorem dmod_ne {n a b : Nat} (hne : a ≠ b) (h1 : a < b + n) (h2 : b < a + n) : a % n ≠ b % n := by
  have key : ∀ {a b : Nat}, a < b → b < a + n → a % n ≠ b % n := by
    intro a b h1 h2 h
    have h3 : (b - a) % n = 0 := Nat.sub_mod_eq_zero_of_mod_eq h.symm
    rw [Nat.mod_eq_of_lt (by omega)] at h3
    omega
  rcases Nat.lt_or_ge a b with h | h
  · exact key h h2
  · exact fun e => key (show b < a by omega) h1 e.symm
theorem ddone_cons {base n : Int} {k j : Nat} {L L1 L2 : List Int} {o o1 o2 : Dop} (h : o.out = 0) (hs : dstep base n L o = (L1, o1)) (hr : ddone base n k L1 o1 = (L2, o2, j)) :
    ddone base n (k + 1) L o = (L2, o2, j + 1) := by
  rw [ddone_succ _ _ _ _ _ h, hs, hr]
section
variable {base n : Int} {L : List Int} {v t b : Int} {won : Bool}
theorem ds1 : dstep base n L ⟨1, 0, v, t, b, won⟩ = (L, ⟨2, 0, v, t, at_ L (base + 1), won⟩) := by simp [dstep, dpush]
theorem ds2 : dstep base n L ⟨2, 0, v, t, b, won⟩ = (L, ⟨3, dfull n b (at_ L base), v, at_ L base, b, won⟩) := by simp [dstep, dpush]
theorem ds3 : dstep base n L ⟨3, 0, v, t, b, won⟩ = (L.set (dslotOf base n b).toNat v, ⟨4, 0, v, t, b, won⟩) := by simp [dstep, dpush]
theorem ds4 : dstep base n L ⟨4, 0, v, t, b, won⟩ = (L.set (base + 1).toNat (IntKind.u64.wrap (b + 1)), ⟨4, 1, 0, t, b, won⟩) := by simp [dstep, dpush]
theorem ds5 : dstep base n L ⟨5, 0, v, t, b, won⟩ = (L, ⟨6, 0, v, t, at_ L (base + 1), won⟩) := by simp [dstep, dpop]
theorem ds6 : dstep base n L ⟨6, 0, v, t, b, won⟩ = (L.set (base + 1).toNat (IntKind.u64.wrap (b - 1)), ⟨7, 0, v, t, b, won⟩) := by simp [dstep, dpop]
theorem ds7 : dstep base n L ⟨7, 0, v, t, b, won⟩ = (L, ⟨if IntKind.u64.wrap (b - 1) < at_ L base then 10 else 8, 0, v, at_ L base, b, won⟩) := by simp [dstep, dpop]
theorem ds8 : dstep base n L ⟨8, 0, v, t, b, won⟩ = (L, ⟨9, dlast t b, at_ L (dslotOf base n (IntKind.u64.wrap (b - 1))), t, b, won⟩) := by simp [dstep, dpop]
theorem ds9 : dstep base n L ⟨9, 0, v, t, b, won⟩ = (dswapL base L t, ⟨10, 0, v, t, b, dswapB base L t⟩) := by simp [dstep, dpop]
theorem ds10 : dstep base n L ⟨10, 0, v, t, b, won⟩ = (L.set (base + 1).toNat b, ⟨10, dwon won, v, t, b, won⟩) := by simp [dstep, dpop]
theorem ds11 : dstep base n L ⟨11, 0, v, t, b, won⟩ = (L, ⟨12, 0, v, at_ L base, b, won⟩) := by simp [dstep, dsteal]
theorem ds12 : dstep base n L ⟨12, 0, v, t, b, won⟩ = (L, ⟨13, dnone t (at_ L (base + 1)), v, t, at_ L (base + 1), won⟩) := by simp [dstep, dsteal]
theorem ds13 : dstep base n L ⟨13, 0, v, t, b, won⟩ = (L, ⟨14, 0, at_ L (dslotOf base n t), t, b, won⟩) := by simp [dstep, dsteal]
theorem ds14 : dstep base n L ⟨14, 0, v, t, b, won⟩ = (dswapL base L t, ⟨14, if dswapB base L t then 1 else 6, v, t, b, won⟩) := by simp [dstep, dsteal]
end
structure DAlone (n : Nat) (L : List Int) (T B : Nat) (val : Nat → Int) : Prop where
  n1 : 1 ≤ n
  n64 : n ≤ 64
  len : L.length = 2 + n
  top : at_ L ((0 : Nat) : Int) = T
  bot : at_ L ((1 : Nat) : Int) = B
  t1 : 1 ≤ T
  le : T ≤ B
  ge : B ≤ T + n
  small : B ≤ 1000000
  has : ∀ t, T ≤ t → t < B → at_ L ((2 + t % n : Nat) : Int) = val t
section
variable {n T B : Nat} {L : List Int} {val : Nat → Int}
theorem DAlone.push (h : DAlone n L T B val) (v : Int) (hr : B < T + n) (hs : B + 1 ≤ 1000000) : ∃ L' o k, ddone 0 n 100 L (pushOp v) = (L', o, k) ∧ o.out = 1 ∧ k ≤ 6 ∧ DAlone n L' T (B + 1) (fun t => if t = B then v else val t) := by
  have hl := h.len
  have h1 := h.n1
  have hle := h.le
  have hsm := h.small
  have hm := Nat.mod_lt B (show n > 0 by omega)
  have ht := h.top
  have hb := h.bot
  have e1 : dstep 0 n L (pushOp v) = (L, ⟨2, 0, v, 0, B, false⟩) := by
    unfold pushOp; rw [ds1, show at_ L ((0 : Int) + 1) = (B : Int) from hb]
  have e2 : dstep 0 n L ⟨2, 0, v, 0, B, false⟩ = (L, ⟨3, 0, v, T, B, false⟩) := by
    rw [ds2, show at_ L (0 : Int) = (T : Int) from ht]
    have : dfull n B T = 0 := by unfold dfull; rw [w64_diff B T hsm hle, if_neg (by omega)]
    rw [this]
  have e3 : dstep 0 n L ⟨3, 0, v, T, B, false⟩ = (L.set (2 + B % n) v, ⟨4, 0, v, T, B, false⟩) := by rw [ds3, dslot_nat, Int.toNat_natCast]
  have e4 : dstep 0 n (L.set (2 + B % n) v) ⟨4, 0, v, T, B, false⟩ = ((L.set (2 + B % n) v).set 1 ((B + 1 : Nat) : Int), ⟨4, 1, 0, T, B, false⟩) := by
    rw [ds4, w64_add B hsm]
    rfl
  refine ⟨_, _, 4, ddone_cons rfl e1 (ddone_cons rfl e2 (ddone_cons rfl e3 (ddone_cons rfl e4 (ddone_over _ _ _ _ _ (by simp))))), rfl, by omega, ?_⟩
  have g : ∀ k : Nat, at_ ((L.set (2 + B % n) v).set 1 ((B + 1 : Nat) : Int)) (k : Int) = if k = 1 then ((B + 1 : Nat) : Int) else if k = 2 + B % n then v else at_ L (k : Int) := by
    intro k
    rw [at_set _ _ _ _ (by simp; omega), at_set _ _ _ _ (by omega)]
  refine ⟨h.n1, h.n64, by simpa using hl, ?_, ?_, h.t1, by omega, by omega, hs, fun t t1 t2 => ?_⟩
  · rw [g, if_neg (by omega), if_neg (by omega)]; exact ht
  · rw [g, if_pos rfl]
  · have hmt := Nat.mod_lt t (show n > 0 by omega)
    by_cases e : t = B
    · subst e
      rw [g, if_neg (by omega), if_pos rfl, if_pos rfl]
    · have := dmod_ne (n := n) e (by omega) (by omega)
      rw [g, if_neg (by omega), if_neg (by omega), if_neg e]
      exact h.has t t1 (by omega)
theorem DAlone.push_full (h : DAlone n L T B val) (v : Int) (hr : B = T + n) : ∃ o, ddone 0 n 100 L (pushOp v) = (L, o, 2) ∧ o.out = 2 := by
  have hle := h.le
  have hsm := h.small
  have e1 : dstep 0 n L (pushOp v) = (L, ⟨2, 0, v, 0, B, false⟩) := by
    unfold pushOp; rw [ds1, show at_ L ((0 : Int) + 1) = (B : Int) from h.bot]
  have e2 : dstep 0 n L ⟨2, 0, v, 0, B, false⟩ = (L, ⟨3, 2, v, T, B, false⟩) := by
    rw [ds2, show at_ L (0 : Int) = (T : Int) from h.top]
    have : dfull n B T = 2 := by unfold dfull; rw [w64_diff B T hsm hle, if_pos (by omega)]
    rw [this]
  exact ⟨_, ddone_cons rfl e1 (ddone_cons rfl e2 (ddone_over _ _ _ _ _ (by simp))), rfl⟩
theorem DAlone.pop_none (h : DAlone n L T B val) (hr : B = T) : ∃ L' o k, ddone 0 n 100 L popOp = (L', o, k) ∧ o.out = 4 ∧ k ≤ 6 ∧ DAlone n L' T B val := by
  have hl := h.len
  have h1 := h.n1
  have hsm := h.small
  have ht := h.top
  have hb := h.bot
  have ht1 := h.t1
  have e1 : dstep 0 n L popOp = (L, ⟨6, 0, 0, 0, B, false⟩) := by
    unfold popOp; rw [ds5, show at_ L ((0 : Int) + 1) = (B : Int) from hb]
  have e2 : dstep 0 n L ⟨6, 0, 0, 0, B, false⟩ = (L.set 1 ((B - 1 : Nat) : Int), ⟨7, 0, 0, 0, B, false⟩) := by rw [ds6, w64_sub B hsm (by omega)]; rfl
  have g1 : ∀ k : Nat, at_ (L.set 1 ((B - 1 : Nat) : Int)) (k : Int) = if k = 1 then ((B - 1 : Nat) : Int) else at_ L (k : Int) := fun k => at_set _ _ _ _ (by omega)
  have e3 : dstep 0 n (L.set 1 ((B - 1 : Nat) : Int)) ⟨7, 0, 0, 0, B, false⟩ = (L.set 1 ((B - 1 : Nat) : Int), ⟨10, 0, 0, T, B, false⟩) := by
    have : at_ (L.set 1 ((B - 1 : Nat) : Int)) (0 : Int) = T := by have := g1 0; rw [if_neg (by omega)] at this; rw [← ht]; exact this
    rw [ds7, this, w64_sub B hsm (by omega), if_pos (by omega)]
  have e4 : dstep 0 n (L.set 1 ((B - 1 : Nat) : Int)) ⟨10, 0, 0, T, B, false⟩ = ((L.set 1 ((B - 1 : Nat) : Int)).set 1 (B : Int), ⟨10, 4, 0, T, B, false⟩) := by rw [ds10]; rfl
  refine ⟨_, _, 4, ddone_cons rfl e1 (ddone_cons rfl e2 (ddone_cons rfl e3 (ddone_cons rfl e4 (ddone_over _ _ _ _ _ (by simp))))), rfl, by omega, ?_⟩
  have g : ∀ k : Nat, at_ ((L.set 1 ((B - 1 : Nat) : Int)).set 1 (B : Int)) (k : Int) = if k = 1 then (B : Int) else at_ L (k : Int) := by
    intro k
    rw [at_set _ _ _ _ (by simp; omega), g1]
    split <;> rfl
  refine ⟨h.n1, h.n64, by simpa using hl, ?_, ?_, h.t1, h.le, h.ge, hsm, fun t t1 t2 => by omega⟩
  · rw [g, if_neg (by omega)]; exact ht
  · rw [g, if_pos rfl]
theorem DAlone.pop (h : DAlone n L T B val) (hr : T < B) : ∃ L' o k T' B', ddone 0 n 100 L popOp = (L', o, k) ∧ o.out = 1 ∧ o.v = val (B - 1) ∧ k ≤ 6 ∧ DAlone n L' T' B' val ∧ ((T' = T ∧ B' = B - 1) ∨ (B = T + 1 ∧ T' = B ∧ B' = B)) := by
  have hl := h.len
  have h1 := h.n1
  have hsm := h.small
  have ht := h.top
  have hb := h.bot
  have ht1 := h.t1
  have hm := Nat.mod_lt (B - 1) (show n > 0 by omega)
  have hv := h.has (B - 1) (by omega) (by omega)
  have e1 : dstep 0 n L popOp = (L, ⟨6, 0, 0, 0, B, false⟩) := by
    unfold popOp; rw [ds5, show at_ L ((0 : Int) + 1) = (B : Int) from hb]
  have e2 : dstep 0 n L ⟨6, 0, 0, 0, B, false⟩ = (L.set 1 ((B - 1 : Nat) : Int), ⟨7, 0, 0, 0, B, false⟩) := by rw [ds6, w64_sub B hsm (by omega)]; rfl
  have g1 : ∀ k : Nat, at_ (L.set 1 ((B - 1 : Nat) : Int)) (k : Int) = if k = 1 then ((B - 1 : Nat) : Int) else at_ L (k : Int) := fun k => at_set _ _ _ _ (by omega)
  have t0 : at_ (L.set 1 ((B - 1 : Nat) : Int)) (0 : Int) = T := by have := g1 0; rw [if_neg (by omega)] at this; rw [← ht]; exact this
  have e3 : dstep 0 n (L.set 1 ((B - 1 : Nat) : Int)) ⟨7, 0, 0, 0, B, false⟩ = (L.set 1 ((B - 1 : Nat) : Int), ⟨8, 0, 0, T, B, false⟩) := by
    rw [ds7, t0, w64_sub B hsm (by omega), if_neg (by omega)]
  have hv2 : at_ (L.set 1 ((B - 1 : Nat) : Int)) (dslotOf 0 n (IntKind.u64.wrap ((B : Int) - 1))) = val (B - 1) := by
    rw [w64_sub B hsm (by omega), dslot_nat, g1, if_neg (by omega), hv]
  by_cases hlast : T + 1 = B
  · have e4 : dstep 0 n (L.set 1 ((B - 1 : Nat) : Int)) ⟨8, 0, 0, T, B, false⟩ = (L.set 1 ((B - 1 : Nat) : Int), ⟨9, 0, val (B - 1), T, B, false⟩) := by
      rw [ds8, hv2]
      have : dlast T B = 0 := by unfold dlast; rw [w64_sub B hsm (by omega), if_neg (by omega)]
      rw [this]
    have e5 : dstep 0 n (L.set 1 ((B - 1 : Nat) : Int)) ⟨9, 0, val (B - 1), T, B, false⟩ = ((L.set 1 ((B - 1 : Nat) : Int)).set 0 ((T + 1 : Nat) : Int), ⟨10, 0, val (B - 1), T, B, true⟩) := by
      rw [ds9]
      unfold dswapL dswapB
      rw [if_pos t0, w64_add T (by omega), decide_eq_true t0]
      rfl
    have e6 : dstep 0 n ((L.set 1 ((B - 1 : Nat) : Int)).set 0 ((T + 1 : Nat) : Int)) ⟨10, 0, val (B - 1), T, B, true⟩ = (((L.set 1 ((B - 1 : Nat) : Int)).set 0 ((T + 1 : Nat) : Int)).set 1 (B : Int), ⟨10, 1, val (B - 1), T, B, true⟩) := by rw [ds10]; rfl
    refine ⟨_, _, 6, B, B, ddone_cons rfl e1 (ddone_cons rfl e2 (ddone_cons rfl e3 (ddone_cons rfl e4 (ddone_cons rfl e5 (ddone_cons rfl e6 (ddone_over _ _ _ _ _ (by simp))))))), rfl, rfl, by omega, ?_, .inr ⟨by omega, rfl, rfl⟩⟩
    have g : ∀ k : Nat, at_ (((L.set 1 ((B - 1 : Nat) : Int)).set 0 ((T + 1 : Nat) : Int)).set 1 (B : Int)) (k : Int) = if k = 1 then (B : Int) else if k = 0 then ((T + 1 : Nat) : Int) else at_ L (k : Int) := by
      intro k
      rw [at_set _ _ _ _ (by simp; omega), at_set _ _ _ _ (by simp; omega), g1]
      split
      · rfl
      · split
        · rfl
        · rfl
    refine ⟨h.n1, h.n64, by simpa using hl, ?_, ?_, by omega, Nat.le_refl _, by omega, hsm, fun t t1 t2 => by omega⟩
    · rw [g, if_neg (by omega), if_pos rfl, hlast]
    · rw [g, if_pos rfl]
  · have e4 : dstep 0 n (L.set 1 ((B - 1 : Nat) : Int)) ⟨8, 0, 0, T, B, false⟩ = (L.set 1 ((B - 1 : Nat) : Int), ⟨9, 1, val (B - 1), T, B, false⟩) := by
      rw [ds8, hv2]
      have : dlast T B = 1 := by unfold dlast; rw [w64_sub B hsm (by omega), if_pos (by omega)]
      rw [this]
    refine ⟨_, _, 4, T, B - 1, ddone_cons rfl e1 (ddone_cons rfl e2 (ddone_cons rfl e3 (ddone_cons rfl e4 (ddone_over _ _ _ _ _ (by simp))))), rfl, rfl, by omega, ?_, .inl ⟨rfl, rfl⟩⟩
    refine ⟨h.n1, h.n64, by simpa using hl, ?_, ?_, by omega, by omega, by have := h.ge; omega, by omega, fun t t1 t2 => ?_⟩
    · rw [g1, if_neg (by omega)]; exact ht
    · rw [g1, if_pos rfl]
    · rw [g1, if_neg (by omega)]; exact h.has t t1 (by omega)
end
end Go.Proofs.YtdoaipjdldknaaaGreat
