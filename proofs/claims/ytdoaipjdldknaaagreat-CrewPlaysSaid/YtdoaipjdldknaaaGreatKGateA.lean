/-
  A gate that is alone: its cells as tickets; an operation that is done at once (plain lists; no program).
-/
import Derived.Test.YtdoaipjdldknaaaGreatKGate5
namespace Go.Proofs.YtdoaipjdldknaaaGreat
open Go.RowKit
set_option linter.unusedVariables false

theorem slot_nat (n T : Nat) : slotOf 0 (n : Int) (T : Int) = ((2 + 2 * (T % n) : Nat) : Int) := by
  unfold slotOf
  have : (T : Int) % (n : Int) = ((T % n : Nat) : Int) := (Int.natCast_emod T n).symm
  rw [this]
  omega
theorem want_nat (n T : Nat) (a : Int) (hT : T ≤ 100000000) (ha : a = 0 ∨ a = 1) : wantOf (n : Int) a (T : Int) = 2 * ((T / n : Nat) : Int) + a := by
  unfold wantOf add64
  rw [IntKind.wrap_u64, IntKind.wrap_u64, ← Int.natCast_ediv]
  have h : T / n ≤ T := Nat.div_le_self _ _
  generalize T / n = q at h
  omega
theorem add64_nat (T : Nat) (hT : T ≤ 1000000000) : add64 (T : Int) 1 = ((T + 1 : Nat) : Int) := by
  unfold add64
  rw [IntKind.wrap_u64]
  omega
theorem add64_want (q a : Nat) (hT : q ≤ 100000000) (ha : a ≤ 1) : add64 (2 * (q : Int) + (a : Int)) 1 = 2 * (q : Int) + ((a + 1 : Nat) : Int) := by
  unfold add64
  rw [IntKind.wrap_u64]
  omega
/-- Two tickets less than n apart lie in different slots. -/
theorem mod_ne {n a b : Nat} (h1 : a < b) (h2 : b < a + n) : a % n ≠ b % n := by
  intro h
  have h3 : (b - a) % n = 0 := Nat.sub_mod_eq_zero_of_mod_eq h.symm
  rw [Nat.mod_eq_of_lt (by omega)] at h3
  omega
theorem mod_ne' {n a b : Nat} (hne : a ≠ b) (h1 : a < b + n) (h2 : b < a + n) : a % n ≠ b % n := by
  rcases Nat.lt_or_ge a b with h | h
  · exact mod_ne h h2
  · exact fun e => mod_ne (show b < a by omega) h1 e.symm

theorem gstep0 {base n : Int} {L : List Int} {o : Gop} (h : o.out = 0) (hp : o.ph = 0) : gstep base n L o = (L, { o with ph := 1, t := at_ L o.cell }) := by simp [gstep, h, hp]
theorem gstep1 {base n : Int} {L : List Int} {o : Gop} (h : o.out = 0) (hp : o.ph = 1) : gstep base n L o = (L, { o with ph := turnPh (at_ L (slotOf base n o.t)) (wantOf n o.ahead o.t), out := turnOut (at_ L (slotOf base n o.t)) (wantOf n o.ahead o.t) o.ahead }) := by simp [gstep, h, hp]
theorem gstep2 {base n : Int} {L : List Int} {o : Gop} (h : o.out = 0) (hp : o.ph = 2) : gstep base n L o = (swapL L o.cell o.t, { o with ph := swapPh L o.cell o.t }) := by simp [gstep, h, hp]
theorem gstep3 {base n : Int} {L : List Int} {o : Gop} (h : o.out = 0) (hp : o.ph = 3) : gstep base n L o = (valL L (slotOf base n o.t) o.ahead o.v, { o with ph := 4, v := valV L (slotOf base n o.t) o.ahead o.v }) := by simp [gstep, h, hp]
theorem gstep4 {base n : Int} {L : List Int} {o : Gop} (h : o.out = 0) (hp : o.ph = 4) : gstep base n L o = (L.set (slotOf base n o.t).toNat (add64 (wantOf n o.ahead o.t) 1), { o with out := 1 }) := by simp [gstep, h, hp]
theorem turn_eq {s wt : Int} (a : Int) (h : s = wt) : turnPh s wt = 2 ∧ turnOut s wt a = 0 := by simp [turnPh, turnOut, h]
theorem turn_gt {s wt : Int} (a : Int) (h : wt < s) : turnPh s wt = 0 ∧ turnOut s wt a = 0 := by
  unfold turnPh turnOut
  rw [if_neg (by omega), if_pos h, if_pos (by omega)]
  exact ⟨rfl, rfl⟩
theorem turn_lt {s wt : Int} (a : Int) (h : s < wt) : turnPh s wt = 1 ∧ turnOut s wt a = if a = 0 then 2 else 4 := by
  unfold turnPh turnOut
  rw [if_neg (by omega), if_neg (by omega), if_neg (by omega)]
  exact ⟨rfl, rfl⟩

theorem gdone_cons {base n : Int} {k j : Nat} {L L1 L2 : List Int} {o o1 o2 : Gop} (h : o.out = 0) (hs : gstep base n L o = (L1, o1)) (hr : gdone base n k L1 o1 = (L2, o2, j)) :
    gdone base n (k + 1) L o = (L2, o2, j + 1) := by
  rw [gdone_succ _ _ _ _ _ h, hs, hr]

structure Alone (n : Nat) (L : List Int) (T H : Nat) (val : Nat → Int) : Prop where
  n1 : 1 ≤ n
  n64 : n ≤ 64
  len : L.length = 2 + 2 * n
  tail : at_ L ((0 : Nat) : Int) = T
  head : at_ L ((1 : Nat) : Int) = H
  le : H ≤ T
  ge : T ≤ H + n
  small : T ≤ 1000000
  full : ∀ t, H ≤ t → t < T → at_ L ((2 + 2 * (t % n) : Nat) : Int) = 2 * ((t / n : Nat) : Int) + 1 ∧ at_ L ((3 + 2 * (t % n) : Nat) : Int) = val t
  free : ∀ t, T ≤ t → t < H + n → at_ L ((2 + 2 * (t % n) : Nat) : Int) = 2 * ((t / n : Nat) : Int)
section
variable {n T H : Nat} {L : List Int} {val : Nat → Int}
theorem Alone.fresh (h1 : 1 ≤ n) (h64 : n ≤ 64) (val : Nat → Int) : Alone n (List.replicate (2 + 2 * n) 0) 0 0 val := by
  have hz : ∀ k : Nat, at_ (List.replicate (2 + 2 * n) 0) (k : Int) = 0 := by
    intro k
    unfold at_
    simp only [List.getD, Int.toNat_natCast, List.getElem?_replicate]
    split <;> rfl
  refine ⟨h1, h64, by simp, by rw [hz]; rfl, by rw [hz]; rfl, Nat.le_refl _, by omega, by omega, fun t h2 h3 => by omega, fun t h2 h3 => ?_⟩
  rw [hz, Nat.div_eq_of_lt (by omega)]
  rfl

/-- The five steps of an operation that goes through. -/
theorem Alone.put (h : Alone n L T H val) (v : Int) (ht : T < H + n) (hs : T + 1 ≤ 1000000) : ∃ L' o k, gdone 0 n 100 L (putOp 0 v) = (L', o, k) ∧ o.out = 1 ∧ k ≤ 5 ∧ Alone n L' (T + 1) H (fun t => if t = T then v else val t) := by
  have hm := Nat.mod_lt T (show n > 0 by have := h.n1; omega)
  have hl := h.len
  have h1 := h.n1
  have hsm := h.small
  have hle := h.le
  have hf := h.free T (Nat.le_refl _) ht
  have hq : T / n ≤ T := Nat.div_le_self _ _
  have hw := want_nat n T 0 (by omega) (.inl rfl)
  have e1 : gstep 0 n L (putOp 0 v) = (L, { (putOp 0 v) with ph := 1, t := T }) := by
    rw [gstep0 rfl rfl]
    show (L, ({ (putOp 0 v) with ph := 1, t := at_ L (0) } : Gop)) = _
    rw [show at_ L 0 = (T : Int) from h.tail]
  have e2 : gstep 0 n L { (putOp 0 v) with ph := 1, t := T } = (L, { (putOp 0 v) with ph := 2, t := T }) := by
    rw [gstep1 rfl rfl]
    show (L, ({ (putOp 0 v) with ph := turnPh (at_ L (slotOf 0 n T)) (wantOf n 0 T), t := T, out := turnOut (at_ L (slotOf 0 n T)) (wantOf n 0 T) 0 } : Gop)) = _
    obtain ⟨s1, s2⟩ := turn_eq 0 (show at_ L (slotOf 0 n T) = wantOf n 0 T by rw [slot_nat, hf, hw]; omega)
    rw [s1, s2]
    rfl
  have e3 : gstep 0 n L { (putOp 0 v) with ph := 2, t := T } = (L.set 0 ((T + 1 : Nat) : Int), { (putOp 0 v) with ph := 3, t := T }) := by
    rw [gstep2 rfl rfl]
    obtain ⟨s1, s2⟩ := swap_yes_of (show at_ L 0 = (T : Int) from h.tail)
    show (swapL L (0) T, ({ (putOp 0 v) with ph := swapPh L (0) T, t := T } : Gop)) = _
    rw [s1, s2, add64_nat T (by omega)]
    rfl
  have e4 : gstep 0 n (L.set 0 ((T + 1 : Nat) : Int)) { (putOp 0 v) with ph := 3, t := T } = ((L.set 0 ((T + 1 : Nat) : Int)).set (3 + 2 * (T % n)) v, { (putOp 0 v) with ph := 4, t := T }) := by
    rw [gstep3 rfl rfl]
    obtain ⟨s1, s2⟩ := val_put_of (L := L.set 0 ((T + 1 : Nat) : Int)) (v := v) (slotOf 0 n T) (show (0 : Int) = 0 from rfl)
    show (valL (L.set 0 ((T + 1 : Nat) : Int)) (slotOf 0 n T) 0 v, ({ (putOp 0 v) with ph := 4, t := T, v := valV (L.set 0 ((T + 1 : Nat) : Int)) (slotOf 0 n T) 0 v } : Gop)) = _
    rw [s1, s2, slot_nat, show (((2 + 2 * (T % n) : Nat) : Int) + 1).toNat = 3 + 2 * (T % n) by omega]
    rfl
  have e5 : gstep 0 n ((L.set 0 ((T + 1 : Nat) : Int)).set (3 + 2 * (T % n)) v) { (putOp 0 v) with ph := 4, t := T } =
      (((L.set 0 ((T + 1 : Nat) : Int)).set (3 + 2 * (T % n)) v).set (2 + 2 * (T % n)) (2 * ((T / n : Nat) : Int) + 1), { (putOp 0 v) with ph := 4, t := T, out := 1 }) := by
    rw [gstep4 rfl rfl]
    show (((L.set 0 ((T + 1 : Nat) : Int)).set (3 + 2 * (T % n)) v).set (slotOf 0 n T).toNat (add64 (wantOf n 0 T) 1), ({ (putOp 0 v) with ph := 4, t := T, out := 1 } : Gop)) = _
    have := add64_want (T / n) 0 (by omega) (by omega)
    rw [slot_nat, hw, Int.toNat_natCast]
    rw [show 2 * ((T / n : Nat) : Int) + 0 = 2 * ((T / n : Nat) : Int) + ((0 : Nat) : Int) by omega, this]
    rfl
  refine ⟨_, _, 5, gdone_cons rfl e1 (gdone_cons rfl e2 (gdone_cons rfl e3 (gdone_cons rfl e4 (gdone_cons rfl e5 (gdone_over _ _ _ _ _ (by simp)))))), rfl, Nat.le_refl _, ?_⟩
  have g : ∀ k : Nat, at_ (((L.set 0 ((T + 1 : Nat) : Int)).set (3 + 2 * (T % n)) v).set (2 + 2 * (T % n)) (2 * ((T / n : Nat) : Int) + 1)) (k : Int) =
      if k = 2 + 2 * (T % n) then 2 * ((T / n : Nat) : Int) + 1 else if k = 3 + 2 * (T % n) then v else if k = 0 then ((T + 1 : Nat) : Int) else at_ L (k : Int) := by
    intro k
    rw [at_set _ _ _ _ (by simp; omega), at_set _ _ _ _ (by simp; omega), at_set _ _ _ _ (by omega)]
  refine ⟨h.n1, h.n64, by simpa using h.len, ?_, ?_, by omega, by omega, by omega, fun t t1 t2 => ?_, fun t t1 t2 => ?_⟩
  · rw [g, if_neg (by omega), if_neg (by omega), if_pos rfl]
  · rw [g, if_neg (by omega), if_neg (by omega), if_neg (by omega)]
    exact h.head
  · by_cases he : t = T
    · subst he
      rw [g, g, if_pos rfl, if_neg (by omega), if_pos rfl, if_pos rfl]
      exact ⟨rfl, rfl⟩
    · have hne := mod_ne' (n := n) he (by omega) (by omega)
      obtain ⟨f1, f2⟩ := h.full t t1 (by omega)
      rw [g, g, if_neg (by omega), if_neg (by omega), if_neg (by omega), if_neg (by omega), if_neg (by omega), if_neg (by omega), if_neg he]
      exact ⟨f1, f2⟩
  · have hne := mod_ne' (n := n) (show t ≠ T by omega) (by omega) (by omega)
    rw [g, if_neg (by omega), if_neg (by omega), if_neg (by omega)]
    exact h.free t (by omega) t2
theorem Alone.put_full (h : Alone n L T H val) (v : Int) (ht : T = H + n) : ∃ o, gdone 0 n 100 L (putOp 0 v) = (L, o, 2) ∧ o.out = 2 := by
  have h1 := h.n1
  have hsm := h.small
  obtain ⟨hf, _⟩ := h.full H (Nat.le_refl _) (by omega)
  have hw := want_nat n T 0 (by omega) (.inl rfl)
  have hm : T % n = H % n := by rw [ht]; simp
  have hd : T / n = H / n + 1 := by rw [ht]; exact Nat.add_div_right _ (by omega)
  have e1 : gstep 0 n L (putOp 0 v) = (L, { (putOp 0 v) with ph := 1, t := T }) := by
    rw [gstep0 rfl rfl]
    show (L, ({ (putOp 0 v) with ph := 1, t := at_ L (0) } : Gop)) = _
    rw [show at_ L 0 = (T : Int) from h.tail]
  have e2 : gstep 0 n L { (putOp 0 v) with ph := 1, t := T } = (L, { (putOp 0 v) with ph := 1, t := T, out := 2 }) := by
    rw [gstep1 rfl rfl]
    show (L, ({ (putOp 0 v) with ph := turnPh (at_ L (slotOf 0 n T)) (wantOf n 0 T), t := T, out := turnOut (at_ L (slotOf 0 n T)) (wantOf n 0 T) 0 } : Gop)) = _
    obtain ⟨s1, s2⟩ := turn_lt 0 (show at_ L (slotOf 0 n T) < wantOf n 0 T by rw [slot_nat, hw, hm, hf, hd]; omega)
    rw [s1, s2]
    rfl
  exact ⟨_, gdone_cons rfl e1 (gdone_cons rfl e2 (gdone_over _ _ _ _ _ (by simp))), rfl⟩
theorem Alone.take (h : Alone n L T H val) (ht : H < T) : ∃ L' o k, gdone 0 n 100 L (takeOp 0) = (L', o, k) ∧ o.out = 1 ∧ gvalue o.ahead o.v o.out = val H ∧ k ≤ 5 ∧ Alone n L' T (H + 1) val := by
  have hm := Nat.mod_lt H (show n > 0 by have := h.n1; omega)
  have hl := h.len
  have h1 := h.n1
  have hsm := h.small
  have hge := h.ge
  obtain ⟨hf, hv⟩ := h.full H (Nat.le_refl _) ht
  have hq : H / n ≤ H := Nat.div_le_self _ _
  have hw := want_nat n H 1 (by omega) (.inr rfl)
  have e1 : gstep 0 n L (takeOp 0) = (L, { (takeOp 0) with ph := 1, t := H }) := by
    rw [gstep0 rfl rfl]
    show (L, ({ (takeOp 0) with ph := 1, t := at_ L (0 + 1) } : Gop)) = _
    rw [show at_ L (0 + 1) = (H : Int) from h.head]
  have e2 : gstep 0 n L { (takeOp 0) with ph := 1, t := H } = (L, { (takeOp 0) with ph := 2, t := H }) := by
    rw [gstep1 rfl rfl]
    show (L, ({ (takeOp 0) with ph := turnPh (at_ L (slotOf 0 n H)) (wantOf n 1 H), t := H, out := turnOut (at_ L (slotOf 0 n H)) (wantOf n 1 H) 1 } : Gop)) = _
    obtain ⟨s1, s2⟩ := turn_eq 1 (show at_ L (slotOf 0 n H) = wantOf n 1 H by rw [slot_nat, hf, hw])
    rw [s1, s2]
    rfl
  have e3 : gstep 0 n L { (takeOp 0) with ph := 2, t := H } = (L.set 1 ((H + 1 : Nat) : Int), { (takeOp 0) with ph := 3, t := H }) := by
    rw [gstep2 rfl rfl]
    obtain ⟨s1, s2⟩ := swap_yes_of (show at_ L (0 + 1) = (H : Int) from h.head)
    show (swapL L (0 + 1) H, ({ (takeOp 0) with ph := swapPh L (0 + 1) H, t := H } : Gop)) = _
    rw [s1, s2, add64_nat H (by omega)]
    rfl
  have g1 : ∀ k : Nat, at_ (L.set 1 ((H + 1 : Nat) : Int)) (k : Int) = if k = 1 then ((H + 1 : Nat) : Int) else at_ L (k : Int) := fun k => at_set _ _ _ _ (by omega)
  have e4 : gstep 0 n (L.set 1 ((H + 1 : Nat) : Int)) { (takeOp 0) with ph := 3, t := H } = (L.set 1 ((H + 1 : Nat) : Int), { (takeOp 0) with ph := 4, t := H, v := val H }) := by
    rw [gstep3 rfl rfl]
    have s1 : valL (L.set 1 ((H + 1 : Nat) : Int)) (slotOf 0 n H) 1 0 = L.set 1 ((H + 1 : Nat) : Int) := rfl
    have s2 : valV (L.set 1 ((H + 1 : Nat) : Int)) (slotOf 0 n H) 1 0 = val H := by
      show at_ (L.set 1 ((H + 1 : Nat) : Int)) (slotOf 0 n H + 1) = val H
      rw [slot_nat, show ((2 + 2 * (H % n) : Nat) : Int) + 1 = ((3 + 2 * (H % n) : Nat) : Int) by omega, g1, if_neg (by omega), hv]
    show (valL (L.set 1 ((H + 1 : Nat) : Int)) (slotOf 0 n H) 1 0, ({ (takeOp 0) with ph := 4, t := H, v := valV (L.set 1 ((H + 1 : Nat) : Int)) (slotOf 0 n H) 1 0 } : Gop)) = _
    rw [s1, s2]
  have e5 : gstep 0 n (L.set 1 ((H + 1 : Nat) : Int)) { (takeOp 0) with ph := 4, t := H, v := val H } =
      ((L.set 1 ((H + 1 : Nat) : Int)).set (2 + 2 * (H % n)) (2 * ((H / n : Nat) : Int) + 2), { (takeOp 0) with ph := 4, t := H, v := val H, out := 1 }) := by
    rw [gstep4 rfl rfl]
    show ((L.set 1 ((H + 1 : Nat) : Int)).set (slotOf 0 n H).toNat (add64 (wantOf n 1 H) 1), ({ (takeOp 0) with ph := 4, t := H, v := val H, out := 1 } : Gop)) = _
    have := add64_want (H / n) 1 (by omega) (by omega)
    rw [slot_nat, hw, Int.toNat_natCast]
    rw [show 2 * ((H / n : Nat) : Int) + 1 = 2 * ((H / n : Nat) : Int) + ((1 : Nat) : Int) by omega, this]
    rfl
  refine ⟨_, _, 5, gdone_cons rfl e1 (gdone_cons rfl e2 (gdone_cons rfl e3 (gdone_cons rfl e4 (gdone_cons rfl e5 (gdone_over _ _ _ _ _ (by simp)))))), rfl, by simp [gvalue, takeOp], Nat.le_refl _, ?_⟩
  have g : ∀ k : Nat, at_ ((L.set 1 ((H + 1 : Nat) : Int)).set (2 + 2 * (H % n)) (2 * ((H / n : Nat) : Int) + 2)) (k : Int) =
      if k = 2 + 2 * (H % n) then 2 * ((H / n : Nat) : Int) + 2 else if k = 1 then ((H + 1 : Nat) : Int) else at_ L (k : Int) := by
    intro k
    rw [at_set _ _ _ _ (by simp; omega), g1]
  refine ⟨h.n1, h.n64, by simpa using h.len, ?_, ?_, by omega, by omega, by omega, fun t t1 t2 => ?_, fun t t1 t2 => ?_⟩
  · rw [g, if_neg (by omega), if_neg (by omega)]
    exact h.tail
  · rw [g, if_neg (by omega), if_pos rfl]
  · have hne := mod_ne' (n := n) (show t ≠ H by omega) (by omega) (by omega)
    obtain ⟨f1, f2⟩ := h.full t (by omega) (by omega)
    rw [g, g, if_neg (by omega), if_neg (by omega), if_neg (by omega), if_neg (by omega)]
    exact ⟨f1, f2⟩
  · by_cases he : t = H + n
    · subst he
      rw [Nat.add_mod_right, Nat.add_div_right _ (by omega), g, if_pos rfl]
      omega
    · have hne := mod_ne' (n := n) (show t ≠ H by omega) (by omega) (by omega)
      rw [g, if_neg (by omega), if_neg (by omega)]
      exact h.free t t1 (by omega)
theorem Alone.take_none (h : Alone n L T H val) (ht : H = T) : ∃ o, gdone 0 n 100 L (takeOp 0) = (L, o, 2) ∧ o.out = 4 := by
  have h1 := h.n1
  have hsm := h.small
  have hf := h.free T (Nat.le_refl _) (by omega)
  have hw := want_nat n H 1 (by omega) (.inr rfl)
  have e1 : gstep 0 n L (takeOp 0) = (L, { (takeOp 0) with ph := 1, t := H }) := by
    rw [gstep0 rfl rfl]
    show (L, ({ (takeOp 0) with ph := 1, t := at_ L (0 + 1) } : Gop)) = _
    rw [show at_ L (0 + 1) = (H : Int) from h.head]
  have e2 : gstep 0 n L { (takeOp 0) with ph := 1, t := H } = (L, { (takeOp 0) with ph := 1, t := H, out := 4 }) := by
    rw [gstep1 rfl rfl]
    show (L, ({ (takeOp 0) with ph := turnPh (at_ L (slotOf 0 n H)) (wantOf n 1 H), t := H, out := turnOut (at_ L (slotOf 0 n H)) (wantOf n 1 H) 1 } : Gop)) = _
    obtain ⟨s1, s2⟩ := turn_lt 1 (show at_ L (slotOf 0 n H) < wantOf n 1 H by rw [slot_nat, hw]; subst ht; rw [hf]; omega)
    rw [s1, s2]
    rfl
  exact ⟨_, gdone_cons rfl e1 (gdone_cons rfl e2 (gdone_over _ _ _ _ _ (by simp))), rfl⟩
end
end Go.Proofs.YtdoaipjdldknaaaGreat
