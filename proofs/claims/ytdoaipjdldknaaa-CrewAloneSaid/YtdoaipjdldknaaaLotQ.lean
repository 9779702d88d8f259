/-
  Ranks of orders, as plain lists and numbers. No program in sight.
-/
import Derived.Test.YtdoaipjdldknaaaLotP
namespace Go.Proofs.Ytdoaipjdldknaaa
open Go.RowKit
set_option linter.unusedVariables false

/-- Where a number stands first. -/
def posN : List Nat → Nat → Option Nat
  | [], _ => none
  | x :: xs, v => if x = v then some 0 else (posN xs v).map (· + 1)
theorem posN_some : ∀ (l : List Nat) (v p : Nat), posN l v = some p → p < l.length ∧ l.getD p 0 = v ∧ ∀ j, j < p → l.getD j 0 ≠ v
  | [], v, p, h => by simp [posN] at h
  | x :: xs, v, p, h => by
    by_cases hx : x = v
    · simp [posN, hx] at h
      subst h
      exact ⟨by simp, by simp [hx], fun j hj => by omega⟩
    · simp only [posN, if_neg hx, Option.map_eq_some_iff] at h
      obtain ⟨q, hq, rfl⟩ := h
      obtain ⟨h1, h2, h3⟩ := posN_some xs v q hq
      refine ⟨by simpa using h1, by simpa using h2, fun j hj => ?_⟩
      cases j with
      | zero => simpa using hx
      | succ j => simpa using h3 j (by omega)
theorem posN_none : ∀ (l : List Nat) (v : Nat), posN l v = none → ∀ j, j < l.length → l.getD j 0 ≠ v
  | [], v, h, j, hj => by simp at hj
  | x :: xs, v, h, j, hj => by
    by_cases hx : x = v
    · simp [posN, hx] at h
    · simp only [posN, if_neg hx, Option.map_eq_none_iff] at h
      cases j with
      | zero => simpa using hx
      | succ j => simpa using posN_none xs v h j (by simpa using hj)
theorem posN_at : ∀ (l : List Nat) (p : Nat), l.Nodup → p < l.length → posN l (l.getD p 0) = some p
  | [], p, _, h => by simp at h
  | x :: xs, 0, _, _ => by simp [posN]
  | x :: xs, p + 1, hd, h => by
    have hd' := List.nodup_cons.1 hd
    have hp : p < xs.length := by simpa using h
    have hne : x ≠ xs.getD p 0 := by
      intro e
      apply hd'.1
      rw [e]
      simp [List.getD, hp]
    have e1 : (x :: xs).getD (p + 1) 0 = xs.getD p 0 := by simp
    rw [e1, posN, if_neg hne, posN_at xs p hd'.2 hp]
    rfl

/-- The rank of an order. -/
def rankF : List Nat → List Nat → Option Nat
  | _, [] => some 0
  | l, v :: vs => match posN l v with
    | none => none
    | some p => (rankF (l.eraseIdx p) vs).map fun r => p + l.length * r
/-- How many orders of k - 1 there are. -/
def facN : Nat → Nat
  | 0 => 1
  | k + 1 => facN k * max k 1
theorem facN_pos (k : Nat) : 0 < facN k := by
  induction k with
  | zero => simp [facN]
  | succ k ih => rw [facN]; exact Nat.mul_pos ih (by omega)
theorem facN_le (k : Nat) (h : k ≤ 8) : facN k ≤ 5040 := by
  have : ∀ k, k ≤ 8 → facN k ≤ 5040 := by decide
  exact this k h
/-- A draw below the number of orders is its order's rank. -/
theorem rank_ord : ∀ (m d : Nat) (l : List Nat), l.length = m → l.Nodup → d < facN (m + 1) → rankF l (ordN m d l) = some d
  | 0, d, l, hl, hd, h => by
    have : d = 0 := by simp [facN] at h; exact h
    subst this
    simp [ordN, rankF]
  | m + 1, d, l, hl, hd, h => by
    have hne : l ≠ [] := fun e => by rw [e] at hl; simp at hl
    have hp : d % l.length < l.length := Nat.mod_lt _ (by omega)
    rw [ordN_succ _ _ _ hne, rankF, posN_at l _ hd hp]
    have hl' : (l.eraseIdx (d % l.length)).length = m := by rw [List.length_eraseIdx_of_lt hp]; omega
    have hd' : (l.eraseIdx (d % l.length)).Nodup := hd.eraseIdx _
    have hlt : d / l.length < facN (m + 1) := by
      rw [Nat.div_lt_iff_lt_mul (by omega), hl]
      rw [facN, show max (m + 1) 1 = m + 1 by omega] at h
      exact h
    show Option.map (fun r => d % l.length + l.length * r) (rankF (l.eraseIdx (d % l.length)) (ordN m (d / l.length) (l.eraseIdx (d % l.length)))) = some d
    rw [rank_ord m (d / l.length) _ hl' hd' hlt]
    simp [Nat.mod_add_div]
/-- Of a draw only what is left by the number of orders matters. -/
theorem ord_mod : ∀ (m d : Nat) (l : List Nat), l.length = m → ordN m (d % facN (m + 1)) l = ordN m d l
  | 0, d, l, hl => by simp [ordN]
  | m + 1, d, l, hl => by
    have hne : l ≠ [] := fun e => by rw [e] at hl; simp at hl
    have hf : facN (m + 1 + 1) = facN (m + 1) * l.length := by rw [facN, hl, show max (m + 1) 1 = m + 1 by omega]
    have hdvd : l.length ∣ facN (m + 1 + 1) := by rw [hf]; exact Nat.dvd_mul_left _ _
    have hl' : (l.eraseIdx (d % l.length)).length = m := by rw [List.length_eraseIdx_of_lt (Nat.mod_lt _ (by omega))]; omega
    rw [ordN_succ _ _ _ hne, ordN_succ _ _ _ hne, Nat.mod_mod_of_dvd _ hdvd, hf, Nat.mul_comm, Nat.mod_mul_right_div_self, ord_mod m _ _ hl']
theorem oth_nodup (n s : Nat) : (othN n s).Nodup := List.Nodup.sublist List.filter_sublist List.nodup_range
theorem ord_len : ∀ (m d : Nat) (l : List Nat), l.length = m → (ordN m d l).length = m
  | 0, d, l, hl => by simp [ordN]
  | m + 1, d, l, hl => by
    have hne : l ≠ [] := fun e => by rw [e] at hl; simp at hl
    rw [ordN_succ _ _ _ hne, List.length_cons, ord_len m _ _ (by rw [List.length_eraseIdx_of_lt (Nat.mod_lt _ (by omega))]; omega)]
end Go.Proofs.Ytdoaipjdldknaaa
