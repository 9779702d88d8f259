/-
  The document's operation of a gate: what it asks for next, told from its log (plain lists; no program).
-/
import Derived.Test.YtdoaipjdldknaaaGreatKGateA
import Derived.Test.YtdoaipjdldknaaaGreatWant
namespace Go.Proofs.YtdoaipjdldknaaaGreat
open Go.RowKit
set_option linter.unusedVariables false

def gWait (n t : Int) : Int := IntKind.u64.wrap (2 * (t / n))
theorem want_wait (n ahead t : Int) : wantOf n ahead t = add64 (gWait n t) ahead := by unfold wantOf gWait; rw [Int.mul_comm]
theorem want_one (n ahead t : Int) : add64 (wantOf n ahead t) 1 = add64 (gWait n t) (1 + ahead) := by
  rw [want_wait]
  unfold add64
  rw [IntKind.wrap_u64, IntKind.wrap_u64, IntKind.wrap_u64]
  omega

def lastL (base n ahead V t : Int) : List Int → GW
  | [] => if ahead = 0 then wStore (slotOf base n t + 1) V else wLoad (slotOf base n t + 1)
  | [y] => wStore (slotOf base n t) (add64 (gWait n t) (1 + ahead))
  | y :: z :: l => wOver 1 (if ahead = 0 then 0 else (y :: z :: l).getD l.length 0)
def nextL (base n ahead V : Int) : List Int → GW
  | [] => wLoad (base + ahead)
  | [t] => wLoad (slotOf base n t)
  | [t, s] => if wantOf n ahead t < s then wLoad (base + ahead) else if s < wantOf n ahead t then wOver (if ahead = 0 then 2 else 4) 0 else wSwap (base + ahead) t (add64 t 1)
  | t :: s :: x :: r => if wantOf n ahead t < s then nextL base n ahead V (x :: r) else if s < wantOf n ahead t then wOver (if ahead = 0 then 2 else 4) 0 else
      if x = 0 then nextL base n ahead V r else lastL base n ahead V t r

/-- What an answer makes of an operation. -/
def gans (n : Int) (o : Gop) (x : Int) : Gop :=
  if o.out ≠ 0 then o
  else if o.ph = 0 then { o with ph := 1, t := x }
  else if o.ph = 1 then { o with ph := turnPh x (wantOf n o.ahead o.t), out := turnOut x (wantOf n o.ahead o.t) o.ahead }
  else if o.ph = 2 then { o with ph := if x = 0 then 0 else 3 }
  else if o.ph = 3 then { o with ph := 4, v := if o.ahead = 0 then o.v else x }
  else { o with out := 1 }
/-- What an operation asks for. -/
def askOf (base n : Int) (o : Gop) : GW :=
  if o.out ≠ 0 then wOver o.out (gvalue o.ahead o.v o.out)
  else if o.ph = 0 then wLoad o.cell
  else if o.ph = 1 then wLoad (slotOf base n o.t)
  else if o.ph = 2 then wSwap o.cell o.t (add64 o.t 1)
  else if o.ph = 3 then (if o.ahead = 0 then wStore (slotOf base n o.t + 1) o.v else wLoad (slotOf base n o.t + 1))
  else wStore (slotOf base n o.t) (add64 (wantOf n o.ahead o.t) 1)
theorem gstep_ask (base n : Int) (L : List Int) (o : Gop) (h : o.out = 0) (hp : o.ph = 0 ∨ o.ph = 1 ∨ o.ph = 2 ∨ o.ph = 3 ∨ o.ph = 4) :
    gstep base n L o = ((gdo L (askOf base n o)).1, gans n o (gdo L (askOf base n o)).2) := by
  rcases hp with hp | hp | hp | hp | hp
  · rw [gstep0 h hp]; simp [gdo, askOf, gans, h, hp, wLoad]
  · rw [gstep1 h hp]; simp [gdo, askOf, gans, h, hp, wLoad]
  · rw [gstep2 h hp]
    by_cases hs : at_ L o.cell = o.t
    · obtain ⟨s1, s2⟩ := swap_yes_of hs
      rw [s1, s2]
      simp [gdo, askOf, gans, h, hp, wSwap, hs]
    · obtain ⟨s1, s2⟩ := swap_no_of hs
      rw [s1, s2]
      simp [gdo, askOf, gans, h, hp, wSwap, hs]
  · rw [gstep3 h hp]
    by_cases ha : o.ahead = 0
    · simp [gdo, askOf, gans, h, hp, wStore, ha, valL, valV]
    · simp [gdo, askOf, gans, h, hp, wLoad, ha, valL, valV]
  · rw [gstep4 h hp]; simp [gdo, askOf, gans, h, hp, wStore]

/-- A log that ends where the operation is over. -/
def Proper (n : Int) (o : Gop) : List Int → Prop
  | [] => True
  | x :: l => o.out = 0 ∧ Proper n (gans n o x) l
theorem Proper.snoc {n : Int} : ∀ {l : List Int} {o : Gop} {x : Int}, Proper n o l → (l.foldl (gans n) o).out = 0 → Proper n o (l ++ [x])
  | [], o, x, _, h => ⟨h, trivial⟩
  | y :: l, o, x, h, hx => ⟨h.1, Proper.snoc (l := l) h.2 hx⟩
theorem lastL_ask {base n : Int} {o : Gop} (h : o.out = 0) (hp : o.ph = 3) : ∀ (l : List Int), Proper n o l →
    lastL base n o.ahead o.v o.t l = askOf base n (l.foldl (gans n) o)
  | [], _ => by
    by_cases ha : o.ahead = 0
    · simp [lastL, askOf, h, hp, ha]
    · simp [lastL, askOf, h, hp, ha]
  | [y], _ => by
    simp only [lastL, List.foldl]
    rw [← want_one]
    by_cases ha : o.ahead = 0
    · simp [askOf, gans, h, hp, ha]
    · simp [askOf, gans, h, hp, ha]
  | [y, z], _ => by
    simp only [lastL, List.foldl]
    by_cases ha : o.ahead = 0
    · simp [askOf, gans, h, hp, ha, gvalue]
    · simp [askOf, gans, h, hp, ha, gvalue]
  | y :: z :: u :: l, hq => by
    have := hq.2.2.1
    simp [gans, h, hp] at this
theorem nextL_ask {base n : Int} (k : Nat) : ∀ (l : List Int) (o : Gop), l.length ≤ k → o.out = 0 → o.ph = 0 → o.cell = base + o.ahead → Proper n o l →
    nextL base n o.ahead o.v l = askOf base n (l.foldl (gans n) o) := by
  induction k with
  | zero =>
    intro l o hl h hp hc _
    have : l = [] := List.eq_nil_of_length_eq_zero (by omega)
    subst this
    simp [nextL, askOf, h, hp, hc]
  | succ k ih =>
    intro l o hl h hp hc hq
    match l, hl, hq with
    | [], _, _ => simp [nextL, askOf, h, hp, hc]
    | [t], _, _ => simp [nextL, askOf, gans, h, hp]
    | [t, s], _, hq =>
      simp only [nextL, List.foldl]
      have e1 : gans n o t = { o with ph := 1, t := t } := by simp [gans, h, hp]
      have e2 : gans n { o with ph := 1, t := t } s = { o with ph := turnPh s (wantOf n o.ahead t), t := t, out := turnOut s (wantOf n o.ahead t) o.ahead } := by simp [gans, h]
      rw [e1, e2]
      by_cases c1 : wantOf n o.ahead t < s
      · obtain ⟨s1, s2⟩ := turn_gt o.ahead c1
        rw [if_pos c1, s1, s2]
        simp [askOf, hc]
      · rw [if_neg c1]
        by_cases c2 : s < wantOf n o.ahead t
        · obtain ⟨s1, s2⟩ := turn_lt o.ahead c2
          rw [if_pos c2, s1, s2]
          by_cases ha : o.ahead = 0
          · simp [askOf, gvalue, ha]
          · simp [askOf, gvalue, ha]
        · obtain ⟨s1, s2⟩ := turn_eq o.ahead (show s = wantOf n o.ahead t by omega)
          rw [if_neg c2, s1, s2]
          simp [askOf, hc]
    | t :: s :: x :: r, hl, hq =>
      simp only [nextL, List.foldl]
      have e1 : gans n o t = { o with ph := 1, t := t } := by simp [gans, h, hp]
      have e2 : gans n { o with ph := 1, t := t } s = { o with ph := turnPh s (wantOf n o.ahead t), t := t, out := turnOut s (wantOf n o.ahead t) o.ahead } := by simp [gans, h]
      have hq1 := hq.2.2
      rw [e1, e2] at hq1 ⊢
      simp only [List.length_cons] at hl
      by_cases c1 : wantOf n o.ahead t < s
      · obtain ⟨s1, s2⟩ := turn_gt o.ahead c1
        rw [s1, s2] at hq1 ⊢
        rw [if_pos c1]
        exact ih (x :: r) { o with ph := 0, t := t, out := 0 } (by simp only [List.length_cons]; omega) rfl rfl hc hq1
      · rw [if_neg c1]
        by_cases c2 : s < wantOf n o.ahead t
        · obtain ⟨s1, s2⟩ := turn_lt o.ahead c2
          rw [s1, s2] at hq1
          have := hq1.1
          by_cases ha : o.ahead = 0
          · simp [ha] at this
          · simp [ha] at this
        · obtain ⟨s1, s2⟩ := turn_eq o.ahead (show s = wantOf n o.ahead t by omega)
          rw [s1, s2] at hq1 ⊢
          rw [if_neg c2]
          have e3 : gans n { o with ph := 2, t := t, out := 0 } x = { o with ph := if x = 0 then 0 else 3, t := t, out := 0 } := by simp [gans]
          have hq2 := hq1.2
          rw [e3] at hq2 ⊢
          by_cases hx : x = 0
          · rw [if_pos hx] at hq2 ⊢
            rw [if_pos hx]
            exact ih r { o with ph := 0, t := t, out := 0 } (by omega) rfl rfl hc hq2
          · rw [if_neg hx] at hq2 ⊢
            rw [if_neg hx]
            exact lastL_ask (o := { o with ph := 3, t := t, out := 0 }) rfl rfl r hq2
end Go.Proofs.YtdoaipjdldknaaaGreat
