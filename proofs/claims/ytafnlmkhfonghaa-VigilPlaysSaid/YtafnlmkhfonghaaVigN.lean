/-
  The document's operation of a vigil: what it asks for next, told from its log; the walk of Next.
-/
import Derived.Test.YtafnlmkhfonghaaWant
import Derived.Test.YtafnlmkhfonghaaVig2
import Derived.Handy
namespace Go.Proofs.Ytafnlmkhfonghaa
open Go.RowKit
set_option linter.unusedVariables false

/-- Watch and Unwatch: in rounds of a look and a swap. -/
def vnextL (kind c : Int) : List Int → GW
  | [] => wLoad c
  | [x] => if (decide (x = 1)) = (decide (kind = 1)) then wOver 4 0 else if kind = 1 then wSwap c x 1 else wSwap c 1 0
  | x :: y :: l => if (decide (x = 1)) = (decide (kind = 1)) then wOver 4 0 else if y = 1 then wOver 1 0 else vnextL kind c l
def vnextC (c : Int) : List Int → GW
  | [] => wSwap c 1 2
  | x :: _ => if x = 1 then wOver 1 0 else wOver 4 0
def vnext (base n : Int) (kind x y : Int) (l : List Int) : GW :=
  if vin n x y then (if kind = 3 then vnextC (vcell base n x y) l else vnextL kind (vcell base n x y) l) else wOver 4 0
/-- What an operation asks for; what an answer makes of it. -/
def vaskOf (o : Vop) : GW :=
  if o.out ≠ 0 then wOver o.out 0
  else if o.k = 0 then wLoad o.cell
  else if o.k = 1 then wSwap o.cell o.seen 1
  else if o.k = 2 then wLoad o.cell
  else if o.k = 3 then wSwap o.cell 1 0
  else wSwap o.cell 1 2
def vans (o : Vop) (x : Int) : Vop :=
  if o.out ≠ 0 then o
  else if o.k = 0 then { o with k := 1, seen := x, out := if x = 1 then 4 else 0 }
  else if o.k = 1 then { o with k := 0, out := if x = 1 then 1 else 0 }
  else if o.k = 2 then { o with k := 3, seen := x, out := if x = 1 then 0 else 4 }
  else if o.k = 3 then { o with k := 2, out := if x = 1 then 1 else 0 }
  else { o with out := if x = 1 then 1 else 4 }
theorem vstep_ask (L : List Int) (o : Vop) (h : o.out = 0) (hk : o.k = 0 ∨ o.k = 1 ∨ o.k = 2 ∨ o.k = 3 ∨ o.k = 4) :
    vstep L o = ((gdo L (vaskOf o)).1, vans o (gdo L (vaskOf o)).2) := by
  obtain ⟨k, c, s, out⟩ := o
  simp only at h hk
  subst h
  rcases hk with rfl | rfl | rfl | rfl | rfl
  · simp [vstep, gdo, vaskOf, vans, wLoad]
  · by_cases hv : at_ L c = s
    · simp [vstep, gdo, vaskOf, vans, wSwap, hv]
    · simp [vstep, gdo, vaskOf, vans, wSwap, hv]
  · simp [vstep, gdo, vaskOf, vans, wLoad]
  · by_cases hv : at_ L c = 1
    · simp [vstep, gdo, vaskOf, vans, wSwap, hv]
    · simp [vstep, gdo, vaskOf, vans, wSwap, hv]
  · by_cases hv : at_ L c = 1
    · simp [vstep, gdo, vaskOf, vans, wSwap, hv]
    · simp [vstep, gdo, vaskOf, vans, wSwap, hv]
/-- A log that ends where the operation is over. -/
def VProper (o : Vop) : List Int → Prop
  | [] => True
  | x :: l => o.out = 0 ∧ VProper (vans o x) l
theorem VProper.snoc : ∀ {l : List Int} {o : Vop} {x : Int}, VProper o l → (l.foldl vans o).out = 0 → VProper o (l ++ [x])
  | [], o, x, _, h => ⟨h, trivial⟩
  | y :: l, o, x, h, hx => ⟨h.1, VProper.snoc (l := l) h.2 hx⟩
theorem VProper.over {l : List Int} {o : Vop} (h : VProper o l) (ho : o.out ≠ 0) : l = [] := by
  cases l with
  | nil => rfl
  | cons x l => exact absurd h.1 ho
theorem vnextL_watch (c : Int) : ∀ (l : List Int) (s : Int), VProper ⟨0, c, s, 0⟩ l → vnextL 1 c l = vaskOf (l.foldl vans ⟨0, c, s, 0⟩)
  | [], s, _ => by simp [vnextL, vaskOf]
  | [x], s, _ => by
    by_cases hx : x = 1
    · simp [vnextL, vans, vaskOf, hx]
    · simp [vnextL, vans, vaskOf, hx]
  | x :: y :: l, s, hp => by
    have hp2 := hp.2
    by_cases hx : x = 1
    · have e : vans ⟨0, c, s, 0⟩ x = ⟨1, c, x, 4⟩ := by simp [vans, hx]
      rw [e] at hp2
      have := hp2.over (by simp)
      cases this
    · have e : vans ⟨0, c, s, 0⟩ x = ⟨1, c, x, 0⟩ := by simp [vans, hx]
      rw [e] at hp2
      have hp3 := hp2.2
      simp only [vnextL, List.foldl, e]
      rw [if_neg (by simp [hx])]
      by_cases hy : y = 1
      · have e2 : vans ⟨1, c, x, 0⟩ y = ⟨0, c, x, 1⟩ := by simp [vans, hy]
        rw [e2] at hp3 ⊢
        have := hp3.over (by simp)
        subst this
        simp [hy, vaskOf]
      · have e2 : vans ⟨1, c, x, 0⟩ y = ⟨0, c, x, 0⟩ := by simp [vans, hy]
        rw [e2] at hp3 ⊢
        rw [if_neg hy]
        exact vnextL_watch c l x hp3
theorem vnextL_unwatch (c : Int) : ∀ (l : List Int) (s : Int), VProper ⟨2, c, s, 0⟩ l → vnextL 2 c l = vaskOf (l.foldl vans ⟨2, c, s, 0⟩)
  | [], s, _ => by simp [vnextL, vaskOf]
  | [x], s, _ => by
    by_cases hx : x = 1
    · simp [vnextL, vans, vaskOf, hx]
    · simp [vnextL, vans, vaskOf, hx]
  | x :: y :: l, s, hp => by
    have hp2 := hp.2
    by_cases hx : x = 1
    · have e : vans ⟨2, c, s, 0⟩ x = ⟨3, c, x, 0⟩ := by simp [vans, hx]
      rw [e] at hp2
      have hp3 := hp2.2
      simp only [vnextL, List.foldl, e]
      rw [if_neg (by simp [hx])]
      by_cases hy : y = 1
      · have e2 : vans ⟨3, c, x, 0⟩ y = ⟨2, c, x, 1⟩ := by simp [vans, hy]
        rw [e2] at hp3 ⊢
        have := hp3.over (by simp)
        subst this
        simp [hy, vaskOf]
      · have e2 : vans ⟨3, c, x, 0⟩ y = ⟨2, c, x, 0⟩ := by simp [vans, hy]
        rw [e2] at hp3 ⊢
        rw [if_neg hy]
        exact vnextL_unwatch c l x hp3
    · have e : vans ⟨2, c, s, 0⟩ x = ⟨3, c, x, 4⟩ := by simp [vans, hx]
      rw [e] at hp2
      have := hp2.over (by simp)
      cases this
theorem vnextC_ask (c : Int) (l : List Int) (s : Int) (hp : VProper ⟨4, c, s, 0⟩ l) : vnextC c l = vaskOf (l.foldl vans ⟨4, c, s, 0⟩) := by
  cases l with
  | nil => simp [vnextC, vaskOf]
  | cons x l =>
    have hp2 := hp.2
    by_cases hx : x = 1
    · have e : vans ⟨4, c, s, 0⟩ x = ⟨4, c, s, 1⟩ := by simp [vans, hx]
      rw [e] at hp2
      have := hp2.over (by simp)
      subst this
      simp [vnextC, hx, vaskOf, vans]
    · have e : vans ⟨4, c, s, 0⟩ x = ⟨4, c, s, 4⟩ := by simp [vans, hx]
      rw [e] at hp2
      have := hp2.over (by simp)
      subst this
      simp [vnextC, hx, vaskOf, vans]
/-- What an operation begins as. -/
def vbegin (base n kind x y : Int) : Vop := ⟨if kind = 1 then 0 else if kind = 2 then 2 else 4, vc0 base n x y, 0, vo0 n x y⟩
theorem vnext_ask (base n kind x y : Int) (l : List Int) (hk : 1 ≤ kind ∧ kind ≤ 3) (hp : VProper (vbegin base n kind x y) l) :
    vnext base n kind x y l = vaskOf (l.foldl vans (vbegin base n kind x y)) := by
  unfold vnext vbegin at *
  by_cases hin : vin n x y
  · rw [vc0, vo0, if_pos hin, if_pos hin] at hp
    rw [if_pos hin, vc0, vo0, if_pos hin, if_pos hin]
    have hk3 : kind = 1 ∨ kind = 2 ∨ kind = 3 := by omega
    rcases hk3 with rfl | rfl | rfl
    · rw [if_neg (by decide)]
      exact vnextL_watch _ l 0 hp
    · rw [if_neg (by decide)]
      exact vnextL_unwatch _ l 0 hp
    · rw [if_pos rfl]
      exact vnextC_ask _ l 0 hp
  · rw [if_neg hin]
    have := hp.over (by simp [vo0, hin])
    subst this
    simp [vaskOf, vo0, hin]

theorem sq_le {n x y : Int} (hin : vin n x y) (h16 : n ≤ 16) : n * n ≤ 256 := by
  obtain ⟨h1, h2, h3, h4⟩ := hin
  have h3 : n * n ≤ 16 * 16 := Int.mul_le_mul h16 h16 (by omega) (by decide)
  omega
section
variable {w : World} {base n c : Int} {lv : Value} {l : List Int}
theorem over_any (out : Int) (w : World) : Calls Try.prog 67 #[.int .i64 out] w fun e w' => e = .returned (gwV (wOver out 0)) ∧ Only S0 w w' := by
  go_enter Try.func67, Try.ntmps67
  go_wp2_with fail
  go_returns
  exact ⟨rfl, (Only.refl _ _).alloc _⟩
def vcel (base n x y : Int) : Int := if vin n x y then vcell base n x y else -1
set_option maxHeartbeats 1000000 in
theorem RCell_any (x y : Int) (b0 : 0 ≤ base) (b1 : base ≤ 70000) (h16 : n ≤ 16) (w : World) : Calls Try.prog 66 #[.agg #[.int .i64 base, .int .i64 n], .int .i64 x, .int .i64 y] w fun e w' =>
    e = .returned (.int .i64 (vcel base n x y)) ∧ w' = w.alloc (.cells #[.int .i64 base, .int .i64 n] 85) := by
  by_cases hin : vin n x y
  · rw [vcel, if_pos hin]
    obtain ⟨h1, h2, h3, h4⟩ := hin
    obtain ⟨m1, m2⟩ := vmul h1 h2 h16
    go_enter Try.func66, Try.ntmps66
    go_wp2_with fail
    go_ret
    exact ⟨rfl, rfl⟩
  · rw [vcel, if_neg hin]
    unfold vin at hin
    by_cases h1 : x < 1
    · clear hin
      go_enter Try.func66, Try.ntmps66
      go_wp2_with fail
      go_ret
      exact ⟨rfl, rfl⟩
    · replace h1 : 1 ≤ x := by omega
      by_cases h2 : n < x
      · clear hin
        go_enter Try.func66, Try.ntmps66
        go_wp2_with fail
        go_ret
        exact ⟨rfl, rfl⟩
      · replace h2 : x ≤ n := by omega
        by_cases h3 : y < 1
        · clear hin
          go_enter Try.func66, Try.ntmps66
          go_wp2_with fail
          go_ret
          exact ⟨rfl, rfl⟩
        · replace h3 : 1 ≤ y := by omega
          have h4 : n < y := by omega
          clear hin
          go_enter Try.func66, Try.ntmps66
          go_wp2_with fail
          go_ret
          exact ⟨rfl, rfl⟩
end
end Go.Proofs.Ytafnlmkhfonghaa
