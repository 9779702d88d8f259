/-
  The document's operation of a deque: what it asks for next, told from its log (plain lists; no program).
-/
import Derived.Test.YtdoaipjdldknaaaGreatKDeqA
import Derived.Test.YtdoaipjdldknaaaGreatWant
namespace Go.Proofs.YtdoaipjdldknaaaGreat
open Go.RowKit
set_option linter.unusedVariables false

/-- What an operation asks for; what an answer makes of it. -/
def daskPush (base n : Int) (o : Dop) : GW :=
  if o.k = 1 then wLoad (base + 1) else if o.k = 2 then wLoad base else if o.k = 3 then wStore (dslotOf base n o.b) o.v else wStore (base + 1) (IntKind.u64.wrap (o.b + 1))
def daskPop (base n : Int) (o : Dop) : GW :=
  if o.k = 5 then wLoad (base + 1) else if o.k = 6 then wStore (base + 1) (IntKind.u64.wrap (o.b - 1)) else if o.k = 7 then wLoad base
  else if o.k = 8 then wLoad (dslotOf base n (IntKind.u64.wrap (o.b - 1))) else if o.k = 9 then wSwap base o.t (IntKind.u64.wrap (o.t + 1)) else wStore (base + 1) o.b
def daskSteal (base n : Int) (o : Dop) : GW :=
  if o.k = 11 then wLoad base else if o.k = 12 then wLoad (base + 1) else if o.k = 13 then wLoad (dslotOf base n o.t) else wSwap base o.t (IntKind.u64.wrap (o.t + 1))
def daskOf (base n : Int) (o : Dop) : GW :=
  if o.out ≠ 0 then wOver o.out (dvalue o.v o.out) else if o.k ≤ 4 then daskPush base n o else if o.k ≤ 10 then daskPop base n o else daskSteal base n o
def dansPush (n : Int) (o : Dop) (x : Int) : Dop :=
  if o.k = 1 then { o with k := 2, b := x } else if o.k = 2 then { o with k := 3, t := x, out := dfull n o.b x } else if o.k = 3 then { o with k := 4 } else { o with out := 1, v := 0 }
def dansPop (o : Dop) (x : Int) : Dop :=
  if o.k = 5 then { o with k := 6, b := x } else if o.k = 6 then { o with k := 7 } else if o.k = 7 then { o with k := if IntKind.u64.wrap (o.b - 1) < x then 10 else 8, t := x }
  else if o.k = 8 then { o with k := 9, v := x, out := dlast o.t o.b } else if o.k = 9 then { o with k := 10, won := decide (x = 1) } else { o with out := dwon o.won }
def dansSteal (o : Dop) (x : Int) : Dop :=
  if o.k = 11 then { o with k := 12, t := x } else if o.k = 12 then { o with k := 13, b := x, out := dnone o.t x } else if o.k = 13 then { o with k := 14, v := x } else { o with out := if x = 1 then 1 else 6 }
def dans (n : Int) (o : Dop) (x : Int) : Dop :=
  if o.out ≠ 0 then o else if o.k ≤ 4 then dansPush n o x else if o.k ≤ 10 then dansPop o x else dansSteal o x
theorem dstep_ask (base n : Int) (L : List Int) (o : Dop) (h : o.out = 0) (hk : 1 ≤ o.k ∧ o.k ≤ 14) :
    dstep base n L o = ((gdo L (daskOf base n o)).1, dans n o (gdo L (daskOf base n o)).2) := by
  obtain ⟨k, out, v, t, b, won⟩ := o
  dsimp only at h hk
  subst h
  have hk' : k = 1 ∨ k = 2 ∨ k = 3 ∨ k = 4 ∨ k = 5 ∨ k = 6 ∨ k = 7 ∨ k = 8 ∨ k = 9 ∨ k = 10 ∨ k = 11 ∨ k = 12 ∨ k = 13 ∨ k = 14 := by omega
  clear hk
  rcases hk' with rfl | rfl | rfl | rfl | rfl | rfl | rfl | rfl | rfl | rfl | rfl | rfl | rfl | rfl
  · simp [dstep, dpush, gdo, daskOf, daskPush, dans, dansPush, wLoad]
  · simp [dstep, dpush, gdo, daskOf, daskPush, dans, dansPush, wLoad]
  · simp [dstep, dpush, gdo, daskOf, daskPush, dans, dansPush, wStore]
  · simp [dstep, dpush, gdo, daskOf, daskPush, dans, dansPush, wStore]
  · simp [dstep, dpop, gdo, daskOf, daskPop, dans, dansPop, wLoad]
  · simp [dstep, dpop, gdo, daskOf, daskPop, dans, dansPop, wStore]
  · simp [dstep, dpop, gdo, daskOf, daskPop, dans, dansPop, wLoad]
  · simp [dstep, dpop, gdo, daskOf, daskPop, dans, dansPop, wLoad]
  · by_cases hs : at_ L base = t
    · simp [dstep, dpop, gdo, daskOf, daskPop, dans, dansPop, wSwap, dswapL, dswapB, hs]
    · simp [dstep, dpop, gdo, daskOf, daskPop, dans, dansPop, wSwap, dswapL, dswapB, hs]
  · simp [dstep, dpop, gdo, daskOf, daskPop, dans, dansPop, wStore]
  · simp [dstep, dsteal, gdo, daskOf, daskSteal, dans, dansSteal, wLoad]
  · simp [dstep, dsteal, gdo, daskOf, daskSteal, dans, dansSteal, wLoad]
  · simp [dstep, dsteal, gdo, daskOf, daskSteal, dans, dansSteal, wLoad]
  · by_cases hs : at_ L base = t
    · simp [dstep, dsteal, gdo, daskOf, daskSteal, dans, dansSteal, wSwap, dswapL, dswapB, hs]
    · simp [dstep, dsteal, gdo, daskOf, daskSteal, dans, dansSteal, wSwap, dswapL, dswapB, hs]
/-- A log that ends where the operation is over. -/
def DProper (n : Int) (o : Dop) : List Int → Prop
  | [] => True
  | x :: l => o.out = 0 ∧ DProper n (dans n o x) l
theorem DProper.snoc {n : Int} : ∀ {l : List Int} {o : Dop} {x : Int}, DProper n o l → (l.foldl (dans n) o).out = 0 → DProper n o (l ++ [x])
  | [], o, x, _, h => ⟨h, trivial⟩
  | y :: l, o, x, h, hx => ⟨h.1, DProper.snoc (l := l) h.2 hx⟩
theorem DProper.over {n : Int} {l : List Int} {o : Dop} (h : DProper n o l) (ho : o.out ≠ 0) : l = [] := by
  cases l with
  | nil => rfl
  | cons x l => exact absurd h.1 ho
/-- What an operation begins as. -/
def dbegin (kind V : Int) : Dop := if kind = 1 then pushOp V else if kind = 2 then popOp else stealOp
/-- The logs that there are, and what is asked for behind each. -/
inductive DAsk (base n V : Int) : Int → List Int → GW → Prop
  | a0 : DAsk base n V 1 [] (wLoad (base + 1))
  | a1 (b : Int) : DAsk base n V 1 [b] (wLoad base)
  | a2f (b t : Int) (h : n ≤ IntKind.u64.wrap (b - t)) : DAsk base n V 1 [b, t] (wOver 2 0)
  | a2 (b t : Int) (h : ¬ n ≤ IntKind.u64.wrap (b - t)) : DAsk base n V 1 [b, t] (wStore (dslotOf base n b) V)
  | a3 (b t x : Int) (h : ¬ n ≤ IntKind.u64.wrap (b - t)) : DAsk base n V 1 [b, t, x] (wStore (base + 1) (IntKind.u64.wrap (b + 1)))
  | a4 (b t x y : Int) (h : ¬ n ≤ IntKind.u64.wrap (b - t)) : DAsk base n V 1 [b, t, x, y] (wOver 1 0)
  | b0 : DAsk base n V 2 [] (wLoad (base + 1))
  | b1 (b : Int) : DAsk base n V 2 [b] (wStore (base + 1) (IntKind.u64.wrap (b - 1)))
  | b2 (b x : Int) : DAsk base n V 2 [b, x] (wLoad base)
  | b3e (b x t : Int) (h : IntKind.u64.wrap (b - 1) < t) : DAsk base n V 2 [b, x, t] (wStore (base + 1) b)
  | b4e (b x t y : Int) (h : IntKind.u64.wrap (b - 1) < t) : DAsk base n V 2 [b, x, t, y] (wOver 4 0)
  | b3 (b x t : Int) (h : ¬ IntKind.u64.wrap (b - 1) < t) : DAsk base n V 2 [b, x, t] (wLoad (dslotOf base n (IntKind.u64.wrap (b - 1))))
  | b4d (b x t v : Int) (h : ¬ IntKind.u64.wrap (b - 1) < t) (h2 : t < IntKind.u64.wrap (b - 1)) : DAsk base n V 2 [b, x, t, v] (wOver 1 v)
  | b4 (b x t v : Int) (h : ¬ IntKind.u64.wrap (b - 1) < t) (h2 : ¬ t < IntKind.u64.wrap (b - 1)) : DAsk base n V 2 [b, x, t, v] (wSwap base t (IntKind.u64.wrap (t + 1)))
  | b5 (b x t v s : Int) (h : ¬ IntKind.u64.wrap (b - 1) < t) (h2 : ¬ t < IntKind.u64.wrap (b - 1)) : DAsk base n V 2 [b, x, t, v, s] (wStore (base + 1) b)
  | b6w (b x t v s z : Int) (h : ¬ IntKind.u64.wrap (b - 1) < t) (h2 : ¬ t < IntKind.u64.wrap (b - 1)) (hs : s = 1) : DAsk base n V 2 [b, x, t, v, s, z] (wOver 1 v)
  | b6l (b x t v s z : Int) (h : ¬ IntKind.u64.wrap (b - 1) < t) (h2 : ¬ t < IntKind.u64.wrap (b - 1)) (hs : s ≠ 1) : DAsk base n V 2 [b, x, t, v, s, z] (wOver 4 0)
  | c0 : DAsk base n V 3 [] (wLoad base)
  | c1 (t : Int) : DAsk base n V 3 [t] (wLoad (base + 1))
  | c2n (t b : Int) (h : b ≤ t) : DAsk base n V 3 [t, b] (wOver 4 0)
  | c2 (t b : Int) (h : ¬ b ≤ t) : DAsk base n V 3 [t, b] (wLoad (dslotOf base n t))
  | c3 (t b v : Int) (h : ¬ b ≤ t) : DAsk base n V 3 [t, b, v] (wSwap base t (IntKind.u64.wrap (t + 1)))
  | c4w (t b v s : Int) (h : ¬ b ≤ t) (hs : s = 1) : DAsk base n V 3 [t, b, v, s] (wOver 1 v)
  | c4l (t b v s : Int) (h : ¬ b ≤ t) (hs : s ≠ 1) : DAsk base n V 3 [t, b, v, s] (wOver 6 0)
theorem DAsk.push {base n V : Int} : ∀ (l : List Int), DProper n (pushOp V) l → DAsk base n V 1 l (daskOf base n (l.foldl (dans n) (pushOp V)))
  | [], _ => by simpa [pushOp, daskOf, daskPush] using DAsk.a0 (base := base) (n := n) (V := V)
  | [b], _ => by simpa [pushOp, daskOf, daskPush, dans, dansPush] using DAsk.a1 (base := base) (n := n) (V := V) b
  | b :: t :: l, hp => by
    have e2 : dans n (dans n (pushOp V) b) t = ⟨3, dfull n b t, V, t, b, false⟩ := by simp [pushOp, dans, dansPush]
    have hq := hp.2.2
    rw [e2] at hq
    simp only [List.foldl_cons, e2]
    by_cases c : n ≤ IntKind.u64.wrap (b - t)
    · have hf : dfull n b t = 2 := by simp [dfull, c]
      rw [hf] at hq ⊢
      have := hq.over (by simp)
      subst this
      simpa [daskOf, dvalue] using DAsk.a2f (base := base) (n := n) (V := V) b t c
    · have hf : dfull n b t = 0 := by simp [dfull, c]
      rw [hf] at hq ⊢
      match l, hq with
      | [], _ => simpa [daskOf, daskPush] using DAsk.a2 (base := base) (n := n) (V := V) b t c
      | [x], _ => simpa [daskOf, daskPush, dans, dansPush] using DAsk.a3 (base := base) (n := n) (V := V) b t x c
      | [x, y], _ => simpa [daskOf, dans, dansPush, dvalue] using DAsk.a4 (base := base) (n := n) (V := V) b t x y c
      | x :: y :: z :: r, hq => have := hq.2.2.1; simp [dans, dansPush] at this
theorem DAsk.pop {base n V : Int} : ∀ (l : List Int), DProper n popOp l → DAsk base n V 2 l (daskOf base n (l.foldl (dans n) popOp))
  | [], _ => by simpa [popOp, daskOf, daskPop] using DAsk.b0 (base := base) (n := n) (V := V)
  | [b], _ => by simpa [popOp, daskOf, daskPop, dans, dansPop] using DAsk.b1 (base := base) (n := n) (V := V) b
  | [b, x], _ => by simpa [popOp, daskOf, daskPop, dans, dansPop] using DAsk.b2 (base := base) (n := n) (V := V) b x
  | b :: x :: t :: l, hp => by
    have e2 : dans n (dans n (dans n popOp b) x) t = ⟨if IntKind.u64.wrap (b - 1) < t then 10 else 8, 0, 0, t, b, false⟩ := by simp [popOp, dans, dansPop]
    have hq := hp.2.2.2
    rw [e2] at hq
    simp only [List.foldl_cons, e2]
    by_cases c : IntKind.u64.wrap (b - 1) < t
    · rw [if_pos c] at hq ⊢
      match l, hq with
      | [], _ => simpa [daskOf, daskPop] using DAsk.b3e (base := base) (n := n) (V := V) b x t c
      | [y], _ => simpa [daskOf, dans, dansPop, dwon, dvalue] using DAsk.b4e (base := base) (n := n) (V := V) b x t y c
      | y :: z :: r, hq => have := hq.2.1; simp [dans, dansPop, dwon] at this
    · rw [if_neg c] at hq ⊢
      match l, hq with
      | [], _ => simpa [daskOf, daskPop] using DAsk.b3 (base := base) (n := n) (V := V) b x t c
      | v :: r, hq =>
        have e3 : dans n ⟨8, 0, 0, t, b, false⟩ v = ⟨9, dlast t b, v, t, b, false⟩ := by simp [dans, dansPop]
        have hq2 := hq.2
        rw [e3] at hq2
        simp only [List.foldl_cons, e3]
        by_cases c2 : t < IntKind.u64.wrap (b - 1)
        · have hf : dlast t b = 1 := by simp [dlast, c2]
          rw [hf] at hq2 ⊢
          have := hq2.over (by simp)
          subst this
          simpa [daskOf, dvalue] using DAsk.b4d (base := base) (n := n) (V := V) b x t v c c2
        · have hf : dlast t b = 0 := by simp [dlast, c2]
          rw [hf] at hq2 ⊢
          match r, hq2 with
          | [], _ => simpa [daskOf, daskPop] using DAsk.b4 (base := base) (n := n) (V := V) b x t v c c2
          | [s], _ => simpa [daskOf, daskPop, dans, dansPop] using DAsk.b5 (base := base) (n := n) (V := V) b x t v s c c2
          | [s, z], _ =>
            by_cases hs : s = 1
            · simpa [daskOf, dans, dansPop, dwon, dvalue, hs] using DAsk.b6w (base := base) (n := n) (V := V) b x t v s z c c2 hs
            · simpa [daskOf, dans, dansPop, dwon, dvalue, hs] using DAsk.b6l (base := base) (n := n) (V := V) b x t v s z c c2 hs
          | s :: z :: u :: q, hq2 =>
            have := hq2.2.2.1
            by_cases hs : s = 1
            · simp [dans, dansPop, dwon, hs] at this
            · simp [dans, dansPop, dwon, hs] at this
theorem DAsk.steal {base n V : Int} : ∀ (l : List Int), DProper n stealOp l → DAsk base n V 3 l (daskOf base n (l.foldl (dans n) stealOp))
  | [], _ => by simpa [stealOp, daskOf, daskSteal] using DAsk.c0 (base := base) (n := n) (V := V)
  | [t], _ => by simpa [stealOp, daskOf, daskSteal, dans, dansSteal] using DAsk.c1 (base := base) (n := n) (V := V) t
  | t :: b :: l, hp => by
    have e2 : dans n (dans n stealOp t) b = ⟨13, dnone t b, 0, t, b, false⟩ := by simp [stealOp, dans, dansSteal]
    have hq := hp.2.2
    rw [e2] at hq
    simp only [List.foldl_cons, e2]
    by_cases c : b ≤ t
    · have hf : dnone t b = 4 := by simp [dnone, c]
      rw [hf] at hq ⊢
      have := hq.over (by simp)
      subst this
      simpa [daskOf, dvalue] using DAsk.c2n (base := base) (n := n) (V := V) t b c
    · have hf : dnone t b = 0 := by simp [dnone, c]
      rw [hf] at hq ⊢
      match l, hq with
      | [], _ => simpa [daskOf, daskSteal] using DAsk.c2 (base := base) (n := n) (V := V) t b c
      | [v], _ => simpa [daskOf, daskSteal, dans, dansSteal] using DAsk.c3 (base := base) (n := n) (V := V) t b v c
      | [v, s], _ =>
        by_cases hs : s = 1
        · simpa [daskOf, dans, dansSteal, dvalue, hs] using DAsk.c4w (base := base) (n := n) (V := V) t b v s c hs
        · simpa [daskOf, dans, dansSteal, dvalue, hs] using DAsk.c4l (base := base) (n := n) (V := V) t b v s c hs
      | v :: s :: z :: r, hq =>
        have := hq.2.2.1
        by_cases hs : s = 1
        · simp [dans, dansSteal, hs] at this
        · simp [dans, dansSteal, hs] at this
/-- A thread's operation and its log. -/
structure DThr (n : Int) (o : Dop) (kind V : Int) (l : List Int) : Prop where
  k1 : 1 ≤ kind
  k3 : kind ≤ 3
  u : AllU l
  uV : U64 V
  pr : DProper n (dbegin kind V) l
  eq : o = l.foldl (dans n) (dbegin kind V)
theorem DThr.ask {n : Int} {o : Dop} {kind V : Int} {l : List Int} (h : DThr n o kind V l) (base : Int) : DAsk base n V kind l (daskOf base n o) := by
  have hk : kind = 1 ∨ kind = 2 ∨ kind = 3 := by have := h.k1; have := h.k3; omega
  have hp := h.pr
  rw [h.eq]
  rcases hk with rfl | rfl | rfl
  · exact DAsk.push l hp
  · exact DAsk.pop l hp
  · exact DAsk.steal l hp
theorem dthr_new (n : Int) (kind V : Int) (h1 : 1 ≤ kind) (h3 : kind ≤ 3) (hV : U64 V) : DThr n (dbegin kind V) kind V [] := ⟨h1, h3, (by intro x hx; cases hx), hV, trivial, rfl⟩
theorem DThr.step {n : Int} {o : Dop} {kind V : Int} {l : List Int} (h : DThr n o kind V l) (ho : o.out = 0) {x : Int} (hx : U64 x) : DThr n (dans n o x) kind V (l ++ [x]) :=
  ⟨h.k1, h.k3, by
    intro y hy
    rcases List.mem_append.1 hy with hy | hy
    · exact h.u y hy
    · rw [List.mem_singleton.1 hy]; exact hx, h.uV, h.pr.snoc (by rw [← h.eq]; exact ho), by rw [List.foldl_append, ← h.eq]; rfl⟩
theorem dask_over {o : Dop} (base n : Int) (h : o.out ≠ 0) : daskOf base n o = wOver o.out (dvalue o.v o.out) := by unfold daskOf; rw [if_pos h]
theorem dask_go {o : Dop} {base n : Int} {len : Nat} (hg : DopOk o) (h : o.out = 0) (b0 : 0 ≤ base) (n1 : 1 ≤ n) (hi : base + 2 + n ≤ len) : (daskOf base n o).over = false ∧ ((daskOf base n o).what = 1 ∨ (daskOf base n o).what = 2 ∨ (daskOf base n o).what = 3) ∧ 0 ≤ (daskOf base n o).cell ∧ (daskOf base n o).cell < len := by
  have sl : ∀ t, U64 t → 0 ≤ dslotOf base n t ∧ dslotOf base n t < len := fun t ht => by
    obtain ⟨-, m1, m2⟩ := u64_mod ht n1
    unfold dslotOf; omega
  have s1 := sl _ hg.b
  have s2 := sl _ hg.t
  have s3 := sl _ (u64_wrap (o.b - 1))
  unfold daskOf
  rw [if_neg (by rw [h]; decide)]
  unfold daskPush daskPop daskSteal
  (repeat' split) <;> exact ⟨rfl, by simp [wStore, wLoad, wSwap], by simp only [wStore, wLoad, wSwap]; omega, by simp only [wStore, wLoad, wSwap]; omega⟩
theorem dgdo_u {L : List Int} (h : AllU L) (W : GW) : U64 (gdo L W).2 := by
  unfold gdo
  split
  · exact h.at_ _
  split
  · exact u64_zero
  split
  · show U64 1
    exact ⟨by decide, by decide⟩
  · exact u64_zero
end Go.Proofs.YtdoaipjdldknaaaGreat
