/-
  A deque with at most one number in it: an owner and thieves, each with the operation that it has on this deque, if any (plain lists; no program).
-/
import Derived.Test.YtdoaipjdldknaaaKDeqC
namespace Go.Proofs.Ytdoaipjdldknaaa
open Go.RowKit
set_option linter.unusedVariables false

/-- How far a pop is, at least. -/
def crp (o : Dop) : Int := if o.k = 10 then (if o.won then 5 else 3) else o.k - 5
section
variable {n T B bot : Nat} {L : List Int} {val : Nat → Int} {o : Dop} {held : List Int}
theorem own_cr (h : DI n L T B bot val) (ho : Own n L T B val o bot held) (hS : (inD T B val ++ held).length ≤ 1) (e8 : o.k = 8 → o.t + 1 = o.b) :
    (o.k ≤ 4 → inD T B val ++ held = [] → (dstep 0 n L o).2.out ≠ 2) ∧
    (o.k ≤ 4 → (dstep 0 n L o).2.out = 0 → (dstep 0 n L o).2.k = o.k + 1) ∧
    (o.k ≤ 4 → (dstep 0 n L o).2.out = 1 → o.k = 4) ∧
    (4 < o.k → (dstep 0 n L o).2.out = 0 → crp (dstep 0 n L o).2 ≤ crp o + 1 ∧ ((dstep 0 n L o).2.k = 8 → (dstep 0 n L o).2.t + 1 = (dstep 0 n L o).2.b)) ∧
    (4 < o.k → (dstep 0 n L o).2.out = 1 → crp o = 5) ∧ (4 < o.k → (dstep 0 n L o).2.out = 4 → 3 ≤ crp o) := by
  have hl := h.len
  have h1 := h.n1
  have hle := h.le
  have hge := h.ge
  have hsm := h.small
  have ht := h.top
  have hb := h.bot_
  have ht1 := h.t1
  cases ho with
  | push1 v t b won => rw [ds1]; exact ⟨fun _ _ => by simp, fun _ _ => rfl, fun _ h9 => by simp at h9, fun h9 => by simp at h9, fun h9 => by simp at h9, fun h9 => by simp at h9⟩
  | push2 v t won =>
    rw [ds2, show at_ L (0 : Int) = (T : Int) from ht]
    have hd : inD T B val ++ [] = [] → dfull n B T = 0 := fun he => by
      have := congrArg List.length he
      simp [inD_len] at this
      unfold dfull; rw [w64_diff B T hsm hle, if_neg (by omega)]
    exact ⟨fun _ he => by simp [hd he], fun _ _ => rfl, fun _ h9 => by revert h9; unfold dfull; split <;> simp, fun h9 => by simp at h9, fun h9 => by simp at h9, fun h9 => by simp at h9⟩
  | push3 v t won hlt => rw [ds3]; exact ⟨fun _ _ => by simp, fun _ _ => rfl, fun _ h9 => by simp at h9, fun h9 => by simp at h9, fun h9 => by simp at h9, fun h9 => by simp at h9⟩
  | push4 v t won hlt hv => rw [ds4]; exact ⟨fun _ _ => by simp, fun _ h9 => by simp at h9, fun _ _ => rfl, fun h9 => by simp at h9, fun h9 => by simp at h9, fun h9 => by simp at h9⟩
  | pop1 v t b => rw [ds5]; exact ⟨fun h9 => by simp at h9, fun h9 => by simp at h9, fun h9 => by simp at h9, fun _ _ => ⟨by simp [crp], fun h9 => by simp at h9⟩, fun _ h9 => by simp at h9, fun _ h9 => by simp at h9⟩
  | pop2 v t => rw [ds6]; exact ⟨fun h9 => by simp at h9, fun h9 => by simp at h9, fun h9 => by simp at h9, fun _ _ => ⟨by simp [crp], fun h9 => by simp at h9⟩, fun _ h9 => by simp at h9, fun _ h9 => by simp at h9⟩
  | pop3 v t =>
    rw [ds7, show at_ L (0 : Int) = (T : Int) from ht, w64_sub B hsm (by omega)]
    have hS' : B - T ≤ 1 := by simpa [inD_len] using hS
    refine ⟨fun h9 => by simp at h9, fun h9 => by simp at h9, fun h9 => by simp at h9, fun _ _ => ⟨?_, fun h9 => ?_⟩, fun _ h9 => by simp at h9, fun _ h9 => by simp at h9⟩
    · by_cases c : ((B - 1 : Nat) : Int) < (T : Int)
      · simp [crp, c]
      · simp [crp, c]
    · by_cases c : ((B - 1 : Nat) : Int) < (T : Int)
      · rw [if_pos c] at h9; simp at h9
      · show (T : Int) + 1 = (B : Int)
        omega
  | pop4a v t y htB hB hy =>
    have := e8 rfl
    exfalso
    have h9 : (t : Int) + 1 = ((B + 1 : Nat) : Int) := this
    omega
  | pop4b v hT hB =>
    have e1 : IntKind.u64.wrap ((B : Int) - 1) = ((B - 1 : Nat) : Int) := w64_sub B (by omega) (by omega)
    have e2 : dlast ((B - 1 : Nat) : Int) (B : Int) = 0 := by unfold dlast; rw [e1, if_neg (by omega)]
    rw [ds8, e2]
    exact ⟨fun h9 => by simp at h9, fun h9 => by simp at h9, fun h9 => by simp at h9, fun _ _ => ⟨by simp [crp], fun h9 => by simp at h9⟩, fun _ h9 => by simp at h9, fun _ h9 => by simp at h9⟩
  | pop5 v hT hB hv =>
    rw [ds9]
    refine ⟨fun h9 => by simp at h9, fun h9 => by simp at h9, fun h9 => by simp at h9, fun _ _ => ⟨?_, fun h9 => by simp at h9⟩, fun _ h9 => by simp at h9, fun _ h9 => by simp at h9⟩
    cases dswapB 0 L ((B - 1 : Nat) : Int) <;> simp [crp]
  | pop6a v t hT => rw [ds10]; exact ⟨fun h9 => by simp at h9, fun h9 => by simp at h9, fun h9 => by simp at h9, fun _ h9 => by simp [dwon] at h9, fun _ h9 => by simp [dwon] at h9, fun _ _ => by simp [crp]⟩
  | pop6b v t hT => rw [ds10]; exact ⟨fun h9 => by simp at h9, fun h9 => by simp at h9, fun h9 => by simp at h9, fun _ h9 => by simp [dwon] at h9, fun _ _ => by simp [crp], fun _ h9 => by simp [dwon] at h9⟩
end
/-- A deque; d j is what thread j has under way on it. -/
structure DQ (n s : Nat) (L : List Int) (d : Nat → Option Dop) (i : Nat) (S : List Int) (b : Nat) : Prop where
  ex : ∃ T B bot val held, DI s L T B bot val ∧ B ≤ b ∧ S = inD T B val ++ held ∧ (∀ o, d i = some o → Own s L T B val o bot held) ∧ (d i = none → bot = B ∧ held = []) ∧ ∀ j, j < n → j ≠ i → ∀ x, d j = some x → Thf T B val x
section
variable {n s i j b : Nat} {L : List Int} {d d' : Nat → Option Dop} {S : List Int} {o x : Dop}
theorem DQ.more (h : DQ n s L d i S b) {b' : Nat} (hb : b ≤ b') : DQ n s L d i S b' := by
  obtain ⟨T, B, bot, val, held, h1, h2, h3⟩ := h.ex
  exact ⟨T, B, bot, val, held, h1, by omega, h3⟩
theorem DQ.same (h : DQ n s L d i S b) (hd : d' i = d i) (he : ∀ j, j < n → j ≠ i → d' j = d j ∨ d' j = none) : DQ n s L d' i S b := by
  obtain ⟨T, B, bot, val, held, h1, h2, h3, h4, h5, h6⟩ := h.ex
  refine ⟨T, B, bot, val, held, h1, h2, h3, fun o ho => h4 o (by rw [← hd]; exact ho), fun ho => h5 (by rw [← hd]; exact ho), fun j hj hji x hx => ?_⟩
  rcases he j hj hji with e | e
  · exact h6 j hj hji x (by rw [← e]; exact hx)
  · rw [e] at hx; cases hx
theorem DQ.push (h : DQ n s L d i S b) (h0 : d i = none) (v : Int) : DQ n s L (upd d i (some (pushOp v))) i S b := by
  obtain ⟨T, B, bot, val, held, h1, h2, h3, h4, h5, h6⟩ := h.ex
  obtain ⟨rfl, rfl⟩ := h5 h0
  refine ⟨T, bot, bot, val, [], h1, h2, h3, fun o ho => ?_, fun ho => ?_, fun j hj hji x hx => ?_⟩
  · rw [upd_same] at ho
    injection ho with ho
    subst ho
    exact .push1 _ _ _ _
  · rw [upd_same] at ho; cases ho
  · rw [upd_ne _ _ hji] at hx; exact h6 j hj hji x hx
theorem DQ.pop (h : DQ n s L d i S b) (h0 : d i = none) : DQ n s L (upd d i (some popOp)) i S b := by
  obtain ⟨T, B, bot, val, held, h1, h2, h3, h4, h5, h6⟩ := h.ex
  obtain ⟨rfl, rfl⟩ := h5 h0
  refine ⟨T, bot, bot, val, [], h1, h2, h3, fun o ho => ?_, fun ho => ?_, fun j hj hji x hx => ?_⟩
  · rw [upd_same] at ho
    injection ho with ho
    subst ho
    exact .pop1 _ _ _
  · rw [upd_same] at ho; cases ho
  · rw [upd_ne _ _ hji] at hx; exact h6 j hj hji x hx
theorem DQ.steal (h : DQ n s L d i S b) (hj : j ≠ i) : DQ n s L (upd d j (some stealOp)) i S b := by
  obtain ⟨T, B, bot, val, held, h1, h2, h3, h4, h5, h6⟩ := h.ex
  refine ⟨T, B, bot, val, held, h1, h2, h3, fun o ho => h4 o (by rw [upd_ne _ _ (Ne.symm hj)] at ho; exact ho), fun ho => h5 (by rw [upd_ne _ _ (Ne.symm hj)] at ho; exact ho), fun k hk hki x hx => ?_⟩
  by_cases e : k = j
  · subst e
    rw [upd_same] at hx
    injection hx with hx
    subst hx
    exact ⟨rfl, .inl rfl⟩
  · rw [upd_ne _ _ e] at hx; exact h6 k hk hki x hx
theorem DQ.own0 (h : DQ n s L d i S b) (ho : d i = some o) : o.out = 0 ∧ 1 ≤ o.k ∧ o.k ≤ 10 := by
  obtain ⟨T, B, bot, val, held, h1, h2, h3, h4, h5, h6⟩ := h.ex
  exact ⟨(h4 o ho).out0, (h4 o ho).k10⟩
theorem DQ.thf0 (h : DQ n s L d i S b) (hj : j < n) (hji : j ≠ i) (hx : d j = some x) : x.out = 0 ∧ 11 ≤ x.k ∧ x.k ≤ 14 := by
  obtain ⟨T, B, bot, val, held, h1, h2, h3, h4, h5, h6⟩ := h.ex
  obtain ⟨a, c⟩ := h6 j hj hji x hx
  refine ⟨a, ?_⟩
  rcases c with c | ⟨c, -⟩ | ⟨c, -⟩ | ⟨c, -⟩ <;> omega
/-- What an owner's step does. -/
inductive OwS (S : List Int) (o o' : Dop) : List Int → Prop
  | pushing : o.k ≤ 4 → o'.out = 0 → o'.k = o.k + 1 → o'.v = o.v → o'.k ≤ 4 → OwS S o o' S
  | pushed : o.k = 4 → o'.out = 1 → S = [] → OwS S o o' [o.v]
  | popping : 4 < o.k → o'.out = 0 → o.k < o'.k → o'.k ≤ 10 → crp o' ≤ crp o + 1 → (o'.k = 8 → o'.t + 1 = o'.b) → OwS S o o' S
  | popped : 4 < o.k → o.k ≤ 10 → o'.out = 1 → crp o = 5 → S = [o'.v] → OwS S o o' []
  | none : 4 < o.k → o.k ≤ 10 → o'.out = 4 → S = [] → 3 ≤ crp o → OwS S o o' []
theorem DQ.owner (h : DQ n s L d i S b) (ho : d i = some o) (hS : S.length ≤ 1) (e8 : o.k = 8 → o.t + 1 = o.b) (hp : o.k ≤ 4 → S = []) (hb : b + 1 ≤ 1000000) :
    ∃ S', OwS S o (dstep 0 s L o).2 S' ∧ ((dstep 0 s L o).2.out = 0 → DQ n s (dstep 0 s L o).1 (upd d i (some (dstep 0 s L o).2)) i S' (b + 1)) ∧ ((dstep 0 s L o).2.out ≠ 0 → DQ n s (dstep 0 s L o).1 (upd d i none) i S' (b + 1)) := by
  obtain ⟨T, B, bot, val, held, h1, h2, rfl, h4, h5, h6⟩ := h.ex
  have how := h4 o ho
  obtain ⟨c1, c2, c3, c4, c5, c6⟩ := own_cr h1 how hS e8
  have hk := how.k10
  obtain ⟨T', B', bot', val', a1, a2, a3, a4, a5⟩ := own_step h1 how (by omega)
  generalize dstep 0 (s : Int) L o = r at c1 c2 c3 c4 c5 c6 a1 a5 ⊢
  obtain ⟨L', o'⟩ := r
  dsimp only at c1 c2 c3 c4 c5 c6 a1 a5 ⊢
  rcases a5 with ⟨z, ⟨k1, k2, k3, k4⟩, held', q1, q2⟩ | ⟨z, q1, q2⟩
  · refine ⟨inD T B val ++ held, ?_, fun _ => ⟨T', B', bot', val', held', a1, by omega, q2.symm, fun o2 ho2 => ?_, fun ho2 => ?_, fun j hj hji x hx => ?_⟩, fun h9 => absurd z h9⟩
    · by_cases hk4 : o.k ≤ 4
      · exact .pushing hk4 z (c2 hk4 z) (k4 hk4) (k3.1 hk4)
      · obtain ⟨d1, d2⟩ := c4 (by omega) z
        exact .popping (by omega) z k1 k2 d1 d2
    · rw [upd_same] at ho2
      injection ho2 with ho2
      subst ho2
      exact q1
    · rw [upd_same] at ho2; cases ho2
    · rw [upd_ne _ _ hji] at hx
      exact a4 x (h6 j hj hji x hx)
  · refine ⟨inD T' B' val', ?_, fun h9 => absurd h9 z, fun _ => ⟨T', B', bot', val', [], a1, by omega, by simp, fun o2 ho2 => ?_, fun _ => ⟨q1, rfl⟩, fun j hj hji x hx => ?_⟩⟩
    · rcases q2 with ⟨e1, e2, e3⟩ | ⟨e1, e2, e3⟩ | ⟨e1, e2, e3⟩ | ⟨e1, e2, e3, e4⟩
      · have hs0 := hp e1
        rw [e3, hs0]
        exact .pushed (c3 e1 e2) e2 rfl
      · exact absurd e2 (c1 e1 (hp e1))
      · rw [e3] at hS ⊢
        have : inD T' B' val' = [] := by
          rw [List.length_append] at hS
          simp at hS
          exact hS
        rw [this]
        exact .popped e1 hk.2 e2 (c5 e1 e2) rfl
      · rw [e3, e4]
        exact .none e1 hk.2 e2 rfl (c6 e1 e2)
    · rw [upd_same] at ho2; cases ho2
    · rw [upd_ne _ _ hji] at hx
      exact a4 x (h6 j hj hji x hx)
/-- What a thief's step does. -/
inductive ThS (S : List Int) (x x' : Dop) : List Int → Prop
  | going : x'.out = 0 → x.k < x'.k → x'.k = x.k + 1 → ThS S x x' S
  | none : x'.out ≠ 0 → x'.out ≠ 1 → ThS S x x' S
  | got : x'.out = 1 → x.k = 14 → S = [x'.v] → ThS S x x' []
theorem thf_k {T B : Nat} {val : Nat → Int} (h : Thf T B val x) : ((dstep 0 (s : Int) L x).2.out = 0 → (dstep 0 (s : Int) L x).2.k = x.k + 1) ∧ ((dstep 0 (s : Int) L x).2.out = 1 → x.k = 14) := by
  obtain ⟨h0, h⟩ := h
  obtain ⟨k, out, v, t, b, won⟩ := x
  dsimp only at h0 h
  subst h0
  rcases h with rfl | ⟨rfl, -⟩ | ⟨rfl, -⟩ | ⟨rfl, -⟩
  · rw [ds11]; exact ⟨fun _ => rfl, fun h9 => by simp at h9⟩
  · rw [ds12]; exact ⟨fun _ => rfl, fun h9 => by revert h9; unfold dnone; split <;> simp⟩
  · rw [ds13]; exact ⟨fun _ => rfl, fun h9 => by simp at h9⟩
  · rw [ds14]; exact ⟨fun h9 => by revert h9; dsimp only; split <;> simp, fun _ => rfl⟩
theorem DQ.thief (h : DQ n s L d i S b) (hj : j < n) (hji : j ≠ i) (hx : d j = some x) (hS : S.length ≤ 1) :
    ∃ S', ThS S x (dstep 0 s L x).2 S' ∧ ((dstep 0 s L x).2.out = 0 → DQ n s (dstep 0 s L x).1 (upd d j (some (dstep 0 s L x).2)) i S' b) ∧ ((dstep 0 s L x).2.out ≠ 0 → DQ n s (dstep 0 s L x).1 (upd d j none) i S' b) := by
  obtain ⟨T, B, bot, val, held, h1, h2, rfl, h4, h5, h6⟩ := h.ex
  have hxt := h6 j hj hji x hx
  have hbot : bot ≤ B := by
    cases e : d i with
    | none => rw [(h5 e).1]; exact Nat.le_refl _
    | some o => exact (h4 o e).bot_le
  obtain ⟨t1, t2⟩ := thf_k (s := s) (L := L) hxt
  have hne : ∀ y, upd d j y i = d i := fun y => upd_ne _ _ (Ne.symm hji)
  rcases thf_step h1 hbot hxt with ⟨x', e, q⟩ | ⟨x', e, q1, q2, q3⟩
  · rw [e] at t1 t2 ⊢
    dsimp only at t1 t2 ⊢
    refine ⟨inD T B val ++ held, ?_, fun z => ⟨T, B, bot, val, held, h1, h2, rfl, fun o ho => h4 o (by rw [← hne (some x')]; exact ho), fun ho => h5 (by rw [← hne (some x')]; exact ho), fun k hk hki y hy => ?_⟩, fun z => ⟨T, B, bot, val, held, h1, h2, rfl, fun o ho => h4 o (by rw [← hne none]; exact ho), fun ho => h5 (by rw [← hne none]; exact ho), fun k hk hki y hy => ?_⟩⟩
    · rcases q with ⟨q1, q2, q3⟩ | ⟨q1, q2⟩
      · exact .going q1.1 q2 (t1 q1.1)
      · exact .none q1 q2
    · by_cases ek : k = j
      · subst ek
        rw [upd_same] at hy
        injection hy with hy
        subst hy
        rcases q with ⟨q1, -⟩ | ⟨q1, -⟩
        · exact q1
        · exact absurd z q1
      · rw [upd_ne _ _ ek] at hy; exact h6 k hk hki y hy
    · by_cases ek : k = j
      · subst ek; rw [upd_same] at hy; cases hy
      · rw [upd_ne _ _ ek] at hy; exact h6 k hk hki y hy
  · rw [e] at t1 t2 ⊢
    dsimp only at t1 t2 ⊢
    have hc := inD_cons val q3
    have hnil : inD (T + 1) B val ++ held = [] := by
      rw [hc] at hS
      simp only [List.cons_append, List.length_cons] at hS
      exact List.eq_nil_of_length_eq_zero (by omega)
    refine ⟨[], .got q1 (t2 q1) ?_, fun z => by omega, fun z => ⟨T + 1, B, bot, val, held, h1.setTop q3, h2, hnil.symm, fun o ho => (h4 o (by rw [← hne none]; exact ho)).taken h1 q3 _, fun ho => h5 (by rw [← hne none]; exact ho), fun k hk hki y hy => ?_⟩⟩
    · rw [hc, q2, List.cons_append, hnil]
    · by_cases ek : k = j
      · subst ek; rw [upd_same] at hy; cases hy
      · rw [upd_ne _ _ ek] at hy; exact (h6 k hk hki y hy).up (by omega)
end
end Go.Proofs.Ytdoaipjdldknaaa
