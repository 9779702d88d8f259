/-
  The last one in a deque: its owner's pop and a thief's steal, their steps mixed (plain lists; no program).
-/
import Derived.Test.YtblkbfdmoanbfaaDeqR
namespace Go.Proofs.Ytblkbfdmoanbfaa
open Go.RowKit
set_option linter.unusedVariables false

structure Duo (n : Nat) (L : List Int) (p s : Dop) (v : Int) : Prop where
  ex : ∃ T B bot val held, DI n L T B bot val ∧ (B : Int) + rkO p ≤ 2010 ∧ ((p.out = 0 ∧ 4 < p.k ∧ Own n L T B val p bot held) ∨ (p.out ≠ 0 ∧ bot = B ∧ held = [])) ∧ (s.out = 0 → Thf T B val s) ∧
    ((inD T B val ++ held = [v] ∧ p.out = 0 ∧ s.out ≠ 1) ∨ (inD T B val ++ held = [] ∧ p.out = 1 ∧ p.v = v ∧ s.out ≠ 1) ∨ (inD T B val ++ held = [] ∧ s.out = 1 ∧ s.v = v ∧ p.out ≠ 1))
section
variable {n : Nat} {L : List Int} {p s : Dop} {v : Int}
theorem Duo.rk (h : Duo n L p s v) : 0 ≤ rkO p ∧ rkO p ≤ 6 ∧ (p.out = 0 → 1 ≤ rkO p) ∧ 0 ≤ rkT s ∧ rkT s ≤ 4 ∧ (s.out = 0 → 1 ≤ rkT s) := by
  obtain ⟨T, B, bot, val, held, h1, hB, h2, h3, h4⟩ := h.ex
  have hs : 0 ≤ rkT s ∧ rkT s ≤ 4 ∧ (s.out = 0 → 1 ≤ rkT s) := by
    unfold rkT
    by_cases e : s.out = 0
    · have := (h3 e).2
      rw [if_pos e]
      refine ⟨?_, ?_, fun _ => ?_⟩ <;> rcases this with k | ⟨k, -⟩ | ⟨k, -⟩ | ⟨k, -⟩ <;> omega
    · rw [if_neg e]; exact ⟨by omega, by omega, fun e2 => absurd e2 e⟩
  unfold rkO
  rcases h2 with ⟨e, ek, ho⟩ | ⟨e, -⟩
  · have := ho.k10
    rw [if_pos e, if_neg (by omega)]
    exact ⟨by omega, by omega, fun _ => by omega, hs⟩
  · rw [if_neg e]; exact ⟨by omega, by omega, fun e2 => absurd e2 e, hs⟩
theorem Duo.stepP (h : Duo n L p s v) (h0 : p.out = 0) : Duo n (dstep 0 n L p).1 (dstep 0 n L p).2 s v ∧ rkO (dstep 0 n L p).2 + 1 ≤ rkO p := by
  have hrk := h.rk
  obtain ⟨T, B, bot, val, held, h1, hB, h2, h3, h4⟩ := h.ex
  rcases h2 with ⟨-, hk, ho⟩ | ⟨e, -⟩
  case inr => exact absurd h0 e
  have hk10 := ho.k10
  have hr0 : rkO p = 11 - p.k := by unfold rkO; rw [if_pos h0, if_neg (by omega)]
  obtain ⟨T', B', bot', val', q1, q2, q3, q4, q5⟩ := own_step h1 ho (by omega)
  generalize dstep 0 n L p = x at q1 q5 ⊢
  rcases q5 with ⟨r0, ⟨r1, r2, r3, r4⟩, held', r5, r6⟩ | ⟨r0, r1, r2⟩
  · have hr1 : rkO x.2 = 11 - x.2.k := by unfold rkO; rw [if_pos r0, if_neg (fun e => by have := r3.2 e; omega)]
    refine ⟨⟨T', B', bot', val', held', q1, by omega, .inl ⟨r0, by omega, r5⟩, fun e => q4 _ (h3 e), ?_⟩, by omega⟩
    rw [r6]
    rcases h4 with ⟨a, b, c⟩ | ⟨a, b, c⟩ | ⟨a, b, c, d⟩
    · exact .inl ⟨a, r0, c⟩
    · omega
    · exact .inr (.inr ⟨a, b, c, by omega⟩)
  · have hr1 : rkO x.2 = 0 := by unfold rkO; rw [if_neg r0]
    refine ⟨⟨T', B', bot', val', [], q1, by omega, .inr ⟨r0, r1, rfl⟩, fun e => q4 _ (h3 e), ?_⟩, by omega⟩
    rw [List.append_nil]
    rcases r2 with ⟨c1, -⟩ | ⟨c1, -⟩ | ⟨c1, c2, c3⟩ | ⟨c1, c2, c3, c4⟩
    · omega
    · omega
    · rcases h4 with ⟨a, b, c⟩ | ⟨a, b, c⟩ | ⟨a, b, c, d⟩
      · rw [a] at c3
        have hl := congrArg List.length c3
        rw [List.length_append] at hl
        have hn : inD T' B' val' = [] := List.eq_nil_of_length_eq_zero (by simp at hl; simpa using hl)
        rw [hn] at c3 ⊢
        exact .inr (.inl ⟨rfl, c2, by simpa using c3.symm, c⟩)
      · omega
      · rw [a] at c3
        have hl := congrArg List.length c3
        rw [List.length_append] at hl
        simp at hl
    · rcases h4 with ⟨a, b, c⟩ | ⟨a, b, c⟩ | ⟨a, b, c, d⟩
      · rw [a] at c4; cases c4
      · omega
      · rw [c3, a]
        exact .inr (.inr ⟨rfl, b, c, by omega⟩)
theorem Duo.stepS (h : Duo n L p s v) (h0 : s.out = 0) : Duo n (dstep 0 n L s).1 p (dstep 0 n L s).2 v ∧ rkT (dstep 0 n L s).2 + 1 ≤ rkT s := by
  have hrk := h.rk
  obtain ⟨T, B, bot, val, held, h1, hB, h2, h3, h4⟩ := h.ex
  have hbot : bot ≤ B := by
    rcases h2 with ⟨-, -, ho⟩ | ⟨-, e, -⟩
    · exact ho.bot_le
    · omega
  have hr0 : rkT s = 15 - s.k := by unfold rkT; rw [if_pos h0]
  rcases thf_step h1 hbot (h3 h0) with ⟨x', hd, hx⟩ | ⟨x', hd, hx1, hx2, hTB⟩
  · rw [hd]
    refine ⟨⟨T, B, bot, val, held, h1, hB, h2, fun e => ?_, ?_⟩, ?_⟩
    · rcases hx with ⟨a, -⟩ | ⟨a, -⟩
      · exact a
      · exact absurd e a
    · have hx1 : x'.out ≠ 1 := by
        rcases hx with ⟨a, -⟩ | ⟨-, a⟩
        · rw [a.1]; decide
        · exact a
      rcases h4 with ⟨a, b, c⟩ | ⟨a, b, c, d⟩ | ⟨a, b, c, d⟩
      · exact .inl ⟨a, b, hx1⟩
      · exact .inr (.inl ⟨a, b, c, hx1⟩)
      · omega
    · rcases hx with ⟨a, b, c⟩ | ⟨a, b⟩
      · have : rkT x' = 15 - x'.k := by unfold rkT; rw [if_pos a.1]
        show rkT x' + 1 ≤ rkT s
        omega
      · have : rkT x' = 0 := by unfold rkT; rw [if_neg a]
        show rkT x' + 1 ≤ rkT s
        have := hrk.2.2.2.2.2 h0
        omega
  · rw [hd]
    have hS : inD T B val ++ held = val T :: (inD (T + 1) B val ++ held) := by rw [inD_cons val hTB]; rfl
    refine ⟨⟨T + 1, B, bot, val, held, h1.setTop hTB, hB, ?_, fun e => ?_, ?_⟩, ?_⟩
    · rcases h2 with ⟨a, b, ho⟩ | a
      · exact .inl ⟨a, b, ho.taken h1 hTB _⟩
      · exact .inr a
    · rw [show x'.out = 1 from hx1] at e; omega
    · rw [hS] at h4
      rcases h4 with ⟨a, b, c⟩ | ⟨a, b, c, d⟩ | ⟨a, b, c, d⟩
      · injection a with a1 a2
        exact .inr (.inr ⟨a2, hx1, by show x'.v = v; rw [hx2, a1], by omega⟩)
      · cases a
      · cases a
    · have : rkT x' = 0 := by unfold rkT; rw [if_neg (by rw [hx1]; decide)]
      show rkT x' + 1 ≤ rkT s
      have := hrk.2.2.2.2.2 h0
      omega
/-- At the end just one of both has it. -/
theorem Duo.fin (h : Duo n L p s v) (hp : p.out ≠ 0) : (p.out = 1 ∧ s.out ≠ 1 ∧ p.v = v) ∨ (p.out ≠ 1 ∧ s.out = 1 ∧ s.v = v) := by
  obtain ⟨T, B, bot, val, held, h1, hB, h2, h3, h4⟩ := h.ex
  rcases h4 with ⟨a, b, c⟩ | ⟨a, b, c, d⟩ | ⟨a, b, c, d⟩
  · exact absurd b hp
  · exact .inl ⟨b, d, c⟩
  · exact .inr ⟨d, b, c⟩
theorem Duo.start {T B : Nat} {val : Nat → Int} (h : DAlone n L T B val) (hs : [v] = inD T B val) (hB : B ≤ 2004) : Duo n L popOp stealOp v := by
  refine ⟨T, B, B, val, [], ⟨h.n1, h.n64, h.len, h.top, h.bot, h.t1, h.le, h.ge, h.small, h.has⟩, ?_, .inl ⟨rfl, by show (4 : Int) < 5; omega, .pop1 _ _ _⟩, fun _ => ⟨rfl, .inl rfl⟩, .inl ⟨by rw [List.append_nil]; exact hs.symm, rfl, by show (0 : Int) ≠ 1; omega⟩⟩
  have : rkO popOp = 6 := by decide
  omega
theorem Duo.alone (h : Duo n L p s v) (hp : p.out ≠ 0) : ∃ T B val, DAlone n L T B val ∧ B ≤ 2010 ∧ [] = inD T B val := by
  have hrk := h.rk
  obtain ⟨T, B, bot, val, held, h1, hB, h2, h3, h4⟩ := h.ex
  rcases h2 with ⟨a, -⟩ | ⟨-, hb, hh⟩
  · exact absurd a hp
  subst hb
  subst hh
  refine ⟨T, bot, val, ⟨h1.n1, h1.n64, h1.len, h1.top, h1.bot_, h1.t1, h1.le, h1.ge, h1.small, h1.has⟩, by omega, ?_⟩
  rcases h4 with ⟨a, b, c⟩ | ⟨a, b, c, d⟩ | ⟨a, b, c, d⟩
  · exact absurd b hp
  · rw [List.append_nil] at a; exact a.symm
  · rw [List.append_nil] at a; exact a.symm
end
end Go.Proofs.Ytblkbfdmoanbfaa
