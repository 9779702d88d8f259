/-
  An owner and two thieves: what was pushed, popped, stolen (plain lists; no program).
-/
import Derived.Test.YtblkbfdmoanbfaaDeqC
namespace Go.Proofs.Ytblkbfdmoanbfaa
open Go.RowKit
set_option linter.unusedVariables false

structure Gang (n : Nat) (L : List Int) (o : Nat → Dop) (pu : Bool) (nx : Nat) (IN POP STO : List Int) (T B : Nat) (S : List Int) : Prop where
  ex : ∃ bot val held, DI n L T B bot val ∧ (((o 0).out = 0 ∧ Own n L T B val (o 0) bot held) ∨ ((o 0).out ≠ 0 ∧ bot = B ∧ held = [])) ∧ (∀ i, 1 ≤ i → i < 3 → (o i).out = 0 → Thf T B val (o i)) ∧ S = inD T B val ++ held
  perm : IN.Perm (POP ++ STO ++ S)
  sorted : (STO ++ S).Pairwise (· < ·)
  insorted : IN.Pairwise (· < ·)
  rng : ∀ x ∈ IN, 1 ≤ x ∧ x ≤ nx
  pend : (o 0).out = 0 → ((o 0).k ≤ 4 ↔ pu = true) ∧ ((o 0).k ≤ 4 → (o 0).v = nx ∧ 1 ≤ nx ∧ ∀ x ∈ IN, x < nx)
def inG (x : Dop) (pu : Bool) (nx : Nat) (IN : List Int) : List Int := if x.out = 1 ∧ pu = true then IN ++ [(nx : Int)] else IN
def popG (x : Dop) (pu : Bool) (POP : List Int) : List Int := if x.out = 1 ∧ pu = false then POP ++ [x.v] else POP
def stG (x : Dop) (STO : List Int) : List Int := if x.out = 1 then STO ++ [x.v] else STO
section
variable {n T B nx i : Nat} {L : List Int} {o : Nat → Dop} {pu : Bool} {IN POP STO S : List Int}
theorem Gang.beginOwn (h : Gang n L o pu nx IN POP STO T B S) (h0 : (o 0).out ≠ 0) {x : Dop} {pu' : Bool} {nx' : Nat} (hx : (x = pushOp (nx + 1 : Nat) ∧ pu' = true ∧ nx' = nx + 1) ∨ (x = popOp ∧ pu' = false ∧ nx' = nx)) :
    Gang n L (upd o 0 x) pu' nx' IN POP STO T B S := by
  obtain ⟨bot, val, held, h1, h2, h3, h4⟩ := h.ex
  rcases h2 with ⟨e, -⟩ | ⟨-, hb, hh⟩
  · exact absurd e h0
  subst hb
  subst hh
  have ht : ∀ i, 1 ≤ i → i < 3 → (upd o 0 x i).out = 0 → Thf T bot val (upd o 0 x i) := fun i a b => by
    rw [upd_ne _ _ (show i ≠ 0 by omega)]
    exact h3 i a b
  rcases hx with ⟨rfl, rfl, rfl⟩ | ⟨rfl, rfl, rfl⟩
  · refine ⟨⟨bot, val, [], h1, .inl ⟨by rw [upd_same]; rfl, by rw [upd_same]; exact .push1 _ _ _ _⟩, ht, h4⟩, h.perm, h.sorted, h.insorted, fun y hy => ?_, fun _ => ?_⟩
    · have := h.rng y hy; omega
    · rw [upd_same]
      exact ⟨by simp [pushOp], fun _ => ⟨rfl, by omega, fun y hy => by have := h.rng y hy; omega⟩⟩
  · refine ⟨⟨bot, val, [], h1, .inl ⟨by rw [upd_same]; rfl, by rw [upd_same]; exact .pop1 _ _ _⟩, ht, h4⟩, h.perm, h.sorted, h.insorted, h.rng, fun _ => ?_⟩
    rw [upd_same]
    exact ⟨by simp [popOp], fun e => absurd e (by simp [popOp])⟩
theorem Gang.beginThf (h : Gang n L o pu nx IN POP STO T B S) (hi : 1 ≤ i) (hi3 : i < 3) : Gang n L (upd o i stealOp) pu nx IN POP STO T B S := by
  obtain ⟨bot, val, held, h1, h2, h3, h4⟩ := h.ex
  have e0 : upd o i stealOp 0 = o 0 := upd_ne _ _ (by omega)
  refine ⟨⟨bot, val, held, h1, by rw [e0]; exact h2, fun j a b => ?_, h4⟩, h.perm, h.sorted, h.insorted, h.rng, by rw [e0]; exact h.pend⟩
  by_cases e : j = i
  · subst e
    rw [upd_same]
    exact fun _ => ⟨rfl, .inl rfl⟩
  · rw [upd_ne _ _ e]
    exact h3 j a b
theorem Gang.len (h : Gang n L o pu nx IN POP STO T B S) : IN.length = POP.length + STO.length + S.length := by
  have := h.perm.length_eq
  simp only [List.length_append] at this
  exact this
theorem Gang.idle_len (h : Gang n L o pu nx IN POP STO T B S) (h0 : (o 0).out ≠ 0) : S.length ≤ n := by
  obtain ⟨bot, val, held, h1, h2, h3, h4⟩ := h.ex
  rcases h2 with ⟨e, -⟩ | ⟨-, hb, hh⟩
  · exact absurd e h0
  rw [h4, hh, List.append_nil, inD_len]
  have := h1.ge
  omega
/-- An owner's step. -/
theorem Gang.own (h : Gang n L o pu nx IN POP STO T B S) (h0 : (o 0).out = 0) (hs : B + 1 ≤ 1000000) :
    ∃ T' B' S', Gang n (dstep 0 n L (o 0)).1 (upd o 0 (dstep 0 n L (o 0)).2) pu nx (inG (dstep 0 n L (o 0)).2 pu nx IN) (popG (dstep 0 n L (o 0)).2 pu POP) STO T' B' S' ∧ B' ≤ B + 1 ∧
      (((dstep 0 n L (o 0)).2.out = 0 ∧ S' = S ∧ (o 0).k < (dstep 0 n L (o 0)).2.k ∧ (dstep 0 n L (o 0)).2.k ≤ 10 ∧ ((o 0).k ≤ 4 ↔ (dstep 0 n L (o 0)).2.k ≤ 4)) ∨
       ((dstep 0 n L (o 0)).2.out ≠ 0 ∧ (pu = false → (S'.length + 1 = S.length) ∨ (S' = [] ∧ S = [])))) := by
  obtain ⟨bot, val, held, h1, h2, h3, h4⟩ := h.ex
  rcases h2 with ⟨-, ho⟩ | ⟨e, -⟩
  case inr => exact absurd h0 e
  obtain ⟨p1, p2⟩ := h.pend h0
  obtain ⟨T', B', bot', val', q1, q2, q3, q4, q5⟩ := own_step h1 ho hs
  rw [← h4] at q5
  generalize dstep 0 n L (o 0) = x at q1 q5 ⊢
  have ht : ∀ i, 1 ≤ i → i < 3 → (upd o 0 x.2 i).out = 0 → Thf T' B' val' (upd o 0 x.2 i) := fun i a b => by
    rw [upd_ne _ _ (show i ≠ 0 by omega)]
    exact fun e => q4 _ (h3 i a b e)
  rcases q5 with ⟨r0, ⟨r1, r2, r3, r4⟩, held', r5, r6⟩ | ⟨r0, r1, r2⟩
  · refine ⟨T', B', S, ⟨⟨bot', val', held', q1, .inl ⟨by rw [upd_same]; exact r0, by rw [upd_same]; exact r5⟩, ht, r6.symm⟩, ?_, h.sorted, ?_, ?_, fun _ => ?_⟩, q3, .inl ⟨r0, rfl, r1, r2, r3⟩⟩
    · unfold inG popG
      rw [if_neg (fun e => by omega), if_neg (fun e => by omega)]
      exact h.perm
    · unfold inG
      rw [if_neg (fun e => by omega)]
      exact h.insorted
    · unfold inG
      rw [if_neg (fun e => by omega)]
      exact h.rng
    · unfold inG
      rw [if_neg (fun e => by omega), upd_same]
      refine ⟨r3.symm.trans p1, fun e => ?_⟩
      rw [r4 (r3.2 e)]
      exact p2 (r3.2 e)
  · have hend : ((upd o 0 x.2) 0).out ≠ 0 := by rw [upd_same]; exact r0
    have hex : ∃ bot val held, DI n x.1 T' B' bot val ∧ (((upd o 0 x.2 0).out = 0 ∧ Own n x.1 T' B' val (upd o 0 x.2 0) bot held) ∨ ((upd o 0 x.2 0).out ≠ 0 ∧ bot = B' ∧ held = [])) ∧ (∀ i, 1 ≤ i → i < 3 → (upd o 0 x.2 i).out = 0 → Thf T' B' val (upd o 0 x.2 i)) ∧ inD T' B' val' = inD T' B' val ++ held :=
      ⟨bot', val', [], q1, .inr ⟨hend, r1, rfl⟩, ht, by simp⟩
    rcases r2 with ⟨c1, c2, c3⟩ | ⟨c1, c2, c3⟩ | ⟨c1, c2, c3⟩ | ⟨c1, c2, c3, c4⟩
    · have hpu := p1.1 c1
      obtain ⟨d1, d2, d3⟩ := p2 c1
      rw [d1] at c3
      have ei : inG x.2 pu nx IN = IN ++ [(nx : Int)] := by unfold inG; rw [if_pos ⟨c2, hpu⟩]
      have ep : popG x.2 pu POP = POP := by unfold popG; rw [if_neg (fun e => by rw [hpu] at e; cases e.2)]
      rw [ei, ep]
      refine ⟨T', B', _, ⟨hex, ?_, ?_, ?_, ?_, fun e => absurd e hend⟩, q3, .inr ⟨r0, fun e => by rw [hpu] at e; cases e⟩⟩
      · rw [c3, ← List.append_assoc]
        exact h.perm.append_right _
      · rw [c3, ← List.append_assoc, List.pairwise_append]
        refine ⟨h.sorted, List.pairwise_singleton _ _, fun a ha b hb => ?_⟩
        rw [List.mem_singleton.1 hb]
        refine d3 a (h.perm.mem_iff.2 ?_)
        rw [List.append_assoc]
        exact List.mem_append_right _ ha
      · rw [List.pairwise_append]
        refine ⟨h.insorted, List.pairwise_singleton _ _, fun a ha b hb => ?_⟩
        rw [List.mem_singleton.1 hb]
        exact d3 a ha
      · intro y hy
        rcases List.mem_append.1 hy with hy | hy
        · exact h.rng y hy
        · rw [List.mem_singleton.1 hy]; omega
    · have hpu := p1.1 c1
      have ei : inG x.2 pu nx IN = IN := by unfold inG; rw [if_neg (fun e => by omega)]
      have ep : popG x.2 pu POP = POP := by unfold popG; rw [if_neg (fun e => by omega)]
      rw [ei, ep]
      refine ⟨T', B', _, ⟨hex, ?_, ?_, h.insorted, h.rng, fun e => absurd e hend⟩, q3, .inr ⟨r0, fun e => by rw [hpu] at e; cases e⟩⟩
      · rw [c3]; exact h.perm
      · rw [c3]; exact h.sorted
    · have hpu : pu = false := by
        cases hp : pu with
        | false => rfl
        | true => have := p1.2 hp; omega
      have ei : inG x.2 pu nx IN = IN := by unfold inG; rw [if_neg (fun e => by rw [hpu] at e; cases e.2)]
      have ep : popG x.2 pu POP = POP ++ [x.2.v] := by unfold popG; rw [if_pos ⟨c2, hpu⟩]
      rw [ei, ep]
      refine ⟨T', B', _, ⟨hex, ?_, ?_, h.insorted, h.rng, fun e => absurd e hend⟩, q3, .inr ⟨r0, fun _ => .inl ?_⟩⟩
      · refine h.perm.trans ?_
        rw [c3, List.append_assoc POP STO, ← List.append_assoc STO, List.append_assoc (POP ++ [x.2.v]), List.append_assoc POP [x.2.v]]
        refine List.Perm.append_left _ ?_
        exact List.perm_append_comm
      · have := h.sorted
        rw [c3, ← List.append_assoc, List.pairwise_append] at this
        exact this.1
      · rw [c3, List.length_append]; rfl
    · have hpu : pu = false := by
        cases hp : pu with
        | false => rfl
        | true => have := p1.2 hp; omega
      have ei : inG x.2 pu nx IN = IN := by unfold inG; rw [if_neg (fun e => by omega)]
      have ep : popG x.2 pu POP = POP := by unfold popG; rw [if_neg (fun e => by omega)]
      rw [ei, ep]
      refine ⟨T', B', _, ⟨hex, ?_, ?_, h.insorted, h.rng, fun e => absurd e hend⟩, q3, .inr ⟨r0, fun _ => .inr ⟨by rw [c3, c4], c4⟩⟩⟩
      · rw [c3]; exact h.perm
      · rw [c3]; exact h.sorted
/-- A thief's step. -/
theorem Gang.thf (h : Gang n L o pu nx IN POP STO T B S) (hi : 1 ≤ i) (hi3 : i < 3) (h0 : (o i).out = 0) :
    ∃ T' S', Gang n (dstep 0 n L (o i)).1 (upd o i (dstep 0 n L (o i)).2) pu nx IN POP (stG (dstep 0 n L (o i)).2 STO) T' B S' ∧ S'.length ≤ S.length ∧
      (((dstep 0 n L (o i)).2.out = 0 ∧ (o i).k < (dstep 0 n L (o i)).2.k ∧ (dstep 0 n L (o i)).2.k ≤ 14) ∨ (dstep 0 n L (o i)).2.out ≠ 0) := by
  obtain ⟨bot, val, held, h1, h2, h3, h4⟩ := h.ex
  have hbot : bot ≤ B := by
    rcases h2 with ⟨-, ho⟩ | ⟨-, e, -⟩
    · exact ho.bot_le
    · omega
  have e0 : ∀ x, upd o i x 0 = o 0 := fun x => upd_ne _ _ (by omega)
  rcases thf_step h1 hbot (h3 i hi hi3 h0) with ⟨x', hd, hx⟩ | ⟨x', hd, hx1, hx2, hTB⟩
  · rw [hd]
    have hst : stG x' STO = STO := by
      unfold stG
      rcases hx with ⟨a, -⟩ | ⟨-, a⟩
      · rw [if_neg (by rw [a.1]; decide)]
      · rw [if_neg a]
    rw [hst]
    refine ⟨T, S, ⟨⟨bot, val, held, h1, by rw [e0]; exact h2, fun j a b => ?_, h4⟩, h.perm, h.sorted, h.insorted, h.rng, by rw [e0]; exact h.pend⟩, Nat.le_refl _, ?_⟩
    · by_cases e : j = i
      · subst e
        rw [upd_same]
        intro e2
        rcases hx with ⟨a, -⟩ | ⟨a, -⟩
        · exact a
        · exact absurd e2 a
      · rw [upd_ne _ _ e]
        exact h3 j a b
    · rcases hx with ⟨a, b, c⟩ | ⟨a, -⟩
      · exact .inl ⟨a.1, b, c⟩
      · exact .inr a
  · rw [hd]
    have hst : stG x' STO = STO ++ [x'.v] := by unfold stG; rw [if_pos hx1]
    rw [hst, hx2]
    have hS : S = val T :: (inD (T + 1) B val ++ held) := by rw [h4, inD_cons val hTB]; rfl
    refine ⟨T + 1, inD (T + 1) B val ++ held, ⟨⟨bot, val, held, h1.setTop hTB, ?_, fun j a b => ?_, rfl⟩, ?_, ?_, h.insorted, h.rng, by rw [e0]; exact h.pend⟩, by rw [hS]; simp, .inr (by rw [hx1]; decide)⟩
    · rw [e0]
      rcases h2 with ⟨a, ho⟩ | a
      · exact .inl ⟨a, ho.taken h1 hTB _⟩
      · exact .inr a
    · by_cases e : j = i
      · subst e
        rw [upd_same, hx1]
        intro e2
        omega
      · rw [upd_ne _ _ e]
        exact fun e2 => (h3 j a b e2).up (by omega)
    · refine h.perm.trans ?_
      rw [hS, ← List.append_assoc POP STO, List.append_assoc (POP ++ STO) [val T]]
      exact List.Perm.refl _
    · have := h.sorted
      rw [hS] at this
      rw [List.append_assoc]
      exact this
end
end Go.Proofs.Ytblkbfdmoanbfaa
