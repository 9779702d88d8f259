/-
  The document's crew: what each part leaves of a log (plain lists; no program).
-/
import Derived.Test.YtdoaipjdldknaaaGreatKRepl
namespace Go.Proofs.YtdoaipjdldknaaaGreat
open Go.RowKit
set_option linter.unusedVariables false
section
variable {F : CLay} {l : List Int}
/-- In, or still to be put. -/
def InSt (F : CLay) (V : Int) (fin : Bool) : CSt := if fin = true then .ring ringB else .put V (putOp F.gb V)
theorem aftIn_eq (V out : Int) (h : out = 1 ∨ out = 2) : aftIn F V out = InSt F V (out == 1) := by
  rcases h with rfl | rfl <;> rfl
theorem pask_value {p : PSt} (h : p.out = 1) : (∀ i o, p = .d i o → (pask F p).value = dvalue o.v 1) ∧ (∀ o, p = .g o → (pask F p).value = gvalue o.ahead o.v 1) := by
  refine ⟨fun i o e => ?_, fun o e => ?_⟩
  · subst e
    have h' : o.out = 1 := h
    show (daskOf (F.db i) F.slots o).value = _
    unfold daskOf; rw [if_pos (by omega), h']; rfl
  · subst e
    have h' : o.out = 1 := h
    show (askOf F.gb F.actors o).value = _
    unfold askOf; rw [if_pos (by omega), h']; rfl
theorem push_l {i : Nat} {V : Int} (hc : CProper F (.push i V (pushOp V)) l) {p : PSt} {n : Nat} (hp : (prun F (.d i (pushOp V)) l).1 = p) (hn : (prun F (.d i (pushOp V)) l).2 = n) :
    (p.out = 0 ∧ cask F (l.foldl (cans F) (.push i V (pushOp V))) = pask F p) ∨
    (p.out ≠ 0 ∧ (p.out = 1 ∨ p.out = 2) ∧ 1 ≤ n ∧ l.foldl (cans F) (.push i V (pushOp V)) = (l.drop n).foldl (cans F) (InSt F V (p.out == 1)) ∧ CProper F (InSt F V (p.out == 1)) (l.drop n)) := by
  obtain ⟨hk, h⟩ := (phase_push F i V).fold l (.d i (pushOp V)) ⟨_, rfl, by simp [pushOp], by simp [pushOp]⟩ rfl hc
  rw [show (PSt.d i (pushOp V)).dop = pushOp V from rfl, hp, hn] at h
  rw [hp] at hk
  obtain ⟨o, rfl, hk1, ho⟩ := hk
  rcases h with ⟨h0, h1⟩ | ⟨h0, h1, h2, h3⟩
  · exact .inl ⟨h0, by rw [h1]; rfl⟩
  · have h12 : (PSt.d i o).out = 1 ∨ (PSt.d i o).out = 2 := by
      rcases ho with ho | ho | ho
      · exact absurd ho h0
      · exact .inl ho
      · exact .inr ho
    rw [aftIn_eq V _ h12] at h2 h3
    exact .inr ⟨h0, h12, h1, h2, h3⟩
theorem put_l {V : Int} (hc : CProper F (.put V (putOp F.gb V)) l) {p : PSt} {n : Nat} (hp : (prun F (.g (putOp F.gb V)) l).1 = p) (hn : (prun F (.g (putOp F.gb V)) l).2 = n) :
    (p.out = 0 ∧ cask F (l.foldl (cans F) (.put V (putOp F.gb V))) = pask F p) ∨
    (p.out ≠ 0 ∧ (p.out = 1 ∨ p.out = 2) ∧ 1 ≤ n ∧ l.foldl (cans F) (.put V (putOp F.gb V)) = (l.drop n).foldl (cans F) (InSt F V (p.out == 1)) ∧ CProper F (InSt F V (p.out == 1)) (l.drop n)) := by
  obtain ⟨hk, h⟩ := (phase_put F V).fold l (.g (putOp F.gb V)) ⟨_, rfl, rfl, by simp [putOp]⟩ rfl hc
  rw [show (PSt.g (putOp F.gb V)).gop = putOp F.gb V from rfl, hp, hn] at h
  rw [hp] at hk
  obtain ⟨o, rfl, hk1, ho⟩ := hk
  rcases h with ⟨h0, h1⟩ | ⟨h0, h1, h2, h3⟩
  · exact .inl ⟨h0, by rw [h1]; rfl⟩
  · have h12 : (PSt.g o).out = 1 ∨ (PSt.g o).out = 2 := by
      rcases ho with ho | ho | ho
      · exact absurd ho h0
      · exact .inl ho
      · exact .inr ho
    rw [aftIn_eq V _ h12] at h2 h3
    exact .inr ⟨h0, h12, h1, h2, h3⟩
theorem ring_l (hc : CProper F (.ring ringB) l) {p : PSt} (hp : (prun F (.b ringB) l).1 = p) :
    (p.out = 0 ∧ cask F (l.foldl (cans F) (.ring ringB)) = pask F p) ∨ (p.out ≠ 0 ∧ l.foldl (cans F) (.ring ringB) = .over 1 0) := by
  obtain ⟨hk, h⟩ := (phase_ring F).fold l (.b ringB) ⟨_, rfl⟩ rfl hc
  rw [show (PSt.b ringB).bop = ringB from rfl, hp] at h
  rw [hp] at hk
  obtain ⟨o, rfl⟩ := hk
  rcases h with ⟨h0, h1⟩ | ⟨h0, h1, h2, h3⟩
  · exact .inl ⟨h0, by rw [h1]; rfl⟩
  · refine .inr ⟨h0, ?_⟩
    rw [h2, h3.over (by show (1 : Int) ≠ 0; decide)]; rfl
/-- The part that a source is. -/
def Src.part (F : CLay) : Src → PSt
  | .pop i => .d i popOp
  | .take => .g (takeOp F.gb)
  | .steal v => .d v stealOp
theorem src_l {s : Src} {rest : List Src} (hc : CProper F (.src (s.begin_ F) rest) l) {p : PSt} {n : Nat} (hp : (prun F (s.part F) l).1 = p) (hn : (prun F (s.part F) l).2 = n) :
    (p.out = 0 ∧ cask F (l.foldl (cans F) (.src (s.begin_ F) rest)) = pask F p) ∨
    (p.out = 1 ∧ l.foldl (cans F) (.src (s.begin_ F) rest) = .over 1 (pask F p).value) ∨
    (p.out ≠ 0 ∧ p.out ≠ 1 ∧ 1 ≤ n ∧ l.foldl (cans F) (.src (s.begin_ F) rest) = (l.drop n).foldl (cans F) (ctry F rest) ∧ CProper F (ctry F rest) (l.drop n)) := by
  have dq : ∀ (i : Nat) (o0 : Dop), o0.out = 0 → CProper F (.src (.dq i o0) rest) l → (prun F (.d i o0) l).1 = p → (prun F (.d i o0) l).2 = n →
      (p.out = 0 ∧ cask F (l.foldl (cans F) (.src (.dq i o0) rest)) = pask F p) ∨ (p.out = 1 ∧ l.foldl (cans F) (.src (.dq i o0) rest) = .over 1 (pask F p).value) ∨
      (p.out ≠ 0 ∧ p.out ≠ 1 ∧ 1 ≤ n ∧ l.foldl (cans F) (.src (.dq i o0) rest) = (l.drop n).foldl (cans F) (ctry F rest) ∧ CProper F (ctry F rest) (l.drop n)) := by
    intro i o0 h00 hc hp hn
    obtain ⟨hk, h⟩ := (phase_srcd F i rest).fold l (.d i o0) ⟨_, rfl⟩ h00 hc
    rw [show (PSt.d i o0).dop = o0 from rfl, hp, hn] at h
    rw [hp] at hk
    obtain ⟨o, rfl⟩ := hk
    rcases h with ⟨h0, h1⟩ | ⟨h0, h1, h2, h3⟩
    · exact .inl ⟨h0, by rw [h1]; rfl⟩
    · by_cases h4 : (PSt.d i o).out = 1
      · refine .inr (.inl ⟨h4, ?_⟩)
        unfold aftSrc at h2 h3
        rw [if_pos h4] at h2 h3
        rw [h2, h3.over (by show (1 : Int) ≠ 0; decide), (pask_value h4).1 i o rfl, h4]; rfl
      · unfold aftSrc at h2 h3
        rw [if_neg h4] at h2 h3
        exact .inr (.inr ⟨h0, h4, h1, h2, h3⟩)
  cases s with
  | pop i => exact dq i popOp rfl hc hp hn
  | steal i => exact dq i stealOp rfl hc hp hn
  | take =>
    obtain ⟨hk, h⟩ := (phase_srcg F rest).fold l (.g (takeOp F.gb)) ⟨_, rfl⟩ rfl hc
    rw [show (PSt.g (takeOp F.gb)).gop = takeOp F.gb from rfl] at h
    have hp' : (prun F (.g (takeOp F.gb)) l).1 = p := hp
    have hn' : (prun F (.g (takeOp F.gb)) l).2 = n := hn
    rw [hp', hn'] at h
    rw [hp'] at hk
    obtain ⟨o, rfl⟩ := hk
    rcases h with ⟨h0, h1⟩ | ⟨h0, h1, h2, h3⟩
    · exact .inl ⟨h0, by rw [show (Src.take).begin_ F = .gt (takeOp F.gb) from rfl, h1]; rfl⟩
    · by_cases h4 : (PSt.g o).out = 1
      · refine .inr (.inl ⟨h4, ?_⟩)
        unfold aftSrc at h2 h3
        rw [if_pos h4] at h2 h3
        rw [show (Src.take).begin_ F = .gt (takeOp F.gb) from rfl, h2, h3.over (by show (1 : Int) ≠ 0; decide), (pask_value h4).2 o rfl, h4]; rfl
      · unfold aftSrc at h2 h3
        rw [if_neg h4] at h2 h3
        exact .inr (.inr ⟨h0, h4, h1, h2, h3⟩)
theorem poll_l {i : Nat} (hc : CProper F (.poll ⟨2, i, 0⟩) l) {p : PSt} (hp : (prun F (.b ⟨2, i, 0⟩) l).1 = p) : cask F (l.foldl (cans F) (.poll ⟨2, i, 0⟩)) = pask F p := by
  obtain ⟨hk, h⟩ := (phase_poll F).fold l (.b ⟨2, i, 0⟩) ⟨_, rfl, rfl, .inl rfl⟩ rfl hc
  rw [show (PSt.b ⟨2, i, 0⟩).bop = ⟨2, i, 0⟩ from rfl, hp] at h
  rw [hp] at hk
  obtain ⟨o, rfl, hk2, ho⟩ := hk
  rcases h with ⟨h0, h1⟩ | ⟨h0, h1, h2, h3⟩
  · rw [h1]; rfl
  · have h0' : o.out ≠ 0 := h0
    rw [h2, h3.over h0]
    show wOver o.out 0 = baskOf F.base o
    unfold baskOf
    rw [if_pos h0', if_neg (by omega)]
end
end Go.Proofs.YtdoaipjdldknaaaGreat
