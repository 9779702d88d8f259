/-
  VigilMeets, the plain law: who watches, looks, and claims; and who marks its end and claims.
-/
import Derived.Test.YtafnlmkhfonghaaAlive19
namespace Go.Proofs.Ytafnlmkhfonghaa
open Go.RowKit
set_option linter.unusedVariables false

/-- What is left to do of each. -/
def v1 (W C : Vop) (looked saw : Bool) : Nat := (if W.out ≠ 0 then 0 else if W.k = 0 then 2 else 1) + (if looked then 0 else 1) + (if C.out ≠ 0 ∨ (looked = true ∧ saw = false) then 0 else 1)
def v2 (E : Vop) (marked : Bool) : Nat := (if marked then 0 else 1) + (if E.out ≠ 0 then 0 else 1)
structure VMeets (sz c : Nat) (L : List Int) (W C E : Vop) (looked saw marked : Bool) : Prop where
  lenL : L.length = sz + 1
  hc : c < sz
  flag : at_ L (sz : Int) = if marked then 1 else 0
  own : at_ L (c : Int) = if W.out = 0 then 0 else if C.out = 1 ∨ E.out = 1 then 2 else 1
  w : W = ⟨0, c, 0, 0⟩ ∨ W = ⟨1, c, 0, 0⟩ ∨ W = ⟨0, c, 0, 1⟩
  c_ : C = ⟨4, c, 0, 0⟩ ∨ (C = ⟨4, c, 0, 1⟩ ∧ saw = true ∧ E.out ≠ 1) ∨ (C = ⟨4, c, 0, 4⟩ ∧ saw = true ∧ E.out = 1)
  e_ : E = ⟨4, c, 0, 0⟩ ∨ (E = ⟨4, c, 0, 1⟩ ∧ marked = true ∧ W.out = 1 ∧ C.out ≠ 1) ∨ (E = ⟨4, c, 0, 4⟩ ∧ marked = true ∧ (looked = true → saw = true))
  lk : looked = true → W.out = 1
  sl : saw = true → looked = true
section
variable {sz c : Nat} {L : List Int} {W C E : Vop} {looked saw marked : Bool}
theorem vmeets_start (hc : c < sz) : VMeets sz c (List.replicate (sz + 1) 0) ⟨0, c, 0, 0⟩ ⟨4, c, 0, 0⟩ ⟨4, c, 0, 0⟩ false false false := by
  have hz : ∀ i : Nat, at_ (List.replicate (sz + 1) 0) (i : Int) = 0 := by
    intro i
    unfold at_
    simp only [List.getD, Int.toNat_natCast, List.getElem?_replicate]
    split <;> rfl
  exact ⟨by simp, hc, by rw [hz]; rfl, by rw [hz]; rfl, .inl rfl, .inl rfl, .inl rfl, (by intro h; cases h), (by intro h; cases h)⟩
theorem VMeets.okW (h : VMeets sz c L W C E looked saw marked) : VopOk L.length W := by
  have hl := h.lenL
  have hc := h.hc
  rcases h.w with rfl | rfl | rfl <;> exact ⟨by simp, fun _ => by simp, fun _ => by simp; omega⟩
theorem VMeets.okC (h : VMeets sz c L W C E looked saw marked) : VopOk L.length C := by
  have hl := h.lenL
  have hc := h.hc
  rcases h.c_ with rfl | ⟨rfl, _⟩ | ⟨rfl, _⟩ <;> exact ⟨by simp, fun _ => by simp, fun _ => by simp; omega⟩
theorem VMeets.okE (h : VMeets sz c L W C E looked saw marked) : VopOk L.length E := by
  have hl := h.lenL
  have hc := h.hc
  rcases h.e_ with rfl | ⟨rfl, _⟩ | ⟨rfl, _⟩ <;> exact ⟨by simp, fun _ => by simp, fun _ => by simp; omega⟩
theorem VMeets.nolook (h : VMeets sz c L W C E looked saw marked) (hw : W.out = 0) : looked = false ∧ saw = false ∧ C = ⟨4, c, 0, 0⟩ ∧ E.out ≠ 1 := by
  have h1 : looked = false := by
    cases looked with
    | false => rfl
    | true => have := h.lk rfl; omega
  have h2 : saw = false := by
    cases saw with
    | false => rfl
    | true => have := h.sl rfl; rw [h1] at this; cases this
  refine ⟨h1, h2, ?_, ?_⟩
  · rcases h.c_ with e | ⟨_, e, _⟩ | ⟨_, e, _⟩
    · exact e
    · rw [h2] at e; cases e
    · rw [h2] at e; cases e
  · rcases h.e_ with e | ⟨_, _, e, _⟩ | ⟨e, _⟩
    · rw [e]; simp
    · omega
    · rw [e]; simp
theorem VMeets.watch (h : VMeets sz c L W C E looked saw marked) (hw : W.out = 0) :
    VMeets sz c (vstep L W).1 (vstep L W).2 C E looked saw marked ∧ v1 (vstep L W).2 C looked saw + 1 ≤ v1 W C looked saw := by
  have hl := h.lenL
  have hc := h.hc
  obtain ⟨rfl, rfl, hC, hE⟩ := h.nolook hw
  subst hC
  have hown := h.own
  rw [if_pos hw] at hown
  rcases h.w with rfl | rfl | rfl
  · have e : vstep L ⟨0, c, 0, 0⟩ = (L, ⟨1, c, 0, 0⟩) := by simp [vstep, hown]
    rw [e]
    refine ⟨⟨hl, hc, h.flag, by simpa using hown, .inr (.inl rfl), .inl rfl, ?_, (by intro h; cases h), (by intro h; cases h)⟩, by simp [v1]⟩
    rcases h.e_ with e | ⟨_, _, e, _⟩ | ⟨e, h2⟩
    · exact .inl e
    · cases e
    · exact .inr (.inr ⟨e, h2⟩)
  · have e : vstep L ⟨1, c, 0, 0⟩ = (L.set c 1, ⟨0, c, 0, 1⟩) := by simp [vstep, hown]
    rw [e]
    refine ⟨⟨by simpa using hl, hc, ?_, ?_, .inr (.inr rfl), .inl rfl, ?_, (by intro h; cases h), (by intro h; cases h)⟩, by simp [v1]⟩
    · rw [at_set _ _ _ _ (by omega), if_neg (by omega)]; exact h.flag
    · rw [at_set _ _ _ _ (by omega), if_pos rfl, if_neg (by simp), if_neg (by simp; exact hE)]
    · rcases h.e_ with e | ⟨_, _, e, _⟩ | ⟨e, h2⟩
      · exact .inl e
      · cases e
      · exact .inr (.inr ⟨e, h2⟩)
  · cases hw
theorem VMeets.look (h : VMeets sz c L W C E false saw marked) (hw : W.out ≠ 0) :
    VMeets sz c L W C E true (at_ L (sz : Int) == 1) marked ∧ v1 W C true (at_ L (sz : Int) == 1) + 1 ≤ v1 W C false saw := by
  have hw1 : W.out = 1 := by
    rcases h.w with rfl | rfl | rfl
    · exact absurd rfl hw
    · exact absurd rfl hw
    · rfl
  have hs : saw = false := by
    cases saw with
    | false => rfl
    | true => have := h.sl rfl; cases this
  subst hs
  have hC : C = ⟨4, c, 0, 0⟩ := by
    rcases h.c_ with e | ⟨_, e, _⟩ | ⟨_, e, _⟩
    · exact e
    · cases e
    · cases e
  subst hC
  refine ⟨⟨h.lenL, h.hc, h.flag, h.own, h.w, .inl rfl, ?_, fun _ => hw1, fun _ => rfl⟩, ?_⟩
  · rcases h.e_ with e | ⟨e, h2, h3⟩ | ⟨e, h2, _⟩
    · exact .inl e
    · exact .inr (.inl ⟨e, h2, h3⟩)
    · refine .inr (.inr ⟨e, h2, fun _ => ?_⟩)
      rw [h.flag, h2]; rfl
  · simp only [v1, hw1]
    simp
    split <;> omega
theorem VMeets.claim (h : VMeets sz c L W C E true true marked) :
    VMeets sz c (vstep L C).1 W (vstep L C).2 E true true marked ∧ (v1 W (vstep L C).2 true true + 1 ≤ v1 W C true true ∨ v1 W (vstep L C).2 true true = 0) := by
  have hl := h.lenL
  have hc := h.hc
  have hw1 := h.lk rfl
  rcases h.c_ with rfl | ⟨rfl, h1, h2⟩ | ⟨rfl, h1, h2⟩
  · by_cases hE : E.out = 1
    · have hown : at_ L (c : Int) = 2 := by rw [h.own, if_neg (by rw [hw1]; decide), if_pos (.inr hE)]
      have e : vstep L ⟨4, c, 0, 0⟩ = (L, ⟨4, c, 0, 4⟩) := by simp [vstep, hown]
      rw [e]
      refine ⟨⟨hl, hc, h.flag, ?_, h.w, .inr (.inr ⟨rfl, rfl, hE⟩), ?_, h.lk, h.sl⟩, .inr (by simp [v1, hw1])⟩
      · rw [hown, if_neg (by rw [hw1]; decide), if_pos (.inr hE)]
      · rcases h.e_ with e | ⟨e, h2, h3, h4⟩ | ⟨e, h2⟩
        · exact .inl e
        · exact .inr (.inl ⟨e, h2, h3, by simp⟩)
        · exact .inr (.inr ⟨e, h2⟩)
    · have hown : at_ L (c : Int) = 1 := by rw [h.own, if_neg (by rw [hw1]; decide), if_neg (by simp; exact hE)]
      have e : vstep L ⟨4, c, 0, 0⟩ = (L.set c 2, ⟨4, c, 0, 1⟩) := by simp [vstep, hown]
      rw [e]
      refine ⟨⟨by simpa using hl, hc, ?_, ?_, h.w, .inr (.inl ⟨rfl, rfl, hE⟩), ?_, h.lk, h.sl⟩, .inr (by simp [v1, hw1])⟩
      · rw [at_set _ _ _ _ (by omega), if_neg (by omega)]; exact h.flag
      · rw [at_set _ _ _ _ (by omega), if_pos rfl, if_neg (by rw [hw1]; decide), if_pos (.inl rfl)]
      · rcases h.e_ with e | ⟨e, h2, h3, h4⟩ | ⟨e, h2⟩
        · exact .inl e
        · rw [e] at hE; exact absurd rfl hE
        · exact .inr (.inr ⟨e, h2⟩)
  · have e : vstep L ⟨4, c, 0, 1⟩ = (L, ⟨4, c, 0, 1⟩) := by simp [vstep]
    rw [e]
    exact ⟨h, .inr (by simp [v1, hw1])⟩
  · have e : vstep L ⟨4, c, 0, 4⟩ = (L, ⟨4, c, 0, 4⟩) := by simp [vstep]
    rw [e]
    exact ⟨h, .inr (by simp [v1, hw1])⟩
theorem VMeets.mark (h : VMeets sz c L W C E looked saw false) : VMeets sz c (L.set sz 1) W C E looked saw true ∧ v2 E true + 1 ≤ v2 E false := by
  have hl := h.lenL
  have hc := h.hc
  refine ⟨⟨by simpa using hl, hc, ?_, ?_, h.w, h.c_, ?_, h.lk, h.sl⟩, by simp [v2]; omega⟩
  · rw [at_set _ _ _ _ (by omega), if_pos rfl]; rfl
  · rw [at_set _ _ _ _ (by omega), if_neg (by omega)]; exact h.own
  · rcases h.e_ with e | ⟨_, e, _⟩ | ⟨_, e, _⟩
    · exact .inl e
    · cases e
    · cases e
theorem VMeets.end_ (h : VMeets sz c L W C E looked saw true) :
    VMeets sz c (vstep L E).1 W C (vstep L E).2 looked saw true ∧ (v2 (vstep L E).2 true = 0) := by
  have hl := h.lenL
  have hc := h.hc
  rcases h.e_ with rfl | ⟨rfl, h1, h2⟩ | ⟨rfl, h1, h2⟩
  · have hC4 : C.out = 0 ∨ C.out = 1 := by
      rcases h.c_ with rfl | ⟨rfl, _, _⟩ | ⟨rfl, _, h3⟩
      · exact .inl rfl
      · exact .inr rfl
      · cases h3
    by_cases hv : at_ L (c : Int) = 1
    · have hw0 : W.out ≠ 0 := by
        intro e
        rw [h.own, if_pos e] at hv
        cases hv
      have hw1 : W.out = 1 := by
        rcases h.w with rfl | rfl | rfl
        · exact absurd rfl hw0
        · exact absurd rfl hw0
        · rfl
      have hC : C.out ≠ 1 := by
        intro e
        rw [h.own, if_neg hw0, if_pos (.inl e)] at hv
        cases hv
      have e : vstep L ⟨4, c, 0, 0⟩ = (L.set c 2, ⟨4, c, 0, 1⟩) := by simp [vstep, hv]
      rw [e]
      refine ⟨⟨by simpa using hl, hc, ?_, ?_, h.w, ?_, .inr (.inl ⟨rfl, rfl, hw1, hC⟩), h.lk, h.sl⟩, by simp [v2]⟩
      · rw [at_set _ _ _ _ (by omega), if_neg (by omega)]; exact h.flag
      · rw [at_set _ _ _ _ (by omega), if_pos rfl, if_neg hw0, if_pos (.inr rfl)]
      · rcases h.c_ with e | ⟨e, _, _⟩ | ⟨e, _, h3⟩
        · exact .inl e
        · rw [e] at hC; exact absurd rfl hC
        · cases h3
    · have e : vstep L ⟨4, c, 0, 0⟩ = (L, ⟨4, c, 0, 4⟩) := by simp [vstep, hv]
      rw [e]
      refine ⟨⟨hl, hc, h.flag, ?_, h.w, ?_, .inr (.inr ⟨rfl, rfl, fun hlk => ?_⟩), h.lk, h.sl⟩, by simp [v2]⟩
      · have := h.own
        simpa using this
      · rcases h.c_ with e | ⟨e, h3, _⟩ | ⟨e, _, h3⟩
        · exact .inl e
        · exact .inr (.inl ⟨e, h3, by simp⟩)
        · cases h3
      · have hw1 := h.lk hlk
        cases hs : saw with
        | true => rfl
        | false =>
          rcases h.c_ with e | ⟨e, h3, _⟩ | ⟨e, h3, _⟩
          · rw [h.own, if_neg (by rw [hw1]; decide), if_neg (by rw [e]; simp)] at hv
            exact absurd rfl hv
          · rw [hs] at h3; cases h3
          · rw [hs] at h3; cases h3
  · have e : vstep L ⟨4, c, 0, 1⟩ = (L, ⟨4, c, 0, 1⟩) := by simp [vstep]
    rw [e]
    exact ⟨h, by simp [v2]⟩
  · have e : vstep L ⟨4, c, 0, 4⟩ = (L, ⟨4, c, 0, 4⟩) := by simp [vstep]
    rw [e]
    exact ⟨h, by simp [v2]⟩
/-- When all are through. -/
theorem VMeets.fin (h : VMeets sz c L W C E looked saw marked) (h1 : v1 W C looked saw = 0) (h2 : v2 E marked = 0) :
    looked = true ∧ W.out = 1 ∧ marked = true ∧ ((saw = false ∧ E = ⟨4, c, 0, 1⟩) ∨ (saw = true ∧ C = ⟨4, c, 0, 1⟩ ∧ E = ⟨4, c, 0, 4⟩) ∨ (saw = true ∧ C = ⟨4, c, 0, 4⟩ ∧ E = ⟨4, c, 0, 1⟩)) := by
  have hm : marked = true := by
    cases marked with
    | true => rfl
    | false => simp [v2] at h2
  subst hm
  have hk : looked = true := by
    cases looked with
    | true => rfl
    | false => simp [v1] at h1
  subst hk
  refine ⟨rfl, h.lk rfl, rfl, ?_⟩
  have hE : E.out ≠ 0 := by
    intro e
    simp [v2, e] at h2
  cases saw with
  | false =>
    left
    refine ⟨rfl, ?_⟩
    rcases h.e_ with rfl | ⟨e, _⟩ | ⟨_, _, e⟩
    · exact absurd rfl hE
    · exact e
    · have := e rfl; cases this
  | true =>
    right
    have hC : C.out ≠ 0 := by
      intro e
      simp [v1, e] at h1
    rcases h.c_ with rfl | ⟨e, _, h3⟩ | ⟨e, _, h3⟩
    · exact absurd rfl hC
    · left
      refine ⟨rfl, e, ?_⟩
      rcases h.e_ with rfl | ⟨e, _⟩ | ⟨e, _⟩
      · exact absurd rfl hE
      · rw [e] at h3; exact absurd rfl h3
      · exact e
    · right
      refine ⟨rfl, e, ?_⟩
      rcases h.e_ with rfl | ⟨e, _⟩ | ⟨e, _⟩
      · exact absurd rfl hE
      · exact e
      · rw [e] at h3; cases h3
end
end Go.Proofs.Ytafnlmkhfonghaa
