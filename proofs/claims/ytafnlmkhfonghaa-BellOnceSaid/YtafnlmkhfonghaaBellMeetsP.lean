/-
  BellMeets, the plain law: who lies down and then looks, and who brings and then rings. No program in sight but the step's function.
-/
import Derived.Test.YtafnlmkhfonghaaBellM
namespace Go.Proofs.Ytafnlmkhfonghaa
open Go.RowKit
set_option linter.unusedVariables false

theorem bstep_sleep0 (n w : Nat) (L : List Int) : bstep 0 n L ⟨0, w, 0⟩ = (L.set w 1, ⟨0, w, 1⟩) := by
  have e : (0 + (w : Int)).toNat = w := by omega
  simp only [bstep, e]
  simp
theorem bstep_look_yes {n q : Nat} {L : List Int} (h : at_ L (q : Int) = 1) : bstep 0 n L ⟨3, q, 0⟩ = (L, ⟨4, q, 0⟩) := by
  have e : (0 + (q : Int)) = (q : Int) := by omega
  simp [bstep, h]
theorem bstep_look_no {n q : Nat} {L : List Int} (h : at_ L (q : Int) ≠ 1) : bstep 0 n L ⟨3, q, 0⟩ = (L, ⟨3, ((q + 1 : Nat) : Int), onOut n ((q + 1 : Nat) : Int)⟩) := by
  have e : (0 + (q : Int)) = (q : Int) := by omega
  simp [bstep, h]
theorem bstep_rouse_yes {n q : Nat} {L : List Int} (h : at_ L (q : Int) = 1) : bstep 0 n L ⟨4, q, 0⟩ = (L.set q 0, ⟨4, q, 7⟩) := by
  have e : (0 + (q : Int)) = (q : Int) := by omega
  have e2 : ((q : Int)).toNat = q := by omega
  simp [bstep, h]
theorem bstep_rouse_no {n q : Nat} {L : List Int} (h : at_ L (q : Int) ≠ 1) : bstep 0 n L ⟨4, q, 0⟩ = (L, ⟨3, ((q + 1 : Nat) : Int), onOut n ((q + 1 : Nat) : Int)⟩) := by
  have e : (0 + (q : Int)) = (q : Int) := by omega
  simp [bstep, h]
theorem onOut_end {n q : Nat} (h : q = n) : onOut (n : Int) (q : Int) = 4 := by unfold onOut; rw [if_pos (by omega)]
theorem onOut_more {n q : Nat} (h : q ≠ n) : onOut (n : Int) (q : Int) = 0 := by unfold onOut; rw [if_neg (by omega)]

/-- What is left to do of each. -/
def m1 (S : Bop) (looked : Bool) : Nat := if S.out = 0 then 2 else if looked then 0 else 1
def m2 (n : Nat) (R : Bop) (brought : Bool) : Nat := if brought = false then 1 + 2 * n else if R.out ≠ 0 then 0 else 2 * (n - R.who.toNat) - (if R.k = 4 then 1 else 0)
structure Meets (n w : Nat) (L : List Int) (S R : Bop) (looked saw brought : Bool) : Prop where
  lenL : L.length = n + 1
  hw : w < n
  flag : at_ L (n : Int) = if brought then 1 else 0
  others : ∀ i : Nat, i < n → i ≠ w → at_ L (i : Int) = 0
  own : at_ L (w : Int) = if S.out ≠ 0 ∧ R.out ≠ 7 then 1 else 0
  s : S = ⟨0, w, 0⟩ ∨ S = ⟨0, w, 1⟩
  r : (∃ q : Nat, q < n ∧ R = ⟨3, q, 0⟩) ∨ (R = ⟨4, w, 0⟩ ∧ S.out ≠ 0) ∨ R = ⟨3, n, 4⟩ ∨ (R = ⟨4, w, 7⟩ ∧ S.out ≠ 0)
  nb : brought = false → R = ⟨3, 0, 0⟩
  lk : looked = true → S.out ≠ 0
  sl : saw = true → looked = true
  miss : looked = true → saw = false → R.out = 7 ∨ (R.out = 0 ∧ R.who ≤ w)
section
variable {n w : Nat} {L : List Int} {S R : Bop} {looked saw brought : Bool}
theorem meets_start (hw : w < n) (hl : L.length = n + 1) (hz : ∀ i : Nat, at_ L (i : Int) = 0) : Meets n w L ⟨0, w, 0⟩ ⟨3, 0, 0⟩ false false false :=
  ⟨hl, hw, by simpa using hz n, fun i _ _ => hz i, by simpa using hz w, .inl rfl, .inl ⟨0, by omega, rfl⟩, fun _ => rfl, (by intro h; cases h), (by intro h; cases h), (by intro h; cases h)⟩
theorem Meets.okS (h : Meets n w L S R looked saw brought) : BopOk n S := by
  have hw := h.hw
  rcases h.s with rfl | rfl
  · exact ⟨by simp, fun _ => by simp, fun _ => by simp; omega⟩
  · exact ⟨by simp, fun _ => by simp, fun _ => by simp; omega⟩
theorem Meets.okR (h : Meets n w L S R looked saw brought) : BopOk n R := by
  have hw := h.hw
  rcases h.r with ⟨q, hq, rfl⟩ | ⟨rfl, hx⟩ | rfl | ⟨rfl, hx⟩
  · exact ⟨by simp, fun _ => by simp, fun _ => by simp; omega⟩
  · exact ⟨by simp, fun _ => by simp, fun _ => by simp; omega⟩
  · exact ⟨by simp, fun h => by simp at h, fun h => by simp at h⟩
  · exact ⟨by simp, fun h => by simp at h, fun h => by simp at h⟩
theorem Meets.sleep (h : Meets n w L S R looked saw brought) (hs : S.out = 0) :
    Meets n w (bstep 0 n L S).1 (bstep 0 n L S).2 R looked saw brought ∧ m1 (bstep 0 n L S).2 looked + 1 ≤ m1 S looked := by
  have hl := h.lenL
  have hw := h.hw
  rcases h.s with rfl | rfl
  · rw [bstep_sleep0]
    have hlk : looked = false := by
      cases looked with
      | false => rfl
      | true => exact absurd rfl (h.lk rfl)
    subst hlk
    have hr7 : R.out ≠ 7 := by
      rcases h.r with ⟨q, _, rfl⟩ | ⟨rfl, hx⟩ | rfl | ⟨rfl, hx⟩
      · simp
      · simp
      · simp
      · exact absurd rfl hx
    refine ⟨⟨by simpa using hl, hw, ?_, fun i hi hne => ?_, ?_, .inr rfl, ?_, h.nb, (by intro h; cases h), h.sl, (by intro h; cases h)⟩, by simp [m1]⟩
    · rw [at_set _ _ _ _ (by omega), if_neg (by omega)]; exact h.flag
    · rw [at_set _ _ _ _ (by omega), if_neg hne]; exact h.others i hi hne
    · rw [at_set _ _ _ _ (by omega), if_pos rfl, if_pos ⟨by simp, hr7⟩]
    · rcases h.r with ⟨q, hq, e⟩ | ⟨e, hx⟩ | e | ⟨e, hx⟩
      · exact .inl ⟨q, hq, e⟩
      · exact absurd rfl hx
      · exact .inr (.inr (.inl e))
      · exact absurd rfl hx
  · exact absurd hs (by simp)
theorem Meets.look (h : Meets n w L S R false saw brought) (hs : S.out ≠ 0) :
    Meets n w L S R true (at_ L (n : Int) == 1) brought ∧ m1 S true + 1 ≤ m1 S false := by
  refine ⟨⟨h.lenL, h.hw, h.flag, h.others, h.own, h.s, h.r, h.nb, fun _ => hs, fun _ => rfl, fun _ hsaw => ?_⟩, by simp [m1, hs]⟩
  rw [h.flag] at hsaw
  cases brought with
  | true => simp at hsaw
  | false =>
    rw [h.nb rfl]
    exact .inr ⟨rfl, by show (0 : Int) ≤ w; omega⟩
theorem Meets.bring (h : Meets n w L S R looked saw false) : Meets n w (L.set n 1) S R looked saw true ∧ m2 n R true + 1 ≤ m2 n R false := by
  have hl := h.lenL
  have hw := h.hw
  have hr := h.nb rfl
  refine ⟨⟨by simpa using hl, hw, ?_, fun i hi hne => ?_, ?_, h.s, h.r, (by intro h; cases h), h.lk, h.sl, h.miss⟩, by rw [hr]; simp [m2]; omega⟩
  · rw [at_set _ _ _ _ (by omega), if_pos rfl]; rfl
  · rw [at_set _ _ _ _ (by omega), if_neg (by omega)]; exact h.others i hi hne
  · rw [at_set _ _ _ _ (by omega), if_neg (by omega)]; exact h.own
/-- On to the next worker: one who doesn't sleep is passed by. -/
theorem Meets.pass (h : Meets n w L S R looked saw true) {q : Nat} (hq : q < n) (ho : R.out = 0) (hwho : R.who = q) (hn : at_ L (q : Int) ≠ 1) :
    Meets n w L S ⟨3, ((q + 1 : Nat) : Int), onOut n ((q + 1 : Nat) : Int)⟩ looked saw true ∧ m2 n ⟨3, ((q + 1 : Nat) : Int), onOut n ((q + 1 : Nat) : Int)⟩ true + 1 ≤ m2 n R true := by
  have hqw : S.out ≠ 0 → q ≠ w := by
    rintro hs rfl
    rw [h.own, if_pos ⟨hs, by rw [ho]; decide⟩] at hn
    exact hn rfl
  have hm : 2 * (n - q) - 1 ≤ m2 n R true := by
    simp only [m2, ho, hwho, Int.toNat_natCast]
    split <;> simp_all <;> split <;> omega
  by_cases he : q + 1 = n
  · rw [onOut_end he]
    refine ⟨⟨h.lenL, h.hw, h.flag, h.others, ?_, h.s, .inr (.inr (.inl (by rw [he]))), (by intro h; cases h), h.lk, h.sl, fun h1 h2 => ?_⟩, by rw [show m2 n ⟨3, ((q + 1 : Nat) : Int), 4⟩ true = 0 from by simp [m2]]; omega⟩
    · rw [h.own]
      by_cases hs : S.out = 0
      · simp [hs]
      · rw [if_pos ⟨hs, by rw [ho]; decide⟩, if_pos ⟨hs, by simp⟩]
    · rcases h.miss h1 h2 with h3 | ⟨_, h3⟩
      · rw [ho] at h3; cases h3
      · have := hqw (h.lk h1)
        have := h.hw
        rw [hwho] at h3
        omega
  · rw [onOut_more he]
    refine ⟨⟨h.lenL, h.hw, h.flag, h.others, ?_, h.s, .inl ⟨q + 1, by omega, rfl⟩, (by intro h; cases h), h.lk, h.sl, fun h1 h2 => ?_⟩, ?_⟩
    · rw [h.own]
      by_cases hs : S.out = 0
      · simp [hs]
      · rw [if_pos ⟨hs, by rw [ho]; decide⟩, if_pos ⟨hs, by simp⟩]
    · rcases h.miss h1 h2 with h3 | ⟨_, h3⟩
      · rw [ho] at h3; cases h3
      · have := hqw (h.lk h1)
        rw [hwho] at h3
        exact .inr ⟨rfl, by show ((q + 1 : Nat) : Int) ≤ w; omega⟩
    · simp [m2] at hm ⊢
      omega
theorem Meets.ring (h : Meets n w L S R looked saw true) :
    Meets n w (bstep 0 n L R).1 S (bstep 0 n L R).2 looked saw true ∧ (m2 n (bstep 0 n L R).2 true + 1 ≤ m2 n R true ∨ m2 n (bstep 0 n L R).2 true = 0) := by
  have hl := h.lenL
  have hw := h.hw
  rcases h.r with ⟨q, hq, rfl⟩ | ⟨rfl, hx⟩ | rfl | ⟨rfl, hx⟩
  · by_cases hv : at_ L (q : Int) = 1
    · rw [bstep_look_yes hv]
      have hqw : q = w := by
        by_cases e : q = w
        · exact e
        · rw [h.others q hq e] at hv; cases hv
      subst hqw
      have hs : S.out ≠ 0 := by
        intro e
        rw [h.own, if_neg (by simp [e])] at hv
        cases hv
      refine ⟨⟨hl, hw, h.flag, h.others, ?_, h.s, .inr (.inl ⟨rfl, hs⟩), (by intro h; cases h), h.lk, h.sl, fun _ _ => .inr ⟨rfl, Int.le_refl _⟩⟩, .inl ?_⟩
      · have := h.own; simpa using this
      · simp [m2]; omega
    · rw [bstep_look_no hv]
      exact ⟨(h.pass hq rfl rfl hv).1, .inl (h.pass hq rfl rfl hv).2⟩
  · have hv : at_ L (w : Int) = 1 := by
      rw [h.own, if_pos ⟨hx, by simp⟩]
    rw [bstep_rouse_yes hv]
    refine ⟨⟨by simpa using hl, hw, ?_, fun i hi hne => ?_, ?_, h.s, .inr (.inr (.inr ⟨rfl, hx⟩)), (by intro h; cases h), h.lk, h.sl, fun _ _ => .inl rfl⟩, .inr (by simp [m2])⟩
    · rw [at_set _ _ _ _ (by omega), if_neg (by omega)]; exact h.flag
    · rw [at_set _ _ _ _ (by omega), if_neg hne]; exact h.others i hi hne
    · rw [at_set _ _ _ _ (by omega), if_pos rfl, if_neg (by simp)]
  · have : bstep 0 n L ⟨3, n, 4⟩ = (L, ⟨3, n, 4⟩) := by simp [bstep]
    rw [this]
    exact ⟨h, .inr (by simp [m2])⟩
  · have : bstep 0 n L ⟨4, w, 7⟩ = (L, ⟨4, w, 7⟩) := by simp [bstep]
    rw [this]
    exact ⟨h, .inr (by simp [m2])⟩
/-- When both are through. -/
theorem Meets.end_ (h : Meets n w L S R looked saw brought) (h1 : m1 S looked = 0) (h2 : m2 n R brought = 0) :
    looked = true ∧ S.out ≠ 0 ∧ brought = true ∧ ((R = ⟨3, n, 4⟩ ∧ saw = true ∧ pollOut (at_ L (0 + (w : Int))) = 4) ∨ (R = ⟨4, w, 7⟩ ∧ pollOut (at_ L (0 + (w : Int))) = 1)) := by
  have hw := h.hw
  rw [show (0 + (w : Int)) = (w : Int) by omega]
  have hb : brought = true := by
    cases brought with
    | true => rfl
    | false => simp [m2] at h2
  subst hb
  have hs : S.out ≠ 0 := by
    intro e
    simp [m1, e] at h1
  have hk : looked = true := by
    cases looked with
    | true => rfl
    | false => simp [m1, hs] at h1
  subst hk
  have hr : R.out ≠ 0 := by
    intro e
    rcases h.r with ⟨q, hq, rfl⟩ | ⟨rfl, hx⟩ | rfl | ⟨rfl, hx⟩
    · simp [m2] at h2; omega
    · simp [m2] at h2; omega
    · cases e
    · cases e
  refine ⟨rfl, hs, rfl, ?_⟩
  rcases h.r with ⟨q, hq, rfl⟩ | ⟨rfl, hx⟩ | rfl | ⟨rfl, hx⟩
  · exact absurd rfl hr
  · exact absurd rfl hr
  · left
    refine ⟨rfl, ?_, ?_⟩
    · cases saw with
      | true => rfl
      | false =>
        rcases h.miss rfl rfl with h3 | ⟨h3, _⟩
        · cases h3
        · cases h3
    · rw [h.own, if_pos ⟨hs, by simp⟩]; rfl
  · right
    refine ⟨rfl, ?_⟩
    rw [h.own, if_neg (by simp)]; rfl
end
end Go.Proofs.Ytafnlmkhfonghaa
