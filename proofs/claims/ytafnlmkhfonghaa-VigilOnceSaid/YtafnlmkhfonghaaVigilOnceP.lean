/-
  VigilOnce, the plain law: of claims and an unwatch, mixed in any way, just one is done.
-/
import Derived.Test.YtafnlmkhfonghaaAlive19
import Derived.Test.YtafnlmkhfonghaaFam
namespace Go.Proofs.Ytafnlmkhfonghaa
open Go.RowKit
set_option linter.unusedVariables false

def VOnceOp (c : Nat) (L : List Int) (x : Vop) : Prop :=
  x = ⟨4, c, 0, 0⟩ ∨ x = ⟨4, c, 0, 1⟩ ∨ (x = ⟨4, c, 0, 4⟩ ∧ at_ L (c : Int) ≠ 1) ∨ (∃ s, x = ⟨2, c, s, 0⟩) ∨ x = ⟨3, c, 1, 0⟩ ∨ x = ⟨2, c, 1, 1⟩ ∨ (∃ s, x = ⟨3, c, s, 4⟩ ∧ at_ L (c : Int) ≠ 1)
/-- What is left to do of an operation. -/
def vrho (c : Nat) (L : List Int) (x : Vop) : Nat := if x.out ≠ 0 then 0 else if x.k = 2 then (if at_ L (c : Int) = 1 then 3 else 1) else if x.k = 3 then 2 else 1
def vWon (o : Nat → Vop) (i : Nat) : Bool := decide ((o i).out = 1)
structure VOnce (sz c k : Nat) (L : List Int) (o : Nat → Vop) : Prop where
  lenL : L.length = sz + 1
  hc : c < sz
  rest : ∀ i : Nat, i ≤ sz → i ≠ c → at_ L (i : Int) = 0
  op : ∀ i, i < k → VOnceOp c L (o i)
  cons : cntTo k (vWon o) + (if at_ L (c : Int) = 1 then 1 else 0) = 1
section
variable {sz c k p : Nat} {L : List Int} {o : Nat → Vop}
theorem VOnceOp.ok {x : Vop} (h : VOnceOp c L x) {m : Nat} (hc : c < m) : VopOk m x := by
  rcases h with rfl | rfl | ⟨rfl, _⟩ | ⟨s, rfl⟩ | rfl | rfl | ⟨s, rfl, _⟩ <;> exact ⟨by simp, fun _ => by simp, fun _ => by simp; omega⟩
theorem VOnceOp.mono {L' : List Int} {x : Vop} (h : VOnceOp c L x) (hz : at_ L (c : Int) ≠ 1 → at_ L' (c : Int) ≠ 1) : VOnceOp c L' x := by
  rcases h with h | h | ⟨h, h2⟩ | h | h | h | ⟨s, h, h2⟩
  · exact .inl h
  · exact .inr (.inl h)
  · exact .inr (.inr (.inl ⟨h, hz h2⟩))
  · exact .inr (.inr (.inr (.inl h)))
  · exact .inr (.inr (.inr (.inr (.inl h))))
  · exact .inr (.inr (.inr (.inr (.inr (.inl h)))))
  · exact .inr (.inr (.inr (.inr (.inr (.inr ⟨s, h, hz h2⟩)))))
/-- An operation turned that does not win; the cells stay. -/
theorem VOnce.keep (h : VOnce sz c k L o) {x : Vop} (hx : VOnceOp c L x) (h7 : (o p).out ≠ 1) (hx7 : x.out ≠ 1) : VOnce sz c k L (upd o p x) := by
  refine ⟨h.lenL, h.hc, h.rest, fun i hi => ?_, ?_⟩
  · by_cases e : i = p
    · subst e; rw [upd_same]; exact hx
    · rw [upd_ne _ _ e]; exact h.op i hi
  · rw [cntTo_congr (g := vWon o) fun i hi => ?_]
    · exact h.cons
    · unfold vWon
      by_cases e : i = p
      · subst e; rw [upd_same]; simp [h7, hx7]
      · rw [upd_ne _ _ e]
/-- An operation that wins. -/
theorem VOnce.win (h : VOnce sz c k L o) (hp : p < k) {x : Vop} {v : Int} (hx : VOnceOp c (L.set c v) x) (h7 : (o p).out ≠ 1) (hx7 : x.out = 1) (hv : at_ L (c : Int) = 1) (hv1 : v ≠ 1) : VOnce sz c k (L.set c v) (upd o p x) := by
  have hl := h.lenL
  have hc := h.hc
  have hset : ∀ j : Nat, at_ (L.set c v) (j : Int) = if j = c then v else at_ L (j : Int) := fun j => at_set _ _ _ _ (by omega)
  refine ⟨by simpa using hl, hc, fun i hi hne => ?_, fun i hi => ?_, ?_⟩
  · rw [hset, if_neg hne]; exact h.rest i hi hne
  · by_cases e : i = p
    · subst e; rw [upd_same]; exact hx
    · rw [upd_ne _ _ e]; exact (h.op i hi).mono fun _ => by rw [hset, if_pos rfl]; exact hv1
  · have e1 := cntTo_turn (n := k) (q := p) (f := vWon (upd o p x)) (g := vWon o) hp fun i hi => by unfold vWon; rw [upd_ne _ _ hi]
    have e2 : vWon (upd o p x) p = true := by unfold vWon; rw [upd_same]; simp [hx7]
    have e3 : vWon o p = false := by unfold vWon; simp [h7]
    rw [e2, e3] at e1
    simp only [if_true, Bool.false_eq_true, if_false, Nat.add_zero] at e1
    have := h.cons
    rw [if_pos hv] at this
    rw [hset, if_pos rfl, if_neg hv1]
    omega
theorem VOnce.same (h : VOnce sz c k L o) : VOnce sz c k L (upd o p (o p)) := by
  have : upd o p (o p) = o := by
    funext i
    by_cases e : i = p
    · subst e; rw [upd_same]
    · rw [upd_ne _ _ e]
  rw [this]
  exact h
theorem VOnce.step (h : VOnce sz c k L o) (hp : p < k) :
    VOnce sz c k (vstep L (o p)).1 (upd o p (vstep L (o p)).2) ∧ vrho c (vstep L (o p)).1 (vstep L (o p)).2 ≤ vrho c L (o p) - 1 ∧ (∀ x, VOnceOp c L x → vrho c (vstep L (o p)).1 x ≤ vrho c L x) := by
  have hl := h.lenL
  have hc := h.hc
  have hset : ∀ (v : Int) (j : Nat), at_ (L.set c v) (j : Int) = if j = c then v else at_ L (j : Int) := fun v j => at_set _ _ _ _ (by omega)
  have hoth : ∀ v : Int, v ≠ 1 → ∀ x, VOnceOp c L x → vrho c (L.set c v) x ≤ vrho c L x := by
    intro v hv x _
    simp only [vrho, hset, if_true, if_neg hv]
    split
    · exact Nat.le_refl _
    split
    · split <;> omega
    · exact Nat.le_refl _
  have hid : ∀ x, VOnceOp c L x → vrho c L x ≤ vrho c L x := fun _ _ => Nat.le_refl _
  rcases h.op p hp with ho | ho | ⟨ho, h2⟩ | ⟨s, ho⟩ | ho | ho | ⟨s, ho, h2⟩
  · by_cases hv : at_ L (c : Int) = 1
    · have e : vstep L (o p) = (L.set c 2, ⟨4, c, 0, 1⟩) := by rw [ho]; simp [vstep, hv]
      rw [e]
      exact ⟨h.win hp (.inr (.inl rfl)) (by rw [ho]; simp) rfl hv (by decide), by rw [ho]; simp [vrho], hoth 2 (by decide)⟩
    · have e : vstep L (o p) = (L, ⟨4, c, 0, 4⟩) := by rw [ho]; simp [vstep, hv]
      rw [e]
      exact ⟨h.keep (.inr (.inr (.inl ⟨rfl, hv⟩))) (by rw [ho]; simp) (by simp), by rw [ho]; simp [vrho], hid⟩
  · have e : vstep L (o p) = (L, o p) := by rw [ho]; simp [vstep]
    rw [e]
    exact ⟨h.same, by rw [ho]; simp [vrho], hid⟩
  · have e : vstep L (o p) = (L, o p) := by rw [ho]; simp [vstep]
    rw [e]
    exact ⟨h.same, by rw [ho]; simp [vrho], hid⟩
  · by_cases hv : at_ L (c : Int) = 1
    · have e : vstep L (o p) = (L, ⟨3, c, 1, 0⟩) := by rw [ho]; simp [vstep, hv]
      rw [e]
      exact ⟨h.keep (.inr (.inr (.inr (.inr (.inl rfl))))) (by rw [ho]; simp) (by simp), by rw [ho]; simp [vrho, hv], hid⟩
    · have e : vstep L (o p) = (L, ⟨3, c, at_ L (c : Int), 4⟩) := by rw [ho]; simp [vstep, hv]
      rw [e]
      exact ⟨h.keep (.inr (.inr (.inr (.inr (.inr (.inr ⟨_, rfl, hv⟩)))))) (by rw [ho]; simp) (by simp), by rw [ho]; simp [vrho], hid⟩
  · by_cases hv : at_ L (c : Int) = 1
    · have e : vstep L (o p) = (L.set c 0, ⟨2, c, 1, 1⟩) := by rw [ho]; simp [vstep, hv]
      rw [e]
      exact ⟨h.win hp (.inr (.inr (.inr (.inr (.inr (.inl rfl)))))) (by rw [ho]; simp) rfl hv (by decide), by rw [ho]; simp [vrho], hoth 0 (by decide)⟩
    · have e : vstep L (o p) = (L, ⟨2, c, 1, 0⟩) := by rw [ho]; simp [vstep, hv]
      rw [e]
      exact ⟨h.keep (.inr (.inr (.inr (.inl ⟨1, rfl⟩)))) (by rw [ho]; simp) (by simp), by rw [ho]; simp [vrho, hv], hid⟩
  · have e : vstep L (o p) = (L, o p) := by rw [ho]; simp [vstep]
    rw [e]
    exact ⟨h.same, by rw [ho]; simp [vrho], hid⟩
  · have e : vstep L (o p) = (L, o p) := by rw [ho]; simp [vstep]
    rw [e]
    exact ⟨h.same, by rw [ho]; simp [vrho], hid⟩
/-- When all are through: just one is done, and the cell has turned. -/
theorem VOnce.over (h : VOnce sz c k L o) (hk : 0 < k) (hr : ∀ i, i < k → vrho c L (o i) = 0) : cntTo k (vWon o) = 1 ∧ at_ L (c : Int) ≠ 1 ∧ ∀ i, i < k → (o i).out ≠ 0 := by
  have hov : ∀ i, i < k → (o i).out ≠ 0 := by
    intro i hi e
    have h1 := hr i hi
    unfold vrho at h1
    rw [if_neg (by rw [e]; decide)] at h1
    split at h1
    · split at h1 <;> omega
    · split at h1 <;> omega
  have hc := h.cons
  have hne : at_ L (c : Int) ≠ 1 := by
    intro e
    rw [if_pos e] at hc
    have hz : cntTo k (vWon o) = 0 := by omega
    have h0 : (o 0).out ≠ 1 := by
      intro e1
      have h1 := cntTo_turn (n := k) (q := 0) (f := vWon o) (g := fun i => if i = 0 then false else vWon o i) hk fun i hi => by simp [hi]
      have h2 : vWon o 0 = true := by unfold vWon; simp [e1]
      rw [h2] at h1
      simp at h1
      omega
    rcases h.op 0 hk with ho | ho | ⟨ho, h2⟩ | ⟨s, ho⟩ | ho | ho | ⟨s, ho, h2⟩
    · exact hov 0 hk (by rw [ho])
    · exact h0 (by rw [ho])
    · exact h2 e
    · exact hov 0 hk (by rw [ho])
    · exact hov 0 hk (by rw [ho])
    · exact h0 (by rw [ho])
    · exact h2 e
  rw [if_neg hne] at hc
  exact ⟨by omega, hne, hov⟩
end
end Go.Proofs.Ytafnlmkhfonghaa
