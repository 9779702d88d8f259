/-
  BellOnce, the plain law: rings that are done by several at once.
-/
import Derived.Test.YtafnlmkhfonghaaBellMeetsP
import Derived.Test.YtafnlmkhfonghaaFam
namespace Go.Proofs.Ytafnlmkhfonghaa
open Go.RowKit
set_option linter.unusedVariables false

/-- A ring under way, or over. -/
def OnceOp (n : Nat) (A : Nat → Int) (L : List Int) (o : Bop) : Prop :=
  (∃ q : Nat, q < n ∧ o = ⟨3, q, 0⟩ ∧ ∀ j : Nat, j < q → at_ L (j : Int) = 0) ∨ (∃ q : Nat, q < n ∧ o = ⟨4, q, 0⟩ ∧ ∀ j : Nat, j < q → at_ L (j : Int) = 0) ∨
  (o = ⟨3, n, 4⟩ ∧ ∀ j : Nat, j < n → at_ L (j : Int) = 0) ∨ (∃ q : Nat, q < n ∧ o = ⟨4, q, 7⟩ ∧ A q = 1 ∧ at_ L (q : Int) = 0)
/-- What is left to do of a ring. -/
def rho (n : Nat) (o : Bop) : Nat := if o.out ≠ 0 then 0 else 2 * (n - o.who.toNat) - (if o.k = 4 then 1 else 0)
def isWon (o : Nat → Bop) (i : Nat) : Bool := decide ((o i).out = 7)
structure Once (n k : Nat) (A : Nat → Int) (L : List Int) (o : Nat → Bop) : Prop where
  lenL : L.length = n + 1
  bit : ∀ q : Nat, q < n → at_ L (q : Int) = 0 ∨ at_ L (q : Int) = 1
  sub : ∀ q : Nat, q < n → at_ L (q : Int) = 1 → A q = 1
  op : ∀ i, i < k → OnceOp n A L (o i)
  dis : ∀ i j, i < k → j < k → i ≠ j → (o i).out = 7 → (o j).out = 7 → (o i).who ≠ (o j).who
  cons : (cntTo k (isWon o) : Int) + sumTo n (fun q => at_ L (q : Int)) = sumTo n A
section
variable {n k p : Nat} {A : Nat → Int} {L : List Int} {o : Nat → Bop}
theorem OnceOp.ok {x : Bop} (h : OnceOp n A L x) : BopOk n x := by
  rcases h with ⟨q, hq, rfl, _⟩ | ⟨q, hq, rfl, _⟩ | ⟨rfl, _⟩ | ⟨q, hq, rfl, _⟩
  · exact ⟨by simp, fun _ => by simp, fun _ => by simp; omega⟩
  · exact ⟨by simp, fun _ => by simp, fun _ => by simp; omega⟩
  · exact ⟨by simp, fun h => by simp at h, fun h => by simp at h⟩
  · exact ⟨by simp, fun h => by simp at h, fun h => by simp at h⟩
theorem OnceOp.mono {L' : List Int} {x : Bop} (h : OnceOp n A L x) (hz : ∀ j : Nat, j < n → at_ L (j : Int) = 0 → at_ L' (j : Int) = 0) : OnceOp n A L' x := by
  rcases h with ⟨q, hq, rfl, h⟩ | ⟨q, hq, rfl, h⟩ | ⟨rfl, h⟩ | ⟨q, hq, rfl, ha, h⟩
  · exact .inl ⟨q, hq, rfl, fun j hj => hz j (by omega) (h j hj)⟩
  · exact .inr (.inl ⟨q, hq, rfl, fun j hj => hz j (by omega) (h j hj)⟩)
  · exact .inr (.inr (.inl ⟨rfl, fun j hj => hz j hj (h j hj)⟩))
  · exact .inr (.inr (.inr ⟨q, hq, rfl, ha, hz q hq h⟩))
theorem once_start (hl : L.length = n + 1) (hA : ∀ q : Nat, q < n → at_ L (q : Int) = A q) (hb : ∀ q, q < n → A q = 0 ∨ A q = 1) (h1 : 1 ≤ n) (ho : ∀ i, i < k → o i = ⟨3, 0, 0⟩) : Once n k A L o := by
  refine ⟨hl, fun q hq => by rw [hA q hq]; exact hb q hq, fun q hq h => by rw [← hA q hq]; exact h, fun i hi => ?_, fun i j hi hj _ h => ?_, ?_⟩
  · rw [ho i hi]
    exact .inl ⟨0, by omega, rfl, fun j hj => by omega⟩
  · rw [ho i hi] at h; cases h
  · have : cntTo k (isWon o) = 0 := by
      rw [cntTo_congr (g := fun _ => false) fun i hi => by rw [isWon, ho i hi]; rfl]
      clear ho
      induction k with
      | zero => rfl
      | succ k ih => simp [cntTo, ih]
    rw [this, sumTo_congr (g := A) hA]
    simp
/-- A ring turned that is not won; the cells stay. -/
theorem Once.keep (h : Once n k A L o) (hp : p < k) {x : Bop} (hx : OnceOp n A L x) (h7 : (o p).out ≠ 7) (hx7 : x.out ≠ 7) : Once n k A L (upd o p x) := by
  refine ⟨h.lenL, h.bit, h.sub, fun i hi => ?_, fun i j hi hj hij h1 h2 => ?_, ?_⟩
  · by_cases e : i = p
    · subst e; rw [upd_same]; exact hx
    · rw [upd_ne _ _ e]; exact h.op i hi
  · by_cases e : i = p
    · subst e; rw [upd_same] at h1; exact absurd h1 hx7
    · by_cases e2 : j = p
      · subst e2; rw [upd_same] at h2; exact absurd h2 hx7
      · rw [upd_ne _ _ e] at h1 ⊢
        rw [upd_ne _ _ e2] at h2 ⊢
        exact h.dis i j hi hj hij h1 h2
  · rw [cntTo_congr (g := isWon o) fun i hi => ?_]
    · exact h.cons
    · unfold isWon
      by_cases e : i = p
      · subst e; rw [upd_same]; simp [h7, hx7]
      · rw [upd_ne _ _ e]
theorem OnceOp.pass (h1 : ∀ j : Nat, j < p → at_ L (j : Int) = 0) (hp : p < n) (hv : at_ L (p : Int) = 0) : OnceOp n A L ⟨3, ((p + 1 : Nat) : Int), onOut n ((p + 1 : Nat) : Int)⟩ := by
  have hall : ∀ j : Nat, j < p + 1 → at_ L (j : Int) = 0 := fun j hj => by
    by_cases e : j = p
    · rw [e]; exact hv
    · exact h1 j (by omega)
  by_cases he : p + 1 = n
  · rw [onOut_end he]
    exact .inr (.inr (.inl ⟨by rw [he], fun j hj => hall j (by omega)⟩))
  · rw [onOut_more he]
    exact .inl ⟨p + 1, by omega, rfl, hall⟩
theorem rho_pass {p : Nat} (hp : p < n) : rho n ⟨3, ((p + 1 : Nat) : Int), onOut n ((p + 1 : Nat) : Int)⟩ ≤ 2 * (n - p) - 2 := by
  by_cases he : p + 1 = n
  · rw [onOut_end he]
    simp [rho]
  · rw [onOut_more he]
    simp [rho]
    omega
theorem Once.step (h : Once n k A L o) (hp : p < k) : Once n k A (bstep 0 n L (o p)).1 (upd o p (bstep 0 n L (o p)).2) ∧ rho n (bstep 0 n L (o p)).2 ≤ rho n (o p) - 1 := by
  have hl := h.lenL
  rcases h.op p hp with ⟨q, hq, ho, hz⟩ | ⟨q, hq, ho, hz⟩ | ⟨ho, hz⟩ | ⟨q, hq, ho, ha, hz⟩
  · rcases h.bit q hq with hv | hv
    · rw [ho, bstep_look_no (by rw [hv]; decide)]
      refine ⟨h.keep hp (OnceOp.pass hz hq hv) (by rw [ho]; simp) (by show onOut _ _ ≠ 7; unfold onOut; split <;> decide), ?_⟩
      have := rho_pass hq
      refine Nat.le_trans this ?_
      simp [rho]
      omega
    · rw [ho, bstep_look_yes hv]
      refine ⟨h.keep hp (.inr (.inl ⟨q, hq, rfl, hz⟩)) (by rw [ho]; simp) (by simp), ?_⟩
      simp [rho]
  · rcases h.bit q hq with hv | hv
    · rw [ho, bstep_rouse_no (by rw [hv]; decide)]
      refine ⟨h.keep hp (OnceOp.pass hz hq hv) (by rw [ho]; simp) (by show onOut _ _ ≠ 7; unfold onOut; split <;> decide), ?_⟩
      have := rho_pass hq
      refine Nat.le_trans this ?_
      simp [rho]
      omega
    · rw [ho, bstep_rouse_yes hv]
      have hset : ∀ j : Nat, at_ (L.set q 0) (j : Int) = if j = q then 0 else at_ L (j : Int) := fun j => at_set _ _ _ _ (by omega)
      have hmono : ∀ j : Nat, j < n → at_ L (j : Int) = 0 → at_ (L.set q 0) (j : Int) = 0 := fun j _ hj => by rw [hset, hj]; simp
      refine ⟨⟨by simpa using hl, fun j hj => ?_, fun j hj h1 => ?_, fun i hi => ?_, fun i j hi hj hij h1 h2 => ?_, ?_⟩, by simp [rho]⟩
      · rw [hset]
        split
        · exact .inl rfl
        · exact h.bit j hj
      · rw [hset] at h1
        split at h1
        · cases h1
        · exact h.sub j hj h1
      · by_cases e : i = p
        · subst e
          rw [upd_same]
          exact .inr (.inr (.inr ⟨q, hq, rfl, h.sub q hq hv, by rw [hset, if_pos rfl]⟩))
        · rw [upd_ne _ _ e]
          exact (h.op i hi).mono hmono
      · have hother : ∀ i, i < k → i ≠ p → (o i).out = 7 → (o i).who ≠ q := by
          intro i hi e h7 hw
          rcases h.op i hi with ⟨q', _, ho', _⟩ | ⟨q', _, ho', _⟩ | ⟨ho', _⟩ | ⟨q', _, ho', _, hz'⟩
          · rw [ho'] at h7; cases h7
          · rw [ho'] at h7; cases h7
          · rw [ho'] at h7; cases h7
          · rw [ho'] at hw
            have : q' = q := by
              have hw' : (q' : Int) = (q : Int) := hw
              omega
            subst this
            rw [hz'] at hv
            cases hv
        by_cases e : i = p
        · subst e
          rw [upd_same, upd_ne _ _ (fun e => hij e.symm)]
          rw [upd_ne _ _ (fun e => hij e.symm)] at h2
          exact fun e => hother j hj (fun e => hij e.symm) h2 e.symm
        · rw [upd_ne _ _ e] at h1 ⊢
          by_cases e2 : j = p
          · subst e2
            rw [upd_same]
            exact hother i hi e h1
          · rw [upd_ne _ _ e2] at h2 ⊢
            exact h.dis i j hi hj hij h1 h2
      · have e1 := cntTo_turn (n := k) (q := p) (f := isWon (upd o p ⟨4, q, 7⟩)) (g := isWon o) hp fun i hi => by unfold isWon; rw [upd_ne _ _ hi]
        have e2 : isWon (upd o p ⟨4, q, 7⟩) p = true := by unfold isWon; rw [upd_same]; rfl
        have e3 : isWon o p = false := by unfold isWon; rw [ho]; rfl
        rw [e2, e3] at e1
        simp only [if_true, Bool.false_eq_true, if_false, Nat.add_zero] at e1
        have e4 := sumTo_turn (n := n) (q := q) (f := fun j => at_ (L.set q 0) (j : Int)) (g := fun j => at_ L (j : Int)) hq fun i hi => by rw [hset, if_neg hi]
        simp only [hset, if_true, hv] at e4
        have := h.cons
        simp only [hset]
        omega
  · have : bstep 0 n L (o p) = (L, o p) := by rw [ho]; simp [bstep]
    rw [this]
    refine ⟨?_, by rw [ho]; simp [rho]⟩
    have : upd o p (o p) = o := by
      funext i
      by_cases e : i = p
      · subst e; rw [upd_same]
      · rw [upd_ne _ _ e]
    rw [this]
    exact h
  · have : bstep 0 n L (o p) = (L, o p) := by rw [ho]; simp [bstep]
    rw [this]
    refine ⟨?_, by rw [ho]; simp [rho]⟩
    have : upd o p (o p) = o := by
      funext i
      by_cases e : i = p
      · subst e; rw [upd_same]
      · rw [upd_ne _ _ e]
    rw [this]
    exact h
/-- When all are through: as many are won as there are rings, or as slept. -/
theorem Once.over (h : Once n k A L o) (hr : ∀ i, i < k → rho n (o i) = 0) : ∀ i, i < k → (o i = ⟨3, n, 4⟩ ∨ ∃ q : Nat, q < n ∧ o i = ⟨4, q, 7⟩ ∧ A q = 1 ∧ at_ L (q : Int) = 0) := by
  intro i hi
  have := hr i hi
  rcases h.op i hi with ⟨q, hq, ho, hz⟩ | ⟨q, hq, ho, hz⟩ | ⟨ho, hz⟩ | ⟨q, hq, ho, ha, hz⟩
  · rw [ho] at this; simp [rho] at this; omega
  · rw [ho] at this; simp [rho] at this; omega
  · exact .inl ho
  · exact .inr ⟨q, hq, ho, ha, hz⟩
theorem Once.got (h : Once n k A L o) (hr : ∀ i, i < k → rho n (o i) = 0) (hA : ∀ q, q < n → A q = 0 ∨ A q = 1) : (cntTo k (isWon o) : Int) = if (k : Int) < sumTo n A then (k : Int) else sumTo n A := by
  have hc := h.cons
  have hle := cntTo_le k (isWon o)
  have hb := sumTo_bound (n := n) (f := fun q => at_ L (q : Int)) fun q hq => by rcases h.bit q hq with e | e <;> rw [e] <;> decide
  by_cases hall : ∀ i, i < k → (o i).out = 7
  · have e := cntTo_all (n := k) (f := isWon o) fun i hi => by unfold isWon; simp [hall i hi]
    rw [e] at hc ⊢
    split <;> omega
  · have hex : ∃ i, i < k ∧ (o i).out ≠ 7 := by
      refine Classical.byContradiction fun hn => hall fun i hi => ?_
      exact Classical.byContradiction fun hne => hn ⟨i, hi, hne⟩
    obtain ⟨i, hi, h7⟩ := hex
    have hz : sumTo n (fun q => at_ L (q : Int)) = 0 := by
      rcases h.op i hi with ⟨q, hq, ho, hz⟩ | ⟨q, hq, ho, hz⟩ | ⟨ho, hz⟩ | ⟨q, hq, ho, ha, hz⟩
      · have := hr i hi; rw [ho] at this; simp [rho] at this; omega
      · have := hr i hi; rw [ho] at this; simp [rho] at this; omega
      · exact sumTo_zero hz
      · rw [ho] at h7; simp at h7
    rw [hz] at hc
    split <;> omega
end
end Go.Proofs.Ytafnlmkhfonghaa
