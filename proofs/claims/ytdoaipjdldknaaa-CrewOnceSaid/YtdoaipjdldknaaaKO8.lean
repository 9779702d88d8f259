/-
  CrewOnce: all that holds between two steps, and that each step keeps it (plain lists; no program).
-/
import Derived.Test.YtdoaipjdldknaaaKO7
namespace Go.Proofs.Ytdoaipjdldknaaa
open Go.RowKit
set_option linter.unusedVariables false
def pend (k : Nat) : CSt → Int
  | .over a _ => if k = 3 ∧ a = 3 then 1 else 0
  | _ => 0
def blind (k : Nat) (m : Int) (st : CSt) : Prop := m = 1 ∧ (k = 2 ∨ (k = 1 ∧ ∃ v, st = .over 4 v))
def busy (n : Nat) (x : CSt) : Prop := own (gopOf n x) ∨ ∃ b, x = .ring b
def exO (r : Int) : CSt → Int
  | .put v g => 5 + r - g.ph + (if g.ph = 3 ∨ g.ph = 4 then 0 else 27 + 2 * r)
  | .ring b => if b.k = 3 ∧ b.who = 0 then r else 1
  | _ => 0
structure BI (n s : Nat) (r : Int) (L : List Int) (o : Nat → CSt) (ph : Nat → Nat) (lf : Nat → Int) (nx : Nat) (fd ps : List Int) (c T H : Nat) (S : Nat → List Int) (M : Nat → Int) : Prop where
  ci : CI n s L o ph T H S M (1 + c)
  r12 : (r = 1 ∧ n = 1) ∨ (r = 2 ∧ 2 ≤ n)
  val : ∀ x, x ∈ ps → 1 ≤ x ∧ x ≤ 1800
  lfv : ∀ p, p < n → ph p = 3 → o p = idleC → 1 ≤ lf p ∧ lf p ≤ 1800
  keep : ∀ w, wl w ps = wl w fd + (wl w (inD H T tv) + sumW n (fun i => wl w (hand (ph i) (o i)) + wl w (S i))) + wl w (handO (o n))
  nxT : (nx : Int) = T + wl (fun _ => 1) (handO (o n))
  nx200 : nx ≤ 200
  debt : (32 + 3 * r) * nx ≤ c + Debt n T H r o ph lf S + exO r (o n)
  few : (wl (fun _ => 1) (inD H T tv) + sumW n (fun i => wl (fun _ => 1) (hand (ph i) (o i)) + wl (fun _ => 1) (S i))) + sumW n (fun i => pend (ph i) (o i)) + wl (fun _ => 1) (handO (o n)) ≤ 50 + n
  wake : (∀ w, w < n → blind (ph w) (M w) (o w)) → T = H ∨ busy n (o n)
  room : ∀ v g, o n = .put v g → g.ph = 0 ∨ g.ph = 1 ∨ g.ph = 2 → Room n T H (fun j => gopOf n (o j))
section
variable {n s p T H c nx : Nat} {r : Int} {L L' : List Int} {o : Nat → CSt} {ph : Nat → Nat} {lf : Nat → Int} {fd ps : List Int} {S S' : Nat → List Int} {M M' : Nat → Int} {st' : CSt} {H' : Nat} {pw : Prop}
theorem WS.running (h : WS n s p T H pw S M (o p) st' H' S' M') (k : Nat) : pend k st' = 0 ∧ st' ≠ idleC := by
  obtain ⟨st, hst⟩ : ∃ st, o p = st := ⟨_, rfl⟩
  rw [hst] at h
  have hov : ∀ a v : Int, a ≠ 3 → pend k (.over a v) = 0 ∧ CSt.over a v ≠ idleC := fun a v ha => ⟨by show (if k = 3 ∧ a = 3 then (1 : Int) else 0) = 0; rw [if_neg (fun e => ha e.2)], fun e => by unfold idleC at e; injection e with e1 e2; exact ha e1⟩
  have hct : ∀ q, pend k (ctry (crewF n s) q) = 0 ∧ ctry (crewF n s) q ≠ idleC := fun q => by
    cases q with
    | nil => exact hov 4 0 (by decide)
    | cons x q => exact ⟨rfl, fun e => by cases x <;> (unfold idleC at e; exact absurd e (by simp [ctry]))⟩
  cases h with
  | tkno => exact hct _
  | stealno => exact hct _
  | ring k' q _ _ h1 h2 => cases h2 <;> first | exact hov _ _ (by decide) | exact ⟨rfl, fun e => by unfold idleC at e; cases e⟩
  | _ => first | exact hov _ _ (by decide) | exact ⟨rfl, fun e => by unfold idleC at e; cases e⟩
theorem pend_run {k : Nat} {st : CSt} (h : st.out = 0) : pend k st = 0 := by
  cases st with
  | over a v => have h' : a = 0 := h; show (if k = 3 ∧ a = 3 then (1 : Int) else 0) = 0; rw [if_neg (by omega)]
  | _ => rfl
/-- A step of a worker wakes nobody in vain. -/
theorem WS.wake (hsh : PhOk n p (ph p) (o p)) (hM0 : (∃ b, o p = .ring b) → M p = 0) (hp : p < n) (h : WS n s p T H (own (gopOf n (o n))) S M (o p) st' H' S' M') (hw : (∀ w, w < n → blind (ph w) (M w) (o w)) → T = H ∨ busy n (o n)) :
    (∀ w, w < n → blind (ph w) (M' w) (upd o p st' w)) → T = H' ∨ busy n (o n) := by
  intro hb
  have hbp := hb p hp
  rw [upd_same] at hbp
  have hwh := h.where_ (by
    rintro ⟨b, hb⟩
    exact hM0 ⟨b, hb⟩)
  obtain ⟨st, hst⟩ : ∃ st, o p = st := ⟨_, rfl⟩
  rw [hst] at h hsh
  have hno : ∀ k : Nat, ph p = k → k = 0 ∨ k = 3 → False := fun k hk h03 => by
    rcases hbp.2 with e | ⟨e, -⟩ <;> omega
  have hno1 : ph p = 1 → (∀ v, st' ≠ .over 4 v) → False := fun hk hne => by
    rcases hbp.2 with e | ⟨e, v, e2⟩
    · omega
    · exact hne v e2
  cases h with
  | pushing => exact (hno 3 hsh (.inr rfl)).elim
  | pushed => exact (hno 3 hsh (.inr rfl)).elim
  | popping => exact (hno 0 hsh.1 (.inl rfl)).elim
  | popped => exact (hno 0 hsh.1 (.inl rfl)).elim
  | popno => exact (hno 0 hsh.1 (.inl rfl)).elim
  | tk => exact (hno 0 hsh.1 (.inl rfl)).elim
  | tkyes => exact (hno 0 hsh.1 (.inl rfl)).elim
  | tkno => exact (hno 0 hsh.1 (.inl rfl)).elim
  | stealing => exact (hno 0 hsh.1 (.inl rfl)).elim
  | stealno => exact (hno 0 hsh.1 (.inl rfl)).elim
  | stole => exact (hno 0 hsh.1 (.inl rfl)).elim
  | sleep => exact (hno1 hsh (fun v e => by cases e)).elim
  | rtk => exact (hno1 hsh (fun v e => by cases e)).elim
  | rtkyes => exact (hno1 hsh (fun v e => by cases e)).elim
  | rtkno g h1 h2 h3 =>
    rcases h3 with e | ⟨e, hown⟩
    · exact .inl e
    · exact .inr (.inl hown)
  | up => exact (hno1 hsh (fun v e => by injection e with e1; revert e1; decide)).elim
  | pollyes h1 => have := hbp.1; omega
  | pollno h1 =>
    refine hw fun w hwn => ?_
    by_cases e : w = p
    · subst e; exact ⟨h1, .inl hsh⟩
    · have := hb w hwn; rw [upd_ne _ _ e] at this; exact this
  | ring => exact (hno 3 hsh (.inr rfl)).elim
theorem tks_own {n T H H' : Nat} {pw : Prop} {g g' : Gop} (h : TkS T H pw (gsh n g) (gsh n g') H') (ho : own (gsh n g')) : H ≤ H' ∧ ((gsh n g').t = (H : Int) ∧ H' = H + 1 ∨ (own (gsh n g) ∧ (gsh n g').t = (gsh n g).t)) := by
  have h0 : (gsh n g').out = 0 := ho.1
  generalize gsh n g = x at h ⊢
  generalize gsh n g' = y at h ho h0 ⊢
  cases h with
  | look h1 => exact absurd ho (own_no (by simp) (by simp))
  | ready t h1 => exact absurd ho (own_no (by simp) (by simp))
  | late t h1 => exact absurd ho (own_no (by simp) (by simp))
  | none h1 => simp at h0
  | swap h1 h2 h3 => exact ⟨by omega, .inl ⟨h2, rfl⟩⟩
  | lost t h1 => exact absurd ho (own_no (by simp) (by simp))
  | value t h1 h2 h3 => exact ⟨Nat.le_refl _, .inr ⟨⟨h0, .inl h1⟩, rfl⟩⟩
  | pass t h1 => simp at h0
theorem tks_le {T H H' : Nat} {pw : Prop} {x y : Gop} (h : TkS T H pw x y H') : H ≤ H' := by cases h <;> omega
theorem WS.le (h : WS n s p T H pw S M (o p) st' H' S' M') : H ≤ H' := by
  obtain ⟨st, hst⟩ : ∃ st, o p = st := ⟨_, rfl⟩
  rw [hst] at h
  cases h with
  | tk g g' r _ h1 => exact tks_le h1
  | rtk g g' _ h1 => exact tks_le h1
  | _ => exact Nat.le_refl _
theorem idleG_own : ¬ own idleG := own_over (by decide)
theorem WS.room (hp : p < n) (hsh : PhOk n p (ph p) (o p)) (h : WS n s p T H pw S M (o p) st' H' S' M') (hr : Room n T H (fun j => gopOf n (o j))) : Room n T H' (fun j => gopOf n (upd o p st' j)) := by
  rcases hr with h1 | ⟨h1, h2, h3⟩
  · exact .inl h1
  · have hle := h.le
    refine .inr ⟨h1, by omega, fun i hi ho => ?_⟩
    by_cases e : i = p
    · subst e
      simp only [upd_same] at ho ⊢
      have h3 := h3 i hi
      obtain ⟨st, hst⟩ : ∃ st, o i = st := ⟨_, rfl⟩
      simp only [hst] at h h3 hsh
      have hct : ∀ q, StL n i q → own (gopOf n (ctry (crewF n s) q)) → False := fun q hq h9 => by rw [gop_ctry hq] at h9; exact idleG_own h9
      cases h with
      | tk g g' r _ q1 q2 =>
        rcases (tks_own q1 ho).2 with ⟨e1, -⟩ | ⟨e1, e2⟩
        · show (gsh n g').t ≠ 0; omega
        · show (gsh n g').t ≠ 0; rw [e2]; exact h3 e1
      | rtk g g' _ q1 q2 =>
        rcases (tks_own q1 ho).2 with ⟨e1, -⟩ | ⟨e1, e2⟩
        · show (gsh n g').t ≠ 0; omega
        · show (gsh n g').t ≠ 0; rw [e2]; exact h3 e1
      | tkno => exact (hct _ hsh.2.1 ho).elim
      | stealno v d q k1 k2 k3 => exact (hct _ (hsh.2.elim (fun e => absurd e.1 k1) (fun e => e.2.1)) ho).elim
      | popno => exact absurd ho (own_no (by show (0 : Int) ≠ 3; decide) (by show (0 : Int) ≠ 4; decide))
      | sleep => exact absurd ho (own_no (by show (0 : Int) ≠ 3; decide) (by show (0 : Int) ≠ 4; decide))
      | ring k' q _ _ k1 k2 => cases k2 <;> exact absurd ho idleG_own
      | _ => exact absurd ho idleG_own
    · simp only [upd_ne _ _ e] at ho ⊢
      exact h3 i hi ho
theorem BI.M0 (h : BI n s r L o ph lf nx fd ps c T H S M) (hp : p < n) : (∃ b, o p = .ring b) → M p = 0 := by
  rintro ⟨b, hb⟩
  have hsh := h.ci.sh p hp
  rw [hb] at hsh
  obtain ⟨k, hk⟩ : ∃ k, ph p = k := ⟨_, rfl⟩
  obtain ⟨m, hm⟩ : ∃ m, M p = m := ⟨_, rfl⟩
  obtain ⟨q, hq⟩ : ∃ q, S p = q := ⟨_, rfl⟩
  rw [hk, hm, hq] at hsh
  rw [hm]
  cases hsh with
  | org => rfl
theorem BI.wstep (h : BI n s r L o ph lf nx fd ps c T H S M) (hp : p < n) (h0 : (o p).out = 0) (hc : c + 2 ≤ 1000000) :
    ∃ st' H' S' M', (cstep (crewF n s) L (o p)).2 = st' ∧ WS n s p T H (own (gopOf n (o n))) S M (o p) st' H' S' M' ∧ BI n s r (cstep (crewF n s) L (o p)).1 (upd o p st') ph lf nx fd ps (c + 1) T H' S' M' := by
  obtain ⟨st', H', S', M', e1, e2, e3⟩ := h.ci.wstep hp h0 (by omega)
  have hph := (h.ci.sh p hp).phase
  have hrun := fun k => e2.running k
  have hn : upd o p st' n = o n := upd_ne _ _ (by omega)
  have hk := fun w => e2.keep w hp hph
  refine ⟨st', H', S', M', e1, e2, e3, h.r12, h.val, fun q hq hq3 hqi => ?_, fun w => ?_, ?_, h.nx200, ?_, ?_, ?_, fun v g ho hg => ?_⟩
  · by_cases e : q = p
    · subst e; rw [upd_same] at hqi; exact absurd hqi (hrun 0).2
    · rw [upd_ne _ _ e] at hqi; exact h.lfv q hq hq3 hqi
  · rw [hk w, hn]; exact h.keep w
  · rw [hn]; exact h.nxT
  · rw [hn]
    have := e2.debt (lf := lf) h.r12 hp hph
    have := h.debt
    omega
  · rw [hk, hn]
    have e4 : sumW n (fun i => pend (ph i) (upd o p st' i)) = sumW n (fun i => pend (ph i) (o i)) := sumW_eq fun i hi => by
      by_cases e : i = p
      · subst e; rw [upd_same, (hrun _).1, pend_run h0]
      · rw [upd_ne _ _ e]
    rw [e4]
    exact h.few
  · rw [hn]; exact e2.wake hph (h.M0 hp) hp h.wake
  · rw [hn] at ho
    exact e2.room hp hph (h.room v g ho hg)
/-- An operation of a worker is begun, or forgotten. -/
theorem BI.turn (h : BI n s r L o ph lf nx fd ps c T H S M) (hp : p < n) {k' : Nat} {l' : Int} {fd' ps' : List Int} (hci : CI n s L (upd o p st') (upd ph p k') T H S M (1 + c)) (hval : ∀ x, x ∈ ps' → 1 ≤ x ∧ x ≤ 1800) (hlf : k' = 3 → st' = idleC → 1 ≤ l' ∧ l' ≤ 1800)
    (hkeep : ∀ w, wl w ps' + (wl w fd + wl w (hand (ph p) (o p))) = wl w ps + (wl w fd' + wl w (hand k' st'))) (hdebt : ex r (ph p) (lf p) (o p) ≤ ex r k' l' st') (hfew : wl (fun _ => 1) (hand k' st') + pend k' st' ≤ wl (fun _ => 1) (hand (ph p) (o p)) + pend (ph p) (o p))
    (hbl : blind k' (M p) st' → blind (ph p) (M p) (o p)) (hno : ¬ own (gopOf n st')) : BI n s r L (upd o p st') (upd ph p k') (upd lf p l') nx fd' ps' c T H S M := by
  have hn : upd o p st' n = o n := upd_ne _ _ (by omega)
  have hsum : ∀ w, sumW n (fun i => wl w (hand (upd ph p k' i) (upd o p st' i)) + wl w (S i)) = sumW n (fun i => wl w (hand (ph i) (o i)) + wl w (S i)) + (wl w (hand k' st') - wl w (hand (ph p) (o p))) := fun w => by
    rw [sumW_one (f := fun i => wl w (hand (upd ph p k' i) (upd o p st' i)) + wl w (S i)) (g := fun i => wl w (hand (ph i) (o i)) + wl w (S i)) hp (fun i hi hip => by rw [upd_ne _ _ hip, upd_ne _ _ hip])]
    simp only [upd_same]
    omega
  refine ⟨hci, h.r12, hval, fun q hq hq3 hqi => ?_, fun w => ?_, ?_, h.nx200, ?_, ?_, fun hb => ?_, fun v g ho hg => ?_⟩
  · by_cases e : q = p
    · subst e; rw [upd_same] at hq3 hqi ⊢; exact hlf hq3 hqi
    · rw [upd_ne _ _ e] at hq3 hqi ⊢; exact h.lfv q hq hq3 hqi
  · rw [hsum, hn]
    have h1 := hkeep w
    have h2 := h.keep w
    omega
  · rw [hn]; exact h.nxT
  · rw [hn]
    have h1 := h.debt
    unfold Debt at h1 ⊢
    rw [sumW_one (f := fun i => ex r (upd ph p k' i) (upd lf p l' i) (upd o p st' i) + wl (Wn r) (S i)) (g := fun i => ex r (ph i) (lf i) (o i) + wl (Wn r) (S i)) hp (fun i hi hip => by rw [upd_ne _ _ hip, upd_ne _ _ hip, upd_ne _ _ hip])]
    simp only [upd_same]
    omega
  · rw [hsum, hn]
    have h1 := h.few
    rw [sumW_one (f := fun i => pend (upd ph p k' i) (upd o p st' i)) (g := fun i => pend (ph i) (o i)) hp (fun i hi hip => by rw [upd_ne _ _ hip, upd_ne _ _ hip])]
    simp only [upd_same]
    omega
  · rw [hn]
    refine h.wake fun w hw => ?_
    have := hb w hw
    by_cases e : w = p
    · subst e; rw [upd_same, upd_same] at this; exact hbl this
    · rw [upd_ne _ _ e, upd_ne _ _ e] at this; exact this
  · rw [hn] at ho
    rcases h.room v g ho hg with h1 | ⟨h1, h2, h3⟩
    · exact .inl h1
    · refine .inr ⟨h1, h2, fun i hi ho => ?_⟩
      by_cases e : i = p
      · subst e; simp only [upd_same] at ho; exact absurd ho hno
      · simp only [upd_ne _ _ e] at ho ⊢; exact h3 i hi ho
end
end Go.Proofs.Ytdoaipjdldknaaa
