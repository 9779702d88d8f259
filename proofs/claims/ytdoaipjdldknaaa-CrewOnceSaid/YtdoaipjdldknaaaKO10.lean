/-
  CrewOnce: who offers from outside; how it begins, how much is left at most, and how it ends (plain lists; no program).
-/
import Derived.Test.YtdoaipjdldknaaaKO9
namespace Go.Proofs.Ytdoaipjdldknaaa
open Go.RowKit
set_option linter.unusedVariables false
theorem inD_next {T B : Nat} (f : Nat → Int) (h : T ≤ B) : inD T (B + 1) f = inD T B f ++ [f B] := by
  rw [inD_pop f (show T < B + 1 by omega)]; rfl
def remO (n : Nat) : CSt → Int
  | .put v g => 5 - g.ph + 2 * n
  | .ring b => 2 * (n - b.who) - (if b.k = 4 then 1 else 0)
  | _ => 0
theorem sumW_add (k : Nat) (f g : Nat → Int) : sumW k (fun i => f i + g i) = sumW k f + sumW k g := by
  induction k with
  | zero => rfl
  | succ k ih => simp only [sumW, ih]; omega
theorem sumW_mul (a : Int) (k : Nat) (f : Nat → Int) : sumW k (fun i => a * f i) = a * sumW k f := by
  induction k with
  | zero => simp [sumW]
  | succ k ih => simp only [sumW, ih, Int.mul_add]
section
variable {n s p T H c nx : Nat} {r : Int} {L L' : List Int} {o : Nat → CSt} {ph : Nat → Nat} {lf : Nat → Int} {fd ps : List Int} {S S' : Nat → List Int} {M M' : Nat → Int} {st' : CSt} {H' : Nat} {pw : Prop}
theorem off_n (o : Nat → CSt) (x : CSt) (f : Nat → CSt → Int) : sumW n (fun i => f i (upd o n x i)) = sumW n (fun i => f i (o i)) := sumW_eq fun i hi => by rw [upd_ne _ _ (by omega)]
/-- The debt of one worker. -/
theorem ex_le (hr : r = 1 ∨ r = 2) {k : Nat} {l m : Int} {st : CSt} {Sp : List Int} (hsh : Sh n p k st Sp m) (hok : CStOk (crewF n s) 1000 st) :
    ex r k l st ≤ (27 + 2 * r) * wl (fun _ => 1) (hand k st) + (30 + 3 * r) ∧ (own (gopOf n st) → ex r k l st ≤ (27 + 2 * r) * wl (fun _ => 1) (hand k st)) := by
  have hP : ∀ v, Pn r v ≤ 30 + 3 * r := fun v => by unfold Pn Wn; (repeat' split) <;> omega
  have hW : ∀ v, Wh r v ≤ 30 + 3 * r := fun v => by unfold Wh; split; · exact hP _
                                                    · omega
  have ng : ∀ {X : Prop}, own idleG → X := fun h => absurd h idleG_own
  have hz : ∀ a : Int, a * wl (fun _ => 1) [] = 0 := fun a => by simp [wl]
  have ho : ∀ (a x : Int), a * wl (fun _ => 1) [x] = a := fun a x => by simp [wl]
  cases hsh with
  | fpop d rs _ h5 => 
    refine ⟨?_, fun h9 => ng h9⟩
    show (if d.k ≤ 10 then - crp d else 9 - d.k) ≤ _ * wl _ [] + _
    rw [hz]
    have : 0 ≤ crp d := by unfold crp; split <;> (try split) <;> omega
    split <;> omega
  | ftk g rs =>
    have hph := hok.2.1.ph
    show exG (27 + 2 * r) g - 4 ≤ _ * wl _ (handG g) + _ ∧ (own (gsh n g) → exG (27 + 2 * r) g - 4 ≤ _ * wl _ (handG g))
    unfold exG handG
    by_cases e : g.ph = 3 ∨ g.ph = 4
    · rw [if_pos e, if_pos e, ho]; exact ⟨by omega, fun _ => by omega⟩
    · rw [if_neg e, if_neg e, hz]; exact ⟨by omega, fun h9 => absurd h9.2 e⟩
  | fst v d rs =>
    refine ⟨?_, fun h9 => ng h9⟩
    show (if d.k ≤ 10 then - crp d else 9 - d.k) ≤ _ * wl _ [] + _
    rw [hz]
    have := hok.2.1.k
    have : -4 ≤ crp d := by unfold crp; split <;> (try split) <;> omega
    split <;> omega
  | rtk g =>
    have hph := hok.2.1.ph
    show exG (27 + 2 * r) g - 1 ≤ _ * wl _ (handG g) + _ ∧ (own (gsh n g) → exG (27 + 2 * r) g - 1 ≤ _ * wl _ (handG g))
    unfold exG handG
    by_cases e : g.ph = 3 ∨ g.ph = 4
    · rw [if_pos e, if_pos e, ho]; exact ⟨by omega, fun _ => by omega⟩
    · rw [if_neg e, if_neg e, hz]; exact ⟨by omega, fun h9 => absurd h9.2 e⟩
  | fyes v => exact ⟨by rw [ex_yes _ _ _ (by omega)]; have := hW v; show Wh r v ≤ _ * wl _ [v] + _; rw [ho]; omega, fun h9 => ng h9⟩
  | ryes v => exact ⟨by rw [ex_yes _ _ _ (by omega)]; have := hW v; show Wh r v ≤ _ * wl _ [v] + _; rw [ho]; omega, fun h9 => ng h9⟩
  | rup t => exact ⟨by show 21 + 2 * r ≤ _ * wl _ [tv t] + _; rw [ho]; omega, fun h9 => ng h9⟩
  | opu v d h4 => exact ⟨by show Pn r v - (d.k - 1) ≤ _ * wl _ [v] + _; rw [ho]; have := hP v; have := hok.2.1.k; omega, fun h9 => ng h9⟩
  | org k' q => exact ⟨by have := (ex_ring hr 3 l ⟨k', q, 0⟩).2.1; show _ ≤ _ * wl _ [] + _; rw [hz]; omega, fun h9 => ng h9⟩
  | o0 => exact ⟨by have := hP l; show Pn r l ≤ _ * wl _ [] + _; rw [hz]; omega, fun h9 => ng h9⟩
  | f0 => exact ⟨by show 0 ≤ _ * wl _ [] + _; rw [hz]; omega, fun h9 => ng h9⟩
  | fno => exact ⟨by show 0 ≤ _ * wl _ [] + _; rw [hz]; omega, fun h9 => ng h9⟩
  | r0 => exact ⟨by show 0 ≤ _ * wl _ [] + _; rw [hz]; omega, fun h9 => ng h9⟩
  | rsl => exact ⟨by show 0 ≤ _ * wl _ [] + _; rw [hz]; omega, fun h9 => ng h9⟩
  | rno => exact ⟨by show 0 ≤ _ * wl _ [] + _; rw [hz]; omega, fun h9 => ng h9⟩
  | p0 => exact ⟨by show 0 ≤ _ * wl _ [] + _; rw [hz]; omega, fun h9 => ng h9⟩
  | ppl => exact ⟨by show 0 ≤ _ * wl _ [] + _; rw [hz]; omega, fun h9 => ng h9⟩
  | pyes => exact ⟨by show 0 ≤ _ * wl _ [] + _; rw [hz]; omega, fun h9 => ng h9⟩
  | pno => exact ⟨by show 0 ≤ _ * wl _ [] + _; rw [hz]; omega, fun h9 => ng h9⟩
  | oend => exact ⟨by show 0 ≤ _ * wl _ [] + _; rw [hz]; omega, fun h9 => ng h9⟩
theorem Wn_max (hr : r = 1 ∨ r = 2) (l : List Int) : wl (Wn r) l ≤ (27 + 2 * r) * wl (fun _ => 1) l := by
  rw [← wl_const]
  exact wl_le (fun v => by unfold Wn; (repeat' split) <;> omega) l
/-- The debt of all; of all but one who holds a ticket. -/
theorem BI.debt_le (h : BI n s r L o ph lf nx fd ps c T H S M) : Debt n T H r o ph lf S ≤ (27 + 2 * r) * (wl (fun _ => 1) (inD H T tv) + sumW n (fun i => wl (fun _ => 1) (hand (ph i) (o i)) + wl (fun _ => 1) (S i))) + n * (30 + 3 * r) := by
  have hr : r = 1 ∨ r = 2 := by have := h.r12; omega
  unfold Debt
  rw [wl_const (27 + 2 * r)]
  have h1 := sumW_le (n := n) (f := fun i => ex r (ph i) (lf i) (o i) + wl (Wn r) (S i)) (g := fun i => (27 + 2 * r) * (wl (fun _ => 1) (hand (ph i) (o i)) + wl (fun _ => 1) (S i)) + (30 + 3 * r)) (fun i hi => by
    have a := (ex_le (l := lf i) hr (h.ci.sh i hi) (h.ci.ok i (by omega))).1
    have b := Wn_max hr (S i)
    rw [Int.mul_add]
    omega)
  have e6 := sumW_add n (fun i => (27 + 2 * r) * (wl (fun _ => 1) (hand (ph i) (o i)) + wl (fun _ => 1) (S i))) (fun _ => 30 + 3 * r)
  rw [sumW_mul, sumW_const] at e6
  rw [Int.mul_add (27 + 2 * r)]
  omega
theorem BI.debt_own (h : BI n s r L o ph lf nx fd ps c T H S M) (hp : p < n) (ho : own (gopOf n (o p))) : Debt n T H r o ph lf S + (30 + 3 * r) ≤ (27 + 2 * r) * (wl (fun _ => 1) (inD H T tv) + sumW n (fun i => wl (fun _ => 1) (hand (ph i) (o i)) + wl (fun _ => 1) (S i))) + n * (30 + 3 * r) := by
  have hr : r = 1 ∨ r = 2 := by have := h.r12; omega
  unfold Debt
  rw [wl_const (27 + 2 * r)]
  have h1 := sumW_le (n := n) (f := fun i => ex r (ph i) (lf i) (o i) + wl (Wn r) (S i)) (g := fun i => (27 + 2 * r) * (wl (fun _ => 1) (hand (ph i) (o i)) + wl (fun _ => 1) (S i)) + upd (fun _ => 30 + 3 * r) p 0 i) (fun i hi => by
    have a := ex_le (l := lf i) hr (h.ci.sh i hi) (h.ci.ok i (by omega))
    have b := Wn_max hr (S i)
    rw [Int.mul_add]
    by_cases e : i = p
    · subst e; rw [upd_same]; have := a.2 ho; omega
    · rw [upd_ne _ _ e]; omega)
  have e5 := sumW_one (f := upd (fun _ => 30 + 3 * r) p 0) (g := fun _ => 30 + 3 * r) hp (fun i hi hip => upd_ne _ _ hip)
  rw [sumW_const] at e5
  simp only [upd_same] at e5
  have e6 := sumW_add n (fun i => (27 + 2 * r) * (wl (fun _ => 1) (hand (ph i) (o i)) + wl (fun _ => 1) (S i))) (upd (fun _ => 30 + 3 * r) p 0)
  rw [sumW_mul] at e6
  rw [Int.mul_add (27 + 2 * r)]
  omega
theorem BI.obegin (h : BI n s r L o ph lf nx fd ps c T H S M) (ho : o n = idleC) (hnx : nx < 200) (hD : (ps.length : Int) - fd.length < 50) (hc : c ≤ 799) :
    T = nx ∧ BI n s r L (upd o n (.put (tv T) (putOp (crewF n s).gb (tv T)))) ph lf (nx + 1) fd (ps ++ [tv T]) c T H S M := by
  have hn1 := h.ci.n1
  have hn4 := h.ci.n4
  have hT : T = nx := by
    have := h.nxT
    rw [ho] at this
    have e : wl (fun _ => (1 : Int)) (handO idleC) = 0 := rfl
    omega
  have hHT := h.ci.gv.gi.c.le
  have hlen := h.keep (fun _ => 1)
  rw [wl_one, wl_one, ho, show wl (fun _ => (1 : Int)) (handO idleC) = 0 from rfl] at hlen
  have hinD : wl (fun _ => (1 : Int)) (inD H T tv) = (T : Int) - H := by rw [wl_one, inD_len]; omega
  have hsn : 0 ≤ sumW n (fun i => wl (fun _ => (1 : Int)) (hand (ph i) (o i)) + wl (fun _ => (1 : Int)) (S i)) := sumW_nonneg fun i hi => by
    have := wl_nonneg (w := fun _ => (1 : Int)) (fun _ => by omega) (hand (ph i) (o i))
    have := wl_nonneg (w := fun _ => (1 : Int)) (fun _ => by omega) (S i)
    omega
  have hdl := h.debt_le
  have hdb := h.debt
  rw [ho, show exO r idleC = 0 from rfl] at hdb
  have hroom : Room n T H (fun j => gopOf n (upd o n (.put (tv T) (putOp (crewF n s).gb (tv T))) j)) := by
    by_cases h64 : T < 64
    · exact .inl h64
    · have hT64 : T = 64 := by
        rcases h.r12 with ⟨e, e'⟩ | ⟨e, e'⟩
        · subst e; subst e'; omega
        · subst e; omega
      refine .inr ⟨hT64, by omega, fun i hi hown => ?_⟩
      simp only [upd_ne _ _ (show i ≠ n by omega)] at hown ⊢
      intro ht0
      have hdo := h.debt_own hi hown
      rcases h.r12 with ⟨e, e'⟩ | ⟨e, e'⟩
      · subst e; subst e'; omega
      · subst e; omega
  refine ⟨hT, h.ci.begin_put ho, h.r12, fun x hx => ?_, fun q hq hq3 hqi => ?_, fun w => ?_, ?_, by omega, ?_, ?_, fun hb => ?_, fun v g hov hg => hroom⟩
  · rcases List.mem_append.1 hx with hx | hx
    · exact h.val x hx
    · rw [List.mem_singleton] at hx; subst hx; unfold tv; omega
  · rw [upd_ne _ _ (by omega)] at hqi; exact h.lfv q hq hq3 hqi
  · have := h.keep w
    rw [ho, show wl w (handO idleC) = 0 from rfl] at this
    rw [wl_app, upd_same, off_n o _ (fun i x => wl w (hand (ph i) x) + wl w (S i)), show wl w (handO (.put (tv T) (putOp (crewF n s).gb (tv T)))) = wl w [tv T] from by simp [handO, putOp]]
    omega
  · rw [upd_same, show wl (fun _ => (1 : Int)) (handO (.put (tv T) (putOp (crewF n s).gb (tv T)))) = 1 from by simp [handO, putOp, wl]]; omega
  · rw [upd_same, show exO r (.put (tv T) (putOp (crewF n s).gb (tv T))) = 32 + 3 * r from by simp [exO, putOp]; omega]
    unfold Debt at hdb ⊢
    rw [off_n o _ (fun i x => ex r (ph i) (lf i) x + wl (Wn r) (S i))]
    rw [show ((nx + 1 : Nat) : Int) = (nx : Int) + 1 by omega, Int.mul_add, Int.mul_one]
    omega
  · have hpn : sumW n (fun i => pend (ph i) (o i)) ≤ n := by
      have := sumW_le (n := n) (f := fun i => pend (ph i) (o i)) (g := fun _ => 1) (fun i hi => by unfold pend; split <;> (try split) <;> omega)
      rw [sumW_const] at this
      omega
    rw [upd_same, off_n o _ (fun i x => wl (fun _ => 1) (hand (ph i) x) + wl (fun _ => 1) (S i)), off_n o _ (fun i x => pend (ph i) x), show wl (fun _ => (1 : Int)) (handO (.put (tv T) (putOp (crewF n s).gb (tv T)))) = 1 from by simp [handO, putOp, wl]]
    omega
  · rcases h.wake (fun w hw => by have := hb w hw; rw [upd_ne _ _ (by omega)] at this; exact this) with e | e
    · exact .inl e
    · rw [ho] at e
      rcases e with e | ⟨b, e⟩
      · exact absurd e idleG_own
      · unfold idleC at e; cases e
theorem BI.ofinish (h : BI n s r L o ph lf nx fd ps c T H S M) {a v : Int} (ho : o n = .over a v) : BI n s r L (upd o n idleC) ph lf nx fd ps c T H S M := by
  have z1 : ∀ w, wl w (handO (.over a v)) = 0 := fun w => rfl
  refine ⟨h.ci.ofinish ho, h.r12, h.val, fun q hq hq3 hqi => ?_, fun w => ?_, ?_, h.nx200, ?_, ?_, fun hb => ?_, fun v g hov hg => ?_⟩
  · rw [upd_ne _ _ (by omega)] at hqi; exact h.lfv q hq hq3 hqi
  · have := h.keep w
    rw [ho] at this
    rw [upd_same, off_n o _ (fun i x => wl w (hand (ph i) x) + wl w (S i))]
    exact this
  · have := h.nxT
    rw [ho] at this
    rw [upd_same]
    exact this
  · have := h.debt
    rw [ho] at this
    unfold Debt at this ⊢
    rw [upd_same, off_n o _ (fun i x => ex r (ph i) (lf i) x + wl (Wn r) (S i))]
    exact this
  · have := h.few
    rw [ho] at this
    rw [upd_same, off_n o _ (fun i x => wl (fun _ => 1) (hand (ph i) x) + wl (fun _ => 1) (S i)), off_n o _ (fun i x => pend (ph i) x)]
    exact this
  · rcases h.wake (fun w hw => by have := hb w hw; rw [upd_ne _ _ (by omega)] at this; exact this) with e | e
    · exact .inl e
    · rw [ho] at e
      rcases e with e | ⟨b, e⟩
      · exact absurd e idleG_own
      · cases e
  · rw [upd_same] at hov; unfold idleC at hov; cases hov
theorem BI.ostep (h : BI n s r L o ph lf nx fd ps c T H S M) (h0 : (o n).out = 0) :
    ∃ st' T' M', (cstep (crewF n s) L (o n)).2 = st' ∧ BI n s r (cstep (crewF n s) L (o n)).1 (upd o n st') ph lf nx fd ps (c + 1) T' H S M' ∧ remO n st' + 1 ≤ remO n (o n) ∧ 0 ≤ remO n st' := by
  have hn1 := h.ci.n1
  have hHT := h.ci.gv.gi.c.le
  have hr12 : r = 1 ∨ r = 2 := by have := h.r12; omega
  have hT2 : T + 1 ≤ 100000 := by
    have := h.nxT
    have := h.nx200
    have := wl_nonneg (w := fun _ => (1 : Int)) (fun _ => by omega) (handO (o n))
    omega
  obtain ⟨st', T', M', e1, e2, e3⟩ := h.ci.ostep h0 (fun v g hv hg => h.room v g hv (.inr (.inl hg))) hT2
  have hsho := h.ci.sho
  have hpt := h.ci.gv.pt
  have hnb : ∀ st, o n = st → (¬ busy n st) → (∀ w, w < n → blind (ph w) (M w) (o w)) → T = H := fun st hst hb hbl => by
    rcases h.wake hbl with e | e
    · exact e
    · rw [hst] at e; exact absurd e hb
  obtain ⟨st, hst⟩ : ∃ st, o n = st := ⟨_, rfl⟩
  rw [hst] at e2 hsho
  have hbb : (∀ w, w < n → blind (ph w) (M' w) (upd o n st' w)) → ∀ w, w < n → blind (ph w) (M' w) (o w) := fun hb w hw => by have := hb w hw; rw [upd_ne _ _ (by omega)] at this; exact this
  -- what is left when the numbers are known
  have key : (∀ w, wl w (inD H T' tv) + wl w (handO st') = wl w (inD H T tv) + wl w (handO (o n))) → (T' : Int) + wl (fun _ => 1) (handO st') = T + wl (fun _ => 1) (handO (o n)) → exO r (o n) + wl (fun _ => 27 + 2 * r) (inD H T tv) ≤ exO r st' + wl (fun _ => 27 + 2 * r) (inD H T' tv) + 1 →
      ((∀ w, w < n → blind (ph w) (M' w) (o w)) → T' = H ∨ busy n st') → (∀ v g, st' = .put v g → g.ph = 0 ∨ g.ph = 1 ∨ g.ph = 2 → Room n T' H (fun j => gopOf n (upd o n st' j))) →
      BI n s r (cstep (crewF n s) L (o n)).1 (upd o n st') ph lf nx fd ps (c + 1) T' H S M' := fun k1 k2 k3 k4 k5 => by
    refine ⟨e3, h.r12, h.val, fun q hq hq3 hqi => ?_, fun w => ?_, ?_, h.nx200, ?_, ?_, fun hb => ?_, fun v g hov hg => ?_⟩
    · rw [upd_ne _ _ (by omega)] at hqi; exact h.lfv q hq hq3 hqi
    · have := h.keep w
      have := k1 w
      rw [upd_same, off_n o _ (fun i x => wl w (hand (ph i) x) + wl w (S i))]
      omega
    · have := h.nxT
      rw [upd_same]
      omega
    · have := h.debt
      unfold Debt at this ⊢
      rw [upd_same, off_n o _ (fun i x => ex r (ph i) (lf i) x + wl (Wn r) (S i))]
      omega
    · have := h.few
      have := k1 (fun _ => 1)
      rw [upd_same, off_n o _ (fun i x => wl (fun _ => 1) (hand (ph i) x) + wl (fun _ => 1) (S i)), off_n o _ (fun i x => pend (ph i) x)]
      omega
    · rw [upd_same]; exact k4 (hbb hb)
    · rw [upd_same] at hov; exact k5 v g hov hg
  refine ⟨st', T', M', e1, ?_⟩
  cases e2 with
  | put v g g' _ h1 h2 h3 =>
    have hv : g.v = v := by cases hsho with | put _ _ e => exact e
    have hout : g.out = 0 := by rw [hst] at h0; have := h.ci.ok n (Nat.le_refl _); rw [hst] at this; exact this.1
    simp only [hst] at hpt
    have hpt := hpt hout
    have hsame : ∀ x : Nat → CSt, (∀ i, i < n → x i = o i) → Room n T H (fun j => gopOf n (o j)) → Room n T H (fun j => gopOf n (x j)) := fun x hx hr => by
      rcases hr with a | ⟨a, b, d⟩
      · exact .inl a
      · refine .inr ⟨a, b, fun i hi ho => ?_⟩
        simp only [hx i hi] at ho ⊢
        exact d i hi ho
    have hph : (gsh n g).ph = g.ph := rfl
    have hph' : (gsh n g').ph = g'.ph := rfl
    generalize hgx : gsh n g' = x at h1
    have hx : g'.ph = x.ph := by rw [← hgx]; rfl
    have hx0 : g'.out = x.out := by rw [← hgx]; rfl
    have hnob : g.ph ≠ 3 → g.ph ≠ 4 → ¬ busy n (.put v g) := fun a b e => by
      rcases e with e | ⟨b', e⟩
      · exact own_no (x := gsh n g) a b e
      · cases e
    cases h1 with
    | look a =>
      have a' : g.ph = 0 := a
      have b' : g'.ph = 1 := hx
      exact ⟨key (fun w => by rw [hst]; simp [handO, a', b']) (by rw [hst]; simp [handO, a', b']) (by rw [hst]; simp [exO, a', b'] <;> omega) (fun hb => .inl (hnb _ hst (hnob (by omega) (by omega)) hb)) (fun v2 g2 e _ => hsame _ (fun i hi => upd_ne _ _ (by omega)) (h.room v g hst (.inl a'))), by rw [hst]; simp [remO, a', b'] <;> omega, by simp [remO, b'] <;> omega⟩
    | ready a =>
      have a' : g.ph = 1 := a
      have b' : g'.ph = 2 := hx
      exact ⟨key (fun w => by rw [hst]; simp [handO, a', b']) (by rw [hst]; simp [handO, a', b']) (by rw [hst]; simp [exO, a', b'] <;> omega) (fun hb => .inl (hnb _ hst (hnob (by omega) (by omega)) hb)) (fun v2 g2 e _ => hsame _ (fun i hi => upd_ne _ _ (by omega)) (h.room v g hst (.inr (.inl a')))), by rw [hst]; simp [remO, a', b'] <;> omega, by simp [remO, b'] <;> omega⟩
    | full a f => exact f.elim
    | swap a =>
      have a' : g.ph = 2 := a
      have b' : g'.ph = 3 := hx
      have hvT : v = tv T := by rw [← hv]; exact hpt.2.2 (own_no (x := gsh n g) (by show g.ph ≠ 3; omega) (by show g.ph ≠ 4; omega))
      have hbz : busy n (.put v g') := .inl ⟨h2, .inl b'⟩
      exact ⟨key (fun w => by rw [hst, inD_next tv hHT, wl_app]; simp [handO, a', b', hvT, wl]) (by rw [hst]; simp [handO, a', b', wl]) (by rw [hst, inD_next tv hHT, wl_app]; simp [exO, a', b', wl] <;> omega) (fun hb => .inr hbz) (fun v2 g2 e hg2 => by injection e with _ e; subst e; omega), by rw [hst]; simp [remO, a', b'] <;> omega, by simp [remO, b'] <;> omega⟩
    | value a =>
      have a' : g.ph = 3 := a
      have b' : g'.ph = 4 := hx
      have hbz : busy n (.put v g') := .inl ⟨h2, .inr b'⟩
      exact ⟨key (fun w => by rw [hst]; simp [handO, a', b']) (by rw [hst]; simp [handO, a', b']) (by rw [hst]; simp [exO, a', b'] <;> omega) (fun hb => .inr hbz) (fun v2 g2 e hg2 => by injection e with _ e; subst e; omega), by rw [hst]; simp [remO, a', b'] <;> omega, by simp [remO, b'] <;> omega⟩
    | pass a =>
      rw [h2] at hx0
      exact absurd hx0 (fun e => by have e' : (0 : Int) = 1 := e; omega)
  | done v g h1 =>
    exact ⟨key (fun w => by rw [hst]; simp [handO, h1]) (by rw [hst]; simp [handO, h1]) (by rw [hst]; simp [exO, h1, ringB] <;> omega) (fun hb => .inr (.inr ⟨_, rfl⟩)) (fun v2 g2 e _ => by cases e), by rw [hst]; simp [remO, h1, ringB] <;> omega, by simp [remO, ringB] <;> omega⟩
  | ring k q _ _ h1 h2 =>
    have ha := ex_ring hr12 0 0 ⟨k, q, 0⟩
    have hqi : ((q : Nat) : Int) + 1 ≤ n := by omega
    have hnn : (2 * ((n : Int) - (q : Nat)) - (if k = 4 then 1 else 0)) ≥ 1 := by split <;> omega
    cases h2 with
    | seen e1 e2 =>
      have hb := ex_ring hr12 0 0 ⟨4, q, 0⟩
      exact ⟨key (fun w => by rw [hst]; rfl) (by rw [hst]; rfl) (by rw [hst]; show ex r 0 0 (.ring ⟨k, q, 0⟩) + _ ≤ ex r 0 0 (.ring ⟨4, q, 0⟩) + _ + 1; omega) (fun hb => .inr (.inr ⟨_, rfl⟩)) (fun v2 g2 e _ => by cases e), by rw [hst]; simp [remO, e1] <;> omega, by simp [remO] <;> omega⟩
    | on e1 e2 =>
      have hb := ex_ring hr12 0 0 ⟨3, (q + 1 : Nat), 0⟩
      refine ⟨key (fun w => by rw [hst]; rfl) (by rw [hst]; rfl) (by rw [hst]; show ex r 0 0 (.ring ⟨k, q, 0⟩) + _ ≤ ex r 0 0 (.ring ⟨3, (q + 1 : Nat), 0⟩) + _ + 1; omega) (fun hb => .inr (.inr ⟨_, rfl⟩)) (fun v2 g2 e _ => by cases e), ?_, by simp [remO] <;> omega⟩
      rw [hst]
      show 2 * ((n : Int) - ((q + 1 : Nat) : Int)) - (if (3 : Nat) = 4 then 1 else 0) + 1 ≤ 2 * ((n : Int) - (q : Nat)) - (if k = 4 then 1 else 0)
      rw [if_neg (show ¬ (3 : Nat) = 4 by decide)]
      split <;> omega
    | last e1 e2 =>
      refine ⟨key (fun w => by rw [hst]; rfl) (by rw [hst]; rfl) ?_ (fun hb => by have := (hb q h1).1; omega) (fun v2 g2 e _ => by cases e), ?_, by show (0 : Int) ≤ 0; omega⟩
      · rw [hst]
        show ex r 0 0 (.ring ⟨k, q, 0⟩) + _ ≤ 0 + _ + 1
        by_cases e : q = 0
        · have := h.r12; omega
        · have := ha.2.2 (.inr (by show ((q : Nat) : Int) ≠ 0; omega)); omega
      · rw [hst]; show (0 : Int) + 1 ≤ 2 * ((n : Int) - (q : Nat)) - (if k = 4 then 1 else 0); omega
    | rouse e1 e2 =>
      refine ⟨key (fun w => by rw [hst]; rfl) (by rw [hst]; rfl) ?_ (fun hb => by have := (hb q h1).1; rw [upd_same] at this; omega) (fun v2 g2 e _ => by cases e), ?_, by show (0 : Int) ≤ 0; omega⟩
      · rw [hst]
        show ex r 0 0 (.ring ⟨k, q, 0⟩) + _ ≤ 0 + _ + 1
        have := ha.2.2 (.inl (by show k ≠ 3; omega)); omega
      · rw [hst]; show (0 : Int) + 1 ≤ 2 * ((n : Int) - (q : Nat)) - (if k = 4 then 1 else 0); omega
end
end Go.Proofs.Ytdoaipjdldknaaa
