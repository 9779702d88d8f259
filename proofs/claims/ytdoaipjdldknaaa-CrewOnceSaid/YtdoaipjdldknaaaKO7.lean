/-
  CrewOnce: a step of who offers from outside; how operations are begun, and what becomes of one that is over (plain lists; no program).
-/
import Derived.Test.YtdoaipjdldknaaaKO4
import Derived.Test.YtdoaipjdldknaaaKO6
namespace Go.Proofs.Ytdoaipjdldknaaa
open Go.RowKit
set_option linter.unusedVariables false
/-- What a step of who offers from outside does. -/
inductive OS (n s T : Nat) (M : Nat → Int) : CSt → CSt → Nat → (Nat → Int) → Prop
  | put (v : Int) (g g' : Gop) (T' : Nat) : PtS T False (gsh n g) (gsh n g') T' → g'.out = 0 → g'.v = g.v → OS n s T M (.put v g) (.put v g') T' M
  | done (v : Int) (g : Gop) : g.ph = 4 → OS n s T M (.put v g) (.ring ringB) T M
  | ring (k q : Nat) (st' : CSt) (M' : Nat → Int) : q < n → RgS n M k q st' M' → OS n s T M (.ring ⟨k, q, 0⟩) st' T M'
section
variable {n s p T H b : Nat} {L L' : List Int} {o : Nat → CSt} {ph : Nat → Nat} {S S' : Nat → List Int} {M M' : Nat → Int} {st' : CSt}
theorem CI.put_ (h : CI n s L o ph T H S M b) {g : Gop} (hg : gopOf n (o n) = gsh n g) (h0 : g.out = 0) (hok : GopOk (crewF n s).gb 1000 g) {r : List Int × Gop} (e : gstep (crewF n s).gb (crewF n s).actors L g = r) :
    ∃ T', PtS T (tn 64 (sub L (crewF n s).gb 130) T < qn 64 T) (gsh n g) (gsh n r.2) T' ∧ Agr L r.1 (crewF n s).gb 130 ∧ r.1.length = 1000 ∧ GV n T' H (sub r.1 (crewF n s).gb 130) (upd (fun j => gopOf n (o j)) n (gsh n r.2)) := by
  have egb := cf_gb n s
  have hx := h.gv.gi.ok n (by omega)
  have hah := hx.ah
  simp only [hg] at hah
  have hcell : g.cell = (crewF n s).gb ∨ g.cell = ((crewF n s).gb : Int) + 1 := by
    rw [egb]
    rcases hah with ⟨-, q⟩ | ⟨-, q⟩
    · have q' : g.cell - (n : Int) = 0 := q
      exact .inl (by omega)
    · have q' : g.cell - (n : Int) = 1 := q
      exact .inr (by omega)
  obtain ⟨q1, q2, q3⟩ := gstep_sub (crewF n s).gb 64 (by omega) L g 1000 hok hcell
  have e' : gstep (crewF n s).gb (64 : Nat) L g = r := e
  rw [e'] at q1 q2 q3
  obtain ⟨T', t1, t2⟩ := h.gv.put_step (by have := h.tb; omega) (by show (gopOf n (o n)).out = 0; rw [hg]; exact h0)
  rw [egb] at q1 q2
  have e2 : gstep 0 (64 : Nat) (sub L (crewF n s).gb 130) (gsh n g) = (sub r.1 (crewF n s).gb 130, gsh n r.2) := by
    rw [egb]
    exact Prod.ext q2.symm q1.symm
  simp only [hg] at t1 t2
  rw [e2] at t1 t2
  exact ⟨T', t1, q3, by rw [q3.len]; exact h.len, t2⟩
theorem CI.ostep (h : CI n s L o ph T H S M b) (h0 : (o n).out = 0) (hr : ∀ v g, o n = .put v g → g.ph = 1 → Room n T H (fun j => gopOf n (o j))) (hT : T + 1 ≤ 100000) :
    ∃ st' T' M', (cstep (crewF n s) L (o n)).2 = st' ∧ OS n s T M (o n) st' T' M' ∧ CI n s (cstep (crewF n s) L (o n)).1 (upd o n st') ph T' H S M' (b + 1) := by
  have hok := h.ok n (Nat.le_refl _)
  have hsh := h.sho
  have hu' := cstep_u h.u hok
  have hok' := cstep_ok (F := crewF n s) (L := L) (st := o n) (by rw [h.len]; exact h.fit) h.u (by rw [h.len]; exact hok)
  rw [h.len] at hok'
  have egb := cf_gb n s
  obtain ⟨st, hst⟩ : ∃ st, o n = st := ⟨_, rfl⟩
  rw [hst] at h0 hok hok' hu' hsh ⊢
  cases hsh with
  | idle => exact absurd h0 (by decide)
  | over => exact absurd h0 (by decide)
  | put v g hgv0 =>
    obtain ⟨rr, hrr⟩ : ∃ rr, gstep (crewF n s).gb (crewF n s).actors L g = rr := ⟨_, rfl⟩
    obtain ⟨T', ht, q3, c1, hgv⟩ := h.put_ (g := g) (by rw [hst]; rfl) hok.1 hok.2.1 hrr
    rw [cs_puto hok.1 hrr] at hu' hok' ⊢
    obtain ⟨L', g'⟩ := rr
    dsimp only at ht q3 c1 hgv hu' hok' ⊢
    obtain ⟨-, c2, c4⟩ := h.gate_cells q3
    have hmk : ∀ w, w < n → at_ L' (w : Int) = M w ∧ (M w = 0 ∨ M w = 1) := fun w hw => by rw [c2 w hw]; exact h.mks w hw
    have hdq := h.dq_none (p := n) (b' := b + 1) (by omega) c4 (fun i => by rw [hst]; rfl)
    have hT' : T' ≤ 100000 := by
      generalize gsh n g' = x at ht
      have : T' = T ∨ T' = T + 1 := by cases ht <;> simp
      omega
    have hgo : g'.out = (gsh n g').out := rfl
    have hgvv : g'.v = (gsh n g').v := rfl
    by_cases z : g'.out = 0
    · rw [if_pos z] at hok' ⊢
      have hv' : g'.v = g.v := by
        rw [hgvv]
        generalize gsh n g' = x at ht
        cases ht <;> rfl
      refine ⟨_, T', M, rfl, .put v g g' T' ?_ z hv', h.next (Nat.le_refl _) c1 hu' hok' hmk hgv hdq h.S1 (fun e => by omega) (fun j hj hjp => h.sh j hj) (fun _ => .put v g' (hv'.trans hgv0)) hT'⟩
      generalize hgx : gsh n g' = x at ht
      have hz2 : x.out = 0 := by rw [← hgx]; exact z
      cases ht with
      | look a1 => exact .look a1
      | ready a1 => exact .ready a1
      | full a1 => simp at hz2
      | swap a1 => exact .swap a1
      | value a1 => exact .value a1
      | pass a1 => simp at hz2
    · rw [if_neg z] at hok' ⊢
      have hg2 := (hgv.idle (p := n) (Nat.le_refl _) (by rw [upd_same]; exact own_over z))
      rw [upd_upd'] at hg2
      generalize hgx : gsh n g' = x at ht
      have hgo : g'.out = x.out := by rw [← hgx]; rfl
      cases ht with
      | look a1 => exact absurd (hgo.trans hok.1) z
      | ready a1 => exact absurd (hgo.trans hok.1) z
      | swap a1 => exact absurd (hgo.trans hok.1) z
      | value a1 => exact absurd (hgo.trans hok.1) z
      | full a1 a2 => exact absurd a2 (h.gv.room (hr v g hst a1))
      | pass a1 =>
        have hgo' : g'.out = 1 := hgo
        rw [if_neg (by omega)] at hok' ⊢
        exact ⟨_, T, M, rfl, .done v g a1, h.next (Nat.le_refl _) c1 hu' hok' hmk hg2 (fun i hi => hdq i hi) h.S1 (fun e => by omega) (fun j hj hjp => h.sh j hj) (fun _ => .ring 3 0 (.inl rfl) h.n1) h.tb⟩
  | ring k' q hk34 hq =>
    obtain ⟨st', M', e1, e2, q3, e4⟩ := ring_step (s := s) h.len h.n4 hk34 hq h.mks
    obtain ⟨c1, c3, c4⟩ := h.bell_cells q3
    have hM : ∀ j, j < n → j ≠ n → Sh n j (ph j) (o j) (S j) (M' j) := fun j hj hjp => by
      cases e2 with
      | seen => exact h.sh j hj
      | on => exact h.sh j hj
      | last => exact h.sh j hj
      | rouse =>
        by_cases e : j = q
        · subst e; rw [upd_same]; exact (h.sh j hj).rouse
        · rw [upd_ne _ _ e]; exact h.sh j hj
    have hst' : gopOf n st' = idleG ∧ (∀ i, onD i st' = none) ∧ ShO n st' := by
      cases e2 with
      | seen => exact ⟨rfl, fun _ => rfl, .ring 4 q (.inr rfl) hq⟩
      | on _ hq2 => exact ⟨rfl, fun _ => rfl, .ring 3 (q + 1) (.inl rfl) hq2⟩
      | last => exact ⟨rfl, fun _ => rfl, .over⟩
      | rouse => exact ⟨rfl, fun _ => rfl, .over⟩
    rw [e1] at hok'
    have hdq := h.dq_none (p := n) (b' := b + 1) (by omega) c4 (fun i => by rw [hst]; rfl)
    exact ⟨st', T, M', e1, .ring k' q st' M' hq e2, h.next (Nat.le_refl _) c1 hu' hok' e4 (by rw [hst'.1]; exact h.gv_off c3 (by rw [hst]; rfl)) (fun i hi => by rw [hst'.2.1 i]; exact hdq i hi) h.S1 (fun e => by omega) hM (fun _ => hst'.2.2) h.tb⟩
/-- An operation is begun, or forgotten: what is on the gate and the deques. -/
theorem CI.turn (h : CI n s L o ph T H S M b) (hp : p ≤ n) {k' : Nat} (hok : CStOk (crewF n s) 1000 st') (hgv : GV n T H (sub L (crewF n s).gb 130) (upd (fun j => gopOf n (o j)) p (gopOf n st'))) (hdq : ∀ i, i < n → DQ n s (sub L ((crewF n s).db i) (2 + s)) (upd (fun j => onD i (o j)) p (onD i st')) i (S i) b)
    (hsh : p < n → Sh n p k' st' (S p) (M p)) (hsho : p = n → ShO n st') : CI n s L (upd o p st') (upd ph p k') T H S M b := by
  refine ⟨h.n1, h.n4, h.s1, h.s4, h.len, h.u, fun j hj => ?_, h.mks, by rw [fun_gop]; exact hgv, fun i hi => by rw [fun_onD]; exact hdq i hi, h.S1, fun j hj => ?_, ?_, h.tb⟩
  · by_cases e : j = p
    · subst e; rw [upd_same]; exact hok
    · rw [upd_ne _ _ e]; exact h.ok j hj
  · by_cases e : j = p
    · subst e; rw [upd_same, upd_same]; exact hsh hj
    · rw [upd_ne _ _ e, upd_ne _ _ e]; exact h.sh j hj
  · by_cases e : n = p
    · subst e; rw [upd_same]; exact hsho rfl
    · rw [upd_ne _ _ e]; exact h.sho
theorem CI.gv_same (h : CI n s L o ph T H S M b) (h0 : gopOf n (o p) = idleG) : GV n T H (sub L (crewF n s).gb 130) (upd (fun j => gopOf n (o j)) p idleG) := by rw [upd_id _ _ _ h0]; exact h.gv
theorem CI.dq_same (h : CI n s L o ph T H S M b) (h0 : ∀ i, onD i (o p) = none) : ∀ i, i < n → DQ n s (sub L ((crewF n s).db i) (2 + s)) (upd (fun j => onD i (o j)) p none) i (S i) b := fun i hi => by rw [upd_id _ _ _ (h0 i)]; exact h.dq i hi
theorem CI.finish (h : CI n s L o ph T H S M b) (hp : p < n) {a v : Int} (ho : o p = .over a v) {k' : Nat} (hsh : Sh n p k' idleC (S p) (M p)) : CI n s L (upd o p idleC) (upd ph p k') T H S M b :=
  h.turn (by omega) ⟨by decide, u64_zero⟩ (h.gv_same (by rw [ho]; rfl)) (h.dq_same (fun i => by rw [ho]; rfl)) (fun _ => hsh) (fun e => by omega)
theorem upd_self' {α : Type} (o : Nat → α) (p : Nat) : upd o p (o p) = o := upd_id _ _ _ rfl
theorem CI.ofinish (h : CI n s L o ph T H S M b) {a v : Int} (ho : o n = .over a v) : CI n s L (upd o n idleC) ph T H S M b := by
  have := h.turn (p := n) (k' := ph n) (st' := idleC) (Nat.le_refl _) ⟨by decide, u64_zero⟩ (h.gv_same (by rw [ho]; rfl)) (h.dq_same (fun i => by rw [ho]; rfl)) (fun e => by omega) (fun _ => .idle)
  rw [upd_self'] at this
  exact this
theorem CI.begin_find (h : CI n s L o ph T H S M b) (hp : p < n) (ho : o p = idleC) (hk : ph p = 0) {rs : List Src} (hr : StL n p rs) (hl : rs.length ≤ 3) : CI n s L (upd o p (.src (.dq p popOp) (.take :: rs))) ph T H S M b := by
  have hsh := h.sh p hp
  rw [ho, hk] at hsh
  have hm : M p = 0 := by
    obtain ⟨Sp, hSp⟩ : ∃ x, S p = x := ⟨_, rfl⟩
    obtain ⟨m, hm⟩ : ∃ x, M p = x := ⟨_, rfl⟩
    rw [hSp, hm] at hsh
    rw [hm]
    generalize hi : idleC = st at hsh
    cases hsh <;> first | rfl | (cases hi)
  have := h.turn (p := p) (k' := ph p) (st' := .src (.dq p popOp) (.take :: rs)) (by omega) ⟨rfl, popOp_ok, hp, fun x hx => by
      rcases List.mem_cons.1 hx with rfl | hx
      · trivial
      · obtain ⟨v, rfl, hv, -⟩ := hr x hx; exact hv⟩ (h.gv_same (by rw [ho]; rfl)) (fun i hi => by
      rw [onD_src]
      by_cases e : i = p
      · subst e; rw [if_pos rfl]; exact (h.dq i hi).pop (by rw [ho]; rfl)
      · rw [if_neg e, upd_id _ _ _ (by rw [ho]; rfl)]; exact h.dq i hi) (fun _ => by rw [hk, hm]; exact .fpop _ rs _ (by show (5 : Int) ≤ 5; omega) (fun e => by have e' : (5 : Int) = 8 := e; omega) hr hl) (fun e => by omega)
  rw [upd_self'] at this
  exact this
theorem CI.begin_rest (h : CI n s L o ph T H S M b) (hp : p < n) (ho : o p = idleC) (hk : ph p = 1) : CI n s L (upd o p (.sleep p ⟨0, p, 0⟩)) ph T H S M b := by
  have hsh := h.sh p hp
  rw [ho, hk] at hsh
  have hm : M p = 0 ∧ S p = [] := by
    obtain ⟨Sp, hSp⟩ : ∃ x, S p = x := ⟨_, rfl⟩
    obtain ⟨m, hm⟩ : ∃ x, M p = x := ⟨_, rfl⟩
    rw [hSp, hm] at hsh
    rw [hm, hSp]
    generalize hi : idleC = st at hsh
    cases hsh <;> first | exact ⟨rfl, rfl⟩ | (cases hi)
  have := h.turn (p := p) (k' := ph p) (st' := .sleep p ⟨0, p, 0⟩) (by omega) ⟨rfl, bop_new (F := crewF n s) 0 (.inl rfl) hp, hp⟩ (h.gv_same (by rw [ho]; rfl)) (h.dq_same (fun i => by rw [ho]; rfl)) (fun _ => by rw [hk, hm.1, hm.2]; exact .rsl) (fun e => by omega)
  rw [upd_self'] at this
  exact this
theorem CI.begin_poll (h : CI n s L o ph T H S M b) (hp : p < n) (ho : o p = idleC) (hk : ph p = 2) : CI n s L (upd o p (.poll ⟨2, p, 0⟩)) ph T H S M b := by
  have hsh := h.sh p hp
  rw [ho, hk] at hsh
  have hm : S p = [] := by
    obtain ⟨Sp, hSp⟩ : ∃ x, S p = x := ⟨_, rfl⟩
    obtain ⟨m, hm⟩ : ∃ x, M p = x := ⟨_, rfl⟩
    rw [hSp, hm] at hsh
    rw [hSp]
    generalize hi : idleC = st at hsh
    cases hsh <;> first | rfl | (cases hi)
  have := h.turn (p := p) (k' := ph p) (st' := .poll ⟨2, p, 0⟩) (by omega) ⟨rfl, bop_new (F := crewF n s) 2 (.inr (.inr (.inl rfl))) hp⟩ (h.gv_same (by rw [ho]; rfl)) (h.dq_same (fun i => by rw [ho]; rfl)) (fun _ => by rw [hk, hm]; exact .ppl _) (fun e => by omega)
  rw [upd_self'] at this
  exact this
theorem CI.begin_offer (h : CI n s L o ph T H S M b) (hp : p < n) (ho : o p = idleC) (hk : ph p = 3) {v : Int} (hv : U64 v) : CI n s L (upd o p (.push p v (pushOp v))) ph T H S M b := by
  have hsh := h.sh p hp
  rw [ho, hk] at hsh
  have hm : M p = 0 ∧ S p = [] := by
    obtain ⟨Sp, hSp⟩ : ∃ x, S p = x := ⟨_, rfl⟩
    obtain ⟨m, hm⟩ : ∃ x, M p = x := ⟨_, rfl⟩
    rw [hSp, hm] at hsh
    rw [hm, hSp]
    generalize hi : idleC = st at hsh
    cases hsh <;> first | exact ⟨rfl, rfl⟩ | (cases hi)
  have := h.turn (p := p) (k' := ph p) (st' := .push p v (pushOp v)) (by omega) ⟨rfl, pushOp_ok hv, hv, hp⟩ (h.gv_same (by rw [ho]; rfl)) (fun i hi => by
      rw [onD_push]
      by_cases e : i = p
      · subst e; rw [if_pos rfl]; exact (h.dq i hi).push (by rw [ho]; rfl) v
      · rw [if_neg e, upd_id _ _ _ (by rw [ho]; rfl)]; exact h.dq i hi) (fun _ => by rw [hk, hm.1, hm.2]; exact .opu v _ (by show (1 : Int) ≤ 4; omega) rfl) (fun e => by omega)
  rw [upd_self'] at this
  exact this
theorem tv_u64 {t : Nat} (h : t ≤ 1000000) : U64 (tv t) := by unfold U64 tv; omega
theorem CI.begin_put (h : CI n s L o ph T H S M b) (ho : o n = idleC) : CI n s L (upd o n (.put (tv T) (putOp (crewF n s).gb (tv T)))) ph T H S M b := by
  have hT := h.tb
  have := h.turn (p := n) (k' := ph n) (st' := .put (tv T) (putOp (crewF n s).gb (tv T))) (Nat.le_refl _) ⟨rfl, h.fit.put (tv_u64 (by omega)), tv_u64 (by omega)⟩ (by
      show GV n T H _ (upd _ n (gsh n (putOp (crewF n s).gb (tv T))))
      rw [cf_gb, gsh_put]
      have := h.gv.put (by show ¬ own (gopOf n (o n)); rw [ho]; exact own_over (by show (4 : Int) ≠ 0; decide)) (by omega)
      rw [cf_gb] at this
      exact this) (h.dq_same (fun i => by rw [ho]; rfl)) (fun e => by omega) (fun _ => .put _ _ rfl)
  rw [upd_self'] at this
  exact this
end
end Go.Proofs.Ytdoaipjdldknaaa
