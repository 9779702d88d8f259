/-
  CrewOnce: what a worker begins and what becomes of it, who offers from outside, and how it ends (plain lists; no program).
-/
import Derived.Test.YtdoaipjdldknaaaKO8
namespace Go.Proofs.Ytdoaipjdldknaaa
open Go.RowKit
set_option linter.unusedVariables false
theorem wl_nonneg {w : Int → Int} (h : ∀ x, 0 ≤ w x) (l : List Int) : 0 ≤ wl w l := by
  induction l with
  | nil => exact Int.le_refl _
  | cons x l ih => simp only [wl]; have := h x; omega
theorem wl_mem {x : Int} {l : List Int} (h : x ∈ l) : 1 ≤ wl (fun y => if y = x then 1 else 0) l := by
  rw [wl_count]
  have := List.count_pos_iff.2 h
  omega
theorem mem_wl {x : Int} {l : List Int} (h : 1 ≤ wl (fun y => if y = x then 1 else 0) l) : x ∈ l := by
  rw [wl_count] at h
  exact List.count_pos_iff.1 (by omega)
theorem wl_le {w w' : Int → Int} (h : ∀ x, w x ≤ w' x) (l : List Int) : wl w l ≤ wl w' l := by
  induction l with
  | nil => exact Int.le_refl _
  | cons x l ih => simp only [wl]; have := h x; omega
theorem wl_const (k : Int) (l : List Int) : wl (fun _ => k) l = k * wl (fun _ => 1) l := by
  induction l with
  | nil => simp [wl]
  | cons x l ih => simp only [wl, ih, Int.mul_add, Int.mul_one]
section
variable {n s p T H c nx : Nat} {r : Int} {L L' : List Int} {o : Nat → CSt} {ph : Nat → Nat} {lf : Nat → Int} {fd ps : List Int} {S S' : Nat → List Int} {M M' : Nat → Int} {st' : CSt} {H' : Nat} {pw : Prop}
theorem BI.in_hand (h : BI n s r L o ph lf nx fd ps c T H S M) (hp : p < n) {x : Int} (hx : x ∈ hand (ph p) (o p) ∨ x ∈ S p) : x ∈ ps := by
  have hk := h.keep (fun y => if y = x then 1 else 0)
  have h01 : ∀ y : Int, 0 ≤ (if y = x then (1 : Int) else 0) := fun y => by split <;> omega
  have h1 := wl_nonneg h01 fd
  have h2 := wl_nonneg h01 (inD H T tv)
  have h3 := wl_nonneg h01 (handO (o n))
  have h4 := sumW_ge_one (f := fun i => wl (fun y => if y = x then 1 else 0) (hand (ph i) (o i)) + wl (fun y => if y = x then 1 else 0) (S i)) hp (fun i hi => by
    have := wl_nonneg h01 (hand (ph i) (o i))
    have := wl_nonneg h01 (S i)
    omega)
  have h5 := wl_nonneg h01 (hand (ph p) (o p))
  have h6 := wl_nonneg h01 (S p)
  have h7 : 1 ≤ wl (fun y => if y = x then 1 else 0) (hand (ph p) (o p)) + wl (fun y => if y = x then 1 else 0) (S p) := by
    rcases hx with hx | hx
    · have := wl_mem hx; omega
    · have := wl_mem hx; omega
  refine mem_wl ?_
  omega
/-- The whole of what is left, when one operation turns. -/
theorem psi_turn (hp : p < n) (k' : Nat) (l' : Int) (h : dist n H k' l' (M p) st' ≤ dist n H (ph p) (lf p) (M p) (o p)) : Psi n T H (upd o p st') (upd ph p k') (upd lf p l') S M ≤ Psi n T H o ph lf S M := by
  unfold Psi
  rw [sumW_one (f := fun i => dist n H (upd ph p k' i) (upd lf p l' i) (M i) (upd o p st' i) + wl (fun x => 100 * ew x) (S i)) (g := fun i => dist n H (ph i) (lf i) (M i) (o i) + wl (fun x => 100 * ew x) (S i)) hp (fun i hi hip => by rw [upd_ne _ _ hip, upd_ne _ _ hip, upd_ne _ _ hip])]
  simp only [upd_same]
  omega
theorem hand_idle (k : Nat) : hand k idleC = [] := by simp [hand, idleC]
theorem BI.begin_ (h : BI n s r L o ph lf nx fd ps c T H S M) (hp : p < n) (ho : o p = idleC) (st' : CSt) {ps' : List Int} (hci : CI n s L (upd o p st') ph T H S M (1 + c)) (hval : ∀ x, x ∈ ps' → 1 ≤ x ∧ x ≤ 1800) (hni : st' ≠ idleC) (hkeep : ∀ w, wl w ps' = wl w ps + wl w (hand (ph p) st'))
    (hdebt : ex r (ph p) (lf p) idleC ≤ ex r (ph p) (lf p) st') (hfew : wl (fun _ => 1) (hand (ph p) st') + pend (ph p) st' ≤ pend (ph p) idleC) (hbl : blind (ph p) (M p) st' → ph p = 2) (hno : ¬ own (gopOf n st')) (hd : dist n H (ph p) (lf p) (M p) st' ≤ dist n H (ph p) (lf p) (M p) idleC) :
    BI n s r L (upd o p st') ph lf nx fd ps' c T H S M ∧ Psi n T H (upd o p st') ph lf S M ≤ Psi n T H o ph lf S M := by
  have e1 : upd ph p (ph p) = ph := upd_self' _ _
  have e2 : upd lf p (lf p) = lf := upd_self' _ _
  have h1 := h.turn (p := p) (st' := st') (k' := ph p) (l' := lf p) (fd' := fd) (ps' := ps') hp (by rw [e1]; exact hci) hval (fun _ e => absurd e hni) (fun w => by rw [ho, hand_idle, hkeep]; simp only [wl]; omega) (by rw [ho]; exact hdebt) (by rw [ho, hand_idle]; simp only [wl]; omega) (fun e => ⟨e.1, .inl (hbl e)⟩) hno
  have h2 := psi_turn (T := T) (S := S) (st' := st') (o := o) (ph := ph) (lf := lf) (M := M) (H := H) hp (ph p) (lf p) (by rw [ho]; exact hd)
  rw [e1, e2] at h1 h2
  exact ⟨h1, h2⟩
theorem BI.begin_find (h : BI n s r L o ph lf nx fd ps c T H S M) (hp : p < n) (ho : o p = idleC) (hk : ph p = 0) {rs : List Src} (hr : StL n p rs) (hl : rs.length ≤ 3) :
    BI n s r L (upd o p (.src (.dq p popOp) (.take :: rs))) ph lf nx fd ps c T H S M ∧ Psi n T H (upd o p (.src (.dq p popOp) (.take :: rs))) ph lf S M ≤ Psi n T H o ph lf S M := by
  refine h.begin_ hp ho _ (h.ci.begin_find hp ho hk hr hl) h.val (fun e => by unfold idleC at e; cases e) (fun w => by simp [hand, wl]) ?_ ?_ (fun e => ?_) idleG_own ?_
  · rw [hk]; show (0 : Int) ≤ (if (5 : Int) ≤ 10 then - crp popOp else 9 - 5); rw [if_pos (by omega)]; decide
  · rw [hk]; show (0 : Int) + 0 ≤ 0; omega
  · rcases e.2 with e | ⟨-, v, e⟩
    · exact e
    · cases e
  · rw [hk, dist_dq]
    show (if (5 : Int) ≤ 10 then (11 - 5) + 4 * (((Src.take :: rs).length : Int) - 1) + 11 else _) ≤ 29
    rw [if_pos (by omega)]
    simp
    omega
theorem BI.begin_rest (h : BI n s r L o ph lf nx fd ps c T H S M) (hp : p < n) (ho : o p = idleC) (hk : ph p = 1) :
    BI n s r L (upd o p (.sleep p ⟨0, p, 0⟩)) ph lf nx fd ps c T H S M ∧ Psi n T H (upd o p (.sleep p ⟨0, p, 0⟩)) ph lf S M ≤ Psi n T H o ph lf S M := by
  refine h.begin_ hp ho _ (h.ci.begin_rest hp ho hk) h.val (fun e => by unfold idleC at e; cases e) (fun w => by simp [hand, wl]) ?_ ?_ (fun e => ?_) idleG_own ?_
  · rw [hk]; show (0 : Int) ≤ 0; omega
  · rw [hk]; show (0 : Int) + 0 ≤ 0; omega
  · rcases e.2 with e | ⟨-, v, e⟩
    · exact e
    · cases e
  · rw [hk]; show (6 : Int) ≤ 6; omega
theorem BI.begin_poll (h : BI n s r L o ph lf nx fd ps c T H S M) (hp : p < n) (ho : o p = idleC) (hk : ph p = 2) :
    BI n s r L (upd o p (.poll ⟨2, p, 0⟩)) ph lf nx fd ps c T H S M ∧ Psi n T H (upd o p (.poll ⟨2, p, 0⟩)) ph lf S M ≤ Psi n T H o ph lf S M := by
  refine h.begin_ hp ho _ (h.ci.begin_poll hp ho hk) h.val (fun e => by unfold idleC at e; cases e) (fun w => by simp [hand, wl]) ?_ ?_ (fun e => hk) idleG_own ?_
  · rw [hk]; show (0 : Int) ≤ 0; omega
  · rw [hk]; show (0 : Int) + 0 ≤ 0; omega
  · rw [hk]; show Dp (M p) ≤ Dp (M p); omega
theorem u64_small {v : Int} (h : 1 ≤ v ∧ v ≤ 1800) : U64 v := ⟨by omega, by omega⟩
theorem BI.begin_offer (h : BI n s r L o ph lf nx fd ps c T H S M) (hp : p < n) (ho : o p = idleC) (hk : ph p = 3) :
    BI n s r L (upd o p (.push p (lf p) (pushOp (lf p)))) ph lf nx fd (ps ++ [lf p]) c T H S M ∧ Psi n T H (upd o p (.push p (lf p) (pushOp (lf p)))) ph lf S M ≤ Psi n T H o ph lf S M := by
  have hv := h.lfv p hp hk ho
  refine h.begin_ hp ho _ (h.ci.begin_offer hp ho hk (u64_small hv)) (fun x hx => ?_) (fun e => by unfold idleC at e; cases e) (fun w => by rw [wl_app]; rfl) ?_ ?_ (fun e => ?_) idleG_own ?_
  · rcases List.mem_append.1 hx with hx | hx
    · exact h.val x hx
    · rw [List.mem_singleton] at hx; subst hx; exact hv
  · rw [hk]; show Pn r (lf p) ≤ Pn r (lf p) - (1 - 1); omega
  · rw [hk]; show (1 + 0 : Int) + 0 ≤ 1; omega
  · rcases e.2 with e | ⟨-, v, e⟩
    · exact e
    · cases e
  · rw [hk]; show (5 - 1) + 67 + 100 * ew (lf p) ≤ 71 + 100 * ew (lf p); omega
/-- An operation that is over is forgotten. -/
theorem BI.finish (h : BI n s r L o ph lf nx fd ps c T H S M) (hp : p < n) {a v : Int} (ho : o p = .over a v) (k' : Nat) (l' : Int) (fd' : List Int) (hsh : Sh n p k' idleC (S p) (M p)) (hlf : k' = 3 → 1 ≤ l' ∧ l' ≤ 1800) (hkeep : ∀ w, wl w fd' = wl w fd + wl w (hand (ph p) (.over a v)))
    (hdebt : ex r (ph p) (lf p) (.over a v) ≤ ex r k' l' idleC) (hfew : pend k' idleC ≤ wl (fun _ => 1) (hand (ph p) (.over a v)) + pend (ph p) (.over a v)) (hbl : blind k' (M p) idleC → blind (ph p) (M p) (.over a v)) (hd : dist n H k' l' (M p) idleC ≤ dist n H (ph p) (lf p) (M p) (.over a v)) :
    BI n s r L (upd o p idleC) (upd ph p k') (upd lf p l') nx fd' ps c T H S M ∧ Psi n T H (upd o p idleC) (upd ph p k') (upd lf p l') S M ≤ Psi n T H o ph lf S M := by
  refine ⟨h.turn hp (h.ci.finish hp ho hsh) h.val (fun e _ => hlf e) (fun w => ?_) (by rw [ho]; exact hdebt) ?_ (by rw [ho]; exact hbl) idleG_own, psi_turn hp k' l' (by rw [ho]; exact hd)⟩
  · rw [ho, hkeep, hand_idle]; simp only [wl]; omega
  · rw [ho, hand_idle]; simp only [wl]; omega
/-- A poll that is over, or an offer. -/
theorem BI.fin_phase0 (h : BI n s r L o ph lf nx fd ps c T H S M) (hp : p < n) {a v : Int} (ho : o p = .over a v) (ha : a ≠ 3) (hk : (ph p = 2 ∧ a = 1) ∨ ph p = 3) :
    BI n s r L (upd o p idleC) (upd ph p 0) lf nx fd ps c T H S M ∧ Psi n T H (upd o p idleC) (upd ph p 0) lf S M ≤ Psi n T H o ph lf S M := by
  have hsh := h.ci.sh p hp
  rw [ho] at hsh
  obtain ⟨k, hkk⟩ : ∃ k, ph p = k := ⟨_, rfl⟩
  obtain ⟨m, hm⟩ : ∃ m, M p = m := ⟨_, rfl⟩
  obtain ⟨q, hq⟩ : ∃ q, S p = q := ⟨_, rfl⟩
  rw [hkk, hm, hq] at hsh
  rw [hkk] at hk
  have e2 : upd lf p (lf p) = lf := upd_self' _ _
  have key : Sh n p 0 idleC q m → (k = 2 ∨ k = 3) → a ≠ 3 → (k = 2 → a = 1) → BI n s r L (upd o p idleC) (upd ph p 0) lf nx fd ps c T H S M ∧ Psi n T H (upd o p idleC) (upd ph p 0) lf S M ≤ Psi n T H o ph lf S M := fun h1 h2 h3 h4 => by
    have hh : hand k (.over a v) = [] := by show (if k ≤ 1 ∧ a = 1 then [v] else []) = []; rw [if_neg (by omega)]
    have := h.finish hp ho 0 (lf p) fd (by rw [hm, hq]; exact h1) (fun e => by omega) (fun w => by rw [hkk, hh]; simp [wl]) ?_ ?_ (fun e => ?_) ?_
    · rw [e2] at this; exact this
    · rw [hkk]; show (if k ≤ 1 ∧ a = 1 then Wh r v else if k = 3 ∧ a = 3 then Pn r (lf p) else 0) ≤ 0; rw [if_neg (by omega), if_neg (by omega)]; omega
    · rw [hkk, hh]; show (0 : Int) ≤ 0 + (if k = 3 ∧ a = 3 then 1 else 0); rw [if_neg (by omega)]; omega
    · rcases e.2 with e | ⟨e, -⟩ <;> omega
    · rw [hkk]; rcases h2 with rfl | rfl
      · obtain rfl := h4 rfl; show (29 : Int) ≤ 29; omega
      · show (29 : Int) ≤ if a = 3 then 71 + 100 * ew (lf p) else 29; rw [if_neg h3]; omega
  cases hsh with
  | pyes => exact key (.f0 _) (.inl rfl) (by decide) (fun _ => rfl)
  | oend => exact key (.f0 _) (.inr rfl) (by decide) (fun e => by omega)
  | pno => rcases hk with ⟨-, e⟩ | e <;> omega
  | fyes => rcases hk with ⟨e, -⟩ | e <;> omega
  | fno => rcases hk with ⟨e, -⟩ | e <;> omega
  | ryes => rcases hk with ⟨e, -⟩ | e <;> omega
  | rno => rcases hk with ⟨e, -⟩ | e <;> omega
  | _ => exact absurd rfl ha
/-- A poll that found nobody. -/
theorem BI.fin_poll (h : BI n s r L o ph lf nx fd ps c T H S M) (hp : p < n) {a v : Int} (ho : o p = .over a v) (hk : ph p = 2) (ha : a ≠ 1) :
    BI n s r L (upd o p idleC) ph lf nx fd ps c T H S M ∧ Psi n T H (upd o p idleC) ph lf S M ≤ Psi n T H o ph lf S M := by
  have hsh := h.ci.sh p hp
  rw [ho] at hsh
  obtain ⟨m, hm⟩ : ∃ m, M p = m := ⟨_, rfl⟩
  obtain ⟨q, hq⟩ : ∃ q, S p = q := ⟨_, rfl⟩
  rw [hk, hm, hq] at hsh
  have e1 : upd ph p 2 = ph := upd_id _ _ _ hk
  have e2 : upd lf p (lf p) = lf := upd_self' _ _
  have hq0 : q = [] := by cases hsh <;> rfl
  have hh : hand 2 (.over a v) = [] := by show (if 2 ≤ 1 ∧ a = 1 then [v] else []) = []; rw [if_neg (by omega)]
  have := h.finish hp ho 2 (lf p) fd (by rw [hm, hq, hq0]; exact .p0 _) (fun e => by omega) (fun w => by rw [hk, hh]; simp [wl]) ?_ ?_ (fun e => ⟨e.1, .inl hk⟩) ?_
  · rw [e1, e2] at this; exact this
  · rw [hk]; show (if 2 ≤ 1 ∧ a = 1 then Wh r v else if 2 = 3 ∧ a = 3 then Pn r (lf p) else 0) ≤ 0; rw [if_neg (by omega), if_neg (by omega)]; omega
  · rw [hk, hh]; show (0 : Int) ≤ 0 + (if 2 = 3 ∧ a = 3 then 1 else 0); rw [if_neg (by omega)]; omega
  · rw [hk]; show Dp (M p) ≤ if a = 1 then 29 else Dp (M p); rw [if_neg ha]; omega
/-- A number is found. -/
theorem BI.fin_found (h : BI n s r L o ph lf nx fd ps c T H S M) (hp : p < n) {v : Int} (ho : o p = .over 1 v) (hk : ph p = 0 ∨ ph p = 1) :
    (1 ≤ v ∧ v ≤ 1800) ∧ (v % 3 = 0 → BI n s r L (upd o p idleC) (upd ph p 3) (upd lf p (v / 3)) nx (fd ++ [v]) ps c T H S M ∧ Psi n T H (upd o p idleC) (upd ph p 3) (upd lf p (v / 3)) S M ≤ Psi n T H o ph lf S M) ∧
      (v % 3 ≠ 0 → BI n s r L (upd o p idleC) (upd ph p 0) lf nx (fd ++ [v]) ps c T H S M ∧ Psi n T H (upd o p idleC) (upd ph p 0) lf S M ≤ Psi n T H o ph lf S M) := by
  have hsh := h.ci.sh p hp
  rw [ho] at hsh
  have hh : hand (ph p) (.over 1 v) = [v] := by show (if ph p ≤ 1 ∧ (1 : Int) = 1 then [v] else []) = [v]; rw [if_pos ⟨by omega, rfl⟩]
  have hv := h.val v (h.in_hand hp (.inl (by rw [ho, hh]; simp)))
  obtain ⟨m, hm⟩ : ∃ m, M p = m := ⟨_, rfl⟩
  obtain ⟨q, hq⟩ : ∃ q, S p = q := ⟨_, rfl⟩
  obtain ⟨k, hkk⟩ : ∃ k, ph p = k := ⟨_, rfl⟩
  rw [hkk, hm, hq] at hsh
  rw [hkk] at hk
  have e2 : upd lf p (lf p) = lf := upd_self' _ _
  have hqm : q = [] ∧ m = 0 := by
    generalize hst : CSt.over 1 v = st at hsh
    cases hsh <;> first | exact ⟨rfl, rfl⟩ | (injection hst with e; revert e; decide) | omega | (unfold idleC at hst; injection hst with e; revert e; decide) | cases hst
  obtain ⟨rfl, rfl⟩ := hqm
  refine ⟨hv, fun h3 => ?_, fun h3 => ?_⟩
  · refine h.finish hp ho 3 (v / 3) (fd ++ [v]) (by rw [hm, hq]; exact .o0) (fun _ => by omega) (fun w => by rw [wl_app, hh]) ?_ ?_ (fun e => ?_) ?_
    · rw [hkk, ex_yes _ _ _ (by omega)]
      show Wh r v ≤ (if 3 ≤ 1 ∧ (3 : Int) = 1 then Wh r 0 else if 3 = 3 ∧ (3 : Int) = 3 then Pn r (v / 3) else 0)
      rw [if_neg (by omega), if_pos ⟨rfl, rfl⟩]
      unfold Wh
      rw [if_pos h3]
      omega
    · rw [hh]; show (if 3 = 3 ∧ (3 : Int) = 3 then (1 : Int) else 0) ≤ (1 + 0) + pend (ph p) (.over 1 v)
      rw [if_pos ⟨rfl, rfl⟩]
      show (1 : Int) ≤ (1 + 0) + (if ph p = 3 ∧ (1 : Int) = 3 then 1 else 0)
      rw [if_neg (by omega)]; omega
    · rcases e.2 with e | ⟨e, -⟩ <;> omega
    · rw [hkk, dist_yes _ _ _ _ _ hk]
      show 71 + 100 * ew (v / 3) ≤ 100 * Wl v + Nf v
      unfold Wl Nf
      rw [if_pos h3, if_pos h3]; omega
  · have := h.finish hp ho 0 (lf p) (fd ++ [v]) (by rw [hm, hq]; exact .f0 _) (fun e => by omega) (fun w => by rw [wl_app, hh]) ?_ ?_ (fun e => ?_) ?_
    · rw [e2] at this; exact this
    · rw [hkk, ex_yes _ _ _ (by omega)]
      show Wh r v ≤ 0
      unfold Wh
      rw [if_neg h3]
      omega
    · rw [hh]; show (0 : Int) ≤ (1 + 0) + (if ph p = 3 ∧ (1 : Int) = 3 then 1 else 0); rw [if_neg (by omega)]; omega
    · rcases e.2 with e | ⟨e, -⟩ <;> omega
    · rw [hkk, dist_yes _ _ _ _ _ hk]
      show 29 ≤ 100 * Wl v + Nf v
      unfold Wl Nf
      rw [if_neg h3, if_neg h3]; omega
/-- Nothing is found. -/
theorem BI.fin_none (h : BI n s r L o ph lf nx fd ps c T H S M) (hp : p < n) {a v : Int} (ho : o p = .over a v) (hk : ph p = 0 ∨ ph p = 1) (ha : a ≠ 1) (ha3 : a ≠ 3) :
    BI n s r L (upd o p idleC) (upd ph p (ph p + 1)) lf nx fd ps c T H S M ∧ Psi n T H (upd o p idleC) (upd ph p (ph p + 1)) lf S M ≤ Psi n T H o ph lf S M := by
  have hsh := h.ci.sh p hp
  rw [ho] at hsh
  obtain ⟨m, hm⟩ : ∃ m, M p = m := ⟨_, rfl⟩
  obtain ⟨q, hq⟩ : ∃ q, S p = q := ⟨_, rfl⟩
  obtain ⟨k, hkk⟩ : ∃ k, ph p = k := ⟨_, rfl⟩
  rw [hkk, hm, hq] at hsh
  rw [hkk] at hk ⊢
  have e2 : upd lf p (lf p) = lf := upd_self' _ _
  have hh : hand k (.over a v) = [] := by show (if k ≤ 1 ∧ a = 1 then [v] else []) = []; rw [if_neg (by omega)]
  have hsh' : Sh n p (k + 1) idleC q m ∧ (k = 1 → a = 4) := by
    cases hsh with
    | fno => exact ⟨.r0, fun e => by omega⟩
    | rno => exact ⟨.p0 _, fun _ => rfl⟩
    | fyes => exact absurd rfl ha
    | ryes => exact absurd rfl ha
    | pyes => omega
    | pno => omega
    | oend => omega
    | _ => exact absurd rfl ha3
  have := h.finish hp ho (k + 1) (lf p) fd (by rw [hm, hq]; exact hsh'.1) (fun e => by omega) (fun w => by rw [hkk, hh]; simp [wl]) ?_ ?_ (fun e => ?_) ?_
  · rw [e2] at this; exact this
  · rw [hkk]; show (if k ≤ 1 ∧ a = 1 then Wh r v else if k = 3 ∧ a = 3 then Pn r (lf p) else 0) ≤ (if k + 1 ≤ 1 ∧ (3 : Int) = 1 then _ else if k + 1 = 3 ∧ (3 : Int) = 3 then _ else 0); rw [if_neg (by omega), if_neg (by omega), if_neg (by omega), if_neg (by omega)]; omega
  · rw [hkk, hh]; show (if k + 1 = 3 ∧ (3 : Int) = 3 then (1 : Int) else 0) ≤ 0 + (if k = 3 ∧ a = 3 then 1 else 0); rw [if_neg (by omega), if_neg (by omega)]; omega
  · rw [hkk]
    rcases e.2 with e1 | ⟨e1, v', e2⟩
    · obtain rfl : k = 1 := by omega
      have := hsh'.2 rfl
      subst this
      exact ⟨e.1, .inr ⟨rfl, v, rfl⟩⟩
    · unfold idleC at e2; injection e2 with e2; exact absurd e2 (by decide)
  · rw [hkk]
    rcases hk with rfl | rfl
    · show (6 : Int) ≤ if a = 1 then _ else if a = 3 then 29 else 6
      rw [if_neg ha, if_neg ha3]; omega
    · show Dp (M p) ≤ if a = 1 then _ else if a = 3 then 6 else Dp (M p)
      rw [if_neg ha, if_neg ha3]; omega
end
end Go.Proofs.Ytdoaipjdldknaaa
