/-
  CrewOnce: a worker's step, and a step of who offers from outside (plain lists; no program).
-/
import Derived.Test.YtdoaipjdldknaaaKO3
namespace Go.Proofs.Ytdoaipjdldknaaa
open Go.RowKit
set_option linter.unusedVariables false
section
variable {n s p T H b : Nat} {L L' : List Int} {o : Nat → CSt} {ph : Nat → Nat} {S S' : Nat → List Int} {M M' : Nat → Int} {st' : CSt}
theorem CI.dq_all (h : CI n s L o ph T H S M b) {i0 b' : Nat} (hb : b ≤ b') (ha : Agr L L' ((crewF n s).db i0) (2 + s)) (h0 : ∀ i, i ≠ i0 → onD i (o p) = none) {d1 : Option Dop} {S1 : List Int}
    (hd : DQ n s (sub L' ((crewF n s).db i0) (2 + s)) (upd (fun j => onD i0 (o j)) p d1) i0 S1 b') : ∀ i, i < n → DQ n s (sub L' ((crewF n s).db i) (2 + s)) (upd (fun j => onD i (o j)) p (if i = i0 then d1 else none)) i (upd S i0 S1 i) b' := by
  intro i hi
  by_cases e : i = i0
  · subst e; rw [if_pos rfl, upd_same]; exact hd
  · rw [if_neg e, upd_ne _ _ e]
    exact (h.dq_off hi ((h.deq_cells ha).2.2.2 i e) (h0 i e)).more hb
theorem CI.dq_none (h : CI n s L o ph T H S M b) {b' : Nat} (hb : b ≤ b') (hs : ∀ i, sub L' ((crewF n s).db i) (2 + s) = sub L ((crewF n s).db i) (2 + s)) (h0 : ∀ i, onD i (o p) = none) :
    ∀ i, i < n → DQ n s (sub L' ((crewF n s).db i) (2 + s)) (upd (fun j => onD i (o j)) p none) i (S i) b' := fun i hi => (h.dq_off hi (hs i) (h0 i)).more hb
theorem CI.gv_off (h : CI n s L o ph T H S M b) (hs : sub L' (crewF n s).gb 130 = sub L (crewF n s).gb 130) (h0 : gopOf n (o p) = idleG) : GV n T H (sub L' (crewF n s).gb 130) (upd (fun j => gopOf n (o j)) p idleG) := by
  rw [hs, upd_id _ _ _ h0]; exact h.gv
theorem S1_upd (h : ∀ i, i < n → (S i).length ≤ 1) {q : Nat} {l : List Int} (hl : l.length ≤ 1) : ∀ i, i < n → (upd S q l i).length ≤ 1 := fun i hi => by
  by_cases e : i = q
  · subst e; rw [upd_same]; exact hl
  · rw [upd_ne _ _ e]; exact h i hi
theorem CI.others (h : CI n s L o ph T H S M b) {q : Nat} : ∀ j, j < n → j ≠ p → Sh n j (ph j) (o j) (upd S q [] j) (M j) := fun j hj hjp => by
  by_cases e : j = q
  · subst e; rw [upd_same]; exact (h.sh j hj).shrink
  · rw [upd_ne _ _ e]; exact h.sh j hj
theorem onD_self (i : Nat) (v : Int) (d : Dop) : onD i (.push i v d) = some d := if_pos rfl
theorem onD_selfs (i : Nat) (d : Dop) (r : List Src) : onD i (.src (.dq i d) r) = some d := if_pos rfl
theorem onD_push (i j : Nat) (v : Int) (d : Dop) : onD i (.push j v d) = if i = j then some d else none := by
  by_cases e : i = j
  · subst e; rw [if_pos rfl]; exact if_pos rfl
  · rw [if_neg e]; exact if_neg (Ne.symm e)
theorem onD_src (i j : Nat) (d : Dop) (r : List Src) : onD i (.src (.dq j d) r) = if i = j then some d else none := by
  by_cases e : i = j
  · subst e; rw [if_pos rfl]; exact if_pos rfl
  · rw [if_neg e]; exact if_neg (Ne.symm e)
theorem onD_ring (i : Nat) (b : Bop) : onD i (.ring b) = if i = p then none else none := by split <;> rfl
theorem onD_over (i : Nat) (a v : Int) : onD i (.over a v) = if i = p then none else none := by split <;> rfl
theorem onD_gt (i : Nat) (g : Gop) (r : List Src) : onD i (.src (.gt g) r) = if i = p then none else none := by split <;> rfl
theorem cs_deq {F : CLay} {L : List Int} {i : Nat} {d : Dop} {r : List Src} (h : d.out = 0) {r' : List Int × Dop} (e : dstep (F.db i) F.slots L d = r') :
    cstep F L (.src (.dq i d) r) = (r'.1, if r'.2.out = 0 then .src (.dq i r'.2) r else if r'.2.out = 1 then .over 1 (dvalue r'.2.v r'.2.out) else ctry F r) := by
  subst e; exact srcd_hC F i r L d h
theorem cs_psh {F : CLay} {L : List Int} {i : Nat} {v : Int} {d : Dop} (h : d.out = 0) {r' : List Int × Dop} (e : dstep (F.db i) F.slots L d = r') :
    cstep F L (.push i v d) = (r'.1, if r'.2.out = 0 then .push i v r'.2 else if r'.2.out = 2 then .put v (putOp F.gb v) else .ring ringB) := by
  subst e; exact push_hC F i v L d h
theorem cs_gat {F : CLay} {L : List Int} {g : Gop} {r : List Src} (h : g.out = 0) {r' : List Int × Gop} (e : gstep F.gb F.actors L g = r') :
    cstep F L (.src (.gt g) r) = (r'.1, if r'.2.out = 0 then .src (.gt r'.2) r else if r'.2.out = 1 then .over 1 (gvalue r'.2.ahead r'.2.v r'.2.out) else ctry F r) := by
  subst e; exact srcg_hC F r L g h
theorem cs_tak {F : CLay} {L : List Int} {i : Nat} {g : Gop} (h : g.out = 0) {r' : List Int × Gop} (e : gstep F.gb F.actors L g = r') :
    cstep F L (.take i g) = (r'.1, if r'.2.out = 0 then .take i r'.2 else if r'.2.out = 1 then .up i (gvalue r'.2.ahead r'.2.v 1) ⟨1, i, 0⟩ else .over 4 0) := by
  subst e; exact take_hC F i L g h
theorem cs_puto {F : CLay} {L : List Int} {v : Int} {g : Gop} (h : g.out = 0) {r' : List Int × Gop} (e : gstep F.gb F.actors L g = r') :
    cstep F L (.put v g) = (r'.1, if r'.2.out = 0 then .put v r'.2 else if r'.2.out = 2 then .put v (putOp F.gb v) else .ring ringB) := by
  subst e; exact put_hC F v L g h
/-- A gate's step of one who takes. -/
theorem CI.take_ (h : CI n s L o ph T H S M b) (hp : p < n) {g : Gop} (hg : gopOf n (o p) = gsh n g) (h0 : g.out = 0) (hok : GopOk (crewF n s).gb 1000 g) {r : List Int × Gop} (e : gstep (crewF n s).gb (crewF n s).actors L g = r) :
    ∃ H', TkS T H (own (gopOf n (o n))) (gsh n g) (gsh n r.2) H' ∧ Agr L r.1 (crewF n s).gb 130 ∧ r.1.length = 1000 ∧ GV n T H' (sub r.1 (crewF n s).gb 130) (upd (fun j => gopOf n (o j)) p (gsh n r.2)) := by
  have egb := cf_gb n s
  have hx := h.gv.gi.ok p (by omega)
  have hah := hx.ah
  simp only [hg] at hah
  have hcell : g.cell = (crewF n s).gb ∨ g.cell = ((crewF n s).gb : Int) + 1 := by
    rw [egb]
    rcases hah with ⟨-, q⟩ | ⟨-, q⟩
    · have q' : g.cell - (n : Int) = 0 := q
      exact .inl (by omega)
    · have q' : g.cell - (n : Int) = 1 := q
      exact .inr (by omega)
  obtain ⟨q1, q2, q3⟩ := gstep_sub (crewF n s).gb 64 (by omega) L g 1000 hok hcell
  have e' : gstep (crewF n s).gb (64 : Nat) L g = r := e
  rw [e'] at q1 q2 q3
  obtain ⟨H', t1, t2⟩ := h.gv.take_step hp (by have := h.tb; omega) (by show (gopOf n (o p)).out = 0; rw [hg]; exact h0)
  rw [egb] at q1 q2
  have e2 : gstep 0 (64 : Nat) (sub L (crewF n s).gb 130) (gsh n g) = (sub r.1 (crewF n s).gb 130, gsh n r.2) := by
    rw [egb]
    exact Prod.ext q2.symm q1.symm
  simp only [hg] at t1 t2
  rw [e2] at t1 t2
  exact ⟨H', t1, q3, by rw [q3.len]; exact h.len, t2⟩
theorem gsh_out (n : Int) (g : Gop) : (gsh n g).out = g.out := rfl
set_option maxHeartbeats 4000000 in
theorem CI.wstep (h : CI n s L o ph T H S M b) (hp : p < n) (h0 : (o p).out = 0) (hb : b + 1 ≤ 1000000) :
    ∃ st' H' S' M', (cstep (crewF n s) L (o p)).2 = st' ∧ WS n s p T H (own (gopOf n (o n))) S M (o p) st' H' S' M' ∧ CI n s (cstep (crewF n s) L (o p)).1 (upd o p st') ph T H' S' M' (b + 1) := by
  have hok := h.ok p (by omega)
  have hsh := h.sh p hp
  have hu' := cstep_u h.u hok
  have hok' := cstep_ok (F := crewF n s) (L := L) (st := o p) (by rw [h.len]; exact h.fit) h.u (by rw [h.len]; exact hok)
  rw [h.len] at hok'
  have egb := cf_gb n s
  have hS1 := h.S1 p hp
  obtain ⟨k, hk⟩ : ∃ k, ph p = k := ⟨_, rfl⟩
  obtain ⟨st, hst⟩ : ∃ st, o p = st := ⟨_, rfl⟩
  obtain ⟨Sp, hSp⟩ : ∃ x, S p = x := ⟨_, rfl⟩
  obtain ⟨mp, hmp⟩ : ∃ x, M p = x := ⟨_, rfl⟩
  rw [hst] at h0 hok hok' hu' ⊢
  rw [hk, hst, hSp, hmp] at hsh
  rw [hSp] at hS1
  cases hsh with
  | f0 => exact absurd h0 (by decide)
  | fyes v => exact absurd h0 (by show (1 : Int) ≠ 0; decide)
  | fno => exact absurd h0 (by decide)
  | r0 => exact absurd h0 (by decide)
  | ryes v => exact absurd h0 (by show (1 : Int) ≠ 0; decide)
  | rno => exact absurd h0 (by decide)
  | p0 => exact absurd h0 (by decide)
  | pyes => exact absurd h0 (by decide)
  | pno => exact absurd h0 (by decide)
  | o0 => exact absurd h0 (by decide)
  | oend => exact absurd h0 (by decide)
  | fpop d r _ k5 e8 hr hr3 =>
    obtain ⟨q1, q2, q3⟩ := dstep_sub ((crewF n s).db p) s h.s1 L d hok.2.1
    obtain ⟨S', hw, ha, hz⟩ := (h.dq p hp).owner (o := d) (by rw [hst]; exact onD_selfs p d _) (by rw [hSp]; exact hS1) e8 (fun h9 => by omega) hb
    rw [← q1] at hw ha hz
    rw [← q2] at ha hz
    obtain ⟨rr, hrr⟩ : ∃ rr, dstep ((crewF n s).db p) s L d = rr := ⟨_, rfl⟩
    rw [cs_deq hok.1 (show dstep ((crewF n s).db p) (crewF n s).slots L d = rr from hrr)] at hu' hok' ⊢
    rw [hrr] at hw ha hz q3
    obtain ⟨L', d'⟩ := rr
    dsimp only at hw ha hz q3 hu' hok' ⊢
    obtain ⟨c1, c2, c3, c4⟩ := h.deq_cells q3
    have hmk : ∀ w, w < n → at_ L' (w : Int) = M w ∧ (M w = 0 ∨ M w = 1) := fun w hw => by rw [c2 w hw]; exact h.mks w hw
    have h00 : ∀ i, i ≠ p → onD i (o p) = none := fun i hi => by rw [hst, onD_src, if_neg hi]
    have hg0 : gopOf n (o p) = idleG := by rw [hst]; rfl
    rw [hSp] at hw
    cases hw with
    | pushing x1 => omega
    | pushed x1 => omega
    | popping x1 z x2 x3 x4 x5 =>
      rw [if_pos z] at hok' ⊢
      have hdq := h.dq_all (by omega) q3 h00 (ha z)
      refine ⟨_, H, upd S p Sp, M, rfl, ?_, h.next (by omega) c1 hu' hok' hmk (h.gv_off c3 hg0) (fun i hi => by rw [onD_src]; exact hdq i hi) (S1_upd h.S1 hS1) (fun _ => by rw [hk, upd_same, hmp]; exact .fpop d' r _ (by omega) x5 hr hr3) (fun j hj hjp => by rw [upd_ne _ _ hjp]; exact h.sh j hj) (fun e => by omega) h.tb⟩
      rw [upd_id _ _ _ hSp]
      exact .popping d d' r x2 x3 x4
    | popped x1 x2 z x3 x4 =>
      have z0 : d'.out ≠ 0 := by omega
      rw [if_neg z0, if_pos z] at hok' ⊢
      have hdq := h.dq_all (by omega) q3 h00 (hz z0)
      have hdv : dvalue d'.v d'.out = d'.v := by unfold dvalue; rw [if_pos z]
      rw [hdv] at hok' ⊢
      exact ⟨_, H, upd S p [], M, rfl, .popped d r d'.v x2 x3 (by rw [hSp]; exact x4), h.next (by omega) c1 hu' hok' hmk (h.gv_off c3 hg0) (fun i hi => by rw [onD_over (p := p)]; exact hdq i hi) (S1_upd h.S1 (by simp)) (fun _ => by rw [hk, upd_same, hmp]; exact .fyes _) (fun j hj hjp => by rw [upd_ne _ _ hjp]; exact h.sh j hj) (fun e => by omega) h.tb⟩
    | none x1 x2 z x3 x4 =>
      have z0 : d'.out ≠ 0 := by omega
      rw [if_neg z0, if_neg (by omega)] at hok' ⊢
      have hdq := h.dq_all (by omega) q3 h00 (hz z0)
      refine ⟨_, H, upd S p [], M, rfl, ?_, h.next (by omega) c1 hu' hok' hmk ?_ (fun i hi => by show DQ _ _ _ (upd _ _ none) _ _ _; have := hdq i hi; rw [show (if i = p then (none : Option Dop) else none) = none from by split <;> rfl] at this; exact this) (S1_upd h.S1 (by simp)) (fun _ => by rw [hk, upd_same, hmp]; exact .ftk _ r hr hr3) (fun j hj hjp => by rw [upd_ne _ _ hjp]; exact h.sh j hj) (fun e => by omega) h.tb⟩
      · rw [upd_id _ _ _ (by rw [hSp]; exact x3)]
        exact .popno d r x2 (by rw [hSp]; exact x3) x4
      · rw [c3]
        show GV n T H _ (upd _ p (gsh n (takeOp (crewF n s).gb)))
        rw [egb, gsh_take]
        have := h.gv.take hp (by show ¬ own (gopOf n (o p)); rw [hg0]; exact own_over (by decide))
        rw [egb] at this
        exact this
  | ftk g r hr hr3 =>
    obtain ⟨rr, hrr⟩ : ∃ rr, gstep (crewF n s).gb (crewF n s).actors L g = rr := ⟨_, rfl⟩
    obtain ⟨H', ht, q3, c1, hgv⟩ := h.take_ hp (g := g) (by rw [hst]; rfl) hok.1 hok.2.1 hrr
    rw [cs_gat hok.1 hrr] at hu' hok' ⊢
    obtain ⟨L', g'⟩ := rr
    dsimp only at ht q3 c1 hgv hu' hok' ⊢
    obtain ⟨-, c2, c4⟩ := h.gate_cells q3
    have hmk : ∀ w, w < n → at_ L' (w : Int) = M w ∧ (M w = 0 ∨ M w = 1) := fun w hw => by rw [c2 w hw]; exact h.mks w hw
    have hdq := h.dq_none (p := p) (b' := b + 1) (by omega) c4 (fun i => by rw [hst]; rfl)
    by_cases z : g'.out = 0
    · rw [if_pos z] at hok' ⊢
      exact ⟨_, H', S, M, rfl, .tk g g' r H' ht z, h.next (by omega) c1 hu' hok' hmk hgv hdq h.S1 (fun _ => by rw [hk, hSp, hmp]; exact .ftk g' r hr hr3) (fun j hj hjp => h.sh j hj) (fun e => by omega) h.tb⟩
    · rw [if_neg z] at hok' ⊢
      have hg2 := (hgv.idle (p := p) (by omega) (by rw [upd_same]; exact own_over z))
      rw [upd_upd'] at hg2
      have hgo : ∀ {x : Gop}, gsh n g' = x → g'.out = x.out := fun e => by rw [← e]; rfl
      generalize hgx : gsh n g' = x at ht
      have hgo := hgo hgx
      have hga : g'.ahead = x.ahead := by rw [← hgx]; rfl
      have hgvv : g'.v = x.v := by rw [← hgx]; rfl
      cases ht with
      | look a1 => exact absurd (hgo.trans hok.1) z
      | ready t a1 => exact absurd (hgo.trans hok.1) z
      | late t a1 => exact absurd (hgo.trans hok.1) z
      | swap a1 => exact absurd (hgo.trans hok.1) z
      | lost t a1 => exact absurd (hgo.trans hok.1) z
      | value t a1 => exact absurd (hgo.trans hok.1) z
      | none a1 a2 a3 =>
        have hgo' : g'.out = 4 := hgo
        rw [if_neg (by omega)] at hok' ⊢
        exact ⟨_, H, S, M, rfl, .tkno g r a1 a2 a3, h.next (by omega) c1 hu' hok' hmk (by rw [gop_ctry hr]; exact hg2) (fun i hi => (hdq i hi).ctry hr) h.S1 (fun _ => by rw [hk, hSp, hmp]; exact sh_ctry hr hr3) (fun j hj hjp => h.sh j hj) (fun e => by omega) h.tb⟩
      | pass t a1 a2 a3 a4 =>
        have hgo' : g'.out = 1 := hgo
        have hah : (gsh n g).ahead = 1 := by have := h.gv.tk p hp; simp only [hst] at this; exact this
        have hgv1 : gvalue g'.ahead g'.v g'.out = tv t := by
          have e1 : g'.ahead = 1 := hga.trans hah
          have e2 : g'.v = tv t := hgvv.trans a4
          unfold gvalue
          rw [if_pos ⟨hgo', by omega⟩, e2]
        rw [if_pos hgo', hgv1] at hok' ⊢
        exact ⟨_, H, S, M, rfl, .tkyes g r t a1 a2 a3, h.next (by omega) c1 hu' hok' hmk hg2 (fun i hi => hdq i hi) h.S1 (fun _ => by rw [hk, hSp, hmp]; exact .fyes _) (fun j hj hjp => h.sh j hj) (fun e => by omega) h.tb⟩
  | fst v d r hv hvp hr hr2 =>
    obtain ⟨q1, q2, q3⟩ := dstep_sub ((crewF n s).db v) s h.s1 L d hok.2.1
    have hdv : onD v (o p) = some d := by rw [hst]; exact onD_selfs v d _
    obtain ⟨S', hw, ha, hz⟩ := (h.dq v hv).thief hp (Ne.symm hvp) hdv (h.S1 v hv)
    obtain ⟨-, k11, k14⟩ := (h.dq v hv).thf0 hp (Ne.symm hvp) hdv
    rw [← q1] at hw ha hz
    rw [← q2] at ha hz
    obtain ⟨rr, hrr⟩ : ∃ rr, dstep ((crewF n s).db v) s L d = rr := ⟨_, rfl⟩
    rw [cs_deq hok.1 (show dstep ((crewF n s).db v) (crewF n s).slots L d = rr from hrr)] at hu' hok' ⊢
    rw [hrr] at hw ha hz q3
    obtain ⟨L', d'⟩ := rr
    dsimp only at hw ha hz q3 hu' hok' ⊢
    obtain ⟨c1, c2, c3, c4⟩ := h.deq_cells q3
    have hmk : ∀ w, w < n → at_ L' (w : Int) = M w ∧ (M w = 0 ∨ M w = 1) := fun w hw => by rw [c2 w hw]; exact h.mks w hw
    have h00 : ∀ i, i ≠ v → onD i (o p) = none := fun i hi => by rw [hst, onD_src, if_neg hi]
    have hg0 : gopOf n (o p) = idleG := by rw [hst]; rfl
    obtain ⟨Sv, hSv⟩ : ∃ x, S v = x := ⟨_, rfl⟩
    rw [hSv] at hw
    cases hw with
    | going z x2 x3 =>
      rw [if_pos z] at hok' ⊢
      have hd1 := ha z
      have hk14 := (hd1.thf0 hp (Ne.symm hvp) (x := d') (by rw [upd_same])).2.2
      have hdq := h.dq_all (by omega) q3 h00 (hd1.more (show b ≤ b + 1 by omega))
      refine ⟨_, H, upd S v S', M, rfl, ?_, h.next (by omega) c1 hu' hok' hmk (h.gv_off c3 hg0) (fun i hi => by rw [onD_src]; exact hdq i hi) (S1_upd h.S1 (by rw [← hSv]; exact h.S1 v hv)) (fun _ => by rw [hk, upd_ne _ _ (Ne.symm hvp), hSp, hmp]; exact .fst v d' r hv hvp hr hr2) (fun j hj hjp => by rw [upd_id _ _ _ hSv]; exact h.sh j hj) (fun e => by omega) h.tb⟩
      rw [upd_id _ _ _ hSv]
      exact .stealing v d d' r hvp x3 hk14 k11
    | none z1 z2 =>
      rw [if_neg z1, if_neg z2] at hok' ⊢
      have hdq := h.dq_all (by omega) q3 h00 ((hz z1).more (show b ≤ b + 1 by omega))
      refine ⟨_, H, upd S v S', M, rfl, ?_, h.next (by omega) c1 hu' hok' hmk (by rw [gop_ctry hr]; exact h.gv_off c3 hg0) (fun i hi => by have := hdq i hi; rw [show (if i = v then (none : Option Dop) else none) = none from by split <;> rfl] at this; exact this.ctry hr) (S1_upd h.S1 (by rw [← hSv]; exact h.S1 v hv)) (fun _ => by rw [hk, upd_ne _ _ (Ne.symm hvp), hSp, hmp]; exact sh_ctry hr (by omega)) (fun j hj hjp => by rw [upd_id _ _ _ hSv]; exact h.sh j hj) (fun e => by omega) h.tb⟩
      rw [upd_id _ _ _ hSv]
      exact .stealno v d r hvp k11 k14
    | got z x2 x3 =>
      have z0 : d'.out ≠ 0 := by omega
      rw [if_neg z0, if_pos z] at hok' ⊢
      have hdq := h.dq_all (by omega) q3 h00 ((hz z0).more (show b ≤ b + 1 by omega))
      have hdv : dvalue d'.v d'.out = d'.v := by unfold dvalue; rw [if_pos z]
      rw [hdv] at hok' ⊢
      exact ⟨_, H, upd S v [], M, rfl, .stole v d r d'.v hv hvp x2 (by rw [hSv]; exact x3), h.next (by omega) c1 hu' hok' hmk (h.gv_off c3 hg0) (fun i hi => by rw [onD_over (p := v)]; exact hdq i hi) (S1_upd h.S1 (by simp)) (fun _ => by rw [hk, upd_ne _ _ (Ne.symm hvp), hSp, hmp]; exact .fyes _) h.others (fun e => by omega) h.tb⟩
  | rsl =>
    have hb1 : bstep (crewF n s).base (crewF n s).n L ⟨0, p, 0⟩ = (L.set p 1, ⟨0, p, 1⟩) := by show bstep 0 n L _ = _; simp [bstep]
    have hc : cstep (crewF n s) L (.sleep p ⟨0, p, 0⟩) = (L.set p 1, .take p (takeOp (crewF n s).gb)) := by simp only [cstep]; rw [hb1]; rfl
    rw [hc] at hu' hok' ⊢
    dsimp only at hu' hok' ⊢
    have q3 : Agr L (L.set p 1) 0 n := (Agr.refl L 0 n).set 1 (by omega) (by omega)
    obtain ⟨c1, c3, c4⟩ := h.bell_cells q3
    have hl := h.len
    have hn4 := h.n4
    refine ⟨_, H, S, upd M p 1, rfl, .sleep, h.next (by omega) c1 hu' hok' (fun w hw => ?_) ?_ (h.dq_none (by omega) c4 (fun i => by rw [hst]; rfl)) h.S1 (fun _ => by rw [hk, hSp, upd_same]; exact .rtk _ _) (fun j hj hjp => by rw [upd_ne _ _ hjp]; exact h.sh j hj) (fun e => by omega) h.tb⟩
    · rw [at_set _ _ _ _ (by omega)]
      by_cases e : w = p
      · subst e; rw [if_pos rfl, upd_same]; exact ⟨rfl, .inr rfl⟩
      · rw [if_neg e, upd_ne _ _ e]; exact h.mks w hw
    · rw [c3]
      show GV n T H _ (upd _ p (gsh n (takeOp (crewF n s).gb)))
      rw [egb, gsh_take]
      have := h.gv.take hp (by show ¬ own (gopOf n (o p)); rw [hst]; exact own_over (by show (4 : Int) ≠ 0; decide))
      rw [egb] at this
      exact this
  | rtk g _ =>
    obtain ⟨rr, hrr⟩ : ∃ rr, gstep (crewF n s).gb (crewF n s).actors L g = rr := ⟨_, rfl⟩
    obtain ⟨H', ht, q3, c1, hgv⟩ := h.take_ hp (g := g) (by rw [hst]; rfl) hok.1 hok.2.1 hrr
    rw [cs_tak hok.1 hrr] at hu' hok' ⊢
    obtain ⟨L', g'⟩ := rr
    dsimp only at ht q3 c1 hgv hu' hok' ⊢
    obtain ⟨-, c2, c4⟩ := h.gate_cells q3
    have hmk : ∀ w, w < n → at_ L' (w : Int) = M w ∧ (M w = 0 ∨ M w = 1) := fun w hw => by rw [c2 w hw]; exact h.mks w hw
    have hdq := h.dq_none (p := p) (b' := b + 1) (by omega) c4 (fun i => by rw [hst]; rfl)
    by_cases z : g'.out = 0
    · rw [if_pos z] at hok' ⊢
      exact ⟨_, H', S, M, rfl, .rtk g g' H' ht z, h.next (by omega) c1 hu' hok' hmk hgv hdq h.S1 (fun _ => by rw [hk, hSp, hmp]; exact .rtk g' _) (fun j hj hjp => h.sh j hj) (fun e => by omega) h.tb⟩
    · rw [if_neg z] at hok' ⊢
      have hg2 := (hgv.idle (p := p) (by omega) (by rw [upd_same]; exact own_over z))
      rw [upd_upd'] at hg2
      generalize hgx : gsh n g' = x at ht
      have hgo : g'.out = x.out := by rw [← hgx]; rfl
      have hga : g'.ahead = x.ahead := by rw [← hgx]; rfl
      have hgvv : g'.v = x.v := by rw [← hgx]; rfl
      cases ht with
      | look a1 => exact absurd (hgo.trans hok.1) z
      | ready t a1 => exact absurd (hgo.trans hok.1) z
      | late t a1 => exact absurd (hgo.trans hok.1) z
      | swap a1 => exact absurd (hgo.trans hok.1) z
      | lost t a1 => exact absurd (hgo.trans hok.1) z
      | value t a1 => exact absurd (hgo.trans hok.1) z
      | none a1 a2 a3 =>
        have hgo' : g'.out = 4 := hgo
        rw [if_neg (by omega)] at hok' ⊢
        exact ⟨_, H, S, M, rfl, .rtkno g a1 a2 a3, h.next (by omega) c1 hu' hok' hmk hg2 (fun i hi => hdq i hi) h.S1 (fun _ => by rw [hk, hSp, hmp]; exact .rno _) (fun j hj hjp => h.sh j hj) (fun e => by omega) h.tb⟩
      | pass t a1 a2 a3 a4 =>
        have hgo' : g'.out = 1 := hgo
        have hah : (gsh n g).ahead = 1 := by have := h.gv.tk p hp; simp only [hst] at this; exact this
        have hgv1 : gvalue g'.ahead g'.v 1 = tv t := by
          have e1 : g'.ahead = 1 := hga.trans hah
          have e2 : g'.v = tv t := hgvv.trans a4
          unfold gvalue
          rw [if_pos ⟨rfl, by omega⟩, e2]
        rw [if_pos hgo', hgv1] at hok' ⊢
        exact ⟨_, H, S, M, rfl, .rtkyes g t a1 a2 a3, h.next (by omega) c1 hu' hok' hmk hg2 (fun i hi => hdq i hi) h.S1 (fun _ => by rw [hk, hSp, hmp]; exact .rup _ _) (fun j hj hjp => h.sh j hj) (fun e => by omega) h.tb⟩
  | rup t _ =>
    have hb1 : bstep (crewF n s).base (crewF n s).n L ⟨1, p, 0⟩ = (L.set p 0, ⟨1, p, 1⟩) := by show bstep 0 n L _ = _; simp [bstep]
    have hc : cstep (crewF n s) L (.up p (tv t) ⟨1, p, 0⟩) = (L.set p 0, .over 1 (tv t)) := by simp only [cstep]; rw [hb1]; rfl
    rw [hc] at hu' hok' ⊢
    dsimp only at hu' hok' ⊢
    have q3 : Agr L (L.set p 0) 0 n := (Agr.refl L 0 n).set 0 (by omega) (by omega)
    obtain ⟨c1, c3, c4⟩ := h.bell_cells q3
    have hl := h.len
    have hn4 := h.n4
    refine ⟨_, H, S, upd M p 0, rfl, .up t, h.next (by omega) c1 hu' hok' (fun w hw => ?_) (h.gv_off c3 (by rw [hst]; rfl)) (h.dq_none (by omega) c4 (fun i => by rw [hst]; rfl)) h.S1 (fun _ => by rw [hk, hSp, upd_same]; exact .ryes _) (fun j hj hjp => by rw [upd_ne _ _ hjp]; exact h.sh j hj) (fun e => by omega) h.tb⟩
    rw [at_set _ _ _ _ (by omega)]
    by_cases e : w = p
    · subst e; rw [if_pos rfl, upd_same]; exact ⟨rfl, .inl rfl⟩
    · rw [if_neg e, upd_ne _ _ e]; exact h.mks w hw
  | ppl _ =>
    obtain ⟨m1, m2⟩ := h.mks p hp
    have hb1 : bstep (crewF n s).base (crewF n s).n L ⟨2, p, 0⟩ = (L, ⟨2, p, pollOut (M p)⟩) := by show bstep 0 n L _ = _; simp [bstep, m1]
    have q3 := Agr.refl L 0 n
    obtain ⟨c1, c3, c4⟩ := h.bell_cells q3
    rcases m2 with m2 | m2
    · have hc : cstep (crewF n s) L (.poll ⟨2, p, 0⟩) = (L, .over 1 0) := by simp only [cstep]; rw [hb1, m2]; rfl
      rw [hc] at hu' hok' ⊢
      dsimp only at hu' hok' ⊢
      exact ⟨_, H, S, M, rfl, .pollyes m2, h.next (by omega) c1 hu' hok' h.mks (h.gv_off c3 (by rw [hst]; rfl)) (h.dq_none (by omega) c4 (fun i => by rw [hst]; rfl)) h.S1 (fun _ => by rw [hk, hSp, m2]; exact .pyes) (fun j hj hjp => h.sh j hj) (fun e => by omega) h.tb⟩
    · have hc : cstep (crewF n s) L (.poll ⟨2, p, 0⟩) = (L, .over 4 0) := by simp only [cstep]; rw [hb1, m2]; rfl
      rw [hc] at hu' hok' ⊢
      dsimp only at hu' hok' ⊢
      exact ⟨_, H, S, M, rfl, .pollno m2, h.next (by omega) c1 hu' hok' h.mks (h.gv_off c3 (by rw [hst]; rfl)) (h.dq_none (by omega) c4 (fun i => by rw [hst]; rfl)) h.S1 (fun _ => by rw [hk, hSp, hmp]; exact .pno _) (fun j hj hjp => h.sh j hj) (fun e => by omega) h.tb⟩
  | opu v d k4 hdv =>
    obtain ⟨q1, q2, q3⟩ := dstep_sub ((crewF n s).db p) s h.s1 L d hok.2.1
    obtain ⟨S', hw, ha, hz⟩ := (h.dq p hp).owner (o := d) (by rw [hst]; exact onD_self p v d) (by rw [hSp]; exact hS1) (fun h9 => by omega) (fun h9 => hSp) hb
    rw [← q1] at hw ha hz
    rw [← q2] at ha hz
    obtain ⟨rr, hrr⟩ : ∃ rr, dstep ((crewF n s).db p) s L d = rr := ⟨_, rfl⟩
    rw [cs_psh hok.1 (show dstep ((crewF n s).db p) (crewF n s).slots L d = rr from hrr)] at hu' hok' ⊢
    rw [hrr] at hw ha hz q3
    obtain ⟨L', d'⟩ := rr
    dsimp only at hw ha hz q3 hu' hok' ⊢
    obtain ⟨c1, c2, c3, c4⟩ := h.deq_cells q3
    have hmk : ∀ w, w < n → at_ L' (w : Int) = M w ∧ (M w = 0 ∨ M w = 1) := fun w hw => by rw [c2 w hw]; exact h.mks w hw
    have h00 : ∀ i, i ≠ p → onD i (o p) = none := fun i hi => by rw [hst, onD_push, if_neg hi]
    have hg0 : gopOf n (o p) = idleG := by rw [hst]; rfl
    rw [hSp] at hw
    cases hw with
    | popping x1 => omega
    | popped x1 => omega
    | none x1 => omega
    | pushing x1 z x2 x3 x4 =>
      rw [if_pos z] at hok' ⊢
      have hdq := h.dq_all (by omega) q3 h00 (ha z)
      refine ⟨_, H, upd S p [], M, rfl, ?_, h.next (by omega) c1 hu' hok' hmk (h.gv_off c3 hg0) (fun i hi => by rw [onD_push]; exact hdq i hi) (S1_upd h.S1 (by simp)) (fun _ => by rw [hk, upd_same, hmp]; exact .opu v d' x4 (by rw [x3]; exact hdv)) (fun j hj hjp => by rw [upd_ne _ _ hjp]; exact h.sh j hj) (fun e => by omega) h.tb⟩
      rw [upd_id _ _ _ hSp]
      exact .pushing v d d' x2 x4
    | pushed x1 z x2 =>
      have z0 : d'.out ≠ 0 := by omega
      rw [if_neg z0, if_neg (by omega)] at hok' ⊢
      have hdq := h.dq_all (by omega) q3 h00 (hz z0)
      rw [hdv] at hdq
      exact ⟨_, H, upd S p [v], M, rfl, .pushed v d x1 hSp, h.next (by omega) c1 hu' hok' hmk (h.gv_off c3 hg0) (fun i hi => by rw [onD_ring (p := p)]; exact hdq i hi) (S1_upd h.S1 (by simp)) (fun _ => by rw [hk, upd_same, hmp]; exact .org 3 0 _ (.inl rfl) h.n1) (fun j hj hjp => by rw [upd_ne _ _ hjp]; exact h.sh j hj) (fun e => by omega) h.tb⟩
  | org k' q _ hk34 hq =>
    obtain ⟨st', M', e1, e2, q3, e4⟩ := ring_step (s := s) h.len h.n4 hk34 hq h.mks
    obtain ⟨c1, c3, c4⟩ := h.bell_cells q3
    have hM : ∀ j, j < n → j ≠ p → Sh n j (ph j) (o j) (S j) (M' j) := fun j hj hjp => by
      cases e2 with
      | seen => exact h.sh j hj
      | on => exact h.sh j hj
      | last => exact h.sh j hj
      | rouse =>
        by_cases e : j = q
        · subst e; rw [upd_same]; exact (h.sh j hj).rouse
        · rw [upd_ne _ _ e]; exact h.sh j hj
    have hMp : M' p = 0 := by
      cases e2 with
      | seen => exact hmp
      | on => exact hmp
      | last => exact hmp
      | rouse =>
        by_cases e : p = q
        · subst e; rw [upd_same]
        · rw [upd_ne _ _ e]; exact hmp
    have hst' : gopOf n st' = idleG ∧ (∀ i, onD i st' = none) ∧ Sh n p 3 st' Sp 0 := by
      cases e2 with
      | seen => exact ⟨rfl, fun _ => rfl, .org 4 q _ (.inr rfl) hq⟩
      | on _ hq2 => exact ⟨rfl, fun _ => rfl, .org 3 (q + 1) _ (.inl rfl) hq2⟩
      | last => exact ⟨rfl, fun _ => rfl, .oend _⟩
      | rouse => exact ⟨rfl, fun _ => rfl, .oend _⟩
    rw [e1] at hok'
    have hdq := h.dq_none (p := p) (b' := b + 1) (by omega) c4 (fun i => by rw [hst]; rfl)
    exact ⟨st', H, S, M', e1, .ring k' q st' M' hq e2, h.next (by omega) c1 hu' hok' e4 (by rw [hst'.1]; exact h.gv_off c3 (by rw [hst]; rfl)) (fun i hi => by rw [hst'.2.1 i]; exact hdq i hi) h.S1 (fun _ => by rw [hk, hSp, hMp]; exact hst'.2.2) hM (fun e => by omega) h.tb⟩
end
end Go.Proofs.Ytdoaipjdldknaaa
