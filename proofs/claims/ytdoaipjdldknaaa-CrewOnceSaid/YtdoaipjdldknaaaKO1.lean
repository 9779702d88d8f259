/-
  A gate with one who puts and others who take: what lies under each ticket (plain lists; no program).
-/
import Derived.Test.YtdoaipjdldknaaaKGateC
namespace Go.Proofs.Ytdoaipjdldknaaa
open Go.RowKit
set_option linter.unusedVariables false

/-- The number under a ticket. -/
def tv (t : Nat) : Int := ((9 * (t + 1) : Nat) : Int)
/-- The gate's cells; those who take are the first n, who puts is the next one. -/
structure GV (n T H : Nat) (L : List Int) (g : Nat → Gop) : Prop where
  gi : GI 64 T H L (n + 1) g
  u : AllU L
  tk : ∀ i, i < n → (g i).ahead = 1
  pt : (g n).out = 0 → (g n).ahead = 0 ∧ (own (g n) → (g n).t + 1 = T ∧ (g n).v = tv (T - 1)) ∧ (¬ own (g n) → (g n).v = tv T)
  ptt : (g n).out = 0 → (g n).ph = 1 ∨ (g n).ph = 2 → (g n).t = T
  cel : ∀ t, t < T → tn 64 L t = qn 64 t + 1 → at_ L ((3 + 2 * (t % 64) : Nat) : Int) = tv t
  cep : (g n).out = 0 → (g n).ph = 4 → at_ L ((3 + 2 * ((T - 1) % 64) : Nat) : Int) = tv (T - 1)
  tkv : ∀ i, i < n → (g i).out = 0 → (g i).ph = 4 → ∀ t : Nat, (g i).t = t → (g i).v = tv t
  don : ∀ t, t < T → (own (g n) → t + 1 < T) → qn 64 t + 1 ≤ tn 64 L t
  rel : ∀ t : Nat, t < H → (∀ i, i < n → own (g i) → (g i).t ≠ (t : Int)) → qn 64 t + 2 ≤ tn 64 L t
theorem own_no {x : Gop} (h : x.ph ≠ 3) (h' : x.ph ≠ 4) : ¬ own x := fun e => by rcases e.2 with e | e <;> contradiction
theorem own_over {x : Gop} (h : x.out ≠ 0) : ¬ own x := fun e => h e.1
section
variable {n T H p : Nat} {L : List Int} {g : Nat → Gop}
/-- An operation turns that holds no ticket, before and behind. -/
theorem GV.quiet {x : Gop} (h : GV n T H L g) (hp : p ≤ n) (hg : GI 64 T H L (n + 1) (upd g p x)) (h1 : ¬ own (g p)) (h2 : ¬ own x) (ha : p < n → x.ahead = 1) (hv : p = n → x.out = 0 → x.ahead = 0 ∧ x.v = tv T ∧ (x.ph = 1 ∨ x.ph = 2 → x.t = T)) :
    GV n T H L (upd g p x) := by
  have hu : upd g p x p = x := upd_same _ _ _
  have hown' : ∀ i, own (g i) → upd g p x i = g i := fun i hi => by
    by_cases e : i = p
    · subst e; exact absurd hi h1
    · exact upd_ne _ _ e
  have hown : ∀ i, own (upd g p x i) → upd g p x i = g i := fun i hi => by
    by_cases e : i = p
    · subst e; rw [hu] at hi; exact absurd hi h2
    · exact upd_ne _ _ e
  refine ⟨hg, h.u, fun i hi => ?_, fun h0 => ?_, fun h0 h3 => ?_, h.cel, fun h0 h4 => ?_, fun i hi h0 h4 t ht => ?_, fun t ht hc => h.don t ht fun ho => hc (by rw [hown' n ho]; exact ho), fun t ht hc => h.rel t ht fun i hi ho => ?_⟩
  · by_cases e : i = p
    · subst e; rw [hu]; exact ha hi
    · rw [upd_ne _ _ e]; exact h.tk i hi
  · by_cases e : n = p
    · subst e
      rw [hu] at h0 ⊢
      obtain ⟨a, b, c⟩ := hv rfl h0
      exact ⟨a, fun ho => absurd ho h2, fun _ => b⟩
    · rw [upd_ne _ _ e] at h0 ⊢
      exact h.pt h0
  · by_cases e : n = p
    · subst e
      rw [hu] at h0 h3 ⊢
      exact (hv rfl h0).2.2 h3
    · rw [upd_ne _ _ e] at h0 h3 ⊢
      exact h.ptt h0 h3
  · have e := hown n ⟨h0, .inr h4⟩
    rw [e] at h0 h4
    exact h.cep h0 h4
  · have e := hown i ⟨h0, .inr h4⟩
    rw [e] at h0 h4 ht ⊢
    exact h.tkv i hi h0 h4 t ht
  · have := hc i hi (by rw [hown' i ho]; exact ho)
    rw [hown' i ho] at this
    exact this
/-- What a step of one who takes does: T, H; who puts has swapped; the operation ahead of it and behind it; the head behind it. -/
inductive TkS (T H : Nat) (pw : Prop) (x : Gop) : Gop → Nat → Prop
  | look : x.ph = 0 → TkS T H pw x { x with ph := 1, t := H } H
  | ready (t : Nat) : x.ph = 1 → x.t = t → t ≤ H → TkS T H pw x { x with ph := 2 } H
  | late (t : Nat) : x.ph = 1 → x.t = t → t < H → TkS T H pw x { x with ph := 0 } H
  | none : x.ph = 1 → x.t = H → (T = H ∨ (T = H + 1 ∧ pw)) → TkS T H pw x { x with out := 4 } H
  | swap : x.ph = 2 → x.t = H → H < T → TkS T H pw x { x with ph := 3 } (H + 1)
  | lost (t : Nat) : x.ph = 2 → x.t = t → t < H → TkS T H pw x { x with ph := 0 } H
  | value (t : Nat) : x.ph = 3 → x.t = t → t < H → TkS T H pw x { x with ph := 4, v := tv t } H
  | pass (t : Nat) : x.ph = 4 → x.t = t → t < H → x.v = tv t → TkS T H pw x { x with out := 1 } H
theorem GV.take_step (h : GV n T H L g) (hp : p < n) (hs : T ≤ 1000000) (h0 : (g p).out = 0) :
    ∃ H', TkS T H (own (g n)) (g p) (gstep 0 (64 : Nat) L (g p)).2 H' ∧ GV n T H' (gstep 0 (64 : Nat) L (g p)).1 (upd g p (gstep 0 (64 : Nat) L (g p)).2) := by
  have hp' : p < n + 1 := by omega
  have hpn : n ≠ p := by omega
  have hx := h.gi.ok p hp'
  have hah := h.tk p hp
  have hl := h.gi.c.len
  obtain ⟨t, et, tT, tH, t2, t34⟩ := hx.t
  have tH := tH hah
  have hwant := (h.gi.t_ hp' hs)
  obtain ⟨t', et', -, eturn, ewant⟩ := hwant
  obtain rfl : t' = t := by omega
  have hcell : (g p).cell = 1 := by rcases hx.ah with ⟨a, b⟩ | ⟨a, b⟩ <;> omega
  have hhead : at_ L (g p).cell = (H : Int) := by rw [hcell]; exact h.gi.c.head
  rcases hx.ph with hq | hq | hq | hq | hq
  · obtain ⟨E, e1, e2, e3⟩ := h.gi.s0 hp' h0 hq
    rw [hhead] at e1
    rw [e2]
    rw [← e1] at e3 ⊢
    exact ⟨H, .look hq, h.quiet (by omega) e3 (own_no (by omega) (by omega)) (own_no (by simp) (by simp)) (fun _ => hah) (fun e => by omega)⟩
  · rcases Int.lt_trichotomy (at_ L (slotOf 0 (64 : Nat) (g p).t)) (wantOf (64 : Nat) (g p).ahead (g p).t) with hw | hw | hw
    · obtain ⟨out, o1, o2, e2, e3⟩ := h.gi.s1l hp' hs h0 hq hw
      have hout : out = 4 := by
        have := turn_lt (g p).ahead hw
        rw [gstep1 h0 hq, this.1, this.2] at e2
        injection e2 with _ e2
        have := congrArg Gop.out e2
        simp [hah] at this
        exact this.symm
      subst hout
      rw [e2]
      rw [eturn, ewant, hah] at hw
      have htH : t' = H := by
        rcases Nat.lt_or_ge t' H with h1 | h1
        · have := h.gi.c.tlo t' h1; omega
        · omega
      subst htH
      refine ⟨t', .none hq et ?_, h.quiet (by omega) e3 (own_no (by omega) (by omega)) (own_over (by simp)) (fun _ => hah) (fun e => by omega)⟩
      by_cases hT : T = t'
      · exact .inl hT
      · refine .inr ?_
        have hlt : t' < T := by omega
        have := h.don t' hlt
        by_cases ho : own (g n)
        · refine ⟨?_, ho⟩
          have h1 : ¬ (t' + 1 < T) := fun h2 => by have := this fun _ => h2; omega
          omega
        · have := this fun h2 => absurd h2 ho
          omega
    · obtain ⟨e2, e3⟩ := h.gi.s1e hp' hs h0 hq hw
      rw [e2]
      exact ⟨H, .ready t' hq et tH, h.quiet (by omega) e3 (own_no (by omega) (by omega)) (own_no (by simp) (by simp)) (fun _ => hah) (fun e => by omega)⟩
    · obtain ⟨e2, e3, e4⟩ := h.gi.s1g hp' hs h0 hq hw
      rw [e2]
      rw [hhead] at e4
      exact ⟨H, .late t' hq et (by omega), h.quiet (by omega) e3 (own_no (by omega) (by omega)) (own_no (by simp) (by simp)) (fun _ => hah) (fun e => by omega)⟩
  · by_cases hw : at_ L (g p).cell = (g p).t
    · obtain ⟨t1, T', H', e1, e2, e3, -, e5⟩ := h.gi.s2y hp' hs h0 hq hw
      obtain ⟨eT, eH, et1⟩ := e5 hah
      obtain rfl : t' = t1 := by omega
      obtain rfl : t' = H := et1
      rw [eT, eH] at e3
      have hlt : t' < T := by
        rcases Nat.lt_or_ge t' T with h1 | h1
        · exact h1
        · have := h.gi.c.phi t' h1
          have := t2 h0 hq
          omega
      rw [e2]
      refine ⟨t' + 1, .swap hq e1 hlt, ?_⟩
      have hc1 : (g p).cell.toNat = 1 := by rw [hcell]; rfl
      have hTn : ∀ s, tn 64 (L.set (g p).cell.toNat ((t' + 1 : Nat) : Int)) s = tn 64 L s := fun s => tn_set0 hl (by omega) (by omega) s
      have hVn : ∀ s, at_ (L.set (g p).cell.toNat ((t' + 1 : Nat) : Int)) ((3 + 2 * (s % 64) : Nat) : Int) = at_ L ((3 + 2 * (s % 64) : Nat) : Int) := fun s => by rw [at_set _ _ _ _ (by omega), if_neg (by omega)]
      have hne : ∀ i, i ≠ p → upd g p { g p with ph := 3 } i = g i := fun i e => upd_ne _ _ e
      refine ⟨e3, h.u.set _ ⟨by omega, by omega⟩, fun i hi => ?_, fun h0 => ?_, fun h0 h3 => ?_, fun s hs1 hs2 => ?_, fun h0 h4 => ?_, fun i hi h0 h4 s hs1 => ?_, fun s hs1 hc => ?_, fun s hs1 hc => ?_⟩
      · by_cases e : i = p
        · subst e; rw [upd_same]; exact hah
        · rw [upd_ne _ _ e]; exact h.tk i hi
      · rw [upd_ne _ _ hpn] at h0 ⊢; exact h.pt h0
      · rw [upd_ne _ _ hpn] at h0 h3 ⊢; exact h.ptt h0 h3
      · rw [hTn] at hs2; rw [hVn]; exact h.cel s hs1 hs2
      · rw [upd_ne _ _ hpn] at h0 h4; rw [hVn]; exact h.cep h0 h4
      · by_cases e : i = p
        · subst e; rw [upd_same] at h4; simp at h4
        · rw [upd_ne _ _ e] at h0 h4 hs1 ⊢; exact h.tkv i hi h0 h4 s hs1
      · rw [hTn]; rw [upd_ne _ _ hpn] at hc; exact h.don s hs1 hc
      · rw [hTn]
        have hs3 : s < t' := by
          rcases Nat.lt_or_ge s t' with h1 | h1
          · exact h1
          · have hse : s = t' := by omega
            subst hse
            have := hc p hp (by rw [upd_same]; exact ⟨h0, .inl rfl⟩)
            rw [upd_same] at this
            exact absurd e1 this
        refine h.rel s hs3 fun i hi ho => ?_
        have e : i ≠ p := fun e => by subst e; exact own_no (by omega) (by omega) ho
        have := hc i hi (by rw [upd_ne _ _ e]; exact ho)
        rw [upd_ne _ _ e] at this
        exact this
    · obtain ⟨e2, e3⟩ := h.gi.s2n hp' h0 hq hw
      rw [e2]
      rw [hhead] at hw
      exact ⟨H, .lost t' hq et (by omega), h.quiet (by omega) e3 (own_no (by omega) (by omega)) (own_no (by simp) (by simp)) (fun _ => hah) (fun e => by omega)⟩
  · obtain ⟨t1, e1, e2, e3⟩ := h.gi.s3 h.u hp' hs h0 hq
    obtain rfl : t' = t1 := by omega
    obtain ⟨d1, d2, d3⟩ := t34 h0 (.inl hq)
    have d3 := d3 hah
    rw [if_neg (by omega), if_neg (by omega)] at e2 e3
    have hval : at_ L ((3 + 2 * (t' % 64) : Nat) : Int) = tv t' := h.cel t' d2 (by rw [d1, hah])
    rw [hval] at e2 e3
    rw [e2]
    refine ⟨H, .value t' hq et d3, ?_⟩
    have hnn : upd g p { g p with ph := 4, v := tv t' } n = g n := upd_ne _ _ hpn
    have how : own { g p with ph := 4, v := tv t' } := ⟨h0, .inr rfl⟩
    refine ⟨e3, h.u, fun i hi => ?_, fun h0 => ?_, fun h0 h3 => ?_, h.cel, fun h0 h4 => ?_, fun i hi h0 h4 s hs1 => ?_, fun s hs1 hc => ?_, fun s hs1 hc => ?_⟩
    · by_cases e : i = p
      · subst e; rw [upd_same]; exact hah
      · rw [upd_ne _ _ e]; exact h.tk i hi
    · rw [hnn] at h0 ⊢; exact h.pt h0
    · rw [hnn] at h0 h3 ⊢; exact h.ptt h0 h3
    · rw [hnn] at h0 h4; exact h.cep h0 h4
    · by_cases e : i = p
      · subst e; rw [upd_same] at hs1 ⊢
        have : s = t' := by have hs2 : (g i).t = (s : Int) := hs1; omega
        rw [this]
      · rw [upd_ne _ _ e] at h0 h4 hs1 ⊢; exact h.tkv i hi h0 h4 s hs1
    · rw [hnn] at hc; exact h.don s hs1 hc
    · refine h.rel s hs1 fun i hi ho => ?_
      by_cases e : i = p
      · subst e
        have := hc i hi (by rw [upd_same]; exact how)
        rw [upd_same] at this
        exact this
      · have := hc i hi (by rw [upd_ne _ _ e]; exact ho)
        rw [upd_ne _ _ e] at this
        exact this
  · obtain ⟨t1, e1, e2, e3⟩ := h.gi.s4 hp' hs h0 hq
    obtain rfl : t' = t1 := by omega
    obtain ⟨d1, d2, d3⟩ := t34 h0 (.inr hq)
    have d3 := d3 hah
    have hv := h.tkv p hp h0 hq t' et
    rw [e2]
    refine ⟨H, .pass t' hq et d3 hv, ?_⟩
    have hnn : upd g p { g p with out := 1 } n = g n := upd_ne _ _ hpn
    have hm := Nat.mod_lt t' (show 64 > 0 by omega)
    have hTn := fun s => tn_sett (L := L) (s := t') (v := qn 64 t' + (g p).ahead + 1) hl (by omega) s
    have hVn : ∀ s, at_ (L.set (2 + 2 * (t' % 64)) (qn 64 t' + (g p).ahead + 1)) ((3 + 2 * (s % 64) : Nat) : Int) = at_ L ((3 + 2 * (s % 64) : Nat) : Int) := fun s => by
      have := Nat.mod_lt s (show 64 > 0 by omega)
      rw [at_set _ _ _ _ (by omega), if_neg (by omega)]
    have hup : ∀ s, tn 64 L s ≤ tn 64 (L.set (2 + 2 * (t' % 64)) (qn 64 t' + (g p).ahead + 1)) s := fun s => by
      rw [hTn]
      split
      · rename_i h1
        rw [tn_same h1, d1]; omega
      · exact Int.le_refl _
    have hu64 : U64 (qn 64 t' + (g p).ahead + 1) := by
      have : t' / 64 ≤ t' := Nat.div_le_self _ _
      unfold U64 qn; rw [hah]; omega
    refine ⟨e3, h.u.set _ hu64, fun i hi => ?_, fun h0 => ?_, fun h0 h3 => ?_, fun s hs1 hs2 => ?_, fun h0 h4 => ?_, fun i hi h0 h4 s hs1 => ?_, fun s hs1 hc => ?_, fun s hs1 hc => ?_⟩
    · by_cases e : i = p
      · subst e; rw [upd_same]; exact hah
      · rw [upd_ne _ _ e]; exact h.tk i hi
    · rw [hnn] at h0 ⊢; exact h.pt h0
    · rw [hnn] at h0 h3 ⊢; exact h.ptt h0 h3
    · rw [hVn]
      rw [hTn] at hs2
      split at hs2
      · exfalso; rw [hah] at hs2; unfold qn at hs2; omega
      · exact h.cel s hs1 hs2
    · rw [hnn] at h0 h4; rw [hVn]; exact h.cep h0 h4
    · by_cases e : i = p
      · subst e; rw [upd_same] at h0; simp at h0
      · rw [upd_ne _ _ e] at h0 h4 hs1 ⊢; exact h.tkv i hi h0 h4 s hs1
    · rw [hnn] at hc; exact Int.le_trans (h.don s hs1 hc) (hup s)
    · by_cases es : s = t'
      · subst es
        rw [hTn, if_pos rfl, hah]; omega
      · refine Int.le_trans (h.rel s hs1 fun i hi ho => ?_) (hup s)
        by_cases e : i = p
        · subst e
          intro h9
          omega
        · have := hc i hi (by rw [upd_ne _ _ e]; exact ho)
          rw [upd_ne _ _ e] at this
          exact this
/-- What a step of who puts does. -/
inductive PtS (T : Nat) (F : Prop) (x : Gop) : Gop → Nat → Prop
  | look : x.ph = 0 → PtS T F x { x with ph := 1, t := T } T
  | ready : x.ph = 1 → PtS T F x { x with ph := 2 } T
  | full : x.ph = 1 → F → PtS T F x { x with out := 2 } T
  | swap : x.ph = 2 → PtS T F x { x with ph := 3 } (T + 1)
  | value : x.ph = 3 → PtS T F x { x with ph := 4 } T
  | pass : x.ph = 4 → PtS T F x { x with out := 1 } T
theorem GV.put_step (h : GV n T H L g) (hs : T ≤ 1000000) (h0 : (g n).out = 0) :
    ∃ T', PtS T (tn 64 L T < qn 64 T) (g n) (gstep 0 (64 : Nat) L (g n)).2 T' ∧ GV n T' H (gstep 0 (64 : Nat) L (g n)).1 (upd g n (gstep 0 (64 : Nat) L (g n)).2) := by
  have hp' : n < n + 1 := by omega
  have hx := h.gi.ok n hp'
  obtain ⟨hah, hpo, hpn⟩ := h.pt h0
  have hl := h.gi.c.len
  obtain ⟨t, et, tT, tH, t2, t34⟩ := hx.t
  obtain ⟨t', et', -, eturn, ewant⟩ := h.gi.t_ hp' hs
  obtain rfl : t' = t := by omega
  have hcell : (g n).cell = 0 := by rcases hx.ah with ⟨a, b⟩ | ⟨a, b⟩ <;> omega
  have htail : at_ L (g n).cell = (T : Int) := by rw [hcell]; exact h.gi.c.tail
  have hne : ∀ (x : Gop) i, i < n → upd g n x i = g i := fun x i hi => upd_ne _ _ (by omega)
  rcases hx.ph with hq | hq | hq | hq | hq
  · have hno := own_no (x := g n) (by omega) (by omega)
    obtain ⟨E, e1, e2, e3⟩ := h.gi.s0 hp' h0 hq
    rw [htail] at e1
    rw [e2]
    rw [← e1] at e3 ⊢
    exact ⟨T, .look hq, h.quiet (Nat.le_refl _) e3 hno (own_no (by simp) (by simp)) (fun e => by omega) (fun _ _ => ⟨hah, hpn hno, fun _ => rfl⟩)⟩
  · have hno := own_no (x := g n) (by omega) (by omega)
    have htt := h.ptt h0 (.inl hq)
    obtain rfl : t' = T := by omega
    rcases Int.lt_trichotomy (at_ L (slotOf 0 (64 : Nat) (g n).t)) (wantOf (64 : Nat) (g n).ahead (g n).t) with hw | hw | hw
    · obtain ⟨out, o1, o2, e2, e3⟩ := h.gi.s1l hp' hs h0 hq hw
      have hout : out = 2 := by
        have := turn_lt (g n).ahead hw
        rw [gstep1 h0 hq, this.1, this.2] at e2
        injection e2 with _ e2
        have := congrArg Gop.out e2
        simp [hah] at this
        exact this.symm
      subst hout
      rw [e2]
      rw [eturn, ewant, hah] at hw
      exact ⟨t', .full hq (by omega), h.quiet (Nat.le_refl _) e3 hno (own_over (by simp)) (fun e => by omega) (fun _ h9 => by simp at h9)⟩
    · obtain ⟨e2, e3⟩ := h.gi.s1e hp' hs h0 hq hw
      rw [e2]
      exact ⟨t', .ready hq, h.quiet (Nat.le_refl _) e3 hno (own_no (by simp) (by simp)) (fun e => by omega) (fun _ _ => ⟨hah, hpn hno, fun _ => htt⟩)⟩
    · obtain ⟨e2, e3, e4⟩ := h.gi.s1g hp' hs h0 hq hw
      rw [htail] at e4
      exact absurd htt e4
  · have hno := own_no (x := g n) (by omega) (by omega)
    have htt := h.ptt h0 (.inr hq)
    have hw : at_ L (g n).cell = (g n).t := by rw [htail, htt]
    have hvv := hpn hno
    obtain ⟨t1, T', H', e1, e2, e3, e5, -⟩ := h.gi.s2y hp' hs h0 hq hw
    obtain ⟨eT, eH, et1⟩ := e5 hah
    rw [eT, eH] at e3
    rw [et1] at e1 e2 e3
    rw [e2]
    refine ⟨T + 1, .swap hq, ?_⟩
    have hc1 : (g n).cell.toNat = 0 := by rw [hcell]; rfl
    have hTn : ∀ s, tn 64 (L.set (g n).cell.toNat ((T + 1 : Nat) : Int)) s = tn 64 L s := fun s => tn_set0 hl (by omega) (by omega) s
    have hVn : ∀ s, at_ (L.set (g n).cell.toNat ((T + 1 : Nat) : Int)) ((3 + 2 * (s % 64) : Nat) : Int) = at_ L ((3 + 2 * (s % 64) : Nat) : Int) := fun s => by rw [at_set _ _ _ _ (by omega), if_neg (by omega)]
    have hT2 := t2 h0 hq
    refine ⟨e3, h.u.set _ ⟨by omega, by omega⟩, fun i hi => ?_, fun h9 => ?_, fun h9 h3 => ?_, fun s hs1 hs2 => ?_, fun h9 h4 => ?_, fun i hi h0 h4 s hs1 => ?_, fun s hs1 hc => ?_, fun s hs1 hc => ?_⟩
    · rw [hne _ i hi]; exact h.tk i hi
    · rw [upd_same]; exact ⟨hah, fun _ => ⟨by show (g n).t + 1 = ((T + 1 : Nat) : Int); omega, by rw [show T + 1 - 1 = T by omega]; exact hvv⟩, fun hno' => absurd ⟨h0, .inl rfl⟩ hno'⟩
    · rw [upd_same] at h3; simp at h3
    · rw [hTn] at hs2
      rw [hVn]
      by_cases e : s = T
      · subst e
        have : tn 64 L s ≤ qn 64 s := h.gi.c.phi s (Nat.le_refl _)
        omega
      · exact h.cel s (by omega) hs2
    · rw [upd_same] at h4; simp at h4
    · rw [hne _ i hi] at h0 h4 hs1 ⊢; exact h.tkv i hi h0 h4 s hs1
    · rw [hTn]
      have := hc (by rw [upd_same]; exact ⟨h0, .inl rfl⟩)
      exact h.don s (by omega) (fun ho => absurd ho hno)
    · rw [hTn]
      refine h.rel s hs1 fun i hi ho => ?_
      have := hc i hi (by rw [hne _ i hi]; exact ho)
      rw [hne _ i hi] at this
      exact this
  · obtain ⟨t1, e1, e2, e3⟩ := h.gi.s3 h.u hp' hs h0 hq
    obtain rfl : t' = t1 := by omega
    obtain ⟨d1, d2, d3⟩ := t34 h0 (.inl hq)
    have how0 : own (g n) := ⟨h0, .inl hq⟩
    obtain ⟨hpt, hpv⟩ := hpo how0
    rw [if_pos hah, if_pos hah] at e2 e3
    rw [e2]
    refine ⟨T, .value hq, ?_⟩
    have hm := Nat.mod_lt t' (show 64 > 0 by omega)
    have htT : t' = T - 1 := by omega
    have hTn : ∀ s, tn 64 (L.set (3 + 2 * (t' % 64)) (g n).v) s = tn 64 L s := fun s => tn_setv hl hm s
    have hVn : ∀ s, at_ (L.set (3 + 2 * (t' % 64)) (g n).v) ((3 + 2 * (s % 64) : Nat) : Int) = if s % 64 = t' % 64 then (g n).v else at_ L ((3 + 2 * (s % 64) : Nat) : Int) := fun s => by
      have := Nat.mod_lt s (show 64 > 0 by omega)
      rw [at_set _ _ _ _ (by omega)]
      by_cases e : s % 64 = t' % 64
      · rw [if_pos (by omega), if_pos e]
      · rw [if_neg (by omega), if_neg e]
    have how : own { g n with ph := 4 } := ⟨h0, .inr rfl⟩
    refine ⟨e3, h.u.set _ hx.v, fun i hi => ?_, fun h9 => ?_, fun h9 h3 => ?_, fun s hs1 hs2 => ?_, fun h9 h4 => ?_, fun i hi h0 h4 s hs1 => ?_, fun s hs1 hc => ?_, fun s hs1 hc => ?_⟩
    · rw [hne _ i hi]; exact h.tk i hi
    · rw [upd_same]; exact ⟨hah, fun _ => ⟨hpt, hpv⟩, fun hno' => absurd how hno'⟩
    · rw [upd_same] at h3; simp at h3
    · rw [hTn] at hs2
      rw [hVn]
      split
      · rename_i e
        rw [tn_same e, d1, hah] at hs2
        unfold qn at hs2
        omega
      · exact h.cel s hs1 hs2
    · rw [hVn, if_pos (by rw [htT])]; exact hpv
    · rw [hne _ i hi] at h0 h4 hs1 ⊢; exact h.tkv i hi h0 h4 s hs1
    · rw [hTn]
      rw [upd_same] at hc
      exact h.don s hs1 (fun _ => hc how)
    · rw [hTn]
      refine h.rel s hs1 fun i hi ho => ?_
      have := hc i hi (by rw [hne _ i hi]; exact ho)
      rw [hne _ i hi] at this
      exact this
  · obtain ⟨t1, e1, e2, e3⟩ := h.gi.s4 hp' hs h0 hq
    obtain rfl : t' = t1 := by omega
    obtain ⟨d1, d2, d3⟩ := t34 h0 (.inr hq)
    have how0 : own (g n) := ⟨h0, .inr hq⟩
    obtain ⟨hpt, hpv⟩ := hpo how0
    have hcep := h.cep h0 hq
    rw [e2]
    refine ⟨T, .pass hq, ?_⟩
    have htT : t' = T - 1 := by omega
    have hm := Nat.mod_lt t' (show 64 > 0 by omega)
    have hTn := fun s => tn_sett (L := L) (s := t') (v := qn 64 t' + (g n).ahead + 1) hl (by omega) s
    have hVn : ∀ s, at_ (L.set (2 + 2 * (t' % 64)) (qn 64 t' + (g n).ahead + 1)) ((3 + 2 * (s % 64) : Nat) : Int) = at_ L ((3 + 2 * (s % 64) : Nat) : Int) := fun s => by
      have := Nat.mod_lt s (show 64 > 0 by omega)
      rw [at_set _ _ _ _ (by omega), if_neg (by omega)]
    have hup : ∀ s, tn 64 L s ≤ tn 64 (L.set (2 + 2 * (t' % 64)) (qn 64 t' + (g n).ahead + 1)) s := fun s => by
      rw [hTn]
      split
      · rename_i h1
        rw [tn_same h1, d1]; omega
      · exact Int.le_refl _
    have hu64 : U64 (qn 64 t' + (g n).ahead + 1) := by
      have : t' / 64 ≤ t' := Nat.div_le_self _ _
      unfold U64 qn; rw [hah]; omega
    refine ⟨e3, h.u.set _ hu64, fun i hi => ?_, fun h9 => ?_, fun h9 h3 => ?_, fun s hs1 hs2 => ?_, fun h9 h4 => ?_, fun i hi h0 h4 s hs1 => ?_, fun s hs1 hc => ?_, fun s hs1 hc => ?_⟩
    · rw [hne _ i hi]; exact h.tk i hi
    · rw [upd_same] at h9; simp at h9
    · rw [upd_same] at h9; simp at h9
    · rw [hVn]
      rw [hTn] at hs2
      split at hs2
      · rename_i e
        by_cases es : s = t'
        · subst es; rw [htT]; exact hcep
        · exfalso
          rw [hah] at hs2
          have hq2 : qn 64 t' = qn 64 s := by omega
          unfold qn at hq2
          exact es (same_ticket (by omega) e (by omega))
      · exact h.cel s hs1 hs2
    · rw [upd_same] at h9; simp at h9
    · rw [hne _ i hi] at h0 h4 hs1 ⊢; exact h.tkv i hi h0 h4 s hs1
    · by_cases es : s = t'
      · subst es
        rw [hTn, if_pos rfl, hah]; omega
      · exact Int.le_trans (h.don s hs1 (fun _ => by omega)) (hup s)
    · refine Int.le_trans (h.rel s hs1 fun i hi ho => ?_) (hup s)
      have := hc i hi (by rw [hne _ i hi]; exact ho)
      rw [hne _ i hi] at this
      exact this
/-- There is room. -/
def Room (n T H : Nat) (g : Nat → Gop) : Prop := T < 64 ∨ (T = 64 ∧ 0 < H ∧ ∀ i, i < n → own (g i) → (g i).t ≠ 0)
theorem GV.room (h : GV n T H L g) (hr : Room n T H g) : ¬ tn 64 L T < qn 64 T := by
  rcases hr with h1 | ⟨rfl, h2, h3⟩
  · have : 0 ≤ tn 64 L T := (h.u.at_ _).1
    have : T / 64 = 0 := Nat.div_eq_of_lt h1
    unfold qn
    omega
  · have := h.rel 0 h2 h3
    rw [show tn 64 L 64 = tn 64 L 0 from tn_same rfl]
    unfold qn at this ⊢
    omega
def idleG : Gop := ⟨0, 1, 1, 0, 0, 4⟩
theorem GV.idle (h : GV n T H L g) (hp : p ≤ n) (h0 : ¬ own (g p)) : GV n T H L (upd g p idleG) :=
  h.quiet hp (h.gi.keep (by omega) ⟨.inr ⟨rfl, rfl⟩, .inl rfl, u64_zero, 0, rfl, Nat.zero_le _, fun _ => Nat.zero_le _, fun h9 => absurd h9 (by decide), fun h9 => absurd h9 (by decide)⟩ fun h9 => absurd h9 (own_over (by decide))) h0 (own_over (by decide)) (fun _ => rfl) (fun _ h9 => absurd h9 (by decide))
theorem GV.take (h : GV n T H L g) (hp : p < n) (h0 : ¬ own (g p)) : GV n T H L (upd g p (takeOp 0)) :=
  h.quiet (by omega) (h.gi.keep (by omega) ⟨.inr ⟨rfl, rfl⟩, .inl rfl, u64_zero, 0, rfl, Nat.zero_le _, fun _ => Nat.zero_le _, fun _ h9 => absurd h9 (by decide), fun _ h9 => absurd h9 (by decide)⟩ fun h9 => absurd h9 (own_no (by decide) (by decide))) h0 (own_no (by decide) (by decide)) (fun _ => rfl) (fun e => by omega)
theorem GV.put (h : GV n T H L g) (h0 : ¬ own (g n)) (hs : T ≤ 1000000) : GV n T H L (upd g n (putOp 0 (tv T))) := by
  have hn : ¬ own (putOp 0 (tv T)) := own_no (by show (0 : Int) ≠ 3; decide) (by show (0 : Int) ≠ 4; decide)
  refine h.quiet (Nat.le_refl _) (h.gi.keep (by omega) ⟨.inl ⟨rfl, rfl⟩, .inl rfl, ?_, 0, rfl, Nat.zero_le _, fun _ => Nat.zero_le _, fun _ h9 => ?_, fun _ h9 => ?_⟩ fun h9 => absurd h9 hn) h0 hn (fun e => by omega) (fun _ _ => ⟨rfl, rfl, fun h9 => ?_⟩)
  · show U64 (tv T); unfold U64 tv; omega
  · have h8 : (0 : Int) = 2 := h9; omega
  · have h8 : (0 : Int) = 3 ∨ (0 : Int) = 4 := h9; omega
  · have h8 : (0 : Int) = 1 ∨ (0 : Int) = 2 := h9; omega
end
end Go.Proofs.Ytdoaipjdldknaaa
