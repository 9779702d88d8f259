/-
  Two who put into a gate and two who take out of it: who put what under which ticket, and who took it (plain lists; no program).
-/
import Derived.Test.YtjjjjbfblhadnaaGateFreeP
namespace Go.Proofs.Ytjjjjbfblhadnaa
open Go.RowKit
set_option linter.unusedVariables false

def v64 (p j : Nat) : Int := ((p * 4294967296 + j : Nat) : Int)
/-- Whose swap of the end a is done, and who isn't over: the ticket t. -/
def pnd (a : Int) (o : Nat → Gop) (t : Nat) (i : Nat) : Bool := decide ((o i).out = 0 ∧ ((o i).ph = 3 ∨ (o i).ph = 4) ∧ (o i).ahead = a ∧ (o i).t = (t : Int))
def aheadOf (i : Nat) : Int := if i < 2 then 0 else 1
structure Hist (n T H : Nat) (L : List Int) (o : Nat → Gop) (nx who num : Nat → Nat) (inT : List Nat) (tk : Nat → List Nat) : Prop where
  gi : GI n T H L 4 o
  ahd : ∀ i, i < 4 → (o i).ahead = aheadOf i
  vop : ∀ p, p < 2 → (o p).out = 0 → (o p).v = v64 p (nx p) ∧ 1 ≤ nx p
  rng : ∀ t, t < T → who t < 2 ∧ 1 ≤ num t ∧ num t ≤ nx (who t)
  uns : ∀ t p, t < T → p < 2 → who t = p → (o p).out = 0 → (o p).ph ≠ 3 → (o p).ph ≠ 4 → num t < nx p
  inc : ∀ t s, t < s → s < T → who t = who s → num t < num s
  opt : ∀ p t : Nat, p < 2 → own (o p) → (o p).t = t → who t = p ∧ num t = nx p
  cel : ∀ t, t < T → tn n L t = qn n t + 1 → at_ L ((3 + 2 * (t % n) : Nat) : Int) = v64 (who t) (num t)
  cep : ∀ p t : Nat, p < 2 → (o p).out = 0 → (o p).ph = 4 → (o p).t = t → at_ L ((3 + 2 * (t % n) : Nat) : Int) = v64 p (nx p)
  tkv : ∀ i t : Nat, 2 ≤ i → i < 4 → (o i).out = 0 → (o i).ph = 4 → (o i).t = t → (o i).v = v64 (who t) (num t)
  inC : ∀ t, inT.count t + cntTo 4 (pnd 0 o t) = if t < T then 1 else 0
  don : ∀ t, t < T → cntTo 4 (pnd 0 o t) = 0 → qn n t + 1 ≤ tn n L t
  tkC : ∀ t, (tk 0).count t + (tk 1).count t + cntTo 4 (pnd 1 o t) = if t < H then 1 else 0
  tkO : ∀ i, i < 2 → (tk i).Pairwise (· < ·)
  tkB : ∀ i t t' : Nat, i < 2 → t ∈ tk i → own (o (2 + i)) → (o (2 + i)).t = t' → t < t'
section
variable {n T H p : Nat} {L : List Int} {o : Nat → Gop} {nx who num : Nat → Nat} {inT : List Nat} {tk : Nat → List Nat}
theorem pnd_ne (a : Int) (x : Gop) (t : Nat) {i : Nat} (hi : i ≠ p) : pnd a (upd o p x) t i = pnd a o t i := by unfold pnd; rw [upd_ne _ _ hi]
theorem pnd_turn (a : Int) (x : Gop) (t : Nat) (hp : p < 4) : cntTo 4 (pnd a (upd o p x) t) + (if pnd a o t p then 1 else 0) = cntTo 4 (pnd a o t) + (if pnd a (upd o p x) t p then 1 else 0) :=
  cntTo_turn hp fun i hi => pnd_ne a x t hi
theorem pnd_same {x : Gop} (hp : p < 4) (a : Int) (t : Nat) (h : pnd a (upd o p x) t p = pnd a o t p) : cntTo 4 (pnd a (upd o p x) t) = cntTo 4 (pnd a o t) := by
  have := pnd_turn (o := o) a x t hp
  rw [h] at this
  omega
theorem pnd_no {a : Int} {t : Nat} {i : Nat} (h : ¬ own (o i)) : pnd a o t i = false := by
  unfold pnd
  rw [decide_eq_false_iff_not]
  exact fun ⟨h1, h2, _⟩ => h ⟨h1, h2⟩
theorem pnd_other {a : Int} {t : Nat} {i : Nat} (h : (o i).ahead ≠ a) : pnd a o t i = false := by
  unfold pnd
  rw [decide_eq_false_iff_not]
  exact fun ⟨_, _, h2, _⟩ => h h2
theorem pnd_off {a : Int} {t : Nat} {i : Nat} (h : (o i).t ≠ (t : Int)) : pnd a o t i = false := by
  unfold pnd
  rw [decide_eq_false_iff_not]
  exact fun ⟨_, _, _, h2⟩ => h h2
theorem pnd_yes {a : Int} {t : Nat} {i : Nat} (h : own (o i)) (ha : (o i).ahead = a) (ht : (o i).t = (t : Int)) : pnd a o t i = true := by
  unfold pnd
  rw [decide_eq_true_eq]
  exact ⟨h.1, h.2, ha, ht⟩
theorem Hist.in_lt (h : Hist n T H L o nx who num inT tk) {t : Nat} (ht : t ∈ inT) : t < T := by
  have h1 := h.inC t
  have h2 := List.count_pos_iff.2 ht
  split at h1
  · assumption
  · omega
theorem Hist.tk_lt (h : Hist n T H L o nx who num inT tk) {t i : Nat} (hi : i < 2) (ht : t ∈ tk i) : t < H := by
  have h1 := h.tkC t
  have h2 := List.count_pos_iff.2 ht
  have h3 : i = 0 ∨ i = 1 := by omega
  rcases h3 with rfl | rfl
  · split at h1
    · assumption
    · omega
  · split at h1
    · assumption
    · omega
/-- An operation turns that holds no ticket. -/
theorem Hist.quiet {x : Gop} (h : Hist n T H L o nx who num inT tk) (hp : p < 4) (hg : GI n T H L 4 (upd o p x)) (ha : x.ahead = (o p).ahead) (h1 : ¬ own (o p)) (h2 : ¬ own x) (hv : x.out = 0 → (o p).out = 0 ∧ x.v = (o p).v) :
    Hist n T H L (upd o p x) nx who num inT tk := by
  have hu : upd o p x p = x := upd_same _ _ _
  have hpn : ∀ a t, cntTo 4 (pnd a (upd o p x) t) = cntTo 4 (pnd a o t) := fun a t => pnd_same hp a t (by rw [pnd_no (by rw [hu]; exact h2), pnd_no h1])
  refine ⟨hg, fun i hi => ?_, fun q hq h0 => ?_, h.rng, fun t q ht hq hw h0 h3 h4 => ?_, h.inc, fun q t hq ho ht => ?_, h.cel, fun q t hq h0 h4 ht => ?_, fun i t hi hi4 h0 h4 ht => ?_, fun t => by rw [hpn]; exact h.inC t, fun t ht hc => h.don t ht (by rw [← hpn]; exact hc), fun t => by rw [hpn]; exact h.tkC t, h.tkO, fun i t t' hi ht ho ht' => ?_⟩
  · by_cases e : i = p
    · subst e; rw [hu, ha]; exact h.ahd i hi
    · rw [upd_ne _ _ e]; exact h.ahd i hi
  · by_cases e : q = p
    · subst e
      rw [hu] at h0 ⊢
      obtain ⟨e1, e2⟩ := hv h0
      rw [e2]
      exact h.vop q hq e1
    · rw [upd_ne _ _ e] at h0 ⊢
      exact h.vop q hq h0
  · by_cases e : q = p
    · subst e
      rw [hu] at h0
      obtain ⟨e1, e2⟩ := hv h0
      exact h.uns t q ht hq hw e1 (fun e3 => h1 ⟨e1, .inl e3⟩) (fun e3 => h1 ⟨e1, .inr e3⟩)
    · rw [upd_ne _ _ e] at h0 h3 h4
      exact h.uns t q ht hq hw h0 h3 h4
  · by_cases e : q = p
    · subst e; rw [hu] at ho; exact absurd ho h2
    · rw [upd_ne _ _ e] at ho ht
      exact h.opt q t hq ho ht
  · by_cases e : q = p
    · subst e; rw [hu] at h0 h4; exact absurd ⟨h0, .inr h4⟩ h2
    · rw [upd_ne _ _ e] at h0 h4 ht
      exact h.cep q t hq h0 h4 ht
  · by_cases e : i = p
    · subst e; rw [hu] at h0 h4; exact absurd ⟨h0, .inr h4⟩ h2
    · rw [upd_ne _ _ e] at h0 h4 ht ⊢
      exact h.tkv i t hi hi4 h0 h4 ht
  · by_cases e : 2 + i = p
    · subst e; rw [hu] at ho; exact absurd ho h2
    · rw [upd_ne _ _ e] at ho ht'
      exact h.tkB i t t' hi ht ho ht'
/-- An operation is begun. -/
theorem Hist.begin_ {x : Gop} {nx' : Nat → Nat} (h : Hist n T H L o nx who num inT tk) (hp : p < 4) (hg : GI n T H L 4 (upd o p x)) (ha : x.ahead = aheadOf p) (h0 : (o p).out ≠ 0) (hx : x.ph = 0)
    (hn : nx' = if p < 2 then upd nx p (nx p + 1) else nx) (hv : p < 2 → x.v = v64 p (nx p + 1)) : Hist n T H L (upd o p x) nx' who num inT tk := by
  have hu : upd o p x p = x := upd_same _ _ _
  have h1 : ¬ own (o p) := fun e => h0 e.1
  have h2 : ¬ own x := fun e => by rcases e.2 with e | e <;> omega
  have hpn : ∀ a t, cntTo 4 (pnd a (upd o p x) t) = cntTo 4 (pnd a o t) := fun a t => pnd_same hp a t (by rw [pnd_no (by rw [hu]; exact h2), pnd_no h1])
  have hle : ∀ q, nx q ≤ nx' q := by
    intro q
    rw [hn]
    split
    · by_cases e : q = p
      · subst e; rw [upd_same]; omega
      · rw [upd_ne _ _ e]; exact Nat.le_refl _
    · exact Nat.le_refl _
  have hsame : ∀ q, q < 2 → q ≠ p → nx' q = nx q := by
    intro q hq e
    rw [hn]
    split
    · rw [upd_ne _ _ e]
    · rfl
  have hself : p < 2 → nx' p = nx p + 1 := fun e => by rw [hn, if_pos e, upd_same]
  refine ⟨hg, fun i hi => ?_, fun q hq h0' => ?_, fun t ht => ⟨(h.rng t ht).1, (h.rng t ht).2.1, Nat.le_trans (h.rng t ht).2.2 (hle _)⟩, fun t q ht hq hw h0 h3 h4 => ?_, h.inc, fun q t hq ho ht => ?_, h.cel, fun q t hq h0 h4 ht => ?_, fun i t hi hi4 h0 h4 ht => ?_, fun t => by rw [hpn]; exact h.inC t, fun t ht hc => h.don t ht (by rw [← hpn]; exact hc), fun t => by rw [hpn]; exact h.tkC t, h.tkO, fun i t t' hi ht ho ht' => ?_⟩
  · by_cases e : i = p
    · subst e; rw [hu, ha]
    · rw [upd_ne _ _ e]; exact h.ahd i hi
  · by_cases e : q = p
    · subst e
      rw [hu, hself hq]
      exact ⟨hv hq, by omega⟩
    · rw [upd_ne _ _ e] at h0' ⊢
      rw [hsame q hq e]
      exact h.vop q hq h0'
  · by_cases e : q = p
    · subst e
      rw [hself hq]
      have := (h.rng t ht).2.2
      rw [hw] at this
      omega
    · rw [upd_ne _ _ e] at h0 h3 h4
      rw [hsame q hq e]
      exact h.uns t q ht hq hw h0 h3 h4
  · by_cases e : q = p
    · subst e; rw [hu] at ho; exact absurd ho h2
    · rw [upd_ne _ _ e] at ho ht
      rw [hsame q hq e]
      exact h.opt q t hq ho ht
  · by_cases e : q = p
    · subst e; rw [hu] at h0 h4; exact absurd ⟨h0, .inr h4⟩ h2
    · rw [upd_ne _ _ e] at h0 h4 ht
      rw [hsame q hq e]
      exact h.cep q t hq h0 h4 ht
  · by_cases e : i = p
    · subst e; rw [hu] at h0 h4; exact absurd ⟨h0, .inr h4⟩ h2
    · rw [upd_ne _ _ e] at h0 h4 ht ⊢
      exact h.tkv i t hi hi4 h0 h4 ht
  · by_cases e : 2 + i = p
    · subst e; rw [hu] at ho; exact absurd ho h2
    · rw [upd_ne _ _ e] at ho ht'
      exact h.tkB i t t' hi ht ho ht'
/-- A Put has swapped the tail. -/
theorem Hist.swapPut {L' : List Int} {x : Gop} (h : Hist n T H L o nx who num inT tk) (hp : p < 2) (hg : GI n (T + 1) H L' 4 (upd o p x)) (ha : x.ahead = (o p).ahead) (h0 : (o p).out = 0) (hq : (o p).ph = 2)
    (hx : x.ph = 3) (hx0 : x.out = 0) (hxv : x.v = (o p).v) (hxt : x.t = (T : Int)) (hL : ∀ k : Nat, 2 ≤ k → at_ L' (k : Int) = at_ L (k : Int)) :
    Hist n (T + 1) H L' (upd o p x) nx (upd who T p) (upd num T (nx p)) inT tk := by
  have hu : upd o p x p = x := upd_same _ _ _
  have h1 : ¬ own (o p) := fun e => by rcases e.2 with e | e <;> omega
  have h2 : own x := ⟨hx0, .inl hx⟩
  have hah : (o p).ahead = 0 := by rw [h.ahd p (by omega), aheadOf, if_pos hp]
  have htn : ∀ t, tn n L' t = tn n L t := fun t => hL _ (by omega)
  have hp1 : ∀ t, cntTo 4 (pnd 1 (upd o p x) t) = cntTo 4 (pnd 1 o t) := fun t => pnd_same (by omega) 1 t (by rw [pnd_other (by rw [hu, ha, hah]; decide), pnd_no h1])
  have hp0 : ∀ t, t ≠ T → cntTo 4 (pnd 0 (upd o p x) t) = cntTo 4 (pnd 0 o t) := fun t ht => pnd_same (by omega) 0 t (by rw [pnd_off (by rw [hu, hxt]; omega), pnd_no h1])
  have hpT : cntTo 4 (pnd 0 (upd o p x) T) = cntTo 4 (pnd 0 o T) + 1 := by
    have := pnd_turn (o := o) 0 x T (show p < 4 by omega)
    rw [pnd_no h1, pnd_yes (by rw [hu]; exact h2) (by rw [hu, ha, hah]) (by rw [hu, hxt])] at this
    simpa using this
  have hv := h.vop p hp h0
  refine ⟨hg, fun i hi => ?_, fun q hq h0' => ?_, fun t ht => ?_, fun t q ht hq' hw h0' h3 h4 => ?_, fun t s hts hs hw => ?_, fun q t hq' ho ht => ?_, fun t ht hc => ?_, fun q t hq' h0' h4 ht => ?_, fun i t hi hi4 h0' h4 ht => ?_, fun t => ?_, fun t ht hc => ?_, fun t => by rw [hp1]; exact h.tkC t, h.tkO, fun i t t' hi ht ho ht' => ?_⟩
  · by_cases e : i = p
    · subst e; rw [hu, ha]; exact h.ahd i hi
    · rw [upd_ne _ _ e]; exact h.ahd i hi
  · by_cases e : q = p
    · subst e; rw [hu, hxv]; exact hv
    · rw [upd_ne _ _ e] at h0' ⊢; exact h.vop q hq h0'
  · by_cases e : t = T
    · subst e; rw [upd_same, upd_same]; exact ⟨hp, hv.2, Nat.le_refl _⟩
    · rw [upd_ne _ _ e, upd_ne _ _ e]; exact h.rng t (by omega)
  · by_cases e : q = p
    · subst e; rw [hu] at h3; exact absurd hx h3
    · rw [upd_ne _ _ e] at h0' h3 h4
      by_cases e2 : t = T
      · subst e2; rw [upd_same] at hw; exact absurd hw.symm e
      · rw [upd_ne _ _ e2] at hw ⊢; exact h.uns t q (by omega) hq' hw h0' h3 h4
  · have et : t ≠ T := by omega
    rw [upd_ne _ _ et] at hw ⊢
    by_cases e2 : s = T
    · rw [e2, upd_same]
      rw [e2, upd_same] at hw
      exact h.uns t p (by omega) hp hw h0 (by omega) (by omega)
    · rw [upd_ne _ _ e2]
      rw [upd_ne _ _ e2] at hw
      exact h.inc t s hts (by omega) hw
  · by_cases e : q = p
    · subst e
      rw [hu, hxt] at ht
      obtain rfl : t = T := by omega
      rw [upd_same, upd_same]
      exact ⟨rfl, rfl⟩
    · rw [upd_ne _ _ e] at ho ht
      obtain ⟨t', e1, -, -, -, e2⟩ := (h.gi.ok q (by omega)).t
      have := (e2 ho.1 ho.2).2.1
      have et : t ≠ T := by omega
      rw [upd_ne _ _ et, upd_ne _ _ et]
      exact h.opt q t hq' ho ht
  · rw [htn] at hc
    have et : t ≠ T := by
      intro e
      have := h.gi.c.phi t (by omega)
      omega
    rw [upd_ne _ _ et, upd_ne _ _ et, hL _ (by omega)]
    exact h.cel t (by omega) hc
  · by_cases e : q = p
    · subst e; rw [hu] at h4; omega
    · rw [upd_ne _ _ e] at h0' h4 ht
      rw [hL _ (by omega)]
      exact h.cep q t hq' h0' h4 ht
  · have e : i ≠ p := by omega
    rw [upd_ne _ _ e] at h0' h4 ht ⊢
    obtain ⟨t', e1, -, -, -, e2⟩ := (h.gi.ok i hi4).t
    have := (e2 h0' (.inr h4)).2.1
    have et : t ≠ T := by omega
    rw [upd_ne _ _ et, upd_ne _ _ et]
    exact h.tkv i t hi hi4 h0' h4 ht
  · by_cases e : t = T
    · subst e
      rw [hpT, if_pos (by omega)]
      have := h.inC t
      rw [if_neg (by omega)] at this
      omega
    · rw [hp0 t e]
      have := h.inC t
      by_cases e2 : t < T
      · rw [if_pos e2] at this; rw [if_pos (by omega)]; exact this
      · rw [if_neg e2] at this; rw [if_neg (by omega)]; exact this
  · by_cases e : t = T
    · subst e; rw [hpT] at hc; omega
    · rw [hp0 t e] at hc
      rw [htn]
      exact h.don t (by omega) hc
  · have e : 2 + i ≠ p := by omega
    rw [upd_ne _ _ e] at ho ht'
    exact h.tkB i t t' hi ht ho ht'
/-- A Take has swapped the head. -/
theorem Hist.swapTake {L' : List Int} {x : Gop} (h : Hist n T H L o nx who num inT tk) (hp2 : 2 ≤ p) (hp : p < 4) (hg : GI n T (H + 1) L' 4 (upd o p x)) (ha : x.ahead = (o p).ahead) (h0 : (o p).out = 0) (hq : (o p).ph = 2)
    (hx : x.ph = 3) (hx0 : x.out = 0) (hxt : x.t = (H : Int)) (hL : ∀ k : Nat, 2 ≤ k → at_ L' (k : Int) = at_ L (k : Int)) :
    Hist n T (H + 1) L' (upd o p x) nx who num inT tk := by
  have hu : upd o p x p = x := upd_same _ _ _
  have h1 : ¬ own (o p) := fun e => by rcases e.2 with e | e <;> omega
  have h2 : own x := ⟨hx0, .inl hx⟩
  have hah : (o p).ahead = 1 := by rw [h.ahd p (by omega), aheadOf, if_neg (by omega)]
  have htn : ∀ t, tn n L' t = tn n L t := fun t => hL _ (by omega)
  have hp1 : ∀ t, cntTo 4 (pnd 0 (upd o p x) t) = cntTo 4 (pnd 0 o t) := fun t => pnd_same (by omega) 0 t (by rw [pnd_other (by rw [hu, ha, hah]; decide), pnd_no h1])
  have hp0 : ∀ t, t ≠ H → cntTo 4 (pnd 1 (upd o p x) t) = cntTo 4 (pnd 1 o t) := fun t ht => pnd_same (by omega) 1 t (by rw [pnd_off (by rw [hu, hxt]; omega), pnd_no h1])
  have hpT : cntTo 4 (pnd 1 (upd o p x) H) = cntTo 4 (pnd 1 o H) + 1 := by
    have := pnd_turn (o := o) 1 x H (show p < 4 by omega)
    rw [pnd_no h1, pnd_yes (by rw [hu]; exact h2) (by rw [hu, ha, hah]) (by rw [hu, hxt])] at this
    simpa using this
  have hne : ∀ q, q < 2 → q ≠ p := fun q hq => by omega
  refine ⟨hg, fun i hi => ?_, fun q hq h0' => ?_, h.rng, fun t q ht hq' hw h0' h3 h4 => ?_, h.inc, fun q t hq' ho ht => ?_, fun t ht hc => ?_, fun q t hq' h0' h4 ht => ?_, fun i t hi hi4 h0' h4 ht => ?_, fun t => by rw [hp1]; exact h.inC t, fun t ht hc => ?_, fun t => ?_, h.tkO, fun i t t' hi ht ho ht' => ?_⟩
  · by_cases e : i = p
    · subst e; rw [hu, ha]; exact h.ahd i hi
    · rw [upd_ne _ _ e]; exact h.ahd i hi
  · rw [upd_ne _ _ (hne q hq)] at h0' ⊢; exact h.vop q hq h0'
  · rw [upd_ne _ _ (hne q hq')] at h0' h3 h4
    exact h.uns t q ht hq' hw h0' h3 h4
  · rw [upd_ne _ _ (hne q hq')] at ho ht
    exact h.opt q t hq' ho ht
  · rw [htn] at hc
    rw [hL _ (by omega)]
    exact h.cel t (by omega) hc
  · rw [upd_ne _ _ (hne q hq')] at h0' h4 ht
    rw [hL _ (by omega)]
    exact h.cep q t hq' h0' h4 ht
  · by_cases e : i = p
    · subst e; rw [hu] at h4; omega
    · rw [upd_ne _ _ e] at h0' h4 ht ⊢
      exact h.tkv i t hi hi4 h0' h4 ht
  · rw [hp1] at hc
    rw [htn]
    exact h.don t ht hc
  · by_cases e : t = H
    · subst e
      rw [hpT, if_pos (by omega)]
      have := h.tkC t
      rw [if_neg (by omega)] at this
      omega
    · rw [hp0 t e]
      have := h.tkC t
      by_cases e2 : t < H
      · rw [if_pos e2] at this; rw [if_pos (by omega)]; exact this
      · rw [if_neg e2] at this; rw [if_neg (by omega)]; exact this
  · by_cases e : 2 + i = p
    · subst e
      rw [hu, hxt] at ht'
      have := h.tk_lt hi ht
      omega
    · rw [upd_ne _ _ e] at ho ht'
      exact h.tkB i t t' hi ht ho ht'
/-- Two tickets of one slot and one kind of turn are the same. -/
theorem qn_odd (a b : Nat) : qn n a + 1 ≠ qn n b := by unfold qn; omega
/-- A Put has stored its value. -/
theorem Hist.valPut {x : Gop} {t : Nat} (h : Hist n T H L o nx who num inT tk) (hp : p < 2) (hg : GI n T H (L.set (3 + 2 * (t % n)) (o p).v) 4 (upd o p x)) (ha : x.ahead = (o p).ahead) (h0 : (o p).out = 0) (hq : (o p).ph = 3)
    (hx : x.ph = 4) (hx0 : x.out = 0) (hxv : x.v = (o p).v) (hxt : x.t = (o p).t) (ht : (o p).t = t) :
    Hist n T H (L.set (3 + 2 * (t % n)) (o p).v) (upd o p x) nx who num inT tk := by
  have hu : upd o p x p = x := upd_same _ _ _
  have hl := h.gi.c.len
  have hn := h.gi.c.n1
  have hm := Nat.mod_lt t (show n > 0 by omega)
  have hown : own (o p) := ⟨h0, .inl hq⟩
  have hah : (o p).ahead = 0 := by rw [h.ahd p (by omega), aheadOf, if_pos hp]
  have htn := fun s => tn_setv (L := L) (v := (o p).v) hl hm s
  have htt : tn n L t = qn n t := by
    obtain ⟨t', e1, -, -, -, e2⟩ := (h.gi.ok p (by omega)).t
    obtain rfl : t' = t := by omega
    have := (e2 h0 (.inl hq)).1
    rw [hah] at this
    omega
  have hpn : ∀ a s, cntTo 4 (pnd a (upd o p x) s) = cntTo 4 (pnd a o s) := fun a s => pnd_same (by omega) a s (by
    unfold pnd
    rw [hu, ha, hxt, hx0, h0, hx, hq]
    simp)
  have hat : ∀ s : Nat, at_ (L.set (3 + 2 * (t % n)) (o p).v) ((3 + 2 * (s % n) : Nat) : Int) = if s % n = t % n then (o p).v else at_ L ((3 + 2 * (s % n) : Nat) : Int) := by
    intro s
    rw [at_set _ _ _ _ (by omega)]
    by_cases e : s % n = t % n
    · rw [if_pos (by omega), if_pos e]
    · rw [if_neg (by omega), if_neg e]
  have hv := h.vop p hp h0
  refine ⟨hg, fun i hi => ?_, fun q hq h0' => ?_, h.rng, fun s q hs hq' hw h0' h3 h4 => ?_, h.inc, fun q s hq' ho hs => ?_, fun s hs hc => ?_, fun q s hq' h0' h4 hs => ?_, fun i s hi hi4 h0' h4 hs => ?_, fun s => by rw [hpn]; exact h.inC s, fun s hs hc => ?_, fun s => by rw [hpn]; exact h.tkC s, h.tkO, fun i s s' hi hs ho hs' => ?_⟩
  · by_cases e : i = p
    · subst e; rw [hu, ha]; exact h.ahd i hi
    · rw [upd_ne _ _ e]; exact h.ahd i hi
  · by_cases e : q = p
    · subst e; rw [hu, hxv]; exact hv
    · rw [upd_ne _ _ e] at h0' ⊢; exact h.vop q hq h0'
  · by_cases e : q = p
    · subst e; rw [hu] at h4; exact absurd hx h4
    · rw [upd_ne _ _ e] at h0' h3 h4
      exact h.uns s q hs hq' hw h0' h3 h4
  · by_cases e : q = p
    · subst e
      rw [hu, hxt] at hs
      exact h.opt q s hq' hown hs
    · rw [upd_ne _ _ e] at ho hs
      exact h.opt q s hq' ho hs
  · rw [htn] at hc
    rw [hat]
    split
    · rename_i e
      rw [tn_same e, htt] at hc
      exact absurd hc.symm (qn_odd _ _)
    · exact h.cel s hs hc
  · by_cases e : q = p
    · subst e
      rw [hu, hxt, ht] at hs
      obtain rfl : s = t := by omega
      rw [hat, if_pos rfl]
      exact hv.1
    · rw [upd_ne _ _ e] at h0' h4 hs
      rw [hat, if_neg]
      · exact h.cep q s hq' h0' h4 hs
      · intro e2
        obtain ⟨t', e1, -, -, -, e3⟩ := (h.gi.ok q (by omega)).t
        obtain rfl : t' = s := by omega
        have e4 := (e3 h0' (.inr h4)).1
        rw [h.ahd q (by omega), aheadOf, if_pos hq', tn_same e2, htt] at e4
        have : t' = t := same_ticket hn e2 (by unfold qn at e4; omega)
        exact h.gi.uq q p (by omega) (by omega) e ⟨h0', .inr h4⟩ hown (by rw [h.ahd q (by omega), h.ahd p (by omega), aheadOf, aheadOf, if_pos hp, if_pos hq']) (by rw [hs, ht, this])
  · have e : i ≠ p := by omega
    rw [upd_ne _ _ e] at h0' h4 hs ⊢
    exact h.tkv i s hi hi4 h0' h4 hs
  · rw [hpn] at hc
    rw [htn]
    exact h.don s hs hc
  · have e : 2 + i ≠ p := by omega
    rw [upd_ne _ _ e] at ho hs'
    exact h.tkB i s s' hi hs ho hs'
/-- A Take has loaded its value. -/
theorem Hist.valTake {x : Gop} {t : Nat} (h : Hist n T H L o nx who num inT tk) (hp2 : 2 ≤ p) (hp : p < 4) (hg : GI n T H L 4 (upd o p x)) (ha : x.ahead = (o p).ahead) (h0 : (o p).out = 0) (hq : (o p).ph = 3)
    (hx : x.ph = 4) (hx0 : x.out = 0) (hxv : x.v = at_ L ((3 + 2 * (t % n) : Nat) : Int)) (hxt : x.t = (o p).t) (ht : (o p).t = t) :
    Hist n T H L (upd o p x) nx who num inT tk := by
  have hu : upd o p x p = x := upd_same _ _ _
  have hown : own (o p) := ⟨h0, .inl hq⟩
  have hah : (o p).ahead = 1 := by rw [h.ahd p (by omega), aheadOf, if_neg (by omega)]
  have htt : tn n L t = qn n t + 1 ∧ t < T := by
    obtain ⟨t', e1, -, -, -, e2⟩ := (h.gi.ok p (by omega)).t
    obtain rfl : t' = t := by omega
    obtain ⟨e3, e4, _⟩ := e2 h0 (.inl hq)
    rw [hah] at e3
    exact ⟨e3, e4⟩
  have hpn : ∀ a s, cntTo 4 (pnd a (upd o p x) s) = cntTo 4 (pnd a o s) := fun a s => pnd_same (by omega) a s (by
    unfold pnd
    rw [hu, ha, hxt, hx0, h0, hx, hq]
    simp)
  have hne : ∀ q, q < 2 → q ≠ p := fun q hq => by omega
  refine ⟨hg, fun i hi => ?_, fun q hq h0' => ?_, h.rng, fun s q hs hq' hw h0' h3 h4 => ?_, h.inc, fun q s hq' ho hs => ?_, h.cel, fun q s hq' h0' h4 hs => ?_, fun i s hi hi4 h0' h4 hs => ?_, fun s => by rw [hpn]; exact h.inC s, fun s hs hc => h.don s hs (by rw [← hpn]; exact hc), fun s => by rw [hpn]; exact h.tkC s, h.tkO, fun i s s' hi hs ho hs' => ?_⟩
  · by_cases e : i = p
    · subst e; rw [hu, ha]; exact h.ahd i hi
    · rw [upd_ne _ _ e]; exact h.ahd i hi
  · rw [upd_ne _ _ (hne q hq)] at h0' ⊢; exact h.vop q hq h0'
  · rw [upd_ne _ _ (hne q hq')] at h0' h3 h4
    exact h.uns s q hs hq' hw h0' h3 h4
  · rw [upd_ne _ _ (hne q hq')] at ho hs
    exact h.opt q s hq' ho hs
  · rw [upd_ne _ _ (hne q hq')] at h0' h4 hs
    exact h.cep q s hq' h0' h4 hs
  · by_cases e : i = p
    · subst e
      rw [hu] at hs ⊢
      rw [hxt, ht] at hs
      obtain rfl : s = t := by omega
      rw [hxv]
      exact h.cel s htt.2 htt.1
    · rw [upd_ne _ _ e] at h0' h4 hs ⊢
      exact h.tkv i s hi hi4 h0' h4 hs
  · by_cases e : 2 + i = p
    · subst e
      rw [hu, hxt] at hs'
      exact h.tkB i s s' hi hs hown hs'
    · rw [upd_ne _ _ e] at ho hs'
      exact h.tkB i s s' hi hs ho hs'
/-- A Put is over. -/
theorem Hist.passPut {x : Gop} {t : Nat} (h : Hist n T H L o nx who num inT tk) (hp : p < 2) (hg : GI n T H (L.set (2 + 2 * (t % n)) (qn n t + 0 + 1)) 4 (upd o p x)) (ha : x.ahead = (o p).ahead) (h0 : (o p).out = 0) (hq : (o p).ph = 4)
    (hx0 : x.out = 1) (ht : (o p).t = t) :
    Hist n T H (L.set (2 + 2 * (t % n)) (qn n t + 0 + 1)) (upd o p x) nx who num (inT ++ [t]) tk ∧ v64 (who t) (num t) = v64 p (nx p) := by
  have hu : upd o p x p = x := upd_same _ _ _
  have hl := h.gi.c.len
  have hn := h.gi.c.n1
  have hm := Nat.mod_lt t (show n > 0 by omega)
  have hown : own (o p) := ⟨h0, .inr hq⟩
  have hnown : ¬ own x := fun e => by have := e.1; omega
  have hah : (o p).ahead = 0 := by rw [h.ahd p (by omega), aheadOf, if_pos hp]
  have htn := fun s => tn_sett (L := L) (s := t) (v := qn n t + 0 + 1) hl hn s
  have htt : tn n L t = qn n t ∧ t < T := by
    obtain ⟨t', e1, -, -, -, e2⟩ := (h.gi.ok p (by omega)).t
    obtain rfl : t' = t := by omega
    obtain ⟨e3, e4, _⟩ := e2 h0 (.inr hq)
    rw [hah] at e3
    exact ⟨by omega, e4⟩
  have hat : ∀ s : Nat, at_ (L.set (2 + 2 * (t % n)) (qn n t + 0 + 1)) ((3 + 2 * (s % n) : Nat) : Int) = at_ L ((3 + 2 * (s % n) : Nat) : Int) := fun s => by
    rw [at_set _ _ _ _ (by omega), if_neg (by omega)]
  have hp1 : ∀ s, cntTo 4 (pnd 1 (upd o p x) s) = cntTo 4 (pnd 1 o s) := fun s => pnd_same (by omega) 1 s (by rw [pnd_no (by rw [hu]; exact hnown), pnd_other (by rw [hah]; decide)])
  have hp0 : ∀ s, s ≠ t → cntTo 4 (pnd 0 (upd o p x) s) = cntTo 4 (pnd 0 o s) := fun s hs => pnd_same (by omega) 0 s (by rw [pnd_no (by rw [hu]; exact hnown), pnd_off (by rw [ht]; omega)])
  have hpT : cntTo 4 (pnd 0 (upd o p x) t) + 1 = cntTo 4 (pnd 0 o t) := by
    have := pnd_turn (o := o) 0 x t (show p < 4 by omega)
    rw [pnd_no (o := upd o p x) (by rw [hu]; exact hnown), pnd_yes hown hah ht] at this
    simpa using this
  obtain ⟨hw1, hw2⟩ := h.opt p t hp hown ht
  have hv : v64 (who t) (num t) = v64 p (nx p) := by rw [hw1, hw2]
  refine ⟨⟨hg, fun i hi => ?_, fun q hq h0' => ?_, h.rng, fun s q hs hq' hw h0' h3 h4 => ?_, h.inc, fun q s hq' ho hs => ?_, fun s hs hc => ?_, fun q s hq' h0' h4 hs => ?_, fun i s hi hi4 h0' h4 hs => ?_, fun s => ?_, fun s hs hc => ?_, fun s => by rw [hp1]; exact h.tkC s, h.tkO, fun i s s' hi hs ho hs' => ?_⟩, hv⟩
  · by_cases e : i = p
    · subst e; rw [hu, ha]; exact h.ahd i hi
    · rw [upd_ne _ _ e]; exact h.ahd i hi
  · by_cases e : q = p
    · subst e; rw [hu] at h0'; omega
    · rw [upd_ne _ _ e] at h0' ⊢; exact h.vop q hq h0'
  · by_cases e : q = p
    · subst e; rw [hu] at h0'; omega
    · rw [upd_ne _ _ e] at h0' h3 h4
      exact h.uns s q hs hq' hw h0' h3 h4
  · by_cases e : q = p
    · subst e; rw [hu] at ho; exact absurd ho hnown
    · rw [upd_ne _ _ e] at ho hs
      exact h.opt q s hq' ho hs
  · rw [htn] at hc
    rw [hat]
    split at hc
    · rename_i e
      have : s = t := same_ticket hn e (by unfold qn at hc; omega)
      subst this
      rw [hv]
      exact h.cep p s hp h0 hq ht
    · exact h.cel s hs hc
  · by_cases e : q = p
    · subst e; rw [hu] at h0'; omega
    · rw [upd_ne _ _ e] at h0' h4 hs
      rw [hat]
      exact h.cep q s hq' h0' h4 hs
  · have e : i ≠ p := by omega
    rw [upd_ne _ _ e] at h0' h4 hs ⊢
    exact h.tkv i s hi hi4 h0' h4 hs
  · rw [List.count_append]
    by_cases e : s = t
    · subst e
      have := h.inC s
      have e2 : List.count s [s] = 1 := by simp
      rw [e2]
      omega
    · have e2 : List.count s [t] = 0 := List.count_eq_zero.2 (by simpa using e)
      rw [e2, hp0 s e]
      exact h.inC s
  · rw [htn]
    by_cases e : s = t
    · subst e
      rw [if_pos rfl]
      omega
    · rw [hp0 s e] at hc
      have := h.don s hs hc
      split
      · rename_i e2
        rw [tn_same e2, htt.1] at this
        omega
      · exact this
  · have e : 2 + i ≠ p := by omega
    rw [upd_ne _ _ e] at ho hs'
    exact h.tkB i s s' hi hs ho hs'
/-- A Take is over. -/
theorem Hist.passTake {x : Gop} {t : Nat} (h : Hist n T H L o nx who num inT tk) (hp2 : 2 ≤ p) (hp : p < 4) (hg : GI n T H (L.set (2 + 2 * (t % n)) (qn n t + 1 + 1)) 4 (upd o p x)) (ha : x.ahead = (o p).ahead) (h0 : (o p).out = 0) (hq : (o p).ph = 4)
    (hx0 : x.out = 1) (hxv : x.v = (o p).v) (ht : (o p).t = t) :
    Hist n T H (L.set (2 + 2 * (t % n)) (qn n t + 1 + 1)) (upd o p x) nx who num inT (upd tk (p - 2) (tk (p - 2) ++ [t])) ∧ x.v = v64 (who t) (num t) := by
  have hu : upd o p x p = x := upd_same _ _ _
  have hl := h.gi.c.len
  have hn := h.gi.c.n1
  have hm := Nat.mod_lt t (show n > 0 by omega)
  have hown : own (o p) := ⟨h0, .inr hq⟩
  have hnown : ¬ own x := fun e => by have := e.1; omega
  have hah : (o p).ahead = 1 := by rw [h.ahd p (by omega), aheadOf, if_neg (by omega)]
  have htn := fun s => tn_sett (L := L) (s := t) (v := qn n t + 1 + 1) hl hn s
  have htt : tn n L t = qn n t + 1 ∧ t < T := by
    obtain ⟨t', e1, -, -, -, e2⟩ := (h.gi.ok p (by omega)).t
    obtain rfl : t' = t := by omega
    obtain ⟨e3, e4, _⟩ := e2 h0 (.inr hq)
    rw [hah] at e3
    exact ⟨e3, e4⟩
  have hat : ∀ s : Nat, at_ (L.set (2 + 2 * (t % n)) (qn n t + 1 + 1)) ((3 + 2 * (s % n) : Nat) : Int) = at_ L ((3 + 2 * (s % n) : Nat) : Int) := fun s => by
    rw [at_set _ _ _ _ (by omega), if_neg (by omega)]
  have hp1 : ∀ s, cntTo 4 (pnd 0 (upd o p x) s) = cntTo 4 (pnd 0 o s) := fun s => pnd_same (by omega) 0 s (by rw [pnd_no (by rw [hu]; exact hnown), pnd_other (by rw [hah]; decide)])
  have hp0 : ∀ s, s ≠ t → cntTo 4 (pnd 1 (upd o p x) s) = cntTo 4 (pnd 1 o s) := fun s hs => pnd_same (by omega) 1 s (by rw [pnd_no (by rw [hu]; exact hnown), pnd_off (by rw [ht]; omega)])
  have hpT : cntTo 4 (pnd 1 (upd o p x) t) + 1 = cntTo 4 (pnd 1 o t) := by
    have := pnd_turn (o := o) 1 x t (show p < 4 by omega)
    rw [pnd_no (o := upd o p x) (by rw [hu]; exact hnown), pnd_yes hown hah ht] at this
    simpa using this
  have hne : ∀ q, q < 2 → q ≠ p := fun q hq => by omega
  have hv : x.v = v64 (who t) (num t) := by rw [hxv]; exact h.tkv p t hp2 hp h0 hq ht
  refine ⟨⟨hg, fun i hi => ?_, fun q hq h0' => ?_, h.rng, fun s q hs hq' hw h0' h3 h4 => ?_, h.inc, fun q s hq' ho hs => ?_, fun s hs hc => ?_, fun q s hq' h0' h4 hs => ?_, fun i s hi hi4 h0' h4 hs => ?_, fun s => by rw [hp1]; exact h.inC s, fun s hs hc => ?_, fun s => ?_, fun i hi => ?_, fun i s s' hi hs ho hs' => ?_⟩, hv⟩
  · by_cases e : i = p
    · subst e; rw [hu, ha]; exact h.ahd i hi
    · rw [upd_ne _ _ e]; exact h.ahd i hi
  · rw [upd_ne _ _ (hne q hq)] at h0' ⊢; exact h.vop q hq h0'
  · rw [upd_ne _ _ (hne q hq')] at h0' h3 h4
    exact h.uns s q hs hq' hw h0' h3 h4
  · rw [upd_ne _ _ (hne q hq')] at ho hs
    exact h.opt q s hq' ho hs
  · rw [htn] at hc
    rw [hat]
    split at hc
    · exfalso
      unfold qn at hc
      omega
    · exact h.cel s hs hc
  · rw [upd_ne _ _ (hne q hq')] at h0' h4 hs
    rw [hat]
    exact h.cep q s hq' h0' h4 hs
  · by_cases e : i = p
    · subst e; rw [hu] at h0'; omega
    · rw [upd_ne _ _ e] at h0' h4 hs ⊢
      exact h.tkv i s hi hi4 h0' h4 hs
  · rw [hp1] at hc
    have := h.don s hs hc
    rw [htn]
    split
    · rename_i e2
      rw [tn_same e2, htt.1] at this
      omega
    · exact this
  · have hk : p - 2 = 0 ∨ p - 2 = 1 := by omega
    have h9 := h.tkC s
    have hcnt : ∀ j, (upd tk (p - 2) (tk (p - 2) ++ [t]) j).count s = (tk j).count s + if j = p - 2 ∧ s = t then 1 else 0 := by
      intro j
      by_cases ej : j = p - 2
      · rw [ej, upd_same, List.count_append]
        by_cases e : s = t
        · subst e; simp
        · rw [if_neg (fun h => e h.2)]
          have e2 : List.count s [t] = 0 := List.count_eq_zero.2 (by simpa using e)
          omega
      · rw [upd_ne _ _ ej, if_neg (fun h => ej h.1)]; rfl
    rw [hcnt, hcnt]
    by_cases e : s = t
    · subst e
      rcases hk with hk | hk
      · rw [hk, if_pos ⟨rfl, rfl⟩, if_neg (by omega)]; omega
      · rw [hk, if_neg (by omega), if_pos ⟨rfl, rfl⟩]; omega
    · rw [if_neg (fun h => e h.2), if_neg (fun h => e h.2), hp0 s e]
      omega
  · by_cases ei : i = p - 2
    · rw [ei, upd_same, List.pairwise_append]
      refine ⟨h.tkO _ (by omega), List.pairwise_singleton _ _, fun a ha b hb => ?_⟩
      rw [List.mem_singleton] at hb
      subst hb
      exact h.tkB (p - 2) a b (by omega) ha (by rw [show 2 + (p - 2) = p by omega]; exact hown) (by rw [show 2 + (p - 2) = p by omega]; exact ht)
    · rw [upd_ne _ _ ei]; exact h.tkO i hi
  · by_cases e : 2 + i = p
    · subst e
      rw [hu] at ho
      exact absurd ho hnown
    · rw [upd_ne _ _ e] at ho hs'
      rw [upd_ne _ _ (by omega)] at hs
      exact h.tkB i s s' hi hs ho hs'
end
end Go.Proofs.Ytjjjjbfblhadnaa
