/-
  Many who put into a gate and take out of it at once: what holds between two steps, and what each has still to do (plain lists; no program).
-/
import Derived.Test.YtjjjjbfblhadnaaGateA
import Derived.Test.YtjjjjbfblhadnaaFam
namespace Go.Proofs.Ytjjjjbfblhadnaa
open Go.RowKit
set_option linter.unusedVariables false

theorem later {n a b : Nat} (hn : 1 ≤ n) (h : a % n = b % n) (hl : a < b) : a + n ≤ b ∧ a / n + 1 ≤ b / n := by
  have h1 := Nat.div_add_mod a n
  have h2 := Nat.div_add_mod b n
  have h3 : a / n < b / n := by
    rcases Nat.lt_or_ge (a / n) (b / n) with h3 | h3
    · exact h3
    · have := Nat.mul_le_mul_left n h3
      omega
  have h4 := Nat.mul_le_mul_left n (show a / n + 1 ≤ b / n from h3)
  rw [Nat.mul_add, Nat.mul_one] at h4
  omega
theorem same_ticket {n a b : Nat} (hn : 1 ≤ n) (h : a % n = b % n) (hq : a / n = b / n) : a = b := by
  rcases Nat.lt_trichotomy a b with h1 | h1 | h1
  · have := later hn h h1; omega
  · exact h1
  · have := later hn h.symm h1; omega
/-- The turn of a ticket's slot; twice its round. -/
def tn (n : Nat) (L : List Int) (t : Nat) : Int := at_ L ((2 + 2 * (t % n) : Nat) : Int)
def qn (n t : Nat) : Int := 2 * ((t / n : Nat) : Int)
theorem tn_same {n : Nat} {L : List Int} {a b : Nat} (h : a % n = b % n) : tn n L a = tn n L b := by unfold tn; rw [h]
/-- The cells of a gate: the tail is T, the head H. -/
structure GC (n T H : Nat) (L : List Int) : Prop where
  n1 : 1 ≤ n
  n64 : n ≤ 64
  len : L.length = 2 + 2 * n
  tail : at_ L ((0 : Nat) : Int) = T
  head : at_ L ((1 : Nat) : Int) = H
  le : H ≤ T
  ge : T ≤ H + n
  phi : ∀ t, T ≤ t → tn n L t ≤ qn n t
  plo : ∀ t, t < T → qn n t ≤ tn n L t
  thi : ∀ t, H ≤ t → tn n L t ≤ qn n t + 1
  tlo : ∀ t, t < H → qn n t + 1 ≤ tn n L t
/-- An operation that is over, or under way; E is the end at which it works. -/
structure GO (n T H : Nat) (L : List Int) (x : Gop) : Prop where
  ah : (x.ahead = 0 ∧ x.cell = 0) ∨ (x.ahead = 1 ∧ x.cell = 1)
  ph : x.ph = 0 ∨ x.ph = 1 ∨ x.ph = 2 ∨ x.ph = 3 ∨ x.ph = 4
  v : U64 x.v
  t : ∃ t : Nat, x.t = t ∧ t ≤ T ∧ (x.ahead = 1 → t ≤ H) ∧ (x.out = 0 → x.ph = 2 → qn n t + x.ahead ≤ tn n L t) ∧
    (x.out = 0 → x.ph = 3 ∨ x.ph = 4 → tn n L t = qn n t + x.ahead ∧ t < T ∧ (x.ahead = 1 → t < H))
def own (x : Gop) : Prop := x.out = 0 ∧ (x.ph = 3 ∨ x.ph = 4)
/-- The gate and k operations. -/
structure GI (n T H : Nat) (L : List Int) (k : Nat) (o : Nat → Gop) : Prop where
  c : GC n T H L
  ok : ∀ i, i < k → GO n T H L (o i)
  uq : ∀ i j, i < k → j < k → i ≠ j → own (o i) → own (o j) → (o i).ahead = (o j).ahead → (o i).t ≠ (o j).t
section
variable {n T H k p : Nat} {L : List Int} {o : Nat → Gop}
theorem GO.mono {T' H' : Nat} {L' : List Int} {x : Gop} (h : GO n T H L x) (hT : T ≤ T') (hH : H ≤ H') (hL : ∀ t, tn n L' t = tn n L t) : GO n T' H' L' x := by
  obtain ⟨t, e, a, b, c, d⟩ := h.t
  refine ⟨h.ah, h.ph, h.v, t, e, by omega, fun h1 => by have := b h1; omega, fun h1 h2 => by rw [hL]; exact c h1 h2, fun h1 h2 => ?_⟩
  obtain ⟨d1, d2, d3⟩ := d h1 h2
  exact ⟨by rw [hL]; exact d1, by omega, fun h3 => by have := d3 h3; omega⟩
theorem GO.okk {x : Gop} (h : GO n T H L x) (hc : GC n T H L) (hs : T ≤ 1000000) : GopOk 0 L.length x := by
  have := hc.len
  have := hc.n1
  obtain ⟨t, e, a, -⟩ := h.t
  exact ⟨h.ph, by rcases h.ah with ⟨_, e⟩ | ⟨_, e⟩ <;> omega, by rcases h.ah with ⟨_, e⟩ | ⟨_, e⟩ <;> omega, by rw [e]; unfold U64; omega, h.v⟩
/-- A step that turns no turn. -/
theorem GI.keep {x : Gop} (h : GI n T H L k o) (hp : p < k) (hx : GO n T H L x) (hu : own x → own (o p) ∧ x.ahead = (o p).ahead ∧ x.t = (o p).t) : GI n T H L k (upd o p x) := by
  refine ⟨h.c, fun i hi => ?_, fun i j hi hj hij h1 h2 h3 => ?_⟩
  · by_cases e : i = p
    · subst e; rw [upd_same]; exact hx
    · rw [upd_ne _ _ e]; exact h.ok i hi
  · by_cases e : i = p
    · subst e
      have e2 : j ≠ i := fun e => hij e.symm
      rw [upd_same] at h1 h3 ⊢
      rw [upd_ne _ _ e2] at h2 h3 ⊢
      obtain ⟨a, b, c⟩ := hu h1
      rw [c]
      exact h.uq i j hi hj hij a h2 (by rw [← b]; exact h3)
    · rw [upd_ne _ _ e] at h1 h3 ⊢
      by_cases e2 : j = p
      · subst e2
        rw [upd_same] at h2 h3 ⊢
        obtain ⟨a, b, c⟩ := hu h2
        rw [c]
        exact h.uq i j hi hj hij h1 a (by rw [← b]; exact h3)
      · rw [upd_ne _ _ e2] at h2 h3 ⊢
        exact h.uq i j hi hj hij h1 h2 h3
theorem GC.at_end (h : GC n T H L) {x : Gop} (hx : GO n T H L x) : ∃ E : Nat, at_ L x.cell = E ∧ E ≤ T ∧ (x.ahead = 1 → E = H) ∧ (x.ahead = 0 → E = T) := by
  rcases hx.ah with ⟨a, b⟩ | ⟨a, b⟩
  · exact ⟨T, by rw [b]; exact h.tail, Nat.le_refl _, by omega, fun _ => rfl⟩
  · exact ⟨H, by rw [b]; exact h.head, h.le, fun _ => rfl, by omega⟩
/-- Phase 0: the end is read. -/
theorem GI.s0 (h : GI n T H L k o) (hp : p < k) (h0 : (o p).out = 0) (hq : (o p).ph = 0) : ∃ E : Nat, at_ L (o p).cell = E ∧ gstep 0 n L (o p) = (L, { (o p) with ph := 1, t := E }) ∧ GI n T H L k (upd o p { (o p) with ph := 1, t := E }) := by
  have hx := h.ok p hp
  obtain ⟨E, e1, e2, e3, e4⟩ := h.c.at_end hx
  refine ⟨E, e1, by rw [gstep0 h0 hq, e1], h.keep hp ⟨hx.ah, .inr (.inl rfl), hx.v, E, rfl, e2, fun h1 => by rw [e3 h1]; exact Nat.le_refl _, fun _ h2 => by simp at h2, fun _ h2 => by simp at h2⟩ fun h1 => ?_⟩
  obtain ⟨-, h2⟩ := h1
  simp at h2
theorem GI.t_ (h : GI n T H L k o) (hp : p < k) (hs : T ≤ 1000000) : ∃ t : Nat, (o p).t = t ∧ t ≤ T ∧ at_ L (slotOf 0 n (o p).t) = tn n L t ∧ wantOf n (o p).ahead (o p).t = qn n t + (o p).ahead := by
  have hx := h.ok p hp
  obtain ⟨t, e, a, -⟩ := hx.t
  exact ⟨t, e, a, by rw [e, slot_nat]; rfl, by rw [e, want_nat n t _ (by omega) (by rcases hx.ah with ⟨a, _⟩ | ⟨a, _⟩ <;> simp [a])]; rfl⟩
/-- Phase 1: the turn is as it should be; beyond; behind. -/
theorem GI.s1e (h : GI n T H L k o) (hp : p < k) (hs : T ≤ 1000000) (h0 : (o p).out = 0) (hq : (o p).ph = 1) (hw : at_ L (slotOf 0 n (o p).t) = wantOf n (o p).ahead (o p).t) :
    gstep 0 n L (o p) = (L, { (o p) with ph := 2 }) ∧ GI n T H L k (upd o p { (o p) with ph := 2 }) := by
  have hx := h.ok p hp
  obtain ⟨t, e, a, e1, e2⟩ := h.t_ hp hs
  obtain ⟨s1, s2⟩ := turn_eq (o p).ahead hw
  obtain ⟨t', e', -, b, -⟩ := hx.t
  have ht : t' = t := by omega
  subst ht
  refine ⟨by rw [gstep1 h0 hq, s1, s2, ← h0], h.keep hp ⟨hx.ah, .inr (.inr (.inl rfl)), hx.v, t', e, a, b, fun _ _ => by rw [← e2, ← e1, hw]; exact Int.le_refl _, fun _ h2 => by simp at h2⟩ fun h1 => ?_⟩
  obtain ⟨-, h2⟩ := h1
  simp at h2
theorem GI.s1g (h : GI n T H L k o) (hp : p < k) (hs : T ≤ 1000000) (h0 : (o p).out = 0) (hq : (o p).ph = 1) (hw : wantOf n (o p).ahead (o p).t < at_ L (slotOf 0 n (o p).t)) :
    gstep 0 n L (o p) = (L, { (o p) with ph := 0 }) ∧ GI n T H L k (upd o p { (o p) with ph := 0 }) ∧ (o p).t ≠ at_ L (o p).cell := by
  have hx := h.ok p hp
  obtain ⟨t, e, a, e1, e2⟩ := h.t_ hp hs
  obtain ⟨s1, s2⟩ := turn_gt (o p).ahead hw
  obtain ⟨t', e', -, b, -⟩ := hx.t
  have ht : t' = t := by omega
  subst ht
  refine ⟨by rw [gstep1 h0 hq, s1, s2, ← h0], h.keep hp ⟨hx.ah, .inl rfl, hx.v, t', e, a, b, fun _ h2 => by simp at h2, fun _ h2 => by simp at h2⟩ fun h1 => ?_, fun he => ?_⟩
  · obtain ⟨-, h2⟩ := h1
    simp at h2
  · obtain ⟨E, f1, f2, f3, f4⟩ := h.c.at_end hx
    have hE : t' = E := by omega
    subst hE
    rw [e1, e2] at hw
    rcases hx.ah with ⟨a0, _⟩ | ⟨a1, _⟩
    · have := h.c.phi t' (by rw [f4 a0]; exact Nat.le_refl _)
      omega
    · have := h.c.thi t' (by rw [f3 a1]; exact Nat.le_refl _)
      omega
theorem GI.s1l (h : GI n T H L k o) (hp : p < k) (hs : T ≤ 1000000) (h0 : (o p).out = 0) (hq : (o p).ph = 1) (hw : at_ L (slotOf 0 n (o p).t) < wantOf n (o p).ahead (o p).t) :
    ∃ out, out ≠ 0 ∧ out ≠ 1 ∧ gstep 0 n L (o p) = (L, { (o p) with out := out }) ∧ GI n T H L k (upd o p { (o p) with out := out }) := by
  have hx := h.ok p hp
  obtain ⟨s1, s2⟩ := turn_lt (o p).ahead hw
  obtain ⟨t, e, a, b, -⟩ := hx.t
  refine ⟨if (o p).ahead = 0 then 2 else 4, by split <;> decide, by split <;> decide, by rw [gstep1 h0 hq, s1, s2, ← hq], h.keep hp ⟨hx.ah, hx.ph, hx.v, t, e, a, b, fun h1 _ => ?_, fun h1 _ => ?_⟩ fun h1 => ?_⟩
  · have h1' : (if (o p).ahead = 0 then (2 : Int) else 4) = 0 := h1
    split at h1' <;> omega
  · have h1' : (if (o p).ahead = 0 then (2 : Int) else 4) = 0 := h1
    split at h1' <;> omega
  · have h1' : (if (o p).ahead = 0 then (2 : Int) else 4) = 0 := h1.1
    split at h1' <;> omega
/-- Phase 2: the swap isn't done. -/
theorem GI.s2n (h : GI n T H L k o) (hp : p < k) (h0 : (o p).out = 0) (hq : (o p).ph = 2) (hw : at_ L (o p).cell ≠ (o p).t) :
    gstep 0 n L (o p) = (L, { (o p) with ph := 0 }) ∧ GI n T H L k (upd o p { (o p) with ph := 0 }) := by
  have hx := h.ok p hp
  obtain ⟨s1, s2⟩ := swap_no_of hw
  obtain ⟨t, e, a, b, -⟩ := hx.t
  refine ⟨by rw [gstep2 h0 hq, s1, s2], h.keep hp ⟨hx.ah, .inl rfl, hx.v, t, e, a, b, fun _ h2 => by simp at h2, fun _ h2 => by simp at h2⟩ fun h1 => ?_⟩
  obtain ⟨-, h2⟩ := h1
  simp at h2
theorem tn_set0 {c : Nat} {v : Int} (hl : L.length = 2 + 2 * n) (hn : 1 ≤ n) (hc : c ≤ 1) (t : Nat) : tn n (L.set c v) t = tn n L t := by
  unfold tn
  rw [at_set _ _ _ _ (by omega), if_neg (by omega)]
theorem tn_setv {j : Nat} {v : Int} (hl : L.length = 2 + 2 * n) (hj : j < n) (t : Nat) : tn n (L.set (3 + 2 * j) v) t = tn n L t := by
  unfold tn
  rw [at_set _ _ _ _ (by omega), if_neg (by omega)]
theorem tn_sett {s : Nat} {v : Int} (hl : L.length = 2 + 2 * n) (hn : 1 ≤ n) (t : Nat) : tn n (L.set (2 + 2 * (s % n)) v) t = if t % n = s % n then v else tn n L t := by
  have hm := Nat.mod_lt s (show n > 0 by omega)
  unfold tn
  rw [at_set _ _ _ _ (by omega)]
  by_cases h : t % n = s % n
  · rw [if_pos (by omega), if_pos h]
  · rw [if_neg (by omega), if_neg h]
/-- Phase 2: the swap is done. -/
theorem GI.s2y (h : GI n T H L k o) (hp : p < k) (hs : T ≤ 1000000) (h0 : (o p).out = 0) (hq : (o p).ph = 2) (hw : at_ L (o p).cell = (o p).t) :
    ∃ t T' H' : Nat, (o p).t = t ∧ gstep 0 n L (o p) = (L.set (o p).cell.toNat ((t + 1 : Nat) : Int), { (o p) with ph := 3 }) ∧ GI n T' H' (L.set (o p).cell.toNat ((t + 1 : Nat) : Int)) k (upd o p { (o p) with ph := 3 }) ∧
      ((o p).ahead = 0 → T' = T + 1 ∧ H' = H ∧ t = T) ∧ ((o p).ahead = 1 → T' = T ∧ H' = H + 1 ∧ t = H) := by
  have hx := h.ok p hp
  obtain ⟨s1, s2⟩ := swap_yes_of hw
  obtain ⟨t, e, a, b, c, -⟩ := hx.t
  have hc := c h0 hq
  have hl := h.c.len
  have hn := h.c.n1
  have hge := h.c.ge
  have hle := h.c.le
  obtain ⟨E, f1, f2, f3, f4⟩ := h.c.at_end hx
  have hE : t = E := by omega
  subst hE
  have hst : gstep 0 n L (o p) = (L.set (o p).cell.toNat ((t + 1 : Nat) : Int), { (o p) with ph := 3 }) := by
    rw [gstep2 h0 hq, s1, s2, show add64 (o p).t 1 = ((t + 1 : Nat) : Int) from by rw [e, add64_nat t (by omega)]]
  have hfam : ∀ (T' H' : Nat), T ≤ T' → H ≤ H' → GC n T' H' (L.set (o p).cell.toNat ((t + 1 : Nat) : Int)) → (t < T' ∧ ((o p).ahead = 1 → t < H')) → tn n L t = qn n t + (o p).ahead → (∀ i, i < k → own (o i) → (o i).ahead = (o p).ahead → (o i).t ≠ t) →
      (o p).cell.toNat ≤ 1 → GI n T' H' (L.set (o p).cell.toNat ((t + 1 : Nat) : Int)) k (upd o p { (o p) with ph := 3 }) := by
    intro T' H' hT hH hgc ht htn hne hcell
    have hmono : ∀ s, tn n (L.set (o p).cell.toNat ((t + 1 : Nat) : Int)) s = tn n L s := fun s => tn_set0 hl hn hcell s
    refine ⟨hgc, fun i hi => ?_, fun i j hi hj hij h1 h2 h3 => ?_⟩
    · by_cases e' : i = p
      · subst e'
        rw [upd_same]
        exact ⟨hx.ah, by simp, hx.v, t, e, by omega, fun h1 => by have := ht.2 h1; omega, fun _ h2 => by simp at h2, fun _ _ => ⟨by rw [hmono]; exact htn, ht.1, ht.2⟩⟩
      · rw [upd_ne _ _ e']
        exact (h.ok i hi).mono hT hH hmono
    · by_cases e' : i = p
      · subst e'
        have e2 : j ≠ i := fun e => hij e.symm
        rw [upd_ne _ _ e2] at h2
        rw [upd_same, upd_ne _ _ e2] at h3 ⊢
        exact fun h4 => hne j hj h2 h3.symm (by rw [← h4]; exact e)
      · rw [upd_ne _ _ e'] at h1 h3 ⊢
        by_cases e2 : j = p
        · subst e2
          rw [upd_same] at h3 ⊢
          exact fun h4 => hne i hi h1 h3 (by rw [h4]; exact e)
        · rw [upd_ne _ _ e2] at h2 h3 ⊢
          exact h.uq i j hi hj hij h1 h2 h3
  have hown : ∀ i, i < k → own (o i) → (o i).ahead = (o p).ahead → (o i).t ≠ t := by
    intro i hi h1 h2 h3
    obtain ⟨t', g1, -, -, -, g2⟩ := (h.ok i hi).t
    obtain ⟨g3, g4, g5⟩ := g2 h1.1 h1.2
    rcases hx.ah with ⟨a0, _⟩ | ⟨a1, _⟩
    · have := f4 a0; omega
    · have := f3 a1; have := g5 (by rw [h2]; exact a1); omega
  rcases hx.ah with ⟨a0, b0⟩ | ⟨a1, b1⟩
  · obtain rfl : t = T := f4 a0
    have hup := h.c.phi t (Nat.le_refl _)
    have hlt : t < H + n := by
      rcases Nat.lt_or_ge t (H + n) with h1 | h1
      · exact h1
      · have h2 : t = H + n := by omega
        have h3 := h.c.thi H (Nat.le_refl _)
        have h4 : H % n = t % n := by rw [h2]; simp
        have h5 : t / n = H / n + 1 := by rw [h2]; exact Nat.add_div_right _ (by omega)
        rw [tn_same h4] at h3
        unfold qn at h3 hc
        rw [h5] at hc
        omega
    refine ⟨t, t + 1, H, e, hst, hfam _ _ (by omega) (Nat.le_refl _) ?_ ⟨by omega, by omega⟩ (by omega) hown (by rw [b0]; decide), fun _ => ⟨rfl, rfl, rfl⟩, by omega⟩
    rw [b0, show (0 : Int).toNat = 0 from rfl]
    refine ⟨hn, h.c.n64, by simpa using hl, by rw [at_set _ _ _ _ (by omega), if_pos rfl], by rw [at_set _ _ _ _ (by omega), if_neg (by omega)]; exact h.c.head, by omega, by omega, fun s hs => ?_, fun s hs => ?_, fun s hs => ?_, fun s hs => ?_⟩
    · rw [tn_set0 hl hn (by omega)]; exact h.c.phi s (by omega)
    · rw [tn_set0 hl hn (by omega)]
      by_cases e' : s = t
      · subst e'; omega
      · exact h.c.plo s (by omega)
    · rw [tn_set0 hl hn (by omega)]; exact h.c.thi s (by omega)
    · rw [tn_set0 hl hn (by omega)]; exact h.c.tlo s (by omega)
  · obtain rfl : t = H := f3 a1
    have hup := h.c.thi t (Nat.le_refl _)
    have hlt : t < T := by
      rcases Nat.lt_or_ge t T with h1 | h1
      · exact h1
      · have := h.c.phi t h1
        omega
    refine ⟨t, T, t + 1, e, hst, hfam _ _ (Nat.le_refl _) (by omega) ?_ ⟨hlt, fun _ => by omega⟩ (by omega) hown (by rw [b1]; decide), by omega, fun _ => ⟨rfl, rfl, rfl⟩⟩
    rw [b1, show (1 : Int).toNat = 1 from rfl]
    refine ⟨hn, h.c.n64, by simpa using hl, by rw [at_set _ _ _ _ (by omega), if_neg (by omega)]; exact h.c.tail, by rw [at_set _ _ _ _ (by omega), if_pos rfl], by omega, by omega, fun s hs => ?_, fun s hs => ?_, fun s hs => ?_, fun s hs => ?_⟩
    · rw [tn_set0 hl hn (by omega)]; exact h.c.phi s (by omega)
    · rw [tn_set0 hl hn (by omega)]; exact h.c.plo s (by omega)
    · rw [tn_set0 hl hn (by omega)]; exact h.c.thi s (by omega)
    · rw [tn_set0 hl hn (by omega)]
      by_cases e' : s = t
      · subst e'; omega
      · exact h.c.tlo s (by omega)
/-- Phase 3: the value. -/
theorem GI.s3 (h : GI n T H L k o) (hu : AllU L) (hp : p < k) (hs : T ≤ 1000000) (h0 : (o p).out = 0) (hq : (o p).ph = 3) :
    ∃ t : Nat, (o p).t = t ∧ gstep 0 n L (o p) = (if (o p).ahead = 0 then L.set (3 + 2 * (t % n)) (o p).v else L, { (o p) with ph := 4, v := if (o p).ahead = 0 then (o p).v else at_ L ((3 + 2 * (t % n) : Nat) : Int) }) ∧
      GI n T H (if (o p).ahead = 0 then L.set (3 + 2 * (t % n)) (o p).v else L) k (upd o p { (o p) with ph := 4, v := if (o p).ahead = 0 then (o p).v else at_ L ((3 + 2 * (t % n) : Nat) : Int) }) := by
  have hx := h.ok p hp
  obtain ⟨t, e, a, b, -, d⟩ := hx.t
  have hd := d h0 (.inl hq)
  have hl := h.c.len
  have hn := h.c.n1
  have hm := Nat.mod_lt t (show n > 0 by omega)
  refine ⟨t, e, ?_, ?_⟩
  · rw [gstep3 h0 hq, show slotOf 0 n (o p).t = ((2 + 2 * (t % n) : Nat) : Int) from by rw [e, slot_nat]]
    unfold valL valV
    rw [show (((2 + 2 * (t % n) : Nat) : Int) + 1) = ((3 + 2 * (t % n) : Nat) : Int) by omega, Int.toNat_natCast]
  · have hfam : ∀ (L' : List Int), GC n T H L' → (∀ s, tn n L' s = tn n L s) → ∀ v', U64 v' → GI n T H L' k (upd o p { (o p) with ph := 4, v := v' }) := by
      intro L' hc hL v' hv'
      have h' : GI n T H L' k o := ⟨hc, fun i hi => (h.ok i hi).mono (Nat.le_refl _) (Nat.le_refl _) hL, h.uq⟩
      refine h'.keep hp ⟨hx.ah, by simp, hv', t, e, a, b, fun _ h2 => by simp at h2, fun _ _ => by rw [hL]; exact hd⟩ fun _ => ⟨⟨h0, .inl hq⟩, rfl, rfl⟩
    by_cases ha : (o p).ahead = 0
    · rw [if_pos ha, if_pos ha]
      have hL := fun s => tn_setv (L := L) (v := (o p).v) hl hm s
      refine hfam _ ⟨hn, h.c.n64, by simpa using hl, by rw [at_set _ _ _ _ (by omega), if_neg (by omega)]; exact h.c.tail, by rw [at_set _ _ _ _ (by omega), if_neg (by omega)]; exact h.c.head, h.c.le, h.c.ge, fun s hs => ?_, fun s hs => ?_, fun s hs => ?_, fun s hs => ?_⟩ hL _ hx.v
      · rw [hL]; exact h.c.phi s hs
      · rw [hL]; exact h.c.plo s hs
      · rw [hL]; exact h.c.thi s hs
      · rw [hL]; exact h.c.tlo s hs
    · rw [if_neg ha, if_neg ha]
      exact hfam L h.c (fun _ => rfl) _ (hu.at_ _)
/-- Phase 4: the turn. -/
theorem GI.s4 (h : GI n T H L k o) (hp : p < k) (hs : T ≤ 1000000) (h0 : (o p).out = 0) (hq : (o p).ph = 4) :
    ∃ t : Nat, (o p).t = t ∧ gstep 0 n L (o p) = (L.set (2 + 2 * (t % n)) (qn n t + (o p).ahead + 1), { (o p) with out := 1 }) ∧ GI n T H (L.set (2 + 2 * (t % n)) (qn n t + (o p).ahead + 1)) k (upd o p { (o p) with out := 1 }) := by
  have hx := h.ok p hp
  obtain ⟨t, e, a, b, -, d⟩ := hx.t
  obtain ⟨d1, d2, d3⟩ := d h0 (.inr hq)
  have hl := h.c.len
  have hn := h.c.n1
  have hle := h.c.le
  have hge := h.c.ge
  have hm := Nat.mod_lt t (show n > 0 by omega)
  have ha01 : (o p).ahead = 0 ∨ (o p).ahead = 1 := by rcases hx.ah with ⟨h, _⟩ | ⟨h, _⟩ <;> simp [h]
  have hst : gstep 0 n L (o p) = (L.set (2 + 2 * (t % n)) (qn n t + (o p).ahead + 1), { (o p) with out := 1 }) := by
    have hq0 : t / n ≤ t := Nat.div_le_self _ _
    have h9 : add64 (qn n t + (o p).ahead) 1 = qn n t + (o p).ahead + 1 := by
      unfold qn
      rcases ha01 with h1 | h1
      · have := add64_want (t / n) 0 (by omega) (by omega)
        rw [h1]
        simpa using this
      · have := add64_want (t / n) 1 (by omega) (by omega)
        rw [h1]
        have h2 : (2 * ((t / n : Nat) : Int) + ((1 : Nat) : Int)) = 2 * ((t / n : Nat) : Int) + 1 := by omega
        rw [h2] at this
        rw [this]
        omega
    rw [gstep4 h0 hq, show slotOf 0 n (o p).t = ((2 + 2 * (t % n) : Nat) : Int) from by rw [e, slot_nat], Int.toNat_natCast, show wantOf n (o p).ahead (o p).t = qn n t + (o p).ahead from by rw [e, want_nat n t _ (by omega) ha01]; rfl, h9]
  have hset := fun s => tn_sett (L := L) (s := t) (v := qn n t + (o p).ahead + 1) hl hn s
  have hup : ∀ s, tn n L s ≤ tn n (L.set (2 + 2 * (t % n)) (qn n t + (o p).ahead + 1)) s := by
    intro s
    rw [hset]
    split
    · rename_i h1
      rw [tn_same h1, d1]
      omega
    · exact Int.le_refl _
  have hnext : ∀ s, s % n = t % n → t < s → qn n t + 2 ≤ qn n s := by
    intro s h1 h2
    have := (later hn h1.symm h2).2
    unfold qn
    omega
  have hgc : GC n T H (L.set (2 + 2 * (t % n)) (qn n t + (o p).ahead + 1)) := by
    refine ⟨hn, h.c.n64, by simpa using hl, by rw [at_set _ _ _ _ (by omega), if_neg (by omega)]; exact h.c.tail, by rw [at_set _ _ _ _ (by omega), if_neg (by omega)]; exact h.c.head, hle, hge, fun s hs => ?_, fun s hs => ?_, fun s hs => ?_, fun s hs => ?_⟩
    · rw [hset]
      split
      · rename_i h1
        have := hnext s h1 (by omega)
        rcases ha01 with h2 | h2 <;> omega
      · exact h.c.phi s hs
    · exact Int.le_trans (h.c.plo s hs) (hup s)
    · rw [hset]
      split
      · rename_i h1
        rcases Nat.lt_trichotomy s t with h2 | h2 | h2
        · have := (later hn h1 h2).1
          omega
        · subst h2
          rcases ha01 with h3 | h3
          · omega
          · have := d3 h3; omega
        · have := hnext s h1 h2
          rcases ha01 with h2 | h2 <;> omega
      · exact h.c.thi s hs
    · exact Int.le_trans (h.c.tlo s hs) (hup s)
  refine ⟨t, e, hst, hgc, fun i hi => ?_, fun i j hi hj hij h1 h2 h3 => ?_⟩
  · by_cases e' : i = p
    · subst e'
      rw [upd_same]
      exact ⟨hx.ah, hx.ph, hx.v, t, e, a, b, fun h1 _ => by simp at h1, fun h1 _ => by simp at h1⟩
    · rw [upd_ne _ _ e']
      have hy := h.ok i hi
      obtain ⟨t', g1, g2, g3, g4, g5⟩ := hy.t
      refine ⟨hy.ah, hy.ph, hy.v, t', g1, g2, g3, fun h1 h2 => Int.le_trans (g4 h1 h2) (hup t'), fun h1 h2 => ?_⟩
      obtain ⟨f1, f2, f3⟩ := g5 h1 h2
      refine ⟨?_, f2, f3⟩
      rw [hset]
      split
      · rename_i h4
        exfalso
        rw [tn_same h4, d1] at f1
        have ha' : (o i).ahead = 0 ∨ (o i).ahead = 1 := by rcases hy.ah with ⟨h, _⟩ | ⟨h, _⟩ <;> simp [h]
        have hqq : t / n = t' / n ∧ (o i).ahead = (o p).ahead := by
          unfold qn at f1
          rcases ha01 with h5 | h5 <;> rcases ha' with h6 | h6 <;> rw [h5, h6] at f1 ⊢ <;> omega
        have := same_ticket hn h4.symm hqq.1
        exact h.uq i p hi hp e' ⟨h1, h2⟩ ⟨h0, .inr hq⟩ hqq.2 (by rw [g1, e, this])
      · exact f1
  · by_cases e' : i = p
    · subst e'
      rw [upd_same] at h1
      have : (1 : Int) = 0 := h1.1
      omega
    · rw [upd_ne _ _ e'] at h1 h3 ⊢
      by_cases e2 : j = p
      · subst e2
        rw [upd_same] at h2
        have : (1 : Int) = 0 := h2.1
        omega
      · rw [upd_ne _ _ e2] at h2 h3 ⊢
        exact h.uq i j hi hj hij h1 h2 h3
end
end Go.Proofs.Ytjjjjbfblhadnaa
