/-
  GateFree, the plain law: what each operation has still to do; a step of one's own lowers it, another's raises it never.
-/
import Derived.Test.YtjjjjbfblhadnaaGateC
namespace Go.Proofs.Ytjjjjbfblhadnaa
open Go.RowKit
set_option linter.unusedVariables false

/-- Ahead of its swap. -/
def unsw (a : Int) (o : Nat → Gop) (j : Nat) : Bool := decide ((o j).out = 0 ∧ ((o j).ph = 0 ∨ (o j).ph = 1 ∨ (o j).ph = 2) ∧ (o j).ahead = a)
def left0 (L : List Int) (x : Gop) : Nat :=
  if x.ph = 0 then 2 else if x.ph = 1 then (if x.t = at_ L x.cell then 1 else 4) else if x.t = at_ L x.cell then 0 else 3
/-- What an operation has still to do. -/
def cost (k : Nat) (L : List Int) (o : Nat → Gop) (i : Nat) : Nat :=
  if (o i).out ≠ 0 then 0 else if (o i).ph = 3 then 2 else if (o i).ph = 4 then 1 else left0 L (o i) + 3 * cntTo k (unsw (o i).ahead o)
theorem left0_le (L : List Int) (x : Gop) : left0 L x ≤ 4 := by
  unfold left0
  split
  · omega
  · split
    · split <;> omega
    · split <;> omega
section
variable {n T H k p : Nat} {L : List Int} {o : Nat → Gop}
theorem cost_le (k : Nat) (L : List Int) (o : Nat → Gop) (i : Nat) : cost k L o i ≤ 4 + 3 * k := by
  have h1 := left0_le L (o i)
  have h2 := cntTo_le k (unsw (o i).ahead o)
  unfold cost
  split
  · omega
  · split
    · omega
    · split <;> omega
theorem cntTo_mem {n : Nat} {f : Nat → Bool} {q : Nat} (hq : q < n) (h : f q = true) : 1 ≤ cntTo n f := by
  have := cntTo_turn (n := n) (q := q) (f := f) (g := fun i => if i = q then false else f i) hq fun i hi => by simp [hi]
  simp only [h, if_true] at this
  simp at this
  omega
theorem cost_pos (hp : p < k) (hx : (o p).ph = 0 ∨ (o p).ph = 1 ∨ (o p).ph = 2 ∨ (o p).ph = 3 ∨ (o p).ph = 4) (h0 : cost k L o p = 0) : (o p).out ≠ 0 := by
  intro h
  unfold cost at h0
  rw [if_neg (by simp [h])] at h0
  by_cases h3 : (o p).ph = 3
  · rw [if_pos h3] at h0; omega
  · rw [if_neg h3] at h0
    by_cases h4 : (o p).ph = 4
    · rw [if_pos h4] at h0; omega
    · rw [if_neg h4] at h0
      have : unsw (o p).ahead o p = true := by
        unfold unsw
        rw [decide_eq_true_eq]
        exact ⟨h, by omega, rfl⟩
      have := cntTo_mem hp this
      omega
theorem cost_over (h : (o p).out ≠ 0) : cost k L o p = 0 := by unfold cost; rw [if_pos h]
theorem cost_3 (h : (o p).out = 0) (hq : (o p).ph = 3) : cost k L o p = 2 := by unfold cost; rw [if_neg (by simp [h]), if_pos hq]
theorem cost_4 (h : (o p).out = 0) (hq : (o p).ph = 4) : cost k L o p = 1 := by unfold cost; rw [if_neg (by simp [h]), if_neg (by omega), if_pos hq]
theorem cost_un (h : (o p).out = 0) (hq : (o p).ph ≠ 3) (hq' : (o p).ph ≠ 4) : cost k L o p = left0 L (o p) + 3 * cntTo k (unsw (o p).ahead o) := by
  unfold cost; rw [if_neg (by simp [h]), if_neg hq, if_neg hq']
theorem unsw_ne (a : Int) (x : Gop) {i : Nat} (hi : i ≠ p) : unsw a (upd o p x) i = unsw a o i := by unfold unsw; rw [upd_ne _ _ hi]
/-- The count of those ahead of their swap, where one of them turns. -/
theorem unsw_turn (a : Int) (x : Gop) (hp : p < k) : cntTo k (unsw a (upd o p x)) + (if unsw a o p then 1 else 0) = cntTo k (unsw a o) + (if unsw a (upd o p x) p then 1 else 0) :=
  cntTo_turn hp fun i hi => unsw_ne a x hi
theorem unsw_same (x : Gop) (hp : p < k) (ha : x.ahead = (o p).ahead) (hu : x.out = 0 → (x.ph = 0 ∨ x.ph = 1 ∨ x.ph = 2) → (o p).out = 0 ∧ ((o p).ph = 0 ∨ (o p).ph = 1 ∨ (o p).ph = 2)) (a : Int) : cntTo k (unsw a (upd o p x)) ≤ cntTo k (unsw a o) := by
  have h1 := unsw_turn (o := o) a x hp
  by_cases h2 : unsw a (upd o p x) p = true
  · have h3 : unsw a o p = true := by
      unfold unsw at h2 ⊢
      rw [upd_same] at h2
      rw [decide_eq_true_eq] at h2 ⊢
      obtain ⟨h4, h5, h6⟩ := h2
      obtain ⟨h7, h8⟩ := hu h4 h5
      exact ⟨h7, h8, by rw [← h6, ha]⟩
    rw [h2, h3] at h1
    simp at h1
    omega
  · have h2' : unsw a (upd o p x) p = false := by simpa using h2
    rw [h2'] at h1
    simp at h1
    omega
/-- Others, where the ends stay. -/
theorem cost_other {L' : List Int} {x : Gop} (hp : p < k) (hL : ∀ i, i < k → at_ L' (o i).cell = at_ L (o i).cell) (ha : x.ahead = (o p).ahead)
    (hu : x.out = 0 → (x.ph = 0 ∨ x.ph = 1 ∨ x.ph = 2) → (o p).out = 0 ∧ ((o p).ph = 0 ∨ (o p).ph = 1 ∨ (o p).ph = 2)) {i : Nat} (hi : i < k) (hip : i ≠ p) : cost k L' (upd o p x) i ≤ cost k L o i := by
  unfold cost
  rw [upd_ne _ _ hip]
  have h1 := unsw_same x hp ha hu (o i).ahead
  have h2 : left0 L' (o i) = left0 L (o i) := by unfold left0; rw [hL i hi]
  rw [h2]
  split
  · exact Nat.le_refl _
  · split
    · exact Nat.le_refl _
    · split
      · exact Nat.le_refl _
      · omega
/-- Others, where one has swapped. -/
theorem left0_moved {L' : List Int} (x : Gop) : left0 L' x ≤ left0 L x + 3 := by
  unfold left0
  split
  · omega
  · split
    · split <;> split <;> omega
    · split <;> split <;> omega
theorem cost_swapped {L' : List Int} {x : Gop} (hp : p < k) (hL : ∀ i, i < k → (o i).ahead ≠ (o p).ahead → at_ L' (o i).cell = at_ L (o i).cell) (ha : x.ahead = (o p).ahead) (hx : x.ph = 3)
    (h0 : (o p).out = 0) (hq : (o p).ph = 2) {i : Nat} (hi : i < k) (hip : i ≠ p) : cost k L' (upd o p x) i ≤ cost k L o i := by
  by_cases he : (o i).ahead = (o p).ahead
  · unfold cost
    rw [upd_ne _ _ hip]
    have h1 := unsw_turn (o := o) (o i).ahead x hp
    have h2 : unsw (o i).ahead o p = true := by unfold unsw; rw [decide_eq_true_eq]; exact ⟨h0, by omega, he.symm⟩
    have h3 : unsw (o i).ahead (upd o p x) p = false := by
      unfold unsw
      rw [upd_same, decide_eq_false_iff_not]
      rintro ⟨_, h, _⟩
      omega
    rw [h2, h3] at h1
    simp at h1
    have h4 := left0_moved (L := L) (L' := L') (o i)
    split
    · exact Nat.le_refl _
    · split
      · exact Nat.le_refl _
      · split
        · exact Nat.le_refl _
        · omega
  · have h1 := unsw_same (o := o) x hp ha (fun _ h => by omega) (o i).ahead
    have h2 : left0 L' (o i) = left0 L (o i) := by unfold left0; rw [hL i hi he]
    unfold cost
    rw [upd_ne _ _ hip, h2]
    split
    · exact Nat.le_refl _
    · split
      · exact Nat.le_refl _
      · split
        · exact Nat.le_refl _
        · omega

theorem cost_next {x : Gop} (hp : p < k) (h0 : (o p).out = 0) (hun : (o p).ph = 0 ∨ (o p).ph = 1 ∨ (o p).ph = 2) (ha : x.ahead = (o p).ahead) (hx0 : x.out = 0) (hxq : x.ph ≠ 3) (hxq' : x.ph ≠ 4)
    (hl : left0 L x + 1 ≤ left0 L (o p)) : cost k L (upd o p x) p + 1 ≤ cost k L o p := by
  have h9 := unsw_same (o := o) (k := k) x hp ha (fun _ _ => ⟨h0, hun⟩) (o p).ahead
  have hu : upd o p x p = x := upd_same _ _ _
  have e : cost k L (upd o p x) p = left0 L x + 3 * cntTo k (unsw (o p).ahead (upd o p x)) := by
    rw [cost_un (by rw [hu]; exact hx0) (by rw [hu]; exact hxq) (by rw [hu]; exact hxq'), hu, ha]
  rw [e, cost_un h0 (by omega) (by omega)]
  omega
/-- One step of an operation that is not over. -/
theorem GI.step (h : GI n T H L k o) (hu : AllU L) (hp : p < k) (hs : T ≤ 1000000) (h0 : (o p).out = 0) :
    ∃ T' H', GI n T' H' (gstep 0 n L (o p)).1 k (upd o p (gstep 0 n L (o p)).2) ∧ T' ≤ T + 1 ∧ cost k (gstep 0 n L (o p)).1 (upd o p (gstep 0 n L (o p)).2) p + 1 ≤ cost k L o p ∧
      ∀ i, i < k → i ≠ p → cost k (gstep 0 n L (o p)).1 (upd o p (gstep 0 n L (o p)).2) i ≤ cost k L o i := by
  have hx := h.ok p hp
  have hc01 : ∀ i, i < k → (o i).cell = 0 ∨ (o i).cell = 1 := fun i hi => by rcases (h.ok i hi).ah with ⟨_, e⟩ | ⟨_, e⟩ <;> simp [e]
  have hl := h.c.len
  have hn := h.c.n1
  rcases hx.ph with hq | hq | hq | hq | hq
  · obtain ⟨E, e1, e2, e3⟩ := h.s0 hp h0 hq
    rw [e2]
    refine ⟨T, H, e3, by omega, ?_, fun i hi hip => cost_other hp (by exact fun _ _ => rfl) (by exact rfl) (by exact fun _ _ => ⟨h0, .inl hq⟩) hi hip⟩
    have e5 : left0 L { (o p) with ph := 1, t := E } = 1 := by simp [left0, e1]
    have e6 : left0 L (o p) = 2 := by simp [left0, hq]
    have e7 : left0 L { (o p) with ph := 1, t := E } + 1 ≤ left0 L (o p) := by omega
    exact cost_next hp h0 (.inl hq) rfl h0 (by show (1 : Int) ≠ 3; omega) (by show (1 : Int) ≠ 4; omega) e7
  · rcases Int.lt_trichotomy (at_ L (slotOf 0 n (o p).t)) (wantOf n (o p).ahead (o p).t) with hw | hw | hw
    · obtain ⟨out, e1, -, e2, e3⟩ := h.s1l hp hs h0 hq hw
      rw [e2]
      refine ⟨T, H, e3, by omega, ?_, fun i hi hip => cost_other hp (by exact fun _ _ => rfl) (by exact rfl) (by exact fun h _ => absurd h e1) hi hip⟩
      rw [cost_over (by rw [upd_same]; exact e1)]
      rcases Nat.eq_zero_or_pos (cost k L o p) with hz | hz
      · exact absurd h0 (cost_pos hp hx.ph hz)
      · omega
    · obtain ⟨e2, e3⟩ := h.s1e hp hs h0 hq hw
      rw [e2]
      refine ⟨T, H, e3, by omega, ?_, fun i hi hip => cost_other hp (by exact fun _ _ => rfl) (by exact rfl) (by exact fun _ _ => ⟨h0, .inr (.inl hq)⟩) hi hip⟩
      have e5 : left0 L { (o p) with ph := 2 } + 1 = left0 L (o p) := by simp only [left0, hq]; simp; split <;> rfl
      have e7 : left0 L { (o p) with ph := 2 } + 1 ≤ left0 L (o p) := by omega
      exact cost_next hp h0 (.inr (.inl hq)) rfl h0 (by show (2 : Int) ≠ 3; omega) (by show (2 : Int) ≠ 4; omega) e7
    · obtain ⟨e2, e3, e4⟩ := h.s1g hp hs h0 hq hw
      rw [e2]
      refine ⟨T, H, e3, by omega, ?_, fun i hi hip => cost_other hp (by exact fun _ _ => rfl) (by exact rfl) (by exact fun _ _ => ⟨h0, .inr (.inl hq)⟩) hi hip⟩
      have e5 : left0 L { (o p) with ph := 0 } = 2 := by simp [left0]
      have e6 : left0 L (o p) = 4 := by simp [left0, hq, e4]
      have e7 : left0 L { (o p) with ph := 0 } + 1 ≤ left0 L (o p) := by omega
      exact cost_next hp h0 (.inr (.inl hq)) rfl h0 (by show (0 : Int) ≠ 3; omega) (by show (0 : Int) ≠ 4; omega) e7
  · by_cases hw : at_ L (o p).cell = (o p).t
    · obtain ⟨t, T', H', e1, e2, e3, e4, e5⟩ := h.s2y hp hs h0 hq hw
      rw [e2]
      refine ⟨T', H', e3, ?_, ?_, fun i hi hip => cost_swapped hp ?_ (by exact rfl) (by exact rfl) h0 hq hi hip⟩
      · rcases hx.ah with ⟨a, _⟩ | ⟨a, _⟩
        · have := e4 a; omega
        · have := e5 a; omega
      · rw [cost_3 (by rw [upd_same]; exact h0) (by rw [upd_same]), cost_un h0 (by omega) (by omega)]
        have hun : unsw (o p).ahead o p = true := by unfold unsw; rw [decide_eq_true_eq]; exact ⟨h0, by omega, rfl⟩
        have := cntTo_mem hp hun
        omega
      · intro i hi ha
        have hcp := hc01 p hp
        have hci := hc01 i hi
        have hne : (o i).cell ≠ (o p).cell := by
          rcases (h.ok i hi).ah with ⟨a, b⟩ | ⟨a, b⟩ <;> rcases hx.ah with ⟨c, d⟩ | ⟨c, d⟩ <;> rw [b, d] <;> rw [a, c] at ha <;> simp_all
        obtain ⟨ci, hci'⟩ : ∃ ci : Nat, (o i).cell = (ci : Int) := ⟨(o i).cell.toNat, by omega⟩
        rw [hci', at_set _ _ _ _ (by omega), if_neg (by omega)]
    · obtain ⟨e2, e3⟩ := h.s2n hp h0 hq hw
      rw [e2]
      refine ⟨T, H, e3, by omega, ?_, fun i hi hip => cost_other hp (by exact fun _ _ => rfl) (by exact rfl) (by exact fun _ _ => ⟨h0, .inr (.inr hq)⟩) hi hip⟩
      have e5 : left0 L { (o p) with ph := 0 } = 2 := by simp [left0]
      have e6 : left0 L (o p) = 3 := by
        have hw' : ¬ (o p).t = at_ L (o p).cell := fun e => hw e.symm
        simp [left0, hq, hw']
      have e7 : left0 L { (o p) with ph := 0 } + 1 ≤ left0 L (o p) := by omega
      exact cost_next hp h0 (.inr (.inr hq)) rfl h0 (by show (0 : Int) ≠ 3; omega) (by show (0 : Int) ≠ 4; omega) e7
  · obtain ⟨t, e1, e2, e3⟩ := h.s3 hu hp hs h0 hq
    rw [e2]
    have hm := Nat.mod_lt t (show n > 0 by omega)
    refine ⟨T, H, e3, by omega, ?_, fun i hi hip => cost_other hp ?_ (by exact rfl) (by exact fun _ h => by have h' : (4 : Int) = 0 ∨ (4 : Int) = 1 ∨ (4 : Int) = 2 := h; omega) hi hip⟩
    · rw [cost_4 (by rw [upd_same]; exact h0) (by rw [upd_same]), cost_3 h0 hq]
      omega
    · intro i hi
      obtain ⟨ci, hci'⟩ : ∃ ci : Nat, (o i).cell = (ci : Int) := ⟨(o i).cell.toNat, by have := hc01 i hi; omega⟩
      have := hc01 i hi
      split
      · rw [hci', at_set _ _ _ _ (by omega), if_neg (by omega)]
      · rfl
  · obtain ⟨t, e1, e2, e3⟩ := h.s4 hp hs h0 hq
    rw [e2]
    have hm := Nat.mod_lt t (show n > 0 by omega)
    refine ⟨T, H, e3, by omega, ?_, fun i hi hip => cost_other hp ?_ (by exact rfl) (by exact fun h _ => by have h' : (1 : Int) = 0 := h; omega) hi hip⟩
    · rw [cost_over (by rw [upd_same]; simp), cost_4 h0 hq]
      omega
    · intro i hi
      obtain ⟨ci, hci'⟩ : ∃ ci : Nat, (o i).cell = (ci : Int) := ⟨(o i).cell.toNat, by have := hc01 i hi; omega⟩
      have := hc01 i hi
      rw [hci', at_set _ _ _ _ (by omega), if_neg (by omega)]
/-- A gate into which some were put and out of which none was taken. -/
theorem Alone.gc {val : Nat → Int} (h : Alone n L T 0 val) : GC n T 0 L := by
  have hn := h.n1
  have hge := h.ge
  have hlow : ∀ t, t < T → tn n L t = qn n t + 1 := fun t ht => (h.full t (Nat.zero_le _) ht).1
  have hfree : ∀ t, T ≤ t → t < n → tn n L t = qn n t := fun t h1 h2 => h.free t h1 (by omega)
  have hup : ∀ t, T ≤ t → tn n L t ≤ qn n t := by
    intro t ht
    rcases Nat.lt_or_ge t n with h1 | h1
    · exact Int.le_of_eq (hfree t ht h1)
    · have hm := Nat.mod_lt t (show n > 0 by omega)
      have hs : t % n = (t % n) % n := (Nat.mod_mod _ _).symm
      have hl := (later hn hs.symm (show t % n < t by omega)).2
      rw [tn_same hs]
      have hq : qn n (t % n) + 2 ≤ qn n t := by unfold qn; omega
      rcases Nat.lt_or_ge (t % n) T with h2 | h2
      · rw [hlow _ h2]; omega
      · rw [hfree _ h2 hm]; omega
  refine ⟨hn, h.n64, h.len, h.tail, h.head, h.le, h.ge, hup, fun t ht => by rw [hlow t ht]; omega, fun t _ => ?_, fun t ht => by omega⟩
  rcases Nat.lt_or_ge t T with h1 | h1
  · rw [hlow t h1]; exact Int.le_refl _
  · have := hup t h1; omega
/-- Operations that have done no step. -/
def freshOp (x : Gop) : Prop := (∃ v, U64 v ∧ x = putOp 0 v) ∨ x = takeOp 0
theorem GI.fresh (h : GC n T H L) (ho : ∀ i, i < k → freshOp (o i)) : GI n T H L k o := by
  have hp : ∀ i, i < k → (o i).ph = 0 := by
    intro i hi
    rcases ho i hi with ⟨v, _, e⟩ | e <;> rw [e] <;> rfl
  refine ⟨h, fun i hi => ?_, fun i j hi hj _ h1 => ?_⟩
  · rcases ho i hi with ⟨v, hv, e⟩ | e <;> rw [e]
    · exact ⟨.inl ⟨rfl, rfl⟩, .inl rfl, hv, 0, rfl, Nat.zero_le _, fun _ => Nat.zero_le _, fun _ h => by simp [putOp] at h, fun _ h => by simp [putOp] at h⟩
    · exact ⟨.inr ⟨rfl, rfl⟩, .inl rfl, ⟨by show (0:Int) ≤ 0; omega, by show (0:Int) < _; omega⟩, 0, rfl, Nat.zero_le _, fun _ => Nat.zero_le _, fun _ h => by simp [takeOp] at h, fun _ h => by simp [takeOp] at h⟩
  · have := hp i hi
    have := h1.2
    omega
theorem cost_fresh (ho : freshOp (o p)) : cost k L o p ≤ 2 + 3 * k := by
  have h2 := cntTo_le k (unsw (o p).ahead o)
  have h3 : (o p).out = 0 ∧ (o p).ph = 0 := by rcases ho with ⟨v, _, e⟩ | e <;> rw [e] <;> exact ⟨rfl, rfl⟩
  rw [cost_un h3.1 (by omega) (by omega)]
  have : left0 L (o p) = 2 := by simp [left0, h3.2]
  omega
end
/-- A block of ints. -/
def intsA (n : Nat) (f : Nat → Int) : Array Value := ((List.range n).map fun q => Value.int .i64 (f q)).toArray
theorem intsA_get {n q : Nat} (f : Nat → Int) (h : q < n) : (intsA n f)[q]? = some (.int .i64 (f q)) := by simp [intsA, h]
theorem intsA_set (n q : Nat) (f : Nat → Int) (x : Int) : (intsA n f).setIfInBounds q (.int .i64 x) = intsA n (upd f q x) := by
  unfold intsA
  rw [List.setIfInBounds_toArray]
  congr 1
  refine List.ext_getElem? fun j => ?_
  rw [List.getElem?_set]
  simp only [List.getElem?_map, List.length_map, List.length_range]
  by_cases hj : j < n
  · rw [List.getElem?_range hj]
    by_cases e : q = j
    · subst e
      simp [hj, upd_same]
    · rw [if_neg e, Option.map_some, Option.map_some, upd_ne _ _ (fun h => e h.symm)]
  · rw [List.getElem?_eq_none (by simpa using hj)]
    by_cases e : q = j
    · subst e
      simp [hj]
    · simp [e]
theorem intsA_zeros (n : Nat) : zeros (.int .i64 0) n = intsA n fun _ => 0 := by
  unfold zeros intsA
  congr 1
  refine List.ext_getElem? fun j => ?_
  simp only [List.getElem?_map, List.getElem?_replicate]
  by_cases hj : j < n
  · rw [List.getElem?_range hj, if_pos hj]; rfl
  · rw [List.getElem?_eq_none (by simpa using hj), if_neg hj]; rfl
theorem sumTo_le {n : Nat} {f : Nat → Int} {c : Int} (h : ∀ i, i < n → f i ≤ c) : sumTo n f ≤ n * c := by
  induction n with
  | zero => simp [sumTo]
  | succ n ih =>
    have h1 := ih fun i hi => h i (by omega)
    have h2 := h n (by omega)
    simp only [sumTo]
    rw [show ((n + 1 : Nat) : Int) * c = n * c + c by rw [Int.natCast_succ, Int.add_mul, Int.one_mul]]
    omega
theorem sumTo_upd {n q : Nat} {f : Nat → Int} (hq : q < n) : sumTo n (upd f q (f q + 1)) = sumTo n f + 1 := by
  have := sumTo_turn (n := n) (q := q) (f := upd f q (f q + 1)) (g := f) hq fun i hi => upd_ne _ _ hi
  rw [upd_same] at this
  omega
end Go.Proofs.Ytjjjjbfblhadnaa
