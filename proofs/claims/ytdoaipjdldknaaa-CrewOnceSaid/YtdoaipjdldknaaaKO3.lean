/-
  CrewOnce: workers and one who offers from outside, between two steps: what each is at, and what the cells hold (plain lists; no program).
-/
import Derived.Test.YtdoaipjdldknaaaKGateC
import Derived.Test.YtdoaipjdldknaaaKO1
import Derived.Test.YtdoaipjdldknaaaKO2
namespace Go.Proofs.Ytdoaipjdldknaaa
open Go.RowKit
set_option linter.unusedVariables false

def crewF (n s : Nat) : CLay := ⟨0, n, s, 64⟩
theorem cf_gb (n s : Nat) : (crewF n s).gb = n := by simp [CLay.gb, crewF]
theorem cf_db (n s i : Nat) : (crewF n s).db i = n + 130 + i * (2 + s) := by simp [CLay.db, crewF]
/-- Nothing is under way. -/
def idleC : CSt := .over 3 0
def onD (i : Nat) : CSt → Option Dop
  | .push j v d => if j = i then some d else none
  | .src (.dq j d) r => if j = i then some d else none
  | _ => none
def gopOf (n : Nat) : CSt → Gop
  | .put v g => gsh n g
  | .take i g => gsh n g
  | .src (.gt g) r => gsh n g
  | _ => idleG
/-- The deques of others. -/
def StL (n p : Nat) (r : List Src) : Prop := ∀ x ∈ r, ∃ v, x = .steal v ∧ v < n ∧ v ≠ p
/-- What a worker is at: its phase, its operation, what its deque holds, its mark. -/
inductive Sh (n p : Nat) : Nat → CSt → List Int → Int → Prop
  | f0 (S : List Int) : Sh n p 0 idleC S 0
  | fpop (d : Dop) (r : List Src) (S : List Int) : 5 ≤ d.k → (d.k = 8 → d.t + 1 = d.b) → StL n p r → r.length ≤ 3 → Sh n p 0 (.src (.dq p d) (.take :: r)) S 0
  | ftk (g : Gop) (r : List Src) : StL n p r → r.length ≤ 3 → Sh n p 0 (.src (.gt g) r) [] 0
  | fst (v : Nat) (d : Dop) (r : List Src) : v < n → v ≠ p → StL n p r → r.length ≤ 2 → Sh n p 0 (.src (.dq v d) r) [] 0
  | fyes (v : Int) : Sh n p 0 (.over 1 v) [] 0
  | fno : Sh n p 0 (.over 4 0) [] 0
  | r0 : Sh n p 1 idleC [] 0
  | rsl : Sh n p 1 (.sleep p ⟨0, p, 0⟩) [] 0
  | rtk (g : Gop) (m : Int) : Sh n p 1 (.take p g) [] m
  | rup (t : Nat) (m : Int) : Sh n p 1 (.up p (tv t) ⟨1, p, 0⟩) [] m
  | ryes (v : Int) : Sh n p 1 (.over 1 v) [] 0
  | rno (m : Int) : Sh n p 1 (.over 4 0) [] m
  | p0 (m : Int) : Sh n p 2 idleC [] m
  | ppl (m : Int) : Sh n p 2 (.poll ⟨2, p, 0⟩) [] m
  | pyes : Sh n p 2 (.over 1 0) [] 0
  | pno (m : Int) : Sh n p 2 (.over 4 0) [] m
  | o0 : Sh n p 3 idleC [] 0
  | opu (v : Int) (d : Dop) : d.k ≤ 4 → d.v = v → Sh n p 3 (.push p v d) [] 0
  | org (k : Nat) (q : Nat) (S : List Int) : (k = 3 ∨ k = 4) → q < n → Sh n p 3 (.ring ⟨k, q, 0⟩) S 0
  | oend (S : List Int) : Sh n p 3 (.over 1 0) S 0
inductive ShO (n : Nat) : CSt → Prop
  | idle : ShO n idleC
  | put (v : Int) (g : Gop) : g.v = v → ShO n (.put v g)
  | ring (k : Nat) (q : Nat) : (k = 3 ∨ k = 4) → q < n → ShO n (.ring ⟨k, q, 0⟩)
  | over : ShO n (.over 1 0)
structure CI (n s : Nat) (L : List Int) (o : Nat → CSt) (ph : Nat → Nat) (T H : Nat) (S : Nat → List Int) (M : Nat → Int) (b : Nat) : Prop where
  n1 : 1 ≤ n
  n4 : n ≤ 4
  s1 : 1 ≤ s
  s4 : s ≤ 4
  len : L.length = 1000
  u : AllU L
  ok : ∀ j, j ≤ n → CStOk (crewF n s) 1000 (o j)
  mks : ∀ w, w < n → at_ L (w : Int) = M w ∧ (M w = 0 ∨ M w = 1)
  gv : GV n T H (sub L (crewF n s).gb 130) (fun j => gopOf n (o j))
  dq : ∀ i, i < n → DQ n s (sub L ((crewF n s).db i) (2 + s)) (fun j => onD i (o j)) i (S i) b
  S1 : ∀ i, i < n → (S i).length ≤ 1
  sh : ∀ p, p < n → Sh n p (ph p) (o p) (S p) (M p)
  sho : ShO n (o n)
  tb : T ≤ 100000
theorem Sh.shrink {n p k : Nat} {st : CSt} {S : List Int} {m : Int} (h : Sh n p k st S m) : Sh n p k st [] m := by
  cases h <;> constructor <;> assumption
theorem Sh.rouse {n p k : Nat} {st : CSt} {S : List Int} {m : Int} (h : Sh n p k st S m) : Sh n p k st S 0 := by
  cases h <;> constructor <;> assumption
theorem fun_gop (n : Nat) (o : Nat → CSt) (p : Nat) (x : CSt) : (fun j => gopOf n (upd o p x j)) = upd (fun j => gopOf n (o j)) p (gopOf n x) := by
  funext j
  by_cases e : j = p
  · subst e; rw [upd_same, upd_same]
  · rw [upd_ne _ _ e, upd_ne _ _ e]
theorem fun_onD (i : Nat) (o : Nat → CSt) (p : Nat) (x : CSt) : (fun j => onD i (upd o p x j)) = upd (fun j => onD i (o j)) p (onD i x) := by
  funext j
  by_cases e : j = p
  · subst e; rw [upd_same, upd_same]
  · rw [upd_ne _ _ e, upd_ne _ _ e]
theorem upd_id {α : Type} (o : Nat → α) (p : Nat) (x : α) (h : o p = x) : upd o p x = o := by
  funext i
  by_cases e : i = p
  · subst e; rw [upd_same]; exact h.symm
  · rw [upd_ne _ _ e]
theorem db_apart (n s : Nat) {i j : Nat} (h : i ≠ j) : (crewF n s).db i + (2 + s) ≤ (crewF n s).db j ∨ (crewF n s).db j + (2 + s) ≤ (crewF n s).db i := by
  rw [cf_db, cf_db]
  rcases Nat.lt_or_gt_of_ne h with h | h
  · have := Nat.mul_le_mul_right (2 + s) (show i + 1 ≤ j from h)
    rw [Nat.add_mul, Nat.one_mul] at this
    exact .inl (by omega)
  · have := Nat.mul_le_mul_right (2 + s) (show j + 1 ≤ i from h)
    rw [Nat.add_mul, Nat.one_mul] at this
    exact .inr (by omega)
/-- What a step of a ring does. -/
inductive RgS (n : Nat) (M : Nat → Int) (k : Nat) (q : Nat) : CSt → (Nat → Int) → Prop
  | seen : k = 3 → M q = 1 → RgS n M k q (.ring ⟨4, q, 0⟩) M
  | on : M q = 0 → q + 1 < n → RgS n M k q (.ring ⟨3, (q + 1 : Nat), 0⟩) M
  | last : M q = 0 → q + 1 = n → RgS n M k q (.over 1 0) M
  | rouse : k = 4 → M q = 1 → RgS n M k q (.over 1 0) (upd M q 0)
theorem ring_step {n s q : Nat} {L : List Int} {M : Nat → Int} {k : Nat} (hl : L.length = 1000) (hn : n ≤ 4) (hk : k = 3 ∨ k = 4) (hq : q < n) (hm : ∀ w, w < n → at_ L (w : Int) = M w ∧ (M w = 0 ∨ M w = 1)) :
    ∃ st' M', (cstep (crewF n s) L (.ring ⟨k, q, 0⟩)).2 = st' ∧ RgS n M k q st' M' ∧ Agr L (cstep (crewF n s) L (.ring ⟨k, q, 0⟩)).1 0 n ∧ ∀ w, w < n → at_ (cstep (crewF n s) L (.ring ⟨k, q, 0⟩)).1 (w : Int) = M' w ∧ (M' w = 0 ∨ M' w = 1) := by
  obtain ⟨m1, m2⟩ := hm q hq
  have e0 : (0 : Int) + (q : Int) = (q : Int) := by omega
  have eb : ∀ b, bstep (crewF n s).base (crewF n s).n L b = bstep 0 n L b := fun b => rfl
  simp only [cstep, eb]
  rcases hk with rfl | rfl
  · rcases m2 with m2 | m2
    · have hb : bstep 0 n L ⟨3, q, 0⟩ = (L, ⟨3, q + 1, onOut n (q + 1)⟩) := by simp [bstep, m1, m2]
      rw [hb]
      by_cases e : q + 1 = n
      · have : onOut (n : Int) ((q : Int) + 1) = 4 := by unfold onOut; rw [if_pos (by omega)]
        rw [this]
        exact ⟨_, M, rfl, .last m2 e, Agr.refl _ _ _, hm⟩
      · have : onOut (n : Int) ((q : Int) + 1) = 0 := by unfold onOut; rw [if_neg (by omega)]
        rw [this]
        exact ⟨_, M, rfl, .on m2 (by omega), Agr.refl _ _ _, hm⟩
    · have hb : bstep 0 n L ⟨3, q, 0⟩ = (L, ⟨4, q, 0⟩) := by simp [bstep, m1, m2]
      rw [hb]
      exact ⟨_, M, rfl, .seen rfl m2, Agr.refl _ _ _, hm⟩
  · rcases m2 with m2 | m2
    · have hb : bstep 0 n L ⟨4, q, 0⟩ = (L, ⟨3, q + 1, onOut n (q + 1)⟩) := by simp [bstep, m1, m2]
      rw [hb]
      by_cases e : q + 1 = n
      · have : onOut (n : Int) ((q : Int) + 1) = 4 := by unfold onOut; rw [if_pos (by omega)]
        rw [this]
        exact ⟨_, M, rfl, .last m2 e, Agr.refl _ _ _, hm⟩
      · have : onOut (n : Int) ((q : Int) + 1) = 0 := by unfold onOut; rw [if_neg (by omega)]
        rw [this]
        exact ⟨_, M, rfl, .on m2 (by omega), Agr.refl _ _ _, hm⟩
    · have hb : bstep 0 n L ⟨4, q, 0⟩ = (L.set q 0, ⟨4, q, 7⟩) := by simp [bstep, m1, m2]
      rw [hb]
      refine ⟨_, upd M q 0, rfl, .rouse rfl m2, (Agr.refl L 0 n).set 0 (by omega) (by omega), fun w hw => ?_⟩
      show at_ (L.set q 0) (w : Int) = _ ∧ _
      rw [at_set _ _ _ _ (by omega)]
      by_cases e : w = q
      · subst e; rw [if_pos rfl, upd_same]; exact ⟨rfl, .inl rfl⟩
      · rw [if_neg e, upd_ne _ _ e]; exact hm w hw
/-- What a worker's step does. -/
inductive WS (n s p T H : Nat) (pw : Prop) (S : Nat → List Int) (M : Nat → Int) : CSt → CSt → Nat → (Nat → List Int) → (Nat → Int) → Prop
  | pushing (v : Int) (d d' : Dop) : d'.k = d.k + 1 → d'.k ≤ 4 → WS n s p T H pw S M (.push p v d) (.push p v d') H S M
  | pushed (v : Int) (d : Dop) : d.k = 4 → S p = [] → WS n s p T H pw S M (.push p v d) (.ring ringB) H (upd S p [v]) M
  | popping (d d' : Dop) (r : List Src) : d.k < d'.k → d'.k ≤ 10 → crp d' ≤ crp d + 1 → WS n s p T H pw S M (.src (.dq p d) (.take :: r)) (.src (.dq p d') (.take :: r)) H S M
  | popped (d : Dop) (r : List Src) (x : Int) : d.k ≤ 10 → crp d = 5 → S p = [x] → WS n s p T H pw S M (.src (.dq p d) (.take :: r)) (.over 1 x) H (upd S p []) M
  | popno (d : Dop) (r : List Src) : d.k ≤ 10 → S p = [] → 3 ≤ crp d → WS n s p T H pw S M (.src (.dq p d) (.take :: r)) (.src (.gt (takeOp (crewF n s).gb)) r) H S M
  | tk (g g' : Gop) (r : List Src) (H' : Nat) : TkS T H pw (gsh n g) (gsh n g') H' → g'.out = 0 → WS n s p T H pw S M (.src (.gt g) r) (.src (.gt g') r) H' S M
  | tkyes (g : Gop) (r : List Src) (t : Nat) : g.ph = 4 → g.t = t → t < H → WS n s p T H pw S M (.src (.gt g) r) (.over 1 (tv t)) H S M
  | tkno (g : Gop) (r : List Src) : g.ph = 1 → g.t = H → (T = H ∨ (T = H + 1 ∧ pw)) → WS n s p T H pw S M (.src (.gt g) r) (ctry (crewF n s) r) H S M
  | stealing (v : Nat) (d d' : Dop) (r : List Src) : v ≠ p → d'.k = d.k + 1 → d'.k ≤ 14 → 11 ≤ d.k → WS n s p T H pw S M (.src (.dq v d) r) (.src (.dq v d') r) H S M
  | stealno (v : Nat) (d : Dop) (r : List Src) : v ≠ p → 11 ≤ d.k → d.k ≤ 14 → WS n s p T H pw S M (.src (.dq v d) r) (ctry (crewF n s) r) H S M
  | stole (v : Nat) (d : Dop) (r : List Src) (x : Int) : v < n → v ≠ p → d.k = 14 → S v = [x] → WS n s p T H pw S M (.src (.dq v d) r) (.over 1 x) H (upd S v []) M
  | sleep : WS n s p T H pw S M (.sleep p ⟨0, p, 0⟩) (.take p (takeOp (crewF n s).gb)) H S (upd M p 1)
  | rtk (g g' : Gop) (H' : Nat) : TkS T H pw (gsh n g) (gsh n g') H' → g'.out = 0 → WS n s p T H pw S M (.take p g) (.take p g') H' S M
  | rtkyes (g : Gop) (t : Nat) : g.ph = 4 → g.t = t → t < H → WS n s p T H pw S M (.take p g) (.up p (tv t) ⟨1, p, 0⟩) H S M
  | rtkno (g : Gop) : g.ph = 1 → g.t = H → (T = H ∨ (T = H + 1 ∧ pw)) → WS n s p T H pw S M (.take p g) (.over 4 0) H S M
  | up (t : Nat) : WS n s p T H pw S M (.up p (tv t) ⟨1, p, 0⟩) (.over 1 (tv t)) H S (upd M p 0)
  | pollyes : M p = 0 → WS n s p T H pw S M (.poll ⟨2, p, 0⟩) (.over 1 0) H S M
  | pollno : M p = 1 → WS n s p T H pw S M (.poll ⟨2, p, 0⟩) (.over 4 0) H S M
  | ring (k : Nat) (q : Nat) (st' : CSt) (M' : Nat → Int) : q < n → RgS n M k q st' M' → WS n s p T H pw S M (.ring ⟨k, q, 0⟩) st' H S M'
section
variable {n s p T H b : Nat} {L L' : List Int} {o : Nat → CSt} {ph : Nat → Nat} {S S' : Nat → List Int} {M M' : Nat → Int} {st' : CSt}
theorem CI.fit (h : CI n s L o ph T H S M b) : CFit (crewF n s) 1000 := ⟨h.n1, by have := h.n4; show n ≤ 8; omega, by rw [cf_gb]; have := h.n4; show n + 2 + 2 * 64 ≤ 1000; omega, by show 1 ≤ 64; omega⟩
theorem CI.db_le (h : CI n s L o ph T H S M b) {i : Nat} (hi : i < n) : (crewF n s).db i + (2 + s) ≤ 1000 := by
  rw [cf_db]
  have h1 := h.n4
  have h2 := h.s4
  have : (i + 1) * (2 + s) ≤ 4 * 6 := Nat.mul_le_mul (by omega) (by omega)
  rw [Nat.add_mul, Nat.one_mul] at this
  omega
theorem CI.next (h : CI n s L o ph T H S M b) (hp : p ≤ n) {T' H' b' : Nat} (hlen : L'.length = 1000) (hu : AllU L') (hok : CStOk (crewF n s) 1000 st') (hmk : ∀ w, w < n → at_ L' (w : Int) = M' w ∧ (M' w = 0 ∨ M' w = 1))
    (hgv : GV n T' H' (sub L' (crewF n s).gb 130) (upd (fun j => gopOf n (o j)) p (gopOf n st'))) (hdq : ∀ i, i < n → DQ n s (sub L' ((crewF n s).db i) (2 + s)) (upd (fun j => onD i (o j)) p (onD i st')) i (S' i) b')
    (hS : ∀ i, i < n → (S' i).length ≤ 1) (hsh : p < n → Sh n p (ph p) st' (S' p) (M' p)) (hso : ∀ j, j < n → j ≠ p → Sh n j (ph j) (o j) (S' j) (M' j)) (hsho : p = n → ShO n st') (tb : T' ≤ 100000) :
    CI n s L' (upd o p st') ph T' H' S' M' b' := by
  refine ⟨h.n1, h.n4, h.s1, h.s4, hlen, hu, fun j hj => ?_, hmk, by rw [fun_gop]; exact hgv, fun i hi => by rw [fun_onD]; exact hdq i hi, hS, fun j hj => ?_, ?_, tb⟩
  · by_cases e : j = p
    · subst e; rw [upd_same]; exact hok
    · rw [upd_ne _ _ e]; exact h.ok j hj
  · by_cases e : j = p
    · subst e; rw [upd_same]; exact hsh hj
    · rw [upd_ne _ _ e]; exact hso j hj e
  · by_cases e : n = p
    · subst e; rw [upd_same]; exact hsho rfl
    · rw [upd_ne _ _ e]; exact h.sho
/-- Cells of the bell alone have turned. -/
theorem CI.bell_cells (h : CI n s L o ph T H S M b) (ha : Agr L L' 0 n) : L'.length = 1000 ∧ sub L' (crewF n s).gb 130 = sub L (crewF n s).gb 130 ∧ ∀ i, sub L' ((crewF n s).db i) (2 + s) = sub L ((crewF n s).db i) (2 + s) :=
  ⟨by rw [ha.len]; exact h.len, ha.sub (.inr (by rw [cf_gb]; omega)), fun i => ha.sub (.inr (by rw [cf_db]; omega))⟩
theorem CI.gate_cells (h : CI n s L o ph T H S M b) (ha : Agr L L' (crewF n s).gb 130) : L'.length = 1000 ∧ (∀ w, w < n → at_ L' (w : Int) = at_ L (w : Int)) ∧ ∀ i, sub L' ((crewF n s).db i) (2 + s) = sub L ((crewF n s).db i) (2 + s) :=
  ⟨by rw [ha.len]; exact h.len, fun w hw => ha.at (.inl (by rw [cf_gb]; omega)), fun i => ha.sub (.inr (by rw [cf_gb, cf_db]; omega))⟩
theorem CI.deq_cells (h : CI n s L o ph T H S M b) {i : Nat} (ha : Agr L L' ((crewF n s).db i) (2 + s)) : L'.length = 1000 ∧ (∀ w, w < n → at_ L' (w : Int) = at_ L (w : Int)) ∧ sub L' (crewF n s).gb 130 = sub L (crewF n s).gb 130 ∧ ∀ j, j ≠ i → sub L' ((crewF n s).db j) (2 + s) = sub L ((crewF n s).db j) (2 + s) :=
  ⟨by rw [ha.len]; exact h.len, fun w hw => ha.at (.inl (by rw [cf_db]; omega)), ha.sub (.inl (by rw [cf_gb, cf_db]; omega)), fun j hj => ha.sub (db_apart n s hj)⟩
/-- A deque on which thread p has nothing, before and behind. -/
theorem CI.dq_off (h : CI n s L o ph T H S M b) {i : Nat} (hi : i < n) (hs : sub L' ((crewF n s).db i) (2 + s) = sub L ((crewF n s).db i) (2 + s)) (h0 : onD i (o p) = none) : DQ n s (sub L' ((crewF n s).db i) (2 + s)) (upd (fun j => onD i (o j)) p none) i (S i) b := by
  rw [hs, upd_id _ _ _ h0]; exact h.dq i hi
theorem onD_ctry_ne {i : Nat} {r : List Src} (hr : StL n p r) : onD i (ctry (crewF n s) r) = none ∨ (onD i (ctry (crewF n s) r) = some stealOp ∧ i ≠ p) := by
  cases r with
  | nil => exact .inl rfl
  | cons x r =>
    obtain ⟨v, rfl, hv, hvp⟩ := hr x (List.mem_cons_self ..)
    show (if v = i then some stealOp else none) = none ∨ ((if v = i then some stealOp else none) = some stealOp ∧ i ≠ p)
    by_cases e : v = i
    · subst e; exact .inr ⟨if_pos rfl, hvp⟩
    · exact .inl (if_neg e)
theorem DQ.ctry {i : Nat} {d : Nat → Option Dop} {Li Si : List Int} {r : List Src} (h : DQ n s Li (upd d p none) i Si b) (hr : StL n p r) : DQ n s Li (upd d p (onD i (Go.Proofs.Ytdoaipjdldknaaa.ctry (crewF n s) r))) i Si b := by
  rcases onD_ctry_ne (s := s) (i := i) hr with e | ⟨e, hne⟩
  · rw [e]; exact h
  · rw [e]
    have := h.steal (j := p) (Ne.symm hne)
    rw [show upd (upd d p none) p (some stealOp) = upd d p (some stealOp) from by
      funext k
      by_cases e : k = p
      · subst e; rw [upd_same, upd_same]
      · rw [upd_ne _ _ e, upd_ne _ _ e, upd_ne _ _ e]] at this
    exact this
theorem gop_ctry {r : List Src} (hr : StL n p r) : gopOf n (ctry (crewF n s) r) = idleG := by
  cases r with
  | nil => rfl
  | cons x r => obtain ⟨v, rfl, hv, hvp⟩ := hr x (List.mem_cons_self ..); rfl
theorem sh_ctry {r : List Src} (hr : StL n p r) (hl : r.length ≤ 3) : Sh n p 0 (ctry (crewF n s) r) [] 0 := by
  cases r with
  | nil => exact .fno
  | cons x r =>
    obtain ⟨v, rfl, hv, hvp⟩ := hr x (List.mem_cons_self ..)
    exact .fst v _ r hv hvp (fun y hy => hr y (List.mem_cons_of_mem _ hy)) (by simp at hl; omega)
theorem upd_upd' {α : Type} (o : Nat → α) (p : Nat) (x y : α) : upd (upd o p x) p y = upd o p y := by
  funext k
  by_cases e : k = p
  · subst e; rw [upd_same, upd_same]
  · rw [upd_ne _ _ e, upd_ne _ _ e, upd_ne _ _ e]
end
end Go.Proofs.Ytdoaipjdldknaaa
