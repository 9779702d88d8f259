/-
  CrewOnce: how many steps have been made at least, and how many are left at most (plain lists; no program).
-/
import Derived.Test.YtdoaipjdldknaaaKO5
namespace Go.Proofs.Ytdoaipjdldknaaa
open Go.RowKit
set_option linter.unusedVariables false

/-- At least so many steps are to be made yet for a number in a deque; for one that is to be offered; for what is left of one that is found. r: the steps of a ring, at least. -/
def Wn (r v : Int) : Int := if v % 9 = 0 then 26 + 2 * r else if v % 3 = 0 then 16 + r else 6
def Pn (r v : Int) : Int := 4 + r + Wn r v
def Wh (r v : Int) : Int := if v % 3 = 0 then Pn r (v / 3) else 0
theorem Wn_le {r : Int} (hr : r = 1 ∨ r = 2) (v : Int) : Wn r v ≤ 6 + Wh r v := by
  unfold Wh Pn Wn
  by_cases h9 : v % 9 = 0
  · have h3 : v % 3 = 0 := by omega
    have h4 : v / 3 % 3 = 0 := by omega
    rw [if_pos h9, if_pos h3]
    split
    · omega
    · first | omega | (rw [if_pos h4]; omega)
  · rw [if_neg h9]
    by_cases h3 : v % 3 = 0
    · rw [if_pos h3, if_pos h3]
      split
      · omega
      · split <;> omega
    · rw [if_neg h3, if_neg h3]; omega
theorem Wh_tv {r : Int} (hr : r = 1 ∨ r = 2) (t : Nat) : 20 + 2 * r ≤ Wh r (tv t) := by
  unfold Wh Pn Wn tv
  have h3 : ((9 * (t + 1) : Nat) : Int) % 3 = 0 := by omega
  have h4 : ((9 * (t + 1) : Nat) : Int) / 3 % 3 = 0 := by omega
  rw [if_pos h3]
  split
  · omega
  · first | omega | (rw [if_pos h4]; omega)
def exG (c : Int) (g : Gop) : Int := (if g.ph = 3 ∨ g.ph = 4 then c else 0) - g.ph
def ex (r : Int) (k : Nat) (l : Int) : CSt → Int
  | .push _ v d => Pn r v - (d.k - 1)
  | .ring b => if b.k = 3 ∧ b.who = 0 then r else 1
  | .src (.dq _ d) _ => if d.k ≤ 10 then - crp d else 9 - d.k
  | .src (.gt g) _ => exG (27 + 2 * r) g - 4
  | .take _ g => exG (27 + 2 * r) g - 1
  | .up _ _ _ => 21 + 2 * r
  | .over a v => if k ≤ 1 ∧ a = 1 then Wh r v else if k = 3 ∧ a = 3 then Pn r l else 0
  | _ => 0
theorem tks_debt {n T H H' : Nat} {pw : Prop} {g g' : Gop} (c : Int) (h : TkS T H pw (gsh n g) (gsh n g') H') (h0 : g'.out = 0) : wl (fun _ => c) (inD H T tv) + exG c g ≤ wl (fun _ => c) (inD H' T tv) + exG c g' + 1 := by
  have e3 : ∀ x : Gop, exG c x = exG c (gsh n x) := fun x => rfl
  have e4 : (gsh n g').out = 0 := h0
  rw [e3 g, e3 g']
  generalize gsh n g = x at h ⊢
  generalize gsh n g' = y at h e4 ⊢
  cases h with
  | look h1 => simp [exG, h1] <;> omega
  | ready t h1 h2 => simp [exG, h1] <;> omega
  | late t h1 h2 => simp [exG, h1] <;> omega
  | none h1 => simp at e4
  | swap h1 h2 h3 => rw [inD_cons tv h3]; simp [exG, h1, wl] <;> omega
  | lost t h1 h2 => simp [exG, h1] <;> omega
  | value t h1 h2 h3 => simp [exG, h1] <;> omega
  | pass t h1 => simp at e4
theorem ex_yes (r l v : Int) {k : Nat} (h : k ≤ 1) : ex r k l (.over 1 v) = Wh r v := by simp [ex, h]
theorem ex_end (r l : Int) : ex r 3 l (.over 1 0) = 0 := by simp [ex]
theorem ex_ring {r : Int} (hr : r = 1 ∨ r = 2) (k : Nat) (l : Int) (b : Bop) : 1 ≤ ex r k l (.ring b) ∧ ex r k l (.ring b) ≤ r ∧ (b.k ≠ 3 ∨ b.who ≠ 0 → ex r k l (.ring b) = 1) := by
  show 1 ≤ (if b.k = 3 ∧ b.who = 0 then r else 1) ∧ (if b.k = 3 ∧ b.who = 0 then r else 1) ≤ r ∧ (_ → (if b.k = 3 ∧ b.who = 0 then r else 1) = 1)
  by_cases e : b.k = 3 ∧ b.who = 0
  · rw [if_pos e]; exact ⟨by omega, by omega, fun h => h.elim (fun h => absurd e.1 h) (fun h => absurd e.2 h)⟩
  · rw [if_neg e]; exact ⟨by omega, by omega, fun _ => rfl⟩
theorem ex_ctry {n p : Nat} {F : CLay} {r l : Int} {rs : List Src} (hr : StL n p rs) : -2 ≤ ex r 0 l (ctry F rs) := by
  cases rs with
  | nil => show -2 ≤ ex r 0 l (.over 4 0); simp [ex]
  | cons x rs =>
    obtain ⟨v, rfl, -, -⟩ := hr x (List.mem_cons_self ..)
    show -2 ≤ ex r 0 l (.src (.dq v stealOp) rs)
    simp [ex, stealOp]
section
variable {n s p T H : Nat} {pw : Prop} {o : Nat → CSt} {ph : Nat → Nat} {lf : Nat → Int} {S S' : Nat → List Int} {M M' : Nat → Int} {st st' : CSt} {H' : Nat}
def Debt (n T H : Nat) (r : Int) (o : Nat → CSt) (ph : Nat → Nat) (lf : Nat → Int) (S : Nat → List Int) : Int :=
  wl (fun _ => 27 + 2 * r) (inD H T tv) + sumW n (fun i => ex r (ph i) (lf i) (o i) + wl (Wn r) (S i))
theorem WS.debt {r : Int} (hr : (r = 1 ∧ n = 1) ∨ (r = 2 ∧ 2 ≤ n)) (hp : p < n) (hsh : PhOk n p (ph p) (o p)) (h : WS n s p T H pw S M (o p) st' H' S' M') :
    Debt n T H r o ph lf S ≤ Debt n T H' r (upd o p st') ph lf S' + 1 := by
  have hr12 : r = 1 ∨ r = 2 := by omega
  unfold Debt
  have key : (∀ i, i ≠ p → S' i = S i) → (wl (fun _ => 27 + 2 * r) (inD H T tv) + (ex r (ph p) (lf p) (o p) + wl (Wn r) (S p)) ≤ wl (fun _ => 27 + 2 * r) (inD H' T tv) + (ex r (ph p) (lf p) st' + wl (Wn r) (S' p)) + 1) →
      wl (fun _ => 27 + 2 * r) (inD H T tv) + sumW n (fun i => ex r (ph i) (lf i) (o i) + wl (Wn r) (S i)) ≤ wl (fun _ => 27 + 2 * r) (inD H' T tv) + sumW n (fun i => ex r (ph i) (lf i) (upd o p st' i) + wl (Wn r) (S' i)) + 1 := fun h1 h2 => by
    rw [sumW_one (f := fun i => ex r (ph i) (lf i) (upd o p st' i) + wl (Wn r) (S' i)) (g := fun i => ex r (ph i) (lf i) (o i) + wl (Wn r) (S i)) hp (fun i hi hip => by rw [upd_ne _ _ hip, h1 i hip])]
    simp only [upd_same]
    omega
  obtain ⟨st, hst⟩ : ∃ st, o p = st := ⟨_, rfl⟩
  rw [hst] at h hsh
  have hcp : ∀ d : Dop, d.k ≤ 10 → crp d ≤ 5 := fun d hd => by unfold crp; split <;> (try split) <;> omega
  cases h with
  | pushing v d d' h1 h2 => exact key (fun i hi => rfl) (by rw [hst]; simp only [ex]; omega)
  | pushed v d h1 h2 => exact key (fun i hi => upd_ne _ _ hi) (by rw [hst, upd_same, h2]; simp [ex, wl, ringB, Pn]; omega)
  | popping d d' q h1 h2 h3 => exact key (fun i hi => rfl) (by rw [hst]; simp only [ex]; rw [if_pos (by omega), if_pos (by omega)]; omega)
  | popped d q x h1 h2 h3 => exact key (fun i hi => upd_ne _ _ hi) (by have := Wn_le hr12 x; rw [hst, upd_same, h3, hsh.1, ex_yes _ _ _ (by omega)]; simp only [ex, wl]; rw [if_pos h1]; omega)
  | popno d q h1 h2 h3 => exact key (fun i hi => rfl) (by rw [hst]; simp only [ex]; rw [if_pos h1]; simp [exG, takeOp]; omega)
  | tk g g' q _ h1 h2 => exact key (fun i hi => rfl) (by have := tks_debt (27 + 2 * r) h1 h2; rw [hst]; simp only [ex]; omega)
  | tkyes g q t h1 h2 h3 => exact key (fun i hi => rfl) (by have := Wh_tv hr12 t; rw [hst, hsh.1]; simp [ex, exG, h1]; omega)
  | tkno g q h1 h2 h3 => exact key (fun i hi => rfl) (by
      have := ex_ctry (F := crewF n s) (r := r) (l := lf p) hsh.2.1
      rw [hst, hsh.1]
      show _ + (exG (27 + 2 * r) g - 4 + _) ≤ _
      simp [exG, h1]; omega)
  | stealing v d d' q h1 h2 h3 h4 => exact key (fun i hi => rfl) (by rw [hst]; simp only [ex]; rw [if_neg (by omega), if_neg (by omega)]; omega)
  | stealno v d q h1 h2 h3 =>
    have hrr : StL n p q := hsh.2.elim (fun e => absurd e.1 h1) (fun e => e.2.1)
    exact key (fun i hi => rfl) (by
      have := ex_ctry (F := crewF n s) (r := r) (l := lf p) hrr
      rw [hst, hsh.1]
      show _ + ((if d.k ≤ 10 then - crp d else 9 - d.k) + _) ≤ _
      rw [if_neg (by omega)]; omega)
  | stole v d q x h1 h2 h3 h4 =>
    have := Wn_le hr12 x
    rw [sumW_two (f := fun i => ex r (ph i) (lf i) (upd o p (.over 1 x) i) + wl (Wn r) (upd S v [] i)) (g := fun i => ex r (ph i) (lf i) (o i) + wl (Wn r) (S i)) hp h1 h2 (fun i hi hip hiv => by rw [upd_ne _ _ hip, upd_ne _ _ hiv])]
    simp only [upd_same]
    rw [upd_ne _ _ (Ne.symm h2), upd_ne _ _ h2, hst, h4, hsh.1, ex_yes _ _ _ (by omega), show ex r 0 (lf p) (.src (.dq v d) q) = -5 from by show (if d.k ≤ 10 then - crp d else 9 - d.k) = -5; rw [if_neg (by omega)]; omega]
    simp only [wl]
    omega
  | sleep => exact key (fun i hi => rfl) (by rw [hst]; simp [ex, exG, takeOp] <;> omega)
  | rtk g g' _ h1 h2 => exact key (fun i hi => rfl) (by have := tks_debt (27 + 2 * r) h1 h2; rw [hst]; simp only [ex]; omega)
  | rtkyes g t h1 h2 h3 => exact key (fun i hi => rfl) (by rw [hst]; simp [ex, exG, h1]; omega)
  | rtkno g h1 h2 h3 => exact key (fun i hi => rfl) (by have hk : ph p = 1 := hsh; rw [hst, hk]; simp [ex, exG, h1]; omega)
  | up t => exact key (fun i hi => rfl) (by have := Wh_tv hr12 t; have hk : ph p = 1 := hsh; rw [hst, hk]; simp [ex]; omega)
  | pollyes h1 => exact key (fun i hi => rfl) (by have hk : ph p = 2 := hsh; rw [hst, hk]; simp [ex]; omega)
  | pollno h1 => exact key (fun i hi => rfl) (by have hk : ph p = 2 := hsh; rw [hst, hk]; simp [ex]; omega)
  | ring k q _ _ h1 h2 =>
    have hk : ph p = 3 := hsh
    cases h2 with
    | seen e1 e2 => exact key (fun i hi => rfl) (by have a := ex_ring hr12 (ph p) (lf p) ⟨k, q, 0⟩; have b := ex_ring hr12 (ph p) (lf p) ⟨4, q, 0⟩; rw [hst]; omega)
    | on e1 e2 => exact key (fun i hi => rfl) (by have a := ex_ring hr12 (ph p) (lf p) ⟨k, q, 0⟩; have b := ex_ring hr12 (ph p) (lf p) ⟨3, (q + 1 : Nat), 0⟩; rw [hst]; omega)
    | last e1 e2 => exact key (fun i hi => rfl) (by
        have a := ex_ring hr12 (ph p) (lf p) ⟨k, q, 0⟩
        rw [hst, hk, ex_end]
        rw [hk] at a
        by_cases e : q = 0
        · omega
        · have := a.2.2 (.inr (by show ((q : Nat) : Int) ≠ 0; omega))
          omega)
    | rouse e1 e2 => exact key (fun i hi => rfl) (by
        have a := ex_ring hr12 (ph p) (lf p) ⟨k, q, 0⟩
        have := a.2.2 (.inl (by show k ≠ 3; omega))
        rw [hst, hk, ex_end]
        rw [hk] at this
        omega)
end
/-- At most so many findings come of a number. -/
def ew (v : Int) : Int := if v < 3 then 1 else if v < 9 then 2 else if v < 27 then 3 else if v < 81 then 4 else if v < 243 then 5 else if v < 729 then 6 else 7
def Wl (v : Int) : Int := if v % 3 = 0 then ew (v / 3) else 0
def Nf (v : Int) : Int := if v % 3 = 0 then 71 else 29
theorem ew_pos (v : Int) : 1 ≤ ew v := by unfold ew; (repeat' split) <;> omega
theorem Wl_le {v : Int} (h1 : 1 ≤ v) (h2 : v < 2187) : Wl v + 1 ≤ ew v := by
  unfold Wl
  split
  · unfold ew; (repeat' split) <;> omega
  · have := ew_pos v; omega
theorem Nf_le (v : Int) : Nf v ≤ 71 := by unfold Nf; split <;> omega
theorem Wl_tv {t : Nat} (h : t < 222) : Wl (tv t) ≤ 6 := by
  unfold Wl tv
  split
  · unfold ew; (repeat' split) <;> omega
  · omega
def Dp (m : Int) : Int := if m = 0 then 30 else 0
theorem Dp_le (m : Int) : 0 ≤ Dp m ∧ Dp m ≤ 30 := by unfold Dp; split <;> omega
def dg (H : Nat) (g : Gop) : Int := if g.ph = 0 then 5 else if g.ph = 1 then (if g.t = H then 4 else 7) else if g.ph = 2 then (if g.t = H then 3 else 6) else if g.ph = 3 then 702 else 701
def dist (n H k : Nat) (l : Int) (m : Int) : CSt → Int
  | .push _ v d => (5 - d.k) + 67 + 100 * ew v
  | .ring b => 2 * (n - b.who) - (if b.k = 4 then 1 else 0) + 59
  | .src (.dq _ d) r => if d.k ≤ 10 then (11 - d.k) + 4 * ((r.length : Int) - 1) + 11 else (15 - d.k) + 4 * (r.length : Int) + 6
  | .src (.gt g) r => dg H g + 4 * (r.length : Int) + 6
  | .sleep _ _ => 6
  | .take _ g => dg H g + Dp m
  | .up _ _ _ => 700
  | .poll _ => Dp m
  | .over a v => if k = 0 then (if a = 1 then 100 * Wl v + Nf v else if a = 3 then 29 else 6)
      else if k = 1 then (if a = 1 then 100 * Wl v + Nf v else if a = 3 then 6 else Dp m)
      else if k = 2 then (if a = 1 then 29 else Dp m)
      else (if a = 3 then 71 + 100 * ew l else 29)
  | _ => 0
theorem dist_up (n H k : Nat) (l m : Int) (st : CSt) : dist n (H + 1) k l m st ≤ dist n H k l m st + 3 := by
  have hd : ∀ g : Gop, dg (H + 1) g ≤ dg H g + 3 := fun g => by unfold dg; (repeat' split) <;> omega
  cases st with
  | src x r =>
    cases x with
    | dq j d => simp only [dist]; omega
    | gt g => have := hd g; simp only [dist]; omega
  | take i g => have := hd g; simp only [dist]; omega
  | _ => simp only [dist]; omega
theorem dist_rouse (n H k : Nat) (l : Int) (st : CSt) : dist n H k l 0 st ≤ dist n H k l 1 st + 30 := by
  have h0 : Dp 0 = 30 := rfl
  have h1 : Dp 1 = 0 := rfl
  cases st with
  | src x r => cases x <;> (simp only [dist]; omega)
  | over a v => simp only [dist]; (repeat' split) <;> omega
  | _ => simp only [dist]; omega
theorem dist_yes (n H : Nat) (l m v : Int) {k : Nat} (h : k = 0 ∨ k = 1) : dist n H k l m (.over 1 v) = 100 * Wl v + Nf v := by rcases h with rfl | rfl <;> rfl
theorem dist_end (n H : Nat) (l m : Int) : dist n H 3 l m (.over 1 0) = 29 := rfl
theorem dist_dq (n H k : Nat) (l m : Int) (j : Nat) (d : Dop) (r : List Src) : dist n H k l m (.src (.dq j d) r) = if d.k ≤ 10 then (11 - d.k) + 4 * ((r.length : Int) - 1) + 11 else (15 - d.k) + 4 * (r.length : Int) + 6 := rfl
theorem dist_gt (n H k : Nat) (l m : Int) (g : Gop) (r : List Src) : dist n H k l m (.src (.gt g) r) = dg H g + 4 * (r.length : Int) + 6 := rfl
theorem dist_tk (n H k : Nat) (l m : Int) (i : Nat) (g : Gop) : dist n H k l m (.take i g) = dg H g + Dp m := rfl
theorem dist_ring (n H k : Nat) (l m : Int) (b : Bop) : dist n H k l m (.ring b) = 2 * (n - b.who) - (if b.k = 4 then 1 else 0) + 59 := rfl
def Psi (n T H : Nat) (o : Nat → CSt) (ph : Nat → Nat) (lf : Nat → Int) (S : Nat → List Int) (M : Nat → Int) : Int :=
  wl (fun _ => 710) (inD H T tv) + sumW n (fun i => dist n H (ph i) (lf i) (M i) (o i) + wl (fun x => 100 * ew x) (S i))
theorem dist_ctry {n p H : Nat} {F : CLay} {l m : Int} {rs : List Src} (hr : StL n p rs) : dist n H 0 l m (ctry F rs) ≤ 4 * (rs.length : Int) + 6 := by
  cases rs with
  | nil => show dist n H 0 l m (.over 4 0) ≤ _; simp [dist]
  | cons x rs =>
    obtain ⟨v, rfl, -, -⟩ := hr x (List.mem_cons_self ..)
    show dist n H 0 l m (.src (.dq v stealOp) rs) ≤ _
    simp [dist, stealOp]
    omega
theorem tks_dg {n T H H' : Nat} {pw : Prop} {g g' : Gop} (h : TkS T H pw (gsh n g) (gsh n g') H') (h0 : g'.out = 0) : (H' = H ∧ dg H g' + 1 ≤ dg H g) ∨ (H' = H + 1 ∧ H < T ∧ dg H' g' = 702 ∧ dg H g = 3) := by
  have e3 : ∀ (K : Nat) (x : Gop), dg K x = dg K (gsh n x) := fun K x => rfl
  have e4 : (gsh n g').out = 0 := h0
  rw [e3 H g, e3 H g', e3 H' g']
  generalize gsh n g = x at h ⊢
  generalize gsh n g' = y at h e4 ⊢
  cases h with
  | look h1 => exact .inl ⟨rfl, by simp [dg, h1]⟩
  | ready t h1 h2 => exact .inl ⟨rfl, by simp [dg, h1]; split <;> omega⟩
  | late t h1 h2 h3 => exact .inl ⟨rfl, by simp [dg, h1]; rw [if_neg (by omega)]; omega⟩
  | none h1 => simp at e4
  | swap h1 h2 h3 => exact .inr ⟨rfl, h3, by simp [dg], by simp [dg, h1, h2]⟩
  | lost t h1 h2 h3 => exact .inl ⟨rfl, by simp [dg, h1]; rw [if_neg (by omega)]; omega⟩
  | value t h1 h2 h3 => exact .inl ⟨rfl, by simp [dg, h1]⟩
  | pass t h1 => simp at e4
section
variable {n s p T H : Nat} {pw : Prop} {o : Nat → CSt} {ph : Nat → Nat} {lf : Nat → Int} {S S' : Nat → List Int} {M M' : Nat → Int} {st st' : CSt} {H' : Nat}
theorem WS.psi (hn : n ≤ 4) (hT : T ≤ 200) (hHT : H ≤ T) (hvh : ∀ x, x ∈ hand (ph p) (o p) → 1 ≤ x ∧ x < 2000) (hv : ∀ i, i < n → ∀ x, x ∈ S i → 1 ≤ x ∧ x < 2187) (hp : p < n) (hsh : PhOk n p (ph p) (o p)) (hM0 : (∃ b, o p = .ring b) → M p = 0) (h : WS n s p T H pw S M (o p) st' H' S' M') :
    Psi n T H' (upd o p st') ph lf S' M' + 1 ≤ Psi n T H o ph lf S M ∨ (o p = .poll ⟨2, p, 0⟩ ∧ M p = 1 ∧ st' = .over 4 0 ∧ H' = H ∧ S' = S ∧ M' = M) := by
  unfold Psi
  have key : H' = H → (∀ i, i ≠ p → S' i = S i) → (∀ i, i ≠ p → M' i = M i) → ((dist n H (ph p) (lf p) (M' p) st' + wl (fun x => 100 * ew x) (S' p)) + 1 ≤ (dist n H (ph p) (lf p) (M p) (o p) + wl (fun x => 100 * ew x) (S p))) →
      wl (fun _ => 710) (inD H' T tv) + sumW n (fun i => dist n H' (ph i) (lf i) (M' i) (upd o p st' i) + wl (fun x => 100 * ew x) (S' i)) + 1 ≤ wl (fun _ => 710) (inD H T tv) + sumW n (fun i => dist n H (ph i) (lf i) (M i) (o i) + wl (fun x => 100 * ew x) (S i)) := fun h0 h1 h3 h2 => by
    rw [h0]
    rw [sumW_one (f := fun i => dist n H (ph i) (lf i) (M' i) (upd o p st' i) + wl (fun x => 100 * ew x) (S' i)) (g := fun i => dist n H (ph i) (lf i) (M i) (o i) + wl (fun x => 100 * ew x) (S i)) hp (fun i hi hip => by rw [upd_ne _ _ hip, h1 i hip, h3 i hip])]
    simp only [upd_same]
    omega
  have keyH : H' = H + 1 → H < T → S' = S → M' = M → (dist n H' (ph p) (lf p) (M p) st' ≤ dist n H (ph p) (lf p) (M p) (o p) + 699) →
      wl (fun _ => 710) (inD H' T tv) + sumW n (fun i => dist n H' (ph i) (lf i) (M' i) (upd o p st' i) + wl (fun x => 100 * ew x) (S' i)) + 1 ≤ wl (fun _ => 710) (inD H T tv) + sumW n (fun i => dist n H (ph i) (lf i) (M i) (o i) + wl (fun x => 100 * ew x) (S i)) := fun h0 hlt h1 h3 h2 => by
    subst h0 h1 h3
    rw [inD_cons tv hlt]
    simp only [wl]
    have e1 := sumW_one (f := fun i => dist n (H + 1) (ph i) (lf i) (M' i) (upd o p st' i) + wl (fun x => 100 * ew x) (S' i)) (g := fun i => dist n (H + 1) (ph i) (lf i) (M' i) (o i) + wl (fun x => 100 * ew x) (S' i)) hp (fun i hi hip => by rw [upd_ne _ _ hip])
    have e2 := sumW_one (f := fun i => dist n (H + 1) (ph i) (lf i) (M' i) (o i) + wl (fun x => 100 * ew x) (S' i)) (g := upd (fun i => dist n (H + 1) (ph i) (lf i) (M' i) (o i) + wl (fun x => 100 * ew x) (S' i)) p (dist n H (ph p) (lf p) (M' p) (o p) + wl (fun x => 100 * ew x) (S' p))) hp (fun i hi hip => by rw [upd_ne _ _ hip])
    have e3 := sumW_le (n := n) (f := upd (fun i => dist n (H + 1) (ph i) (lf i) (M' i) (o i) + wl (fun x => 100 * ew x) (S' i)) p (dist n H (ph p) (lf p) (M' p) (o p) + wl (fun x => 100 * ew x) (S' p))) (g := fun i => (dist n H (ph i) (lf i) (M' i) (o i) + wl (fun x => 100 * ew x) (S' i)) + (upd (fun _ => (3 : Int)) p 0) i) (fun i hi => by
      by_cases e : i = p
      · subst e; rw [upd_same, upd_same]; omega
      · rw [upd_ne _ _ e, upd_ne _ _ e]; have := dist_up n H (ph i) (lf i) (M' i) (o i); omega)
    have e4 : ∀ (k : Nat) (f g : Nat → Int), sumW k (fun i => f i + g i) = sumW k f + sumW k g := fun k f g => by
      induction k with
      | zero => rfl
      | succ k ih => simp only [sumW, ih]; omega
    rw [e4] at e3
    have e5 := sumW_one (f := upd (fun _ => (3 : Int)) p 0) (g := fun _ => (3 : Int)) hp (fun i hi hip => upd_ne _ _ hip)
    rw [sumW_const] at e5
    simp only [upd_same] at e1 e2 e5
    omega
  obtain ⟨st, hst⟩ : ∃ st, o p = st := ⟨_, rfl⟩
  rw [hst] at h hsh hM0
  have hl1 : ∀ q : List Src, ((Src.take :: q).length : Int) = (q.length : Int) + 1 := fun q => by simp
  have hx : ∀ i x, i < n → S i = [x] → 1 ≤ x ∧ x < 2187 := fun i x hi e => hv i hi x (by rw [e]; simp)
  cases h with
  | pushing v d d' h1 h2 => exact .inl (key rfl (fun i hi => rfl) (fun i hi => rfl) (by rw [hst]; simp only [dist]; omega))
  | pushed v d h1 h2 => exact .inl (key rfl (fun i hi => upd_ne _ _ hi) (fun i hi => rfl) (by rw [hst, upd_same, h2]; simp [dist, wl, ringB]; omega))
  | popping d d' q h1 h2 h3 => exact .inl (key rfl (fun i hi => rfl) (fun i hi => rfl) (by rw [hst]; simp only [dist]; rw [if_pos (by omega), if_pos (by omega)]; omega))
  | popped d q x h1 h2 h3 => exact .inl (key rfl (fun i hi => upd_ne _ _ hi) (fun i hi => rfl) (by
      have a := hx p x hp h3
      have b := Wl_le a.1 a.2
      have c := Nf_le x
      rw [hst, upd_same, h3, hsh.1, dist_yes _ _ _ _ _ (.inl rfl), dist_dq, if_pos h1, hl1]; simp only [wl]; omega))
  | popno d q h1 h2 h3 => exact .inl (key rfl (fun i hi => rfl) (fun i hi => rfl) (by rw [hst]; simp only [dist, hl1]; rw [if_pos h1]; simp [dg, takeOp]; omega))
  | tk g g' q _ h1 h2 =>
    rcases tks_dg h1 h2 with ⟨e1, e2⟩ | ⟨e1, e2, e3, e4⟩
    · subst e1
      exact .inl (key rfl (fun i hi => rfl) (fun i hi => rfl) (by rw [hst]; simp only [dist]; omega))
    · exact .inl (keyH e1 e2 rfl rfl (by rw [hst]; simp only [dist]; omega))
  | tkyes g q t h1 h2 h3 => exact .inl (key rfl (fun i hi => rfl) (fun i hi => rfl) (by
      have a := Wl_tv (t := t) (by omega)
      have c := Nf_le (tv t)
      rw [hst, hsh.1, dist_yes _ _ _ _ _ (.inl rfl), dist_gt, show dg H g = 701 from by simp [dg, h1]]; omega))
  | tkno g q h1 h2 h3 => exact .inl (key rfl (fun i hi => rfl) (fun i hi => rfl) (by
      have := dist_ctry (F := crewF n s) (H := H) (l := lf p) (m := M p) hsh.2.1
      rw [hst, hsh.1]
      show _ + 1 ≤ (dg H g + 4 * (q.length : Int) + 6) + _
      simp [dg, h1, h2]; omega))
  | stealing v d d' q h1 h2 h3 h4 => exact .inl (key rfl (fun i hi => rfl) (fun i hi => rfl) (by rw [hst]; simp only [dist]; rw [if_neg (by omega), if_neg (by omega)]; omega))
  | stealno v d q h1 h2 h3 =>
    have hrr : StL n p q := hsh.2.elim (fun e => absurd e.1 h1) (fun e => e.2.1)
    exact .inl (key rfl (fun i hi => rfl) (fun i hi => rfl) (by
      have := dist_ctry (F := crewF n s) (H := H) (l := lf p) (m := M p) hrr
      rw [hst, hsh.1]
      show _ + 1 ≤ (if d.k ≤ 10 then (11 - d.k) + 4 * ((q.length : Int) - 1) + 11 else (15 - d.k) + 4 * (q.length : Int) + 6) + _
      rw [if_neg (by omega)]; omega))
  | stole v d q x h1 h2 h3 h4 =>
    refine .inl ?_
    have a := hx v x h1 h4
    have b := Wl_le a.1 a.2
    have c := Nf_le x
    rw [sumW_two (f := fun i => dist n H (ph i) (lf i) (M i) (upd o p (.over 1 x) i) + wl (fun x => 100 * ew x) (upd S v [] i)) (g := fun i => dist n H (ph i) (lf i) (M i) (o i) + wl (fun x => 100 * ew x) (S i)) hp h1 h2 (fun i hi hip hiv => by rw [upd_ne _ _ hip, upd_ne _ _ hiv])]
    simp only [upd_same]
    rw [upd_ne _ _ (Ne.symm h2), upd_ne _ _ h2, hst, h4, hsh.1, dist_yes _ _ _ _ _ (.inl rfl), dist_dq, if_neg (by omega)]
    simp only [wl]
    omega
  | sleep => exact .inl (key rfl (fun i hi => rfl) (fun i hi => upd_ne _ _ hi) (by rw [hst, upd_same]; simp [dist, dg, takeOp, Dp] <;> omega))
  | rtk g g' _ h1 h2 =>
    rcases tks_dg h1 h2 with ⟨e1, e2⟩ | ⟨e1, e2, e3, e4⟩
    · subst e1
      exact .inl (key rfl (fun i hi => rfl) (fun i hi => rfl) (by rw [hst]; simp only [dist]; omega))
    · exact .inl (keyH e1 e2 rfl rfl (by rw [hst]; simp only [dist]; omega))
  | rtkyes g t h1 h2 h3 => exact .inl (key rfl (fun i hi => rfl) (fun i hi => rfl) (by have := Dp_le (M p); rw [hst]; simp [dist, dg, h1]; omega))
  | rtkno g h1 h2 h3 => exact .inl (key rfl (fun i hi => rfl) (fun i hi => rfl) (by have hk : ph p = 1 := hsh; rw [hst, hk]; simp [dist, dg, h1, h2]; omega))
  | up t => exact .inl (key rfl (fun i hi => rfl) (fun i hi => upd_ne _ _ hi) (by
      have hk : ph p = 1 := hsh
      have c := Nf_le (tv t)
      have a := hvh (tv t) (by rw [hst]; simp [hand])
      have b := Wl_tv (t := t) (by have := a.2; unfold tv at this; omega)
      rw [hst, hk, dist_yes _ _ _ _ _ (.inr rfl)]
      show _ + 1 ≤ 700 + _
      omega))
  | pollyes h1 => exact .inl (key rfl (fun i hi => rfl) (fun i hi => rfl) (by have hk : ph p = 2 := hsh; rw [hst, hk]; simp [dist, h1, Dp] <;> omega))
  | pollno h1 => exact .inr ⟨hst, h1, rfl, rfl, rfl, rfl⟩
  | ring k q _ _ h1 h2 =>
    have hk : ph p = 3 := hsh
    cases h2 with
    | seen e1 e2 => exact .inl (key rfl (fun i hi => rfl) (fun i hi => rfl) (by rw [hst, dist_ring, dist_ring, if_pos rfl, if_neg (by show ¬ k = 4; omega)]; show 2 * ((n : Int) - (q : Nat)) - 1 + 59 + _ + 1 ≤ 2 * ((n : Int) - (q : Nat)) - 0 + 59 + _; omega))
    | on e1 e2 => exact .inl (key rfl (fun i hi => rfl) (fun i hi => rfl) (by
        rw [hst, dist_ring, dist_ring, if_neg (by show ¬ (3 : Nat) = 4; decide)]
        show 2 * ((n : Int) - ((q + 1 : Nat) : Int)) - 0 + 59 + _ + 1 ≤ 2 * ((n : Int) - (q : Nat)) - _ + 59 + _
        split <;> omega))
    | last e1 e2 => exact .inl (key rfl (fun i hi => rfl) (fun i hi => rfl) (by
        rw [hst, hk, dist_end, dist_ring]
        show 29 + _ + 1 ≤ 2 * ((n : Int) - (q : Nat)) - _ + 59 + _
        split <;> omega))
    | rouse e1 e2 =>
      refine .inl ?_
      have hM0 := hM0 ⟨_, rfl⟩
      have hqp : q ≠ p := fun e => by subst e; omega
      have hd := dist_rouse n H (ph q) (lf q) (o q)
      rw [sumW_two (f := fun i => dist n H (ph i) (lf i) (upd M q 0 i) (upd o p (.over 1 0) i) + wl (fun x => 100 * ew x) (S i)) (g := fun i => dist n H (ph i) (lf i) (M i) (o i) + wl (fun x => 100 * ew x) (S i)) hp h1 hqp (fun i hi hip hiq => by rw [upd_ne _ _ hip, upd_ne _ _ hiq])]
      simp only [upd_same]
      rw [upd_ne _ _ (Ne.symm hqp), upd_ne _ _ hqp, hst, hk, e2]
      rw [dist_end, dist_ring, if_pos e1]
      have ew : (⟨k, (q : Nat), 0⟩ : Bop).who = ((q : Nat) : Int) := rfl
      rw [ew]
      omega
end
end Go.Proofs.Ytdoaipjdldknaaa
