/-
  CrewOnce: sums over the workers; what a step keeps and what it uses up (plain lists; no program).
-/
import Derived.Test.YtdoaipjdldknaaaKO3
namespace Go.Proofs.Ytdoaipjdldknaaa
open Go.RowKit
set_option linter.unusedVariables false

def sumW : Nat → (Nat → Int) → Int
  | 0, _ => 0
  | k + 1, f => sumW k f + f k
theorem sumW_eq {f g : Nat → Int} : ∀ {n : Nat}, (∀ i, i < n → f i = g i) → sumW n f = sumW n g
  | 0, _ => rfl
  | n + 1, h => by simp only [sumW]; rw [sumW_eq (n := n) fun i hi => h i (by omega), h n (by omega)]
theorem sumW_one {f g : Nat → Int} {p : Nat} : ∀ {n : Nat}, p < n → (∀ i, i < n → i ≠ p → f i = g i) → sumW n f = sumW n g + (f p - g p)
  | 0, h, _ => by omega
  | n + 1, h, he => by
    simp only [sumW]
    by_cases e : p = n
    · subst e
      rw [sumW_eq (n := p) fun i hi => he i (by omega) (by omega)]
      omega
    · rw [sumW_one (n := n) (by omega) fun i hi hip => he i (by omega) hip, he n (by omega) (by omega)]
      omega
theorem sumW_two {f g : Nat → Int} {p q : Nat} {n : Nat} (hp : p < n) (hq : q < n) (hpq : q ≠ p) (he : ∀ i, i < n → i ≠ p → i ≠ q → f i = g i) : sumW n f = sumW n g + (f p - g p) + (f q - g q) := by
  have h1 := sumW_one (f := f) (g := upd g q (f q)) hp (fun i hi hip => by
    by_cases e : i = q
    · subst e; rw [upd_same]
    · rw [upd_ne _ _ e]; exact he i hi hip e)
  have h2 := sumW_one (f := upd g q (f q)) (g := g) hq (fun i hi hiq => upd_ne _ _ hiq)
  rw [upd_same] at h2
  rw [upd_ne _ _ (Ne.symm hpq)] at h1
  omega
theorem sumW_le {f g : Nat → Int} : ∀ {n : Nat}, (∀ i, i < n → f i ≤ g i) → sumW n f ≤ sumW n g
  | 0, _ => Int.le_refl _
  | n + 1, h => by
    simp only [sumW]
    have := sumW_le (n := n) fun i hi => h i (by omega)
    have := h n (by omega)
    omega
theorem sumW_const (c : Int) : ∀ n : Nat, sumW n (fun _ => c) = n * c
  | 0 => by simp [sumW]
  | n + 1 => by
    simp only [sumW]
    rw [sumW_const c n, show ((n + 1 : Nat) : Int) = (n : Int) + 1 by omega, Int.add_mul, Int.one_mul]
theorem sumW_nonneg {f : Nat → Int} {n : Nat} (h : ∀ i, i < n → 0 ≤ f i) : 0 ≤ sumW n f := by
  have := sumW_le (f := fun _ => 0) (g := f) (n := n) h
  rw [sumW_const] at this
  omega
theorem sumW_ge_one {f : Nat → Int} {n p : Nat} (hp : p < n) (h : ∀ i, i < n → 0 ≤ f i) : f p ≤ sumW n f := by
  have := sumW_one (f := f) (g := upd f p 0) hp (fun i hi hip => (upd_ne _ _ hip).symm)
  rw [upd_same] at this
  have h2 : 0 ≤ sumW n (upd f p 0) := sumW_nonneg fun i hi => by
    by_cases e : i = p
    · subst e; rw [upd_same]; exact Int.le_refl _
    · rw [upd_ne _ _ e]; exact h i hi
  omega
/-- The sum of a weight over a list. -/
def wl (w : Int → Int) : List Int → Int
  | [] => 0
  | x :: l => w x + wl w l
theorem wl_app (w : Int → Int) (l l' : List Int) : wl w (l ++ l') = wl w l + wl w l' := by
  induction l with
  | nil => simp [wl]
  | cons x l ih => simp only [List.cons_append, wl, ih]; omega
theorem wl_one (l : List Int) : wl (fun _ => 1) l = l.length := by
  induction l with
  | nil => rfl
  | cons x l ih => simp only [wl, ih, List.length_cons]; omega
theorem wl_count (x : Int) (l : List Int) : wl (fun y => if y = x then 1 else 0) l = l.count x := by
  induction l with
  | nil => rfl
  | cons y l ih =>
    simp only [wl, ih, List.count_cons]
    by_cases e : y = x
    · subst e; simp; omega
    · simp [e]
def handG (g : Gop) : List Int := if g.ph = 3 ∨ g.ph = 4 then [tv g.t.toNat] else []
/-- What a worker has in its hands. -/
def hand (k : Nat) : CSt → List Int
  | .push _ v _ => [v]
  | .src (.gt g) _ => handG g
  | .take _ g => handG g
  | .up _ v _ => [v]
  | .over a v => if k ≤ 1 ∧ a = 1 then [v] else []
  | _ => []
def handO : CSt → List Int
  | .put v g => if g.ph = 3 ∨ g.ph = 4 then [] else [v]
  | _ => []
theorem inD_none {H T : Nat} (f : Nat → Int) (h : T ≤ H) : inD H T f = [] := by unfold inD; rw [show T - H = 0 by omega]; rfl
theorem hand_ctry {n p : Nat} {F : CLay} {r : List Src} (hr : StL n p r) : hand 0 (ctry F r) = [] := by
  cases r with
  | nil => rfl
  | cons x r => obtain ⟨v, rfl, -, -⟩ := hr x (List.mem_cons_self ..); rfl
/-- How the hand and the gate go together. -/
theorem tks_hand {n T H H' : Nat} {pw : Prop} {g g' : Gop} (w : Int → Int) (h : TkS T H pw (gsh n g) (gsh n g') H') (h0 : g'.out = 0) : wl w (inD H' T tv) + wl w (handG g') = wl w (inD H T tv) + wl w (handG g) := by
  have e3 : ∀ x : Gop, handG x = handG (gsh n x) := fun x => rfl
  have e4 : (gsh n g').out = 0 := h0
  rw [e3 g, e3 g']
  generalize gsh n g = x at h ⊢
  generalize gsh n g' = y at h e4 ⊢
  cases h with
  | look h1 => simp [handG, h1]
  | ready t h1 h2 => simp [handG, h1]
  | late t h1 h2 => simp [handG, h1]
  | none h1 => simp at e4
  | swap h1 h2 h3 =>
    have hy : handG { x with ph := 3 } = [tv H] := by
      unfold handG
      rw [if_pos (.inl rfl)]
      simp [h2]
    have hx : handG x = [] := by unfold handG; rw [if_neg (by omega)]
    rw [hy, hx, inD_cons tv h3]
    simp only [wl]
    omega
  | lost t h1 h2 => simp [handG, h1]
  | value t h1 h2 h3 => simp [handG, h1]
  | pass t h1 => simp at e4
section
variable {n s p T H : Nat} {pw : Prop} {o : Nat → CSt} {ph : Nat → Nat} {S S' : Nat → List Int} {M M' : Nat → Int} {st st' : CSt} {H' : Nat}
/-- Whose deque and mark a step turns. -/
theorem WS.where_ (h : WS n s p T H pw S M st st' H' S' M') (hM : (∃ b, st = .ring b) → M p = 0) :
    ((∀ i, i ≠ p → S' i = S i ∧ M' i = M i) ∧ T = T) ∨ ∃ q, q < n ∧ q ≠ p ∧ (∀ i, i ≠ p → i ≠ q → S' i = S i ∧ M' i = M i) ∧ S' p = S p ∧ M' p = M p ∧ H' = H ∧
      ((∃ v d r x, v = q ∧ st = .src (.dq v d) r ∧ d.k = 14 ∧ st' = .over 1 x ∧ S q = [x] ∧ S' q = [] ∧ M' q = M q) ∨ (∃ b, st = .ring b ∧ st' = .over 1 0 ∧ b.k = 4 ∧ S' q = S q ∧ M q = 1 ∧ M' q = 0)) := by
  have hu : ∀ {α : Type} (f : Nat → α) (x : α) (i : Nat), i ≠ p → upd f p x i = f i := fun f x i hi => upd_ne _ _ hi
  cases h with
  | stole v d r x hv hvp hk hS => exact .inr ⟨v, hv, hvp, fun i hi hiv => ⟨upd_ne _ _ hiv, rfl⟩, upd_ne _ _ (Ne.symm hvp), rfl, rfl, .inl ⟨v, d, r, x, rfl, rfl, hk, rfl, hS, upd_same _ _ _, rfl⟩⟩
  | ring k q st' M' hq hr =>
    cases hr with
    | seen => exact .inl ⟨fun i hi => ⟨rfl, rfl⟩, rfl⟩
    | on => exact .inl ⟨fun i hi => ⟨rfl, rfl⟩, rfl⟩
    | last => exact .inl ⟨fun i hi => ⟨rfl, rfl⟩, rfl⟩
    | rouse h1 h2 =>
      have hqp : q ≠ p := fun e => by subst e; have := hM ⟨_, rfl⟩; omega
      exact .inr ⟨q, hq, hqp, fun i hi hiq => ⟨rfl, upd_ne _ _ hiq⟩, rfl, upd_ne _ _ (Ne.symm hqp), rfl, .inr ⟨_, rfl, rfl, h1, rfl, h2, upd_same _ _ _⟩⟩
  | _ => exact .inl ⟨fun i hi => ⟨by first | rfl | exact upd_ne _ _ hi, by first | rfl | exact upd_ne _ _ hi⟩, rfl⟩
/-- The phase, as the operation tells it. -/
def PhOk (n p k : Nat) : CSt → Prop
  | .src (.dq j d) r => k = 0 ∧ ((j = p ∧ ∃ r', r = .take :: r' ∧ StL n p r' ∧ r'.length ≤ 3) ∨ (j ≠ p ∧ StL n p r ∧ r.length ≤ 2))
  | .src (.gt g) r => k = 0 ∧ StL n p r ∧ r.length ≤ 3
  | .sleep _ _ => k = 1
  | .take _ _ => k = 1
  | .up _ _ _ => k = 1
  | .poll _ => k = 2
  | .push _ _ _ => k = 3
  | .ring _ => k = 3
  | _ => True
theorem Sh.phase {k : Nat} {st : CSt} {Sp : List Int} {m : Int} (h : Sh n p k st Sp m) : PhOk n p k st := by
  cases h with
  | fpop d r _ h1 h2 h3 h4 => exact ⟨rfl, .inl ⟨rfl, r, rfl, h3, h4⟩⟩
  | ftk g r h3 h4 => exact ⟨rfl, h3, h4⟩
  | fst v d r h1 h2 h3 h4 => exact ⟨rfl, .inr ⟨h2, h3, h4⟩⟩
  | _ => first | exact rfl | exact trivial
/-- Numbers are where they are. -/
theorem WS.keep (w : Int → Int) (hp : p < n) (hsh : PhOk n p (ph p) (o p)) (h : WS n s p T H pw S M (o p) st' H' S' M') :
    wl w (inD H' T tv) + sumW n (fun i => wl w (hand (ph i) (upd o p st' i)) + wl w (S' i)) = wl w (inD H T tv) + sumW n (fun i => wl w (hand (ph i) (o i)) + wl w (S i)) := by
  have key : (∀ i, i ≠ p → S' i = S i) → (wl w (inD H' T tv) + (wl w (hand (ph p) st') + wl w (S' p)) = wl w (inD H T tv) + (wl w (hand (ph p) (o p)) + wl w (S p))) →
      wl w (inD H' T tv) + sumW n (fun i => wl w (hand (ph i) (upd o p st' i)) + wl w (S' i)) = wl w (inD H T tv) + sumW n (fun i => wl w (hand (ph i) (o i)) + wl w (S i)) := fun h1 h2 => by
    rw [sumW_one (g := fun i => wl w (hand (ph i) (o i)) + wl w (S i)) hp (fun i hi hip => by rw [upd_ne _ _ hip, h1 i hip])]
    simp only [upd_same]
    omega
  obtain ⟨st, hst⟩ : ∃ st, o p = st := ⟨_, rfl⟩
  rw [hst] at h hsh
  cases h with
  | pushing v d d' h1 h2 => exact key (fun i hi => rfl) (by rw [hst]; rfl)
  | pushed v d h1 h2 => exact key (fun i hi => upd_ne _ _ hi) (by rw [hst, upd_same, h2]; simp [hand, wl])
  | popping d d' r h1 h2 => exact key (fun i hi => rfl) (by rw [hst]; rfl)
  | popped d r x h1 h2 h3 => exact key (fun i hi => upd_ne _ _ hi) (by rw [hst, upd_same, h3, hsh.1]; simp [hand, wl])
  | popno d r h1 h2 => exact key (fun i hi => rfl) (by rw [hst]; simp [hand, wl, handG, takeOp])
  | tk g g' r _ h1 h2 => exact key (fun i hi => rfl) (by have := tks_hand w h1 h2; rw [hst]; show _ + (wl w (handG g') + _) = _ + (wl w (handG g) + _); omega)
  | tkyes g r t h1 h2 h3 => exact key (fun i hi => rfl) (by
      have e : g.t.toNat = t := by omega
      rw [hst, hsh.1]
      simp [hand, handG, h1, e])
  | tkno g r h1 h2 h3 => exact key (fun i hi => rfl) (by rw [hst, hsh.1, hand_ctry hsh.2.1]; simp [hand, handG, h1])
  | stealing v d d' r h1 h2 => exact key (fun i hi => rfl) (by rw [hst]; rfl)
  | stealno v d r h1 h2 h3 =>
    have hr : StL n p r := hsh.2.elim (fun e => absurd e.1 h1) (fun e => e.2.1)
    exact key (fun i hi => rfl) (by rw [hst, hsh.1, hand_ctry hr]; simp [hand])
  | stole v d r x h1 h2 h3 h4 =>
    rw [sumW_two (g := fun i => wl w (hand (ph i) (o i)) + wl w (S i)) hp h1 h2 (fun i hi hip hiv => by rw [upd_ne _ _ hip, upd_ne _ _ hiv])]
    simp only [upd_same]
    rw [upd_ne _ _ (Ne.symm h2), upd_ne _ _ h2, hst, h4, hsh.1]
    simp [hand, wl]
    omega
  | sleep => exact key (fun i hi => rfl) (by rw [hst]; simp [hand, handG, takeOp])
  | rtk g g' _ h1 h2 => exact key (fun i hi => rfl) (by have := tks_hand w h1 h2; rw [hst]; show _ + (wl w (handG g') + _) = _ + (wl w (handG g) + _); omega)
  | rtkyes g t h1 h2 h3 => exact key (fun i hi => rfl) (by
      have e : g.t.toNat = t := by omega
      rw [hst]
      simp [hand, handG, h1, e])
  | rtkno g h1 h2 h3 => exact key (fun i hi => rfl) (by rw [hst]; simp [hand, handG, h1])
  | up t => exact key (fun i hi => rfl) (by have hk : ph p = 1 := hsh; rw [hst, hk]; simp [hand])
  | pollyes h1 => exact key (fun i hi => rfl) (by have hk : ph p = 2 := hsh; rw [hst, hk]; simp [hand])
  | pollno h1 => exact key (fun i hi => rfl) (by have hk : ph p = 2 := hsh; rw [hst, hk]; simp [hand])
  | ring k q _ _ h1 h2 =>
    have hk : ph p = 3 := hsh
    cases h2 with
    | seen => exact key (fun i hi => rfl) (by rw [hst]; rfl)
    | on => exact key (fun i hi => rfl) (by rw [hst]; rfl)
    | last => exact key (fun i hi => rfl) (by rw [hst, hk]; simp [hand])
    | rouse => exact key (fun i hi => rfl) (by rw [hst, hk]; simp [hand])
end
end Go.Proofs.Ytdoaipjdldknaaa
