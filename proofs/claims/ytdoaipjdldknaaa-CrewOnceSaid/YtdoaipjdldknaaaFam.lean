/-
  Several operations, each in a block of its own; a slice of pointers to them; whose turn it is. No program in sight.
-/
import Derived.Test.YtdoaipjdldknaaaBase
namespace Go.Proofs.Ytdoaipjdldknaaa
open Go.RowKit
set_option linter.unusedVariables false

/-- One place of a table turned. -/
def upd {α : Type} (o : Nat → α) (p : Nat) (x : α) : Nat → α := fun i => if i = p then x else o i
theorem upd_same {α : Type} (o : Nat → α) (p : Nat) (x : α) : upd o p x p = x := if_pos rfl
theorem upd_ne {α : Type} (o : Nat → α) {p i : Nat} (x : α) (h : i ≠ p) : upd o p x i = o i := if_neg h

/-- What is said of a block and stays while that block stays. -/
def Stays {α : Type} (P : World → Nat → α → Prop) : Prop := ∀ (w w' : World) (S : Nat → Prop) (b : Nat) (x : α), P w b x → Only S w w' → ¬ S b → P w' b x
structure Fam {α : Type} (P : World → Nat → α → Prop) (w : World) (B k : Nat) (bo : Nat → Nat) (o : Nat → α) : Prop where
  at_ : ∀ i, i < k → P w (bo i) (o i)
  ge : ∀ i, i < k → B ≤ bo i
  lt : ∀ i, i < k → bo i < w.heap.size
  ne : ∀ i j, i < k → j < k → i ≠ j → bo i ≠ bo j
section
variable {α : Type} {P : World → Nat → α → Prop} {w w' : World} {B k : Nat} {bo : Nat → Nat} {o : Nat → α}
theorem Fam.empty (P : World → Nat → α → Prop) (w : World) (B : Nat) (bo : Nat → Nat) (o : Nat → α) : Fam P w B 0 bo o :=
  ⟨fun i h => by omega, fun i h => by omega, fun i h => by omega, fun i j h => by omega⟩
theorem Fam.only {S : Nat → Prop} (hP : Stays P) (h : Fam P w B k bo o) (ho : Only S w w') (hs : ∀ i, i < k → ¬ S (bo i)) : Fam P w' B k bo o :=
  ⟨fun i hi => hP _ _ _ _ _ (h.at_ i hi) ho (hs i hi), h.ge, fun i hi => Nat.lt_of_lt_of_le (h.lt i hi) ho.size, h.ne⟩
theorem Fam.only0 (hP : Stays P) (h : Fam P w B k bo o) (ho : Only S0 w w') : Fam P w' B k bo o := h.only hP ho fun _ _ h => h
theorem Fam.step {S : Nat → Prop} {p : Nat} {x : α} (hP : Stays P) (h : Fam P w B k bo o) (hp : p < k) (ho : Only S w w') (hs : ∀ i, i < k → i ≠ p → ¬ S (bo i)) (hx : P w' (bo p) x) : Fam P w' B k bo (upd o p x) := by
  refine ⟨fun i hi => ?_, h.ge, fun i hi => Nat.lt_of_lt_of_le (h.lt i hi) ho.size, h.ne⟩
  by_cases e : i = p
  · subst e
    rw [upd_same]
    exact hx
  · rw [upd_ne _ _ e]
    exact hP _ _ _ _ _ (h.at_ i hi) ho (hs i hi e)
theorem Fam.snoc {b : Nat} {x : α} (hP : Stays P) (h : Fam P w B k bo o) (ho : Only S0 w w') (hB : B ≤ w.heap.size) (hx : P w' b x) (hb : w.heap.size ≤ b) (hb' : b < w'.heap.size) : Fam P w' B (k + 1) (upd bo k b) (upd o k x) := by
  have hk : ∀ i, i < k + 1 → i ≠ k → i < k := fun i h1 h2 => by omega
  refine ⟨fun i hi => ?_, fun i hi => ?_, fun i hi => ?_, fun i j hi hj hij => ?_⟩
  · by_cases e : i = k
    · subst e
      rw [upd_same, upd_same]
      exact hx
    · rw [upd_ne _ _ e, upd_ne _ _ e]
      exact hP _ _ _ _ _ (h.at_ i (hk i hi e)) ho fun h => h
  · by_cases e : i = k
    · subst e
      rw [upd_same]
      omega
    · rw [upd_ne _ _ e]
      exact h.ge i (hk i hi e)
  · by_cases e : i = k
    · subst e
      rw [upd_same]
      exact hb'
    · rw [upd_ne _ _ e]
      exact Nat.lt_of_lt_of_le (h.lt i (hk i hi e)) ho.size
  · by_cases e : i = k
    · subst e
      rw [upd_same, upd_ne _ _ (fun e => hij e.symm)]
      have := h.lt j (hk j hj (fun e => hij e.symm))
      omega
    · rw [upd_ne _ _ e]
      by_cases e2 : j = k
      · subst e2
        rw [upd_same]
        have := h.lt i (hk i hi e)
        omega
      · rw [upd_ne _ _ e2]
        exact h.ne i j (hk i hi e) (hk j hj e2) hij
end

/-- Pointers to the blocks. -/
def ptrs (k : Nat) (bo : Nat → Nat) : List Value := (List.range k).map fun i => .pointer (some ⟨bo i, 0, none⟩)
theorem ptrs_len (k : Nat) (bo : Nat → Nat) : (ptrs k bo).length = k := by simp [ptrs]
theorem ptrs_get {k i : Nat} (bo : Nat → Nat) (h : i < k) : (ptrs k bo)[i]? = some (.pointer (some ⟨bo i, 0, none⟩)) := by
  simp [ptrs, h]
theorem ptrs_zero (bo : Nat → Nat) : ptrs 0 bo = [] := rfl
theorem ptrs_snoc (k b : Nat) (bo : Nat → Nat) : ptrs (k + 1) (upd bo k b) = ptrs k bo ++ [.pointer (some ⟨b, 0, none⟩)] := by
  unfold ptrs
  rw [List.range_succ, List.map_append]
  congr 1
  · refine List.map_congr_left fun i hi => ?_
    rw [upd_ne _ _ (by have := List.mem_range.1 hi; omega)]
  · simp [upd_same]

/-- How often p comes up, modulo k, in m numbers from i on. -/
def vis (k p : Nat) : Nat → Nat → Nat
  | _, 0 => 0
  | i, m + 1 => (if i % k = p then 1 else 0) + vis k p (i + 1) m
theorem vis_add (k p : Nat) : ∀ (a i b : Nat), vis k p i (a + b) = vis k p i a + vis k p (i + a) b
  | 0, i, b => by simp [vis]
  | a + 1, i, b => by
    rw [show a + 1 + b = (a + b) + 1 by omega]
    simp only [vis]
    rw [vis_add k p a (i + 1) b, show i + 1 + a = i + (a + 1) by omega]
    omega
theorem vis_pos (k p : Nat) : ∀ (m i j : Nat), j < m → (i + j) % k = p → 1 ≤ vis k p i m
  | 0, i, j, h, _ => by omega
  | m + 1, i, 0, _, h => by
    simp only [vis]
    rw [if_pos (by simpa using h)]
    omega
  | m + 1, i, j + 1, hj, h => by
    simp only [vis]
    have := vis_pos k p m (i + 1) j (by omega) (by rw [show i + 1 + j = i + (j + 1) by omega]; exact h)
    omega
theorem vis_round {k p : Nat} (hp : p < k) (i : Nat) : 1 ≤ vis k p i k := by
  refine vis_pos k p k i ((p + k - i % k) % k) (Nat.mod_lt _ (by omega)) ?_
  have h1 := Nat.mod_lt i (show k > 0 by omega)
  rw [← Nat.mod_add_mod i k]
  by_cases h : i % k ≤ p
  · rw [show p + k - i % k = (p - i % k) + k by omega, Nat.add_mod_right, Nat.mod_eq_of_lt (show p - i % k < k by omega), Nat.mod_eq_of_lt (by omega)]
    omega
  · rw [Nat.mod_eq_of_lt (show p + k - i % k < k by omega), show i % k + (p + k - i % k) = p + k by omega, Nat.add_mod_right, Nat.mod_eq_of_lt hp]
theorem vis_rounds {k p : Nat} (hp : p < k) : ∀ (m i : Nat), m ≤ vis k p i (m * k)
  | 0, i => Nat.zero_le _
  | m + 1, i => by
    rw [show (m + 1) * k = k + m * k by rw [Nat.add_mul]; omega, vis_add]
    have := vis_round hp i
    have := vis_rounds hp m (i + k)
    omega

/-- A sum, and a count. -/
def sumTo : Nat → (Nat → Int) → Int
  | 0, _ => 0
  | n + 1, f => sumTo n f + f n
theorem sumTo_congr {n : Nat} {f g : Nat → Int} (h : ∀ i, i < n → f i = g i) : sumTo n f = sumTo n g := by
  induction n with
  | zero => rfl
  | succ n ih =>
    simp only [sumTo]
    rw [ih fun i hi => h i (by omega), h n (by omega)]
theorem sumTo_bound {n : Nat} {f : Nat → Int} (h : ∀ i, i < n → 0 ≤ f i ∧ f i ≤ 1) : 0 ≤ sumTo n f ∧ sumTo n f ≤ n := by
  induction n with
  | zero => exact ⟨Int.le_refl _, Int.le_refl _⟩
  | succ n ih =>
    have h1 := ih fun i hi => h i (by omega)
    have h2 := h n (by omega)
    simp only [sumTo]
    omega
theorem sumTo_zero {n : Nat} {f : Nat → Int} (h : ∀ i, i < n → f i = 0) : sumTo n f = 0 := by
  induction n with
  | zero => rfl
  | succ n ih =>
    simp only [sumTo]
    rw [ih fun i hi => h i (by omega), h n (by omega)]
    rfl
/-- One term turned. -/
theorem sumTo_turn {n q : Nat} {f g : Nat → Int} (hq : q < n) (h : ∀ i, i ≠ q → f i = g i) : sumTo n f + g q = sumTo n g + f q := by
  induction n with
  | zero => omega
  | succ n ih =>
    simp only [sumTo]
    by_cases e : q = n
    · subst e
      rw [sumTo_congr (f := f) (g := g) fun i hi => h i (by omega)]
      omega
    · have := ih (by omega)
      rw [h n (by omega)]
      omega
def cntTo : Nat → (Nat → Bool) → Nat
  | 0, _ => 0
  | n + 1, f => cntTo n f + (if f n then 1 else 0)
theorem cntTo_le (n : Nat) (f : Nat → Bool) : cntTo n f ≤ n := by
  induction n with
  | zero => exact Nat.le_refl _
  | succ n ih => simp only [cntTo]; split <;> omega
theorem cntTo_all {n : Nat} {f : Nat → Bool} (h : ∀ i, i < n → f i = true) : cntTo n f = n := by
  induction n with
  | zero => rfl
  | succ n ih =>
    simp only [cntTo]
    rw [ih fun i hi => h i (by omega), h n (by omega)]
    rfl
theorem cntTo_congr {n : Nat} {f g : Nat → Bool} (h : ∀ i, i < n → f i = g i) : cntTo n f = cntTo n g := by
  induction n with
  | zero => rfl
  | succ n ih =>
    simp only [cntTo]
    rw [ih fun i hi => h i (by omega), h n (by omega)]
theorem cntTo_turn {n q : Nat} {f g : Nat → Bool} (hq : q < n) (h : ∀ i, i ≠ q → f i = g i) : cntTo n f + (if g q then 1 else 0) = cntTo n g + (if f q then 1 else 0) := by
  induction n with
  | zero => omega
  | succ n ih =>
    simp only [cntTo]
    by_cases e : q = n
    · subst e
      rw [cntTo_congr (f := f) (g := g) fun i hi => h i (by omega)]
      omega
    · have := ih (by omega)
      rw [h n (by omega)]
      omega

section
variable {w w' : World} {B g k cap : Nat} {e : TypeId} {v : Value} {xs : List Value}
/-- What a slice of the call's own holds. -/
theorem Sl.get (h : Sl w B e (.slice (some ⟨g, 0, none⟩) k cap) xs) {i : Nat} {u : Value} (hx : xs[i]? = some u) : w.cell? ⟨g, i, none⟩ = some u := by
  have hi : i < xs.length := by
    rcases Nat.lt_or_ge i xs.length with h | h
    · exact h
    · rw [List.getElem?_eq_none h] at hx; cases hx
  obtain ⟨a, c, hv, hc⟩ := h.rd
  obtain ⟨g', off, ha, _, hcell⟩ := hc (by omega)
  subst ha
  have := hcell i u hx
  injection hv with h1 h2 h3
  injection h1 with h1
  injection h1 with h1 h4 h5
  subst h1
  rw [← h4, Nat.zero_add] at this
  exact this
theorem Sl.blk (h : Sl w B e (.slice (some ⟨g, 0, none⟩) k cap) xs) : ∃ cs, Blk w g e cs := by
  rcases h.form with ⟨h1, _⟩ | ⟨g', c', cur, hv, _, hb, _⟩
  · cases h1
  · injection hv with h1 h2 h3
    injection h1 with h1
    injection h1 with h1 h4 h5
    subst h1
    exact ⟨cur, hb⟩
theorem Sl.only3 {a b c ta tb tc : Nat} {ca cb cc : Array Value} (h : Sl w B e (.slice (some ⟨g, 0, none⟩) k cap) xs) (ho : Only (fun k => k = a ∨ k = b ∨ k = c) w w') (ha : Blk w a ta ca) (hb : Blk w b tb cb) (hc : Blk w c tc cc)
    (h1 : e ≠ ta) (h2 : e ≠ tb) (h3 : e ≠ tc) : Sl w' B e (.slice (some ⟨g, 0, none⟩) k cap) xs := by
  obtain ⟨cs, hg⟩ := h.blk
  refine h.only ho fun g' hg' hs => ?_
  have : g = g' := by simpa [Value.ownBlock] using hg'
  subst this
  rcases hs with rfl | rfl | rfl
  · exact hg.ne_ ha h1 rfl
  · exact hg.ne_ hb h2 rfl
  · exact hg.ne_ hc h3 rfl
theorem Sl.only0 (h : Sl w B e v xs) (ho : Only S0 w w') : Sl w' B e v xs := h.only ho fun _ _ h => h
end
/-- A block of bools. -/
def bools (n : Nat) (f : Nat → Bool) : Array Value := ((List.range n).map fun q => Value.bool (f q)).toArray
theorem bools_get {n q : Nat} (f : Nat → Bool) (h : q < n) : (bools n f)[q]? = some (.bool (f q)) := by simp [bools, h]
theorem bools_set (n q : Nat) (f : Nat → Bool) (x : Bool) : (bools n f).setIfInBounds q (.bool x) = bools n (upd f q x) := by
  unfold bools
  rw [List.setIfInBounds_toArray]
  congr 1
  refine List.ext_getElem? fun j => ?_
  rw [List.getElem?_set]
  simp only [List.getElem?_map, List.length_map, List.length_range]
  by_cases hj : j < n
  · rw [List.getElem?_range hj]
    by_cases e : q = j
    · subst e
      simp [hj, upd_same]
    · rw [if_neg e, Option.map_some, Option.map_some, upd_ne _ _ (fun h => e h.symm)]
  · rw [List.getElem?_eq_none (by simpa using hj)]
    by_cases e : q = j
    · subst e
      simp [hj]
    · simp [e]
theorem bools_zeros (n : Nat) : zeros (.bool false) n = bools n fun _ => false := by
  unfold zeros bools
  congr 1
  refine List.ext_getElem? fun j => ?_
  simp only [List.getElem?_map, List.getElem?_replicate]
  by_cases hj : j < n
  · rw [List.getElem?_range hj, if_pos hj]; rfl
  · rw [List.getElem?_eq_none (by simpa using hj), if_neg hj]; rfl
/-- A list by its places. -/
def mk (m : Nat) (f : Nat → Int) : List Int := (List.range m).map f
theorem mk_len (m : Nat) (f : Nat → Int) : (mk m f).length = m := by simp [mk]
theorem mk_congr {m : Nat} {f g : Nat → Int} (h : ∀ i, i < m → f i = g i) : mk m f = mk m g := by
  unfold mk
  exact List.map_congr_left fun i hi => h i (List.mem_range.1 hi)
theorem mk_set (m i : Nat) (f : Nat → Int) (x : Int) : (mk m f).set i x = mk m (upd f i x) := by
  unfold mk
  refine List.ext_getElem? fun j => ?_
  rw [List.getElem?_set]
  simp only [List.getElem?_map, List.length_map, List.length_range]
  by_cases hj : j < m
  · rw [List.getElem?_range hj]
    by_cases e : i = j
    · subst e
      simp [hj, upd_same]
    · rw [if_neg e, Option.map_some, Option.map_some, upd_ne _ _ (fun h => e h.symm)]
  · rw [List.getElem?_eq_none (by simpa using hj)]
    by_cases e : i = j
    · subst e
      simp [hj]
    · simp [e]
theorem mk_rep (m : Nat) (x : Int) : List.replicate m x = mk m fun _ => x := by
  unfold mk
  refine List.ext_getElem? fun j => ?_
  simp only [List.getElem?_map, List.getElem?_replicate]
  by_cases hj : j < m
  · rw [List.getElem?_range hj, if_pos hj]; rfl
  · rw [List.getElem?_eq_none (by simpa using hj), if_neg hj]; rfl
end Go.Proofs.Ytdoaipjdldknaaa
