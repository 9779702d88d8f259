/-
  Threads that have an operation under way, or none; the tables of their operations and of the document's. No program in sight.
-/
import Derived.Test.YtdoaipjdldknaaaFam
namespace Go.Proofs.Ytdoaipjdldknaaa
open Go.RowKit
set_option linter.unusedVariables false

structure OFam {α : Type} (P : World → Nat → α → Prop) (w : World) (B k : Nat) (act : Nat → Bool) (bo : Nat → Nat) (o : Nat → α) : Prop where
  at_ : ∀ i, i < k → act i = true → P w (bo i) (o i)
  ge : ∀ i, i < k → act i = true → B ≤ bo i
  lt : ∀ i, i < k → act i = true → bo i < w.heap.size
  ne : ∀ i j, i < k → j < k → act i = true → act j = true → i ≠ j → bo i ≠ bo j
section
variable {α : Type} {P : World → Nat → α → Prop} {w w' : World} {B k : Nat} {act : Nat → Bool} {bo : Nat → Nat} {o : Nat → α}
theorem OFam.empty (P : World → Nat → α → Prop) (w : World) (B k : Nat) (bo : Nat → Nat) (o : Nat → α) : OFam P w B k (fun _ => false) bo o :=
  ⟨fun i _ h => absurd h (by decide), fun i _ h => absurd h (by decide), fun i _ h => absurd h (by decide), fun i j _ _ h => absurd h (by decide)⟩
theorem OFam.only {S : Nat → Prop} (hP : Stays P) (h : OFam P w B k act bo o) (ho : Only S w w') (hs : ∀ i, i < k → act i = true → ¬ S (bo i)) : OFam P w' B k act bo o :=
  ⟨fun i hi ha => hP _ _ _ _ _ (h.at_ i hi ha) ho (hs i hi ha), h.ge, fun i hi ha => Nat.lt_of_lt_of_le (h.lt i hi ha) ho.size, h.ne⟩
theorem OFam.only0 (hP : Stays P) (h : OFam P w B k act bo o) (ho : Only S0 w w') : OFam P w' B k act bo o := h.only hP ho fun _ _ _ h => h
theorem OFam.step {S : Nat → Prop} {p : Nat} {x : α} (hP : Stays P) (h : OFam P w B k act bo o) (hp : p < k) (ho : Only S w w') (hs : ∀ i, i < k → act i = true → i ≠ p → ¬ S (bo i)) (hx : P w' (bo p) x) : OFam P w' B k act bo (upd o p x) := by
  refine ⟨fun i hi ha => ?_, h.ge, fun i hi ha => Nat.lt_of_lt_of_le (h.lt i hi ha) ho.size, h.ne⟩
  by_cases e : i = p
  · subst e
    rw [upd_same]
    exact hx
  · rw [upd_ne _ _ e]
    exact hP _ _ _ _ _ (h.at_ i hi ha) ho (hs i hi ha e)
theorem OFam.begin_ {p b : Nat} {x : α} (hP : Stays P) (h : OFam P w B k act bo o) (hp : p < k) (ho : Only S0 w w') (hB : B ≤ w.heap.size) (hx : P w' b x) (hb : w.heap.size ≤ b) (hb' : b < w'.heap.size) : OFam P w' B k (upd act p true) (upd bo p b) (upd o p x) := by
  refine ⟨fun i hi ha => ?_, fun i hi ha => ?_, fun i hi ha => ?_, fun i j hi hj ha ha' hij => ?_⟩
  · by_cases e : i = p
    · subst e
      rw [upd_same, upd_same]
      exact hx
    · rw [upd_ne _ _ e, upd_ne _ _ e]
      rw [upd_ne _ _ e] at ha
      exact hP _ _ _ _ _ (h.at_ i hi ha) ho fun h => h
  · by_cases e : i = p
    · subst e
      rw [upd_same]
      omega
    · rw [upd_ne _ _ e]
      rw [upd_ne _ _ e] at ha
      exact h.ge i hi ha
  · by_cases e : i = p
    · subst e
      rw [upd_same]
      exact hb'
    · rw [upd_ne _ _ e]
      rw [upd_ne _ _ e] at ha
      exact Nat.lt_of_lt_of_le (h.lt i hi ha) ho.size
  · by_cases e : i = p
    · subst e
      have e2 : j ≠ i := fun e => hij e.symm
      rw [upd_same, upd_ne _ _ e2]
      rw [upd_ne _ _ e2] at ha'
      have := h.lt j hj ha'
      omega
    · rw [upd_ne _ _ e]
      rw [upd_ne _ _ e] at ha
      by_cases e2 : j = p
      · subst e2
        rw [upd_same]
        have := h.lt i hi ha
        omega
      · rw [upd_ne _ _ e2]
        rw [upd_ne _ _ e2] at ha'
        exact h.ne i j hi hj ha ha' hij
end

/-- The table of pointers. -/
def optr (act : Nat → Bool) (bo : Nat → Nat) (i : Nat) : Value := if act i then .pointer (some ⟨bo i, 0, none⟩) else .pointer none
def optrs (k : Nat) (act : Nat → Bool) (bo : Nat → Nat) : Array Value := ((List.range k).map (optr act bo)).toArray
theorem optrs_get {k i : Nat} (act : Nat → Bool) (bo : Nat → Nat) (h : i < k) : (optrs k act bo)[i]? = some (optr act bo i) := by simp [optrs, h]
theorem map_set {k : Nat} (f g : Nat → Value) (p : Nat) (h : ∀ i, i ≠ p → f i = g i) : (((List.range k).map f).toArray).setIfInBounds p (g p) = ((List.range k).map g).toArray := by
  rw [List.setIfInBounds_toArray]
  congr 1
  refine List.ext_getElem? fun j => ?_
  rw [List.getElem?_set]
  simp only [List.getElem?_map, List.length_map, List.length_range]
  by_cases hj : j < k
  · rw [List.getElem?_range hj]
    by_cases e : p = j
    · subst e
      simp [hj]
    · rw [if_neg e, Option.map_some, Option.map_some, h j (fun h => e h.symm)]
  · rw [List.getElem?_eq_none (by simpa using hj)]
    by_cases e : p = j
    · subst e
      simp [hj]
    · simp [e]
theorem optrs_set (k p b : Nat) (act : Nat → Bool) (bo : Nat → Nat) : (optrs k act bo).setIfInBounds p (.pointer (some ⟨b, 0, none⟩)) = optrs k (upd act p true) (upd bo p b) := by
  have h := map_set (k := k) (optr act bo) (optr (upd act p true) (upd bo p b)) p (fun i hi => by unfold optr; rw [upd_ne _ _ hi, upd_ne _ _ hi])
  have e : optr (upd act p true) (upd bo p b) p = .pointer (some ⟨b, 0, none⟩) := by unfold optr; rw [upd_same, upd_same]; rfl
  rw [e] at h
  exact h
/-- The table of the document's operations: three cells each. -/
structure Ref where
  kind : Int
  V : Int
  lv : Value
def rfld (r : Ref) (j : Nat) : Value := if j = 0 then .int .i64 r.kind else if j = 1 then .int .u64 r.V else r.lv
def rfun (r : Nat → Ref) (m : Nat) : Value := rfld (r (m / 3)) (m % 3)
def refs3 (k : Nat) (r : Nat → Ref) : Array Value := ((List.range (3 * k)).map (rfun r)).toArray
theorem rfun_at (r : Nat → Ref) (t j : Nat) (hj : j < 3) : rfun r (t * 3 + j) = rfld (r t) j := by
  unfold rfun
  rw [show (t * 3 + j) / 3 = t by omega, show (t * 3 + j) % 3 = j by omega]
theorem refs3_get {k t j : Nat} (r : Nat → Ref) (h : t < k) (hj : j < 3) : (refs3 k r)[t * 3 + j]? = some (rfld (r t) j) := by
  rw [← rfun_at r t j hj]
  unfold refs3
  simp [show t * 3 + j < 3 * k by omega]
theorem refs3_set (k t : Nat) (r : Nat → Ref) (x : Ref) : (((refs3 k r).setIfInBounds (t * 3) (.int .i64 x.kind)).setIfInBounds (t * 3 + 1) (.int .u64 x.V)).setIfInBounds (t * 3 + 2) x.lv = refs3 k (upd r t x) := by
  let f1 : Nat → Value := fun m => if m = t * 3 then .int .i64 x.kind else rfun r m
  let f2 : Nat → Value := fun m => if m = t * 3 + 1 then .int .u64 x.V else f1 m
  have e1 := map_set (k := 3 * k) (rfun r) f1 (t * 3) (fun i hi => by simp [f1, hi])
  have e2 := map_set (k := 3 * k) f1 f2 (t * 3 + 1) (fun i hi => by simp [f2, hi])
  have e3 := map_set (k := 3 * k) f2 (rfun (upd r t x)) (t * 3 + 2) (fun i hi => by
    by_cases h : i / 3 = t
    · have : i = t * 3 ∨ i = t * 3 + 1 := by omega
      rcases this with h1 | h1
      · subst h1
        have := rfun_at (upd r t x) t 0 (by omega)
        rw [Nat.add_zero, upd_same] at this
        rw [this]
        simp [f2, f1, rfld]
      · subst h1
        rw [rfun_at (upd r t x) t 1 (by omega), upd_same]
        simp [f2, rfld]
    · have h1 : i ≠ t * 3 := by omega
      have h2 : i ≠ t * 3 + 1 := by omega
      simp only [f2, f1, if_neg h1, if_neg h2, rfun]
      rw [upd_ne _ _ h])
  have g1 : f1 (t * 3) = .int .i64 x.kind := by simp [f1]
  have g2 : f2 (t * 3 + 1) = .int .u64 x.V := by simp [f2]
  have g3 : rfun (upd r t x) (t * 3 + 2) = x.lv := by rw [rfun_at _ _ _ (by omega), upd_same]; simp [rfld]
  rw [g1] at e1
  rw [g2] at e2
  rw [g3] at e3
  unfold refs3
  rw [e1, e2, e3]
theorem Blk.set3 {w : World} {g T k t : Nat} {r : Nat → Ref} (h : Blk w g T (refs3 k r)) (x : Ref) : Blk (((w.setCell ⟨g, t * 3, none⟩ (.int .i64 x.kind)).setCell ⟨g, t * 3 + 1, none⟩ (.int .u64 x.V)).setCell ⟨g, t * 3 + 2, none⟩ x.lv) g T (refs3 k (upd r t x)) := by
  have := ((h.set_ (t * 3) (.int .i64 x.kind)).set_ (t * 3 + 1) (.int .u64 x.V)).set_ (t * 3 + 2) x.lv
  rw [refs3_set] at this
  exact this
end Go.Proofs.Ytdoaipjdldknaaa
