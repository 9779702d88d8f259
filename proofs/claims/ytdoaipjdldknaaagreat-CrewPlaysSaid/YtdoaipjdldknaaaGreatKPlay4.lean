/-
  Tables of the document's operations that have four cells each. No program in sight.
-/
import Derived.Test.YtdoaipjdldknaaaGreatPlay
namespace Go.Proofs.YtdoaipjdldknaaaGreat
open Go.RowKit
set_option linter.unusedVariables false
structure RefC where
  kind : Int
  X : Int
  Y : Int
  lv : Value
def rfldC (r : RefC) (j : Nat) : Value := if j = 0 then .int .i64 r.kind else if j = 1 then .int .i64 r.X else if j = 2 then .int .u64 r.Y else r.lv
def rfunC (r : Nat → RefC) (m : Nat) : Value := rfldC (r (m / 4)) (m % 4)
def refsC (k : Nat) (r : Nat → RefC) : Array Value := ((List.range (4 * k)).map (rfunC r)).toArray
theorem rfunC_at (r : Nat → RefC) (t j : Nat) (hj : j < 4) : rfunC r (t * 4 + j) = rfldC (r t) j := by
  unfold rfunC
  rw [show (t * 4 + j) / 4 = t by omega, show (t * 4 + j) % 4 = j by omega]
theorem refsC_get {k t j : Nat} (r : Nat → RefC) (h : t < k) (hj : j < 4) : (refsC k r)[t * 4 + j]? = some (rfldC (r t) j) := by
  rw [← rfunC_at r t j hj]
  unfold refsC
  simp [show t * 4 + j < 4 * k by omega]
theorem refsC_set (k t : Nat) (r : Nat → RefC) (x : RefC) : ((((refsC k r).setIfInBounds (t * 4) (.int .i64 x.kind)).setIfInBounds (t * 4 + 1) (.int .i64 x.X)).setIfInBounds (t * 4 + 2) (.int .u64 x.Y)).setIfInBounds (t * 4 + 3) x.lv = refsC k (upd r t x) := by
  let f1 : Nat → Value := fun m => if m = t * 4 then .int .i64 x.kind else rfunC r m
  let f2 : Nat → Value := fun m => if m = t * 4 + 1 then .int .i64 x.X else f1 m
  let f3 : Nat → Value := fun m => if m = t * 4 + 2 then .int .u64 x.Y else f2 m
  have e1 := map_set (k := 4 * k) (rfunC r) f1 (t * 4) (fun i hi => by simp [f1, hi])
  have e2 := map_set (k := 4 * k) f1 f2 (t * 4 + 1) (fun i hi => by simp [f2, hi])
  have e3 := map_set (k := 4 * k) f2 f3 (t * 4 + 2) (fun i hi => by simp [f3, hi])
  have e4 := map_set (k := 4 * k) f3 (rfunC (upd r t x)) (t * 4 + 3) (fun i hi => by
    by_cases h : i / 4 = t
    · have : i = t * 4 ∨ i = t * 4 + 1 ∨ i = t * 4 + 2 := by omega
      rcases this with h1 | h1 | h1
      · subst h1
        have := rfunC_at (upd r t x) t 0 (by omega)
        rw [Nat.add_zero, upd_same] at this
        rw [this]
        simp [f3, f2, f1, rfldC]
      · subst h1
        rw [rfunC_at (upd r t x) t 1 (by omega), upd_same]
        simp [f3, f2, rfldC]
      · subst h1
        rw [rfunC_at (upd r t x) t 2 (by omega), upd_same]
        simp [f3, rfldC]
    · have h1 : i ≠ t * 4 := by omega
      have h2 : i ≠ t * 4 + 1 := by omega
      have h3 : i ≠ t * 4 + 2 := by omega
      simp only [f3, f2, f1, if_neg h1, if_neg h2, if_neg h3, rfunC]
      rw [upd_ne _ _ h])
  have g1 : f1 (t * 4) = .int .i64 x.kind := by simp [f1]
  have g2 : f2 (t * 4 + 1) = .int .i64 x.X := by simp [f2]
  have g3 : f3 (t * 4 + 2) = .int .u64 x.Y := by simp [f3]
  have g4 : rfunC (upd r t x) (t * 4 + 3) = x.lv := by rw [rfunC_at _ _ _ (by omega), upd_same]; simp [rfldC]
  rw [g1] at e1
  rw [g2] at e2
  rw [g3] at e3
  rw [g4] at e4
  unfold refsC
  rw [e1, e2, e3, e4]
theorem Blk.setC {w : World} {g T k t : Nat} {r : Nat → RefC} (h : Blk w g T (refsC k r)) (x : RefC) : Blk ((((w.setCell ⟨g, t * 4, none⟩ (.int .i64 x.kind)).setCell ⟨g, t * 4 + 1, none⟩ (.int .i64 x.X)).setCell ⟨g, t * 4 + 2, none⟩ (.int .u64 x.Y)).setCell ⟨g, t * 4 + 3, none⟩ x.lv) g T (refsC k (upd r t x)) := by
  have := (((h.set_ (t * 4) (.int .i64 x.kind)).set_ (t * 4 + 1) (.int .i64 x.X)).set_ (t * 4 + 2) (.int .u64 x.Y)).set_ (t * 4 + 3) x.lv
  rw [refsC_set] at this
  exact this
end Go.Proofs.YtdoaipjdldknaaaGreat
