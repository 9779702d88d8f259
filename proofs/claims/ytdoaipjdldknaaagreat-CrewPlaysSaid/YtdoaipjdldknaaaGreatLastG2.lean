/-
  A region that draws its order, and whose last operation (number m) waits for all others: the loads are taken first under a condition F that holds till that last one. No program in sight.
-/
import Derived.Deep.RegionHeld
import Derived.Deep.AppendLies
import Derived.Lib.Hide
import Derived.WalkKit
namespace Go.Proofs.YtdoaipjdldknaaaGreat
open Go Go.RowKit
set_option linter.unusedVariables false

section
variable {P : Program} {ops : Array Oper} {Q : Exit → Act → World → Prop} {md : Region.Mode} {F : World → Prop} {m : Nat}
/-- Whatever comes up next; F holds behind each but the last one. -/
def wpLast (P : Program) (md : Region.Mode) (ops : Array Oper) (Q : Exit → Act → World → Prop) (F : World → Prop) (m : Nat) : Nat → Array Bool → Act → World → Prop
  | 0, listed, a, w => Region.ready md ops listed = [] ∧ Q .normal a w
  | k + 1, listed, a, w =>
    (Region.ready md ops listed = [] → Q .normal a w) ∧
    ∀ i ∈ Region.ready md ops listed, wpOp P ops Q i (fun a' w' => (i ≠ m → F w') ∧ wpLast P md ops Q F m k (listed.setIfInBounds i true) a' w') a w
theorem wpLast_any : ∀ (k : Nat) (listed : Array Bool) (a : Act) (w : World), wpLast P md ops Q F m k listed a w → wpAny P md ops Q k listed a w
  | 0, _, _, _, h => h
  | k + 1, _, _, _, h => ⟨h.1, fun i hi => wpOp_mono (fun a' w' h' => wpLast_any k _ a' w' h'.2) (h.2 i hi)⟩
/-- The last one waits for number i. -/
def waits (md : Region.Mode) (ops : Array Oper) (m i : Nat) : Bool := match ops[m]? with | some o => o.after.any fun e => e.on == i && Region.binds md e | none => false
theorem waits_not {i : Nat} {listed : Array Bool} (hw : waits md ops m i = true) (hi : i ∈ Region.ready md ops listed) : ¬ m ∈ Region.ready md ops listed := by
  intro hm
  obtain ⟨-, o, ho, hall⟩ := mem_ready.1 hm
  unfold waits at hw
  rw [ho] at hw
  simp only [Array.any_eq_true, Bool.and_eq_true, beq_iff_eq] at hw
  obtain ⟨j, hj, h1, h2⟩ := hw
  have h3 := hall o.after[j] (Array.getElem_mem hj) h2
  rw [h1] at h3
  have h0 := (mem_ready.1 hi).1
  rcases Nat.lt_or_ge i listed.size with h' | h'
  · simp [h'] at h0 h3; rw [h0] at h3; cases h3
  · simp [Array.getElem?_eq_none h'] at h3
theorem wpLast_first {i : Nat} {oi : Oper} {v : Value} (hi : ops[i]? = some oi) (hsel : ∀ (j : Nat) (o : Oper) cs b, ops[j]? = some o → o.op ≠ .select cs b) (hQ : ∀ c a w, Q (.panic c) (a.put oi.dst v) w → Q (.panic c) a w)
    (him : i ≠ m) (hwm : waits md ops m i = true) : ∀ (k : Nat) (listed : Array Bool) (a : Act) (w : World),
      (∀ j oj, ops[j]? = some oj → j ≠ i → listed.getD j true = false → (∀ e ∈ oj.after, Region.binds md e = true → e.on ≠ i) → oi.apart ops oj = true) →
      i ∈ Region.ready md ops listed → YieldsIf P ops F oi v a → F w → wpLast P md ops Q F m k (listed.setIfInBounds i true) (a.put oi.dst v) w → wpLast P md ops Q F m (k + 1) listed a w := by
  intro k
  induction k with
  | zero =>
    intro listed a w _ hr hy hF H
    refine ⟨fun h => (by rw [h] at hr; cases hr), fun j hj => ?_⟩
    by_cases hji : j = i
    · subst hji; exact hy.wpOp hi hF ⟨fun _ => hF, H⟩
    · have := ready_mono hj hji
      rw [H.1] at this
      cases this
  | succ k ih =>
    intro listed a w hfree hr hy hF H
    refine ⟨fun h => (by rw [h] at hr; cases hr), fun j hj => ?_⟩
    by_cases hji : j = i
    · subst hji; exact hy.wpOp hi hF ⟨fun _ => hF, H⟩
    have hjm : j ≠ m := fun e => waits_not hwm hr (e ▸ hj)
    have h1 := H.2 j (ready_mono hj hji)
    obtain ⟨hjun, oj, hoj, hall⟩ := mem_ready.1 hj
    have hnot : ∀ e ∈ oj.after, Region.binds md e = true → e.on ≠ i := fun e he hb heq => by
      have h1 := hall e he hb
      have h0 := (mem_ready.1 hr).1
      rw [heq] at h1
      rcases Nat.lt_or_ge i listed.size with h' | h'
      · simp [h'] at h0 h1; rw [h0] at h1; cases h1
      · simp [Array.getElem?_eq_none h'] at h1
    have h2 := wpOp_putIf hoj (hfree j oj hoj hji hjun hnot) (fun cs b => hsel i oi cs b hi) (fun cs b => hsel j oj cs b hoj) hQ hy h1
    have hfree' : ∀ k ok, ops[k]? = some ok → k ≠ i → (listed.setIfInBounds j true).getD k true = false → (∀ e ∈ ok.after, Region.binds md e = true → e.on ≠ i) → oi.apart ops ok = true := fun k ok hk hki hun hno => by
      refine hfree k ok hk hki ?_ hno
      by_cases hjk : j = k
      · subst hjk; exact hjun
      · rw [getD_set_ne true hjk] at hun; exact hun
    refine wpOp_mono (fun a' w' h3 => ⟨fun _ => h3.2.1 hjm, ih (listed.setIfInBounds j true) a' w' hfree' (ready_mono hr (Ne.symm hji)) h3.1 (h3.2.1 hjm) ?_⟩) h2
    rw [Array.setIfInBounds_comm _ _ hji]
    exact h3.2.2
theorem wpLast_take {i : Nat} {oi : Oper} {v : Value} {k : Nat} {listed : Array Bool} {a : Act} {w : World} (hi : ops[i]? = some oi) (hs : Region.noSelect ops = true) (hf : Region.free md ops listed i = true)
    (hr : (Region.ready md ops listed).contains i = true) (hwm : waits md ops m i = true) (him : i ≠ m) (hQ : ∀ c a w, Q (.panic c) (a.put oi.dst v) w → Q (.panic c) a w) (hy : YieldsIf P ops F oi v a) (hF : F w)
    (h : wpLast P md ops Q F m k (listed.setIfInBounds i true) (a.put oi.dst v) w) : wpLast P md ops Q F m (k + 1) listed a w :=
  wpLast_first hi (Region.noSelect_spec hs) hQ him hwm k listed a w (Region.free_spec hi hf) (by simpa using hr) hy hF h
/-- One alone may come up. -/
theorem wpLast_one {i : Nat} {o : Oper} {k : Nat} {listed : Array Bool} {a : Act} {w : World} (hr : Region.ready md ops listed = [i]) (ho : ops[i]? = some o)
    (h : ∀ K' : Act → World → Prop, Hid (∀ a w, (i ≠ m → F w) → wpLast P md ops Q F m k (listed.setIfInBounds i true) a w → K' a w) → if Region.wanted o (yielded ops a.tmps) = true then Oper.wp P o a w K' Q else K' (a.put o.dst undef) w) :
    wpLast P md ops Q F m (k + 1) listed a w := by
  refine ⟨fun h0 => (by rw [hr] at h0; cases h0), fun j hj => ?_⟩
  rw [hr, List.mem_singleton] at hj
  subst hj
  exact wpOp_step ho (fun K' hK => h K' (Lib.hid fun a w hS hW => hK a w ⟨hS, hW⟩))
theorem wpLast_done {listed : Array Bool} {a : Act} {w : World} (hr : Region.ready md ops listed = []) (h : Q .normal a w) : ∀ k, wpLast P md ops Q F m k listed a w
  | 0 => ⟨hr, h⟩
  | _ + 1 => ⟨fun _ => h, by rw [hr]; simp⟩
theorem wp_region_last {id : Nat} {a : Act} {w : World} (m : Nat) (F : World → Prop) (hm : P.follows .mixedOrders = true) (h : wpLast P .any ops Q F m ops.size (Array.replicate ops.size false) a w.drew) : (Code.region id ops true).wp P Q a w :=
  wp_region_any hm (wpLast_any _ _ _ _ h)
end
end Go.Proofs.YtdoaipjdldknaaaGreat
/-
  LastG, and where two operations may come up next. No program in sight.
-/
namespace Go.Proofs.YtdoaipjdldknaaaGreat
open Go Go.RowKit
set_option linter.unusedVariables false
section
variable {P : Program} {ops : Array Oper} {Q : Exit → Act → World → Prop} {md : Region.Mode} {F : World → Prop} {m : Nat}
/-- Two may come up. -/
theorem wpLast_two {i j : Nat} {o o2 : Oper} {k : Nat} {listed : Array Bool} {a : Act} {w : World} (hr : Region.ready md ops listed = [i, j]) (ho : ops[i]? = some o) (ho2 : ops[j]? = some o2)
    (h : ∀ K' : Act → World → Prop, Hid (∀ a w, (i ≠ m → F w) → wpLast P md ops Q F m k (listed.setIfInBounds i true) a w → K' a w) → if Region.wanted o (yielded ops a.tmps) = true then Oper.wp P o a w K' Q else K' (a.put o.dst undef) w)
    (h2 : ∀ K' : Act → World → Prop, Hid (∀ a w, (j ≠ m → F w) → wpLast P md ops Q F m k (listed.setIfInBounds j true) a w → K' a w) → if Region.wanted o2 (yielded ops a.tmps) = true then Oper.wp P o2 a w K' Q else K' (a.put o2.dst undef) w) :
    wpLast P md ops Q F m (k + 1) listed a w := by
  refine ⟨fun h0 => (by rw [hr] at h0; cases h0), fun x hx => ?_⟩
  rw [hr, List.mem_cons, List.mem_singleton] at hx
  rcases hx with rfl | rfl
  · exact wpOp_step ho (fun K' hK => h K' (Lib.hid fun a w hS hW => hK a w ⟨hS, hW⟩))
  · exact wpOp_step ho2 (fun K' hK => h2 K' (Lib.hid fun a w hS hW => hK a w ⟨hS, hW⟩))
end
end Go.Proofs.YtdoaipjdldknaaaGreat
