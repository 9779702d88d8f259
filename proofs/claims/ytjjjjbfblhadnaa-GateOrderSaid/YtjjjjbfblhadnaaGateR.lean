/-
  troupelaw05.run, the walk: the crowd is laid out; whatever is picked; all to its end.
-/
import Derived.Test.YtjjjjbfblhadnaaGateS
import Derived.Test.YtjjjjbfblhadnaaOpen
import Derived.Deep.DeepCutAuto
import Derived.Deep.RegionWith
import Derived.Deep.DrawnRows
namespace Go.Proofs.Ytjjjjbfblhadnaa
open Go.RowKit
set_option linter.unusedVariables false
attribute [local go_sem ↓] Go.wp_at_zero Go.wp_at_succ

theorem info_gop : (Try.prog.info? 56).map (fun i => (i.zero, i.size, i.bytes)) = some (some (.pointer none), 1, 8) := by kernel_rfl
theorem info_u64s : (Try.prog.info? 35).map (fun i => (i.zero, i.size, i.bytes)) = some (some (.slice none 0 0), 1, 24) := by kernel_rfl
theorem Blk.new_at {w : World} {g : Nat} {t : TypeId} {cs : Array Value} (h : g = w.heap.size) : Blk (w.alloc (.cells cs t)) g t cs := by subst h; exact Blk.new _ _ _
def startOp (i : Nat) : Gop := { ph := 0, cell := if i < 2 then 0 else 1, ahead := aheadOf i, t := 0, v := 0, out := 2 }
theorem Crowd.start {n : Nat} {L : List Int} {val : Nat → Int} (h : Alone n L 0 0 val) : Crowd n L startOp (fun _ => 0) [] (fun _ => []) 0 0 := by
  have hno : ∀ i, ¬ own (startOp i) := fun i e => by have : (2 : Int) = 0 := e.1; omega
  refine ⟨fun _ => 0, fun _ => 0, [], fun _ => [], ⟨⟨h.gc, fun i hi => ⟨?_, .inl rfl, ⟨by show (0 : Int) ≤ 0; omega, by show (0 : Int) < _; omega⟩, 0, rfl, by omega, fun _ => by omega, fun e => ?_, fun e => ?_⟩, fun i j hi hj hij e => absurd e (hno i)⟩, fun i hi => rfl, fun p hp e => ?_, fun t ht => by omega, fun t p ht => by omega, fun t s hts hs => by omega, fun p t hp e => absurd e (hno p), fun t ht => by omega, fun p t hp e => ?_, fun i t hi h4 e => ?_, fun t => ?_, fun t ht => by omega, fun t => ?_, fun i hi => List.Pairwise.nil, fun i t t' hi ht => ?_⟩, rfl, fun i hi => rfl⟩
  · unfold startOp aheadOf
    by_cases e : i < 2
    · rw [if_pos e]; exact .inl ⟨rfl, rfl⟩
    · rw [if_neg e]; exact .inr ⟨rfl, rfl⟩
  · have : (2 : Int) = 0 := e; omega
  · have : (2 : Int) = 0 := e; omega
  · have : (2 : Int) = 0 := e; omega
  · have : (2 : Int) = 0 := e; omega
  · have : (2 : Int) = 0 := e; omega
  · rw [cnt4_zero fun i _ => pnd_no (hno i), if_neg (by omega)]; rfl
  · rw [cnt4_zero fun i _ => pnd_no (hno i), if_neg (by omega)]; rfl
  · cases ht
/-- The crowd, laid out. -/
def Laid (w wx : World) (n : Nat) (v : Value) : Prop := ∃ cb ob nb tb bg bm bc L tc, v = .pointer (some ⟨cb, 0, none⟩) ∧
  Sit w wx w.heap.size cb ob nb tb bg bm bc n L tc startOp (fun _ => 0) (fun _ => 0) (.slice none 0 0) (fun _ => .slice none 0 0) [] (fun _ => []) 0 0 0
theorem laid_of {w wx : World} {n cb ob nb tb bg bm bc : Nat} (ho : Only S0 w wx) (ha : AE wx bg bm bc n 0 0 (fun _ => 0) 1000) (h1 : Blk wx cb 50 #[.pointer (some ⟨bg, 0, none⟩), .slice (some ⟨ob, 0, none⟩) 4 4, .slice (some ⟨nb, 0, none⟩) 2 2, .slice none 0 0, .slice (some ⟨tb, 0, none⟩) 2 2, .int .i64 0])
    (h2 : Blk wx ob 56 (zeros (.pointer none) 4)) (h3 : Blk wx nb 28 (zeros (.int .u64 0) 2)) (h4 : Blk wx tb 35 (zeros (.slice none 0 0) 2)) (h5 : nb ≠ bc)
    (b : w.heap.size ≤ cb ∧ w.heap.size ≤ ob ∧ w.heap.size ≤ nb ∧ w.heap.size ≤ tb ∧ w.heap.size ≤ bg ∧ w.heap.size ≤ bm ∧ w.heap.size ≤ bc) : Laid w wx n (.pointer (some ⟨cb, 0, none⟩)) := by
  obtain ⟨L, tc, he, hal, htc⟩ := ha.ex
  obtain ⟨b1, b2, b3, b4, b5, b6, b7⟩ := b
  have hact : actOf startOp = fun _ => false := by funext i; unfold actOf startOp; simp
  refine ⟨cb, ob, nb, tb, bg, bm, bc, L, tc, rfl, ⟨⟨he, h1, ?_, ?_, ?_, ?_, Sl.nil _ _ _, fun i _ => Sl.nil _ _ _, ⟨by simp [Value.ownBlock], by simp [Value.ownBlock]⟩, fun i _ => ⟨by simp [Value.ownBlock], by simp [Value.ownBlock]⟩, fun i g _ e => by simp [Value.ownBlock] at e, fun g e => by simp [Value.ownBlock] at e, h5, b1, b2, b3, b4, b5, b6, b7⟩, Crowd.start hal, by omega, by omega, fun _ _ => by omega, Nat.le_refl _, fun _ _ => Nat.le_refl _, ho, rfl⟩⟩
  · have e : zeros (.pointer none) 4 = optrs 4 (actOf startOp) (fun _ => 0) := by rw [hact]; rfl
    rw [← e]; exact h2
  · have e : zeros (.int .u64 0) 2 = nxC (fun _ => 0) := rfl
    rw [← e]; exact h3
  · have e : zeros (.slice none 0 0) 2 = tvC (fun _ => .slice none 0 0) := rfl
    rw [← e]; exact h4
  · rw [hact]; exact OFam.empty _ _ _ _ _ _
theorem AE.bc_lt {w : World} {bg bm bc n T H c : Nat} {val : Nat → Int} (h : AE w bg bm bc n T H val c) : bc < w.heap.size := by
  obtain ⟨L, tc, he, -⟩ := h.ex
  exact he.mem.cells.lt
end Go.Proofs.Ytjjjjbfblhadnaa
