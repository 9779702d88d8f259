/-
  The document's operation of a gate: the walks.
-/
import Derived.Test.YtjjjjbfblhadnaaGateN
import Derived.Deep.LoopGhost
import Derived.Handy
namespace Go.Proofs.Ytjjjjbfblhadnaa
open Go.RowKit
set_option linter.unusedVariables false
section
variable {w : World} {base n : Int}
theorem Wait_any (base t : Int) (w : World) (ht : U64 t) (h1 : 1 ≤ n) (h64 : n ≤ 64) :
    Calls Try.prog 41 #[.agg #[.int .i64 base, .int .i64 n], .int .u64 t] w fun e w' => e = .returned (.int .u64 (gWait n t)) ∧ w' = w.alloc (.cells #[.int .i64 base, .int .i64 n] 42) := by
  have hn : (n == 0) = false := by simp; omega
  obtain ⟨d1, d2⟩ := u64_div ht h1
  clear ht
  go_enter Try.func41, Try.ntmps41
  go_wp2_with fail
  go_ret
  exact ⟨rfl, rfl⟩

theorem Wait_o (base t : Int) (w : World) (ht : U64 t) (h1 : 1 ≤ n) (h64 : n ≤ 64) :
    Calls Try.prog 41 #[.agg #[.int .i64 base, .int .i64 n], .int .u64 t] w fun e w' => e = .returned (.int .u64 (gWait n t)) ∧ Only S0 w w' := by
  refine (Wait_any base t w ht h1 h64).mono ?_
  rintro e w' ⟨rfl, rfl⟩
  exact ⟨rfl, (Only.refl _ _).alloc _⟩
set_option maxHeartbeats 1000000 in
theorem last_take3 {l : List Int} {lv : Value} {V : Int} (hl : Rd w lv (l.map (.int .u64))) (hlen : l.length ≤ 1000000) (t slot : Int) (ht : U64 t) (h1 : 1 ≤ n) (h64 : n ≤ 64) (s0 : 0 ≤ slot) (s1 : slot ≤ 100000) :
    Calls Try.prog 42 #[.agg #[.int .i64 base, .int .i64 n], .agg #[.int .i64 2, .int .u64 V, lv], .int .i64 3, .int .u64 t, .int .i64 slot] w fun e w' =>
      e = .returned (gwV (wLoad (slot + 1))) ∧ Only S0 w w' := by
  obtain ⟨a, ca, rfl, ha⟩ := hl
  clear ha
  go_enter Try.func42, Try.ntmps42
  go_wp2_with fail
  go_returns
  exact ⟨rfl, (((Only.refl _ _).alloc _).alloc _).alloc _⟩
set_option maxHeartbeats 1000000 in
theorem last_take4 {l : List Int} {lv : Value} {V : Int} (hl : Rd w lv (l.map (.int .u64))) (hlen : l.length ≤ 1000000) (t slot : Int) (ht : U64 t) (h1 : 1 ≤ n) (h64 : n ≤ 64) (s0 : 0 ≤ slot) (s1 : slot ≤ 100000) :
    Calls Try.prog 42 #[.agg #[.int .i64 base, .int .i64 n], .agg #[.int .i64 2, .int .u64 V, lv], .int .i64 4, .int .u64 t, .int .i64 slot] w fun e w' =>
      e = .returned (gwV (wStore slot (add64 (gWait n t) 2))) ∧ Only S0 w w' := by
  obtain ⟨a, ca, rfl, ha⟩ := hl
  clear ha
  go_enter Try.func42, Try.ntmps42
  go_wp2_with fail
  refine (Wait_any base t _ ht h1 h64).mono ?_
  rintro e w1 ⟨rfl, rfl⟩
  go_wp2_with fail
  go_returns
  exact ⟨rfl, ((((Only.refl _ _).alloc _).alloc _).alloc _).alloc _⟩
set_option maxHeartbeats 1000000 in
theorem last_take5 {l : List Int} {lv : Value} {V : Int} (hl : Rd w lv (l.map (.int .u64))) (hlen : l.length ≤ 1000000) (t slot : Int) (ht : U64 t) (h1 : 1 ≤ n) (h64 : n ≤ 64) (s0 : 0 ≤ slot) (s1 : slot ≤ 100000) (m : Int) (hm : 5 ≤ m) (h2 : 2 ≤ l.length) :
    Calls Try.prog 42 #[.agg #[.int .i64 base, .int .i64 n], .agg #[.int .i64 2, .int .u64 V, lv], .int .i64 m, .int .u64 t, .int .i64 slot] w fun e w' =>
      e = .returned (gwV (wOver 1 (l.getD (l.length - 2) 0))) ∧ Only S0 w w' := by
  obtain ⟨a, ca, rfl, ha⟩ := hl
  rw [List.length_map] at ha ⊢
  obtain ⟨g, off, rfl, hg, hc⟩ := ha (by omega)
  have hx := hc (l.length - 2) (.int .u64 (l.getD (l.length - 2) 0)) (by rw [List.getElem?_map, List.getD, List.getElem?_eq_getElem (by omega)]; rfl)
  clear hc ha
  generalize l.getD (l.length - 2) 0 = x at hx ⊢
  have hx1 := ((((((Only.refl S0 w).alloc (.cells #[.int .i64 base, .int .i64 n] 42)).alloc (.cells #[.int .i64 2, .int .u64 V, .slice (some ⟨g, off, none⟩) l.length ca] 68)).alloc
    (.cells #[.bool false, .int .i64 0, .int .i64 0, .int .u64 0, .int .u64 0, .int .i64 0, .int .u64 0, .int .u64 0] 72)).cell (p := ⟨g, off + (l.length - 2), none⟩) hg (fun h => h))).trans hx
  go_enter Try.func42, Try.ntmps42
  go_wp2_with fail
  go_returns
  exact ⟨rfl, (((Only.refl _ _).alloc _).alloc _).alloc _⟩
set_option maxHeartbeats 1000000 in
theorem last_put3 {l : List Int} {lv : Value} {V : Int} (hl : Rd w lv (l.map (.int .u64))) (hlen : l.length ≤ 1000000) (t slot : Int) (ht : U64 t) (h1 : 1 ≤ n) (h64 : n ≤ 64) (s0 : 0 ≤ slot) (s1 : slot ≤ 100000) :
    Calls Try.prog 42 #[.agg #[.int .i64 base, .int .i64 n], .agg #[.int .i64 1, .int .u64 V, lv], .int .i64 3, .int .u64 t, .int .i64 slot] w fun e w' =>
      e = .returned (gwV (wStore (slot + 1) V)) ∧ Only S0 w w' := by
  obtain ⟨a, ca, rfl, ha⟩ := hl
  clear ha
  go_enter Try.func42, Try.ntmps42
  go_wp2_with fail
  go_returns
  exact ⟨rfl, (((Only.refl _ _).alloc _).alloc _).alloc _⟩
set_option maxHeartbeats 1000000 in
theorem last_put4 {l : List Int} {lv : Value} {V : Int} (hl : Rd w lv (l.map (.int .u64))) (hlen : l.length ≤ 1000000) (t slot : Int) (ht : U64 t) (h1 : 1 ≤ n) (h64 : n ≤ 64) (s0 : 0 ≤ slot) (s1 : slot ≤ 100000) :
    Calls Try.prog 42 #[.agg #[.int .i64 base, .int .i64 n], .agg #[.int .i64 1, .int .u64 V, lv], .int .i64 4, .int .u64 t, .int .i64 slot] w fun e w' =>
      e = .returned (gwV (wStore slot (add64 (gWait n t) 1))) ∧ Only S0 w w' := by
  obtain ⟨a, ca, rfl, ha⟩ := hl
  clear ha
  go_enter Try.func42, Try.ntmps42
  go_wp2_with fail
  refine (Wait_any base t _ ht h1 h64).mono ?_
  rintro e w1 ⟨rfl, rfl⟩
  go_wp2_with fail
  go_returns
  exact ⟨rfl, ((((Only.refl _ _).alloc _).alloc _).alloc _).alloc _⟩
set_option maxHeartbeats 1000000 in
theorem last_put5 {l : List Int} {lv : Value} {V : Int} (hl : Rd w lv (l.map (.int .u64))) (hlen : l.length ≤ 1000000) (t slot : Int) (ht : U64 t) (h1 : 1 ≤ n) (h64 : n ≤ 64) (s0 : 0 ≤ slot) (s1 : slot ≤ 100000) (m : Int) (hm : 5 ≤ m) :
    Calls Try.prog 42 #[.agg #[.int .i64 base, .int .i64 n], .agg #[.int .i64 1, .int .u64 V, lv], .int .i64 m, .int .u64 t, .int .i64 slot] w fun e w' =>
      e = .returned (gwV (wOver 1 0)) ∧ Only S0 w w' := by
  obtain ⟨a, ca, rfl, ha⟩ := hl
  clear ha
  go_enter Try.func42, Try.ntmps42
  go_wp2_with fail
  go_returns
  exact ⟨rfl, (((Only.refl _ _).alloc _).alloc _).alloc _⟩
end
end Go.Proofs.Ytjjjjbfblhadnaa
