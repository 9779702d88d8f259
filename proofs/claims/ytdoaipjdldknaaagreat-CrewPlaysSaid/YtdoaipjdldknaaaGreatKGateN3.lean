/-
  The document's operation of a gate: the walks.
-/
import Derived.Test.YtdoaipjdldknaaaGreatKGateN
import Derived.Deep.LoopGhost
import Derived.Handy
import Derived.Test.YtdoaipjdldknaaaGreatOpen
namespace Go.Proofs.YtdoaipjdldknaaaGreat
open Go.RowKit
set_option linter.unusedVariables false
section
variable {w : World} {base n : Int}
theorem Wait_any (base t : Int) (w : World) (ht : U64 t) (h1 : 1 ≤ n) (h64 : n ≤ 64) :
    Calls Tryz.prog 109 #[.agg #[.int .i64 base, .int .i64 n], .int .u64 t] w fun e w' => e = .returned (.int .u64 (gWait n t)) ∧ w' = w.alloc (.cells #[.int .i64 base, .int .i64 n] 94) := by
  have hn : (n == 0) = false := by simp; omega
  obtain ⟨d1, d2⟩ := u64_div ht h1
  clear ht
  go_enter Tryz.func109, Tryz.ntmps109
  go_wp2_with fail
  go_ret
  exact ⟨rfl, rfl⟩

theorem Wait_o (base t : Int) (w : World) (ht : U64 t) (h1 : 1 ≤ n) (h64 : n ≤ 64) :
    Calls Tryz.prog 109 #[.agg #[.int .i64 base, .int .i64 n], .int .u64 t] w fun e w' => e = .returned (.int .u64 (gWait n t)) ∧ Only S0 w w' := by
  refine (Wait_any base t w ht h1 h64).mono ?_
  rintro e w' ⟨rfl, rfl⟩
  exact ⟨rfl, (Only.refl _ _).alloc _⟩
set_option maxHeartbeats 1000000 in
theorem last_take3 {l : List Int} {lv : Value} {V : Int} (hl : Rd w lv (l.map (.int .u64))) (hlen : l.length ≤ 1000000) (t slot : Int) (ht : U64 t) (h1 : 1 ≤ n) (h64 : n ≤ 64) (s0 : 0 ≤ slot) (s1 : slot ≤ 100000) :
    Calls Tryz.prog 110 #[.agg #[.int .i64 base, .int .i64 n], .agg #[.int .i64 2, .int .u64 V, lv], .int .i64 3, .int .u64 t, .int .i64 slot] w fun e w' =>
      e = .returned (gwV (wLoad (slot + 1))) ∧ Only S0 w w' := by
  obtain ⟨a, ca, rfl, ha⟩ := hl
  clear ha
  go_enter Tryz.func110, Tryz.ntmps110
  go_wp2_with fail
  go_returns
  exact ⟨rfl, (((Only.refl _ _).alloc _).alloc _).alloc _⟩
set_option maxHeartbeats 1000000 in
theorem last_take4 {l : List Int} {lv : Value} {V : Int} (hl : Rd w lv (l.map (.int .u64))) (hlen : l.length ≤ 1000000) (t slot : Int) (ht : U64 t) (h1 : 1 ≤ n) (h64 : n ≤ 64) (s0 : 0 ≤ slot) (s1 : slot ≤ 100000) :
    Calls Tryz.prog 110 #[.agg #[.int .i64 base, .int .i64 n], .agg #[.int .i64 2, .int .u64 V, lv], .int .i64 4, .int .u64 t, .int .i64 slot] w fun e w' =>
      e = .returned (gwV (wStore slot (add64 (gWait n t) 2))) ∧ Only S0 w w' := by
  obtain ⟨a, ca, rfl, ha⟩ := hl
  clear ha
  go_enter Tryz.func110, Tryz.ntmps110
  go_wp2_with fail
  refine (Wait_any base t _ ht h1 h64).mono ?_
  rintro e w1 ⟨rfl, rfl⟩
  go_wp2_with fail
  go_returns
  exact ⟨rfl, ((((Only.refl _ _).alloc _).alloc _).alloc _).alloc _⟩
set_option maxHeartbeats 1000000 in
theorem last_take5 {l : List Int} {lv : Value} {V : Int} (hl : Rd w lv (l.map (.int .u64))) (hlen : l.length ≤ 1000000) (t slot : Int) (ht : U64 t) (h1 : 1 ≤ n) (h64 : n ≤ 64) (s0 : 0 ≤ slot) (s1 : slot ≤ 100000) (m : Int) (hm : 5 ≤ m) (h2 : 2 ≤ l.length) :
    Calls Tryz.prog 110 #[.agg #[.int .i64 base, .int .i64 n], .agg #[.int .i64 2, .int .u64 V, lv], .int .i64 m, .int .u64 t, .int .i64 slot] w fun e w' =>
      e = .returned (gwV (wOver 1 (l.getD (l.length - 2) 0))) ∧ Only S0 w w' := by
  obtain ⟨a, ca, rfl, ha⟩ := hl
  rw [List.length_map] at ha ⊢
  obtain ⟨g, off, rfl, hg, hc⟩ := ha (by omega)
  have hx := hc (l.length - 2) (.int .u64 (l.getD (l.length - 2) 0)) (by rw [List.getElem?_map, List.getD, List.getElem?_eq_getElem (by omega)]; rfl)
  clear hc ha
  generalize l.getD (l.length - 2) 0 = x at hx ⊢
  have hx1 := ((((((Only.refl S0 w).alloc (.cells #[.int .i64 base, .int .i64 n] 94)).alloc (.cells #[.int .i64 2, .int .u64 V, .slice (some ⟨g, off, none⟩) l.length ca] 133)).alloc
    (.cells #[.bool false, .int .i64 0, .int .i64 0, .int .u64 0, .int .u64 0, .int .i64 0, .int .u64 0, .int .u64 0] 62)).cell (p := ⟨g, off + (l.length - 2), none⟩) hg (fun h => h))).trans hx
  go_enter Tryz.func110, Tryz.ntmps110
  go_wp2_with fail
  go_returns
  exact ⟨rfl, (((Only.refl _ _).alloc _).alloc _).alloc _⟩
set_option maxHeartbeats 1000000 in
theorem last_put3 {l : List Int} {lv : Value} {V : Int} (hl : Rd w lv (l.map (.int .u64))) (hlen : l.length ≤ 1000000) (t slot : Int) (ht : U64 t) (h1 : 1 ≤ n) (h64 : n ≤ 64) (s0 : 0 ≤ slot) (s1 : slot ≤ 100000) :
    Calls Tryz.prog 110 #[.agg #[.int .i64 base, .int .i64 n], .agg #[.int .i64 1, .int .u64 V, lv], .int .i64 3, .int .u64 t, .int .i64 slot] w fun e w' =>
      e = .returned (gwV (wStore (slot + 1) V)) ∧ Only S0 w w' := by
  obtain ⟨a, ca, rfl, ha⟩ := hl
  clear ha
  go_enter Tryz.func110, Tryz.ntmps110
  go_wp2_with fail
  go_returns
  exact ⟨rfl, (((Only.refl _ _).alloc _).alloc _).alloc _⟩
set_option maxHeartbeats 1000000 in
theorem last_put4 {l : List Int} {lv : Value} {V : Int} (hl : Rd w lv (l.map (.int .u64))) (hlen : l.length ≤ 1000000) (t slot : Int) (ht : U64 t) (h1 : 1 ≤ n) (h64 : n ≤ 64) (s0 : 0 ≤ slot) (s1 : slot ≤ 100000) :
    Calls Tryz.prog 110 #[.agg #[.int .i64 base, .int .i64 n], .agg #[.int .i64 1, .int .u64 V, lv], .int .i64 4, .int .u64 t, .int .i64 slot] w fun e w' =>
      e = .returned (gwV (wStore slot (add64 (gWait n t) 1))) ∧ Only S0 w w' := by
  obtain ⟨a, ca, rfl, ha⟩ := hl
  clear ha
  go_enter Tryz.func110, Tryz.ntmps110
  go_wp2_with fail
  refine (Wait_any base t _ ht h1 h64).mono ?_
  rintro e w1 ⟨rfl, rfl⟩
  go_wp2_with fail
  go_returns
  exact ⟨rfl, ((((Only.refl _ _).alloc _).alloc _).alloc _).alloc _⟩
set_option maxHeartbeats 1000000 in
theorem last_put5 {l : List Int} {lv : Value} {V : Int} (hl : Rd w lv (l.map (.int .u64))) (hlen : l.length ≤ 1000000) (t slot : Int) (ht : U64 t) (h1 : 1 ≤ n) (h64 : n ≤ 64) (s0 : 0 ≤ slot) (s1 : slot ≤ 100000) (m : Int) (hm : 5 ≤ m) :
    Calls Tryz.prog 110 #[.agg #[.int .i64 base, .int .i64 n], .agg #[.int .i64 1, .int .u64 V, lv], .int .i64 m, .int .u64 t, .int .i64 slot] w fun e w' =>
      e = .returned (gwV (wOver 1 0)) ∧ Only S0 w w' := by
  obtain ⟨a, ca, rfl, ha⟩ := hl
  clear ha
  go_enter Tryz.func110, Tryz.ntmps110
  go_wp2_with fail
  go_returns
  exact ⟨rfl, (((Only.refl _ _).alloc _).alloc _).alloc _⟩
end
end Go.Proofs.YtdoaipjdldknaaaGreat
/-
  The document's operation of a gate: Next.
-/
namespace Go.Proofs.YtdoaipjdldknaaaGreat
open Go.RowKit
set_option linter.unusedVariables false
section
variable {base n ahead V : Int} {l : List Int} {k : Nat}
theorem drop_elt (h : k < l.length) : l.drop k = elt l k :: l.drop (k + 1) := by
  rw [List.drop_eq_getElem_cons h]
  congr 1
  simp [elt, List.getD, h]
theorem nx_nil (h : k = l.length) : nextL base n ahead V (l.drop k) = wLoad (base + ahead) := by
  rw [h, List.drop_length]; rfl
theorem nx_one (h : k + 1 = l.length) : nextL base n ahead V (l.drop k) = wLoad (slotOf base n (elt l k)) := by
  rw [drop_elt (by omega), h, List.drop_length]; rfl
theorem nx_gt (h : k + 2 ≤ l.length) (c : wantOf n ahead (elt l k) < elt l (k + 1)) : nextL base n ahead V (l.drop k) = nextL base n ahead V (l.drop (k + 2)) := by
  rw [drop_elt (by omega), drop_elt (show k + 1 < l.length by omega)]
  by_cases h2 : k + 2 = l.length
  · rw [h2, List.drop_length]
    simp only [nextL, if_pos c]
  · rw [drop_elt (show k + 2 < l.length by omega)]
    simp only [nextL, if_pos c]
theorem nx_lt (h : k + 2 ≤ l.length) (c : elt l (k + 1) < wantOf n ahead (elt l k)) : nextL base n ahead V (l.drop k) = wOver (if ahead = 0 then 2 else 4) 0 := by
  rw [drop_elt (by omega), drop_elt (show k + 1 < l.length by omega)]
  by_cases h2 : k + 2 = l.length
  · rw [h2, List.drop_length]
    simp only [nextL, if_pos c, if_neg (show ¬ wantOf n ahead (elt l k) < elt l (k + 1) by omega)]
  · rw [drop_elt (show k + 2 < l.length by omega)]
    simp only [nextL, if_pos c, if_neg (show ¬ wantOf n ahead (elt l k) < elt l (k + 1) by omega)]
theorem nx_swap (h : k + 2 = l.length) (c : elt l (k + 1) = wantOf n ahead (elt l k)) : nextL base n ahead V (l.drop k) = wSwap (base + ahead) (elt l k) (add64 (elt l k) 1) := by
  rw [drop_elt (by omega), drop_elt (show k + 1 < l.length by omega), h, List.drop_length]
  simp only [nextL, if_neg (show ¬ elt l (k + 1) < wantOf n ahead (elt l k) by omega), if_neg (show ¬ wantOf n ahead (elt l k) < elt l (k + 1) by omega)]
theorem nx_zero (h : k + 3 ≤ l.length) (c : elt l (k + 1) = wantOf n ahead (elt l k)) (hz : elt l (k + 2) = 0) : nextL base n ahead V (l.drop k) = nextL base n ahead V (l.drop (k + 3)) := by
  rw [drop_elt (by omega), drop_elt (show k + 1 < l.length by omega), drop_elt (show k + 2 < l.length by omega)]
  simp only [nextL, if_neg (show ¬ elt l (k + 1) < wantOf n ahead (elt l k) by omega), if_neg (show ¬ wantOf n ahead (elt l k) < elt l (k + 1) by omega), if_pos hz]
theorem nx_last (h : k + 3 ≤ l.length) (c : elt l (k + 1) = wantOf n ahead (elt l k)) (hz : elt l (k + 2) ≠ 0) : nextL base n ahead V (l.drop k) = lastL base n ahead V (elt l k) (l.drop (k + 3)) := by
  rw [drop_elt (by omega), drop_elt (show k + 1 < l.length by omega), drop_elt (show k + 2 < l.length by omega)]
  simp only [nextL, if_neg (show ¬ elt l (k + 1) < wantOf n ahead (elt l k) by omega), if_neg (show ¬ wantOf n ahead (elt l k) < elt l (k + 1) by omega), if_neg hz]
theorem ll_3 (h : k = l.length) (t : Int) : lastL base n ahead V t (l.drop k) = if ahead = 0 then wStore (slotOf base n t + 1) V else wLoad (slotOf base n t + 1) := by
  rw [h, List.drop_length]; rfl
theorem ll_4 (h : k + 1 = l.length) (t : Int) : lastL base n ahead V t (l.drop k) = wStore (slotOf base n t) (add64 (gWait n t) (1 + ahead)) := by
  rw [drop_elt (by omega), h, List.drop_length]; rfl
theorem ll_5 (h : k + 2 ≤ l.length) (t : Int) : lastL base n ahead V t (l.drop k) = wOver 1 (if ahead = 0 then 0 else l.getD (l.length - 2) 0) := by
  rw [drop_elt (by omega), drop_elt (show k + 1 < l.length by omega)]
  have : (elt l k :: elt l (k + 1) :: l.drop (k + 1 + 1)).getD (l.drop (k + 1 + 1)).length 0 = l.getD (l.length - 2) 0 := by
    rw [← drop_elt (show k + 1 < l.length by omega), ← drop_elt (show k < l.length by omega)]
    simp only [List.getD, List.getElem?_drop, List.length_drop]
    rw [show k + (l.length - (k + 1 + 1)) = l.length - 2 by omega]
  simp only [lastL, this]
theorem wait_fits (n t : Int) : IntKind.u64.wrap (gWait n t) = gWait n t ∧ IntKind.u64.wrap (gWait n t + 1) = gWait n t + 1 := by
  unfold gWait
  rw [IntKind.wrap_u64, IntKind.wrap_u64, IntKind.wrap_u64]
  generalize t / n = q
  omega
theorem want_put (n t : Int) : wantOf n 0 t = gWait n t := by
  rw [want_wait]; unfold add64; rw [Int.add_zero]; exact (wait_fits n t).1
theorem want_take (n t : Int) : wantOf n 1 t = gWait n t + 1 := by
  rw [want_wait]; exact (wait_fits n t).2
theorem elt_u (h : ∀ x ∈ l, U64 x) (hk : k < l.length) : U64 (elt l k) := by
  refine h _ ?_
  simp [elt, List.getD, hk]
end

theorem Blk.put_get {w : World} {g t : Nat} {cs : Array Value} (h : Blk w g t cs) (i : Nat) (hi : i < cs.size) (u : Value) : (w.setCell ⟨g, i, none⟩ u).cell? ⟨g, i, none⟩ = some u := by
  rw [(h.set_ i u).cell]
  simp [hi]
/-- What a call of Next has laid. -/
structure NB (w wr : World) (b2 b3 b4 : Nat) (base n kind V : Int) (lv : Value) : Prop where
  ring : Blk wr b2 94 #[.int .i64 base, .int .i64 n]
  op : Blk wr b3 133 #[.int .i64 kind, .int .u64 V, lv]
  res : Blk wr b4 62 #[.bool false, .int .i64 0, .int .i64 0, .int .u64 0, .int .u64 0, .int .i64 0, .int .u64 0, .int .u64 0]
  only : Only S0 w wr
section
variable {w wr w' : World} {b2 b3 b4 : Nat} {base n kind V : Int} {lv : Value}
theorem NB.only0 (h : NB w wr b2 b3 b4 base n kind V lv) (ho : Only S0 wr w') : NB w w' b2 b3 b4 base n kind V lv :=
  ⟨h.ring.only ho (fun h => h), h.op.only ho (fun h => h), h.res.only ho (fun h => h), h.only.trans ho⟩
theorem NB.drewN (h : NB w wr b2 b3 b4 base n kind V lv) (q : Nat) : NB w (wr.drewN q) b2 b3 b4 base n kind V lv := h.only0 ((Only.refl _ _).drewN q)
end
end Go.Proofs.YtdoaipjdldknaaaGreat
