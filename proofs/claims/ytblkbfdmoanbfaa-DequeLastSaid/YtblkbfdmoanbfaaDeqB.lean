/-
  A deque that is alone: made, and its operations done at once (contracts over the list of what is in it).
-/
import Derived.Test.YtblkbfdmoanbfaaDeqA
namespace Go.Proofs.Ytblkbfdmoanbfaa
open Go.RowKit
set_option linter.unusedVariables false

/-- What is in it. -/
def inD (T B : Nat) (val : Nat → Int) : List Int := (List.range (B - T)).map fun i => val (T + i)
theorem inD_len (T B : Nat) (val : Nat → Int) : (inD T B val).length = B - T := by simp [inD]
theorem inD_push {T B : Nat} (val : Nat → Int) (x : Int) (h : T ≤ B) : inD T (B + 1) (fun t => if t = B then x else val t) = inD T B val ++ [x] := by
  unfold inD
  rw [show B + 1 - T = (B - T) + 1 by omega, List.range_succ, List.map_append]
  congr 1
  · refine List.map_congr_left fun i hi => ?_
    have := List.mem_range.1 hi
    show (if T + i = B then x else val (T + i)) = _
    rw [if_neg (by omega)]
  · simp [show T + (B - T) = B by omega]
theorem inD_pop {T B : Nat} (val : Nat → Int) (h : T < B) : inD T B val = inD T (B - 1) val ++ [val (B - 1)] := by
  unfold inD
  rw [show B - T = (B - 1 - T) + 1 by omega, List.range_succ, List.map_append]
  simp [show T + (B - 1 - T) = B - 1 by omega]
theorem inD_nil {T B : Nat} (val : Nat → Int) (h : B ≤ T) : inD T B val = [] := by
  unfold inD
  rw [show B - T = 0 by omega]
  rfl
structure DE (w : World) (bd bm bc n : Nat) (s : List Int) (c : Nat) : Prop where
  ex : ∃ L tc T B val, DeqEnv w bd bm bc 0 n tc L ∧ DAlone n L T B val ∧ tc ≤ c ∧ B ≤ c ∧ s = inD T B val
section
variable {w w' : World} {bo bd bm bc n c : Nat} {s : List Int}
theorem DE.only0 (h : DE w bd bm bc n s c) (ho : Only S0 w w') : DE w' bd bm bc n s c := by
  obtain ⟨L, tc, T, B, val, h1, h2, h3⟩ := h.ex
  exact ⟨L, tc, T, B, val, h1.only0 ho, h2, h3⟩
theorem DE.only {S : Nat → Prop} (h : DE w bd bm bc n s c) (ho : Only S w w') (k1 : ¬ S bd) (k2 : ¬ S bm) (k3 : ¬ S bc) : DE w' bd bm bc n s c := by
  obtain ⟨L, tc, T, B, val, h1, h2, h3⟩ := h.ex
  exact ⟨L, tc, T, B, val, h1.only ho k1 k2 k3, h2, h3⟩
theorem DE.le (h : DE w bd bm bc n s c) {c' : Nat} (hc : c ≤ c') : DE w bd bm bc n s c' := by
  obtain ⟨L, tc, T, B, val, h1, h2, h3, h4, h5⟩ := h.ex
  exact ⟨L, tc, T, B, val, h1, h2, by omega, by omega, h5⟩
theorem DE.len (h : DE w bd bm bc n s c) : s.length ≤ n := by
  obtain ⟨L, tc, T, B, val, h1, h2, h3, h4, h5⟩ := h.ex
  rw [h5, inD_len]
  have := h2.ge
  omega
theorem DE.deqB (h : DE w bd bm bc n s c) : ∃ base n', DeqAt w bd bm base n' := by
  obtain ⟨L, tc, T, B, val, h1, -⟩ := h.ex
  exact ⟨_, _, h1.deq⟩
theorem layD_alone {n : Nat} (h1 : 1 ≤ n) (h64 : n ≤ 64) (val : Nat → Int) : DAlone n (layD (List.replicate (2 + n) 0) 0 (2 + n)) 1 1 val := by
  have key : ∀ k, k ≤ 2 + n → ∀ j : Nat, j < k → at_ (layD (List.replicate (2 + n) 0) 0 k) (j : Int) = if j < 2 then 1 else 0 := by
    intro k
    induction k with
    | zero => intro _ j hj; omega
    | succ k ih =>
      intro hk j hj
      rw [layD, Nat.zero_add, at_set _ _ _ _ (by rw [layD_len]; simp; omega)]
      by_cases e : j = k
      · rw [if_pos e, e]
      · rw [if_neg e]; exact ih (by omega) j (by omega)
  refine ⟨h1, h64, by rw [layD_len]; simp, ?_, ?_, Nat.le_refl _, Nat.le_refl _, by omega, by omega, fun t h2 h3 => by omega⟩
  · rw [key _ (Nat.le_refl _) 0 (by omega)]; rfl
  · rw [key _ (Nat.le_refl _) 1 (by omega)]; rfl

theorem dmade_any (n : Nat) (w : World) (h1 : 1 ≤ n) (h64 : n ≤ 64) :
    Calls Try.prog 23 #[.int .i64 n] w fun e w' => ∃ bd bm bc, e = .returned (.pointer (some ⟨bd, 0, none⟩)) ∧ DE w' bd bm bc n [] 1000 ∧ Only S0 w w' ∧ w.heap.size ≤ bd ∧ w.heap.size ≤ bm ∧ w.heap.size ≤ bc := by
  go_enter Try.func23, Try.ntmps23
  go_wp2_with fail
  refine (New_any _).mono ?_
  rintro e w1 ⟨bm, bc, rfl, q1, p1, b1, b2⟩
  rw [show countOf (2 + (n : Int)) = 2 + n by unfold countOf; omega] at q1
  have HQ := hide q1
  have HP := hide p1
  clear q1 p1
  go_wp2_with fail
  refine (Make_good 0 n HQ.out (few_of _ (by omega)) h1 h64 (by simp)).mono ?_
  rintro e w2 ⟨bd, rfl, g2, q2, p2, b3⟩
  have HG := hide g2
  have HQ2 := hide q2
  have HP2 := hide p2
  clear g2 q2 p2
  go_wp2_with fail
  go_ret
  refine ⟨bd, bm, bc, rfl, ⟨_, _, 1, 1, fun _ => 0, ⟨HG.out, HQ2.out, few_of _ (by omega), layD_u _ _ _ (allU_zero _), by omega, by omega, by omega, by omega, by rw [layD_len]; simp⟩, layD_alone h1 h64 _, by omega, by omega, rfl⟩, S0.then2 HP.out HP2.out b1 b2, Nat.le_trans HP.out.size b3, b1, b2⟩

theorem DE_push (h : DE w bd bm bc n s c) (x : Int) : Calls Try.prog 22 #[.pointer (some ⟨bd, 0, none⟩), .int .u64 x] w fun e w' =>
    ∃ bo, e = .returned (.pointer (some ⟨bo, 0, none⟩)) ∧ DopIs w' bo bd (pushOp x) ∧ DE w' bd bm bc n s c ∧ Only S0 w w' ∧ w.heap.size ≤ bo := by
  obtain ⟨L, tc, T, B, val, h1, h2⟩ := h.ex
  refine (DPush_all h1 x).mono ?_
  rintro e w' ⟨bo, rfl, g, e', o, b⟩
  exact ⟨bo, rfl, g, ⟨L, tc, T, B, val, e', h2⟩, o, b⟩
theorem DE_pop (h : DE w bd bm bc n s c) : Calls Try.prog 24 #[.pointer (some ⟨bd, 0, none⟩)] w fun e w' =>
    ∃ bo, e = .returned (.pointer (some ⟨bo, 0, none⟩)) ∧ DopIs w' bo bd popOp ∧ DE w' bd bm bc n s c ∧ Only S0 w w' ∧ w.heap.size ≤ bo := by
  obtain ⟨L, tc, T, B, val, h1, h2⟩ := h.ex
  refine (DPop_all h1).mono ?_
  rintro e w' ⟨bo, rfl, g, e', o, b⟩
  exact ⟨bo, rfl, g, ⟨L, tc, T, B, val, e', h2⟩, o, b⟩
theorem DE_push_done {x : Int} (h : DE w bd bm bc n s c) (hg : DopIs w bo bd (pushOp x)) (hx : U64 x) (hs : s.length < n) (hc : c ≤ 100000) :
    Calls Try.prog 21 #[.pointer (some ⟨bo, 0, none⟩)] w fun e w' => ∃ g k : Int, e = .returned (.tuple #[.int .i64 1, .int .u64 g, .int .i64 k]) ∧ DE w' bd bm bc n (s ++ [x]) (c + 6) ∧ Only (S3 bo bm bc) w w' := by
  obtain ⟨L, tc, T, B, val, h1, h2, h3, h4, h5⟩ := h.ex
  have hle := h2.le
  rw [h5, inD_len] at hs
  obtain ⟨L', o, k, e1, e2, e3, e4⟩ := h2.push x (by omega) (by omega)
  refine (done_any h1 (pushOp_ok hx) hg (few_of _ (by omega))).mono ?_
  rintro e w' ⟨rfl, -, -, g1, g2, -⟩
  rw [e1] at g1 ⊢
  refine ⟨dvalue o.v o.out, k, ?_, ⟨L', _, T, B + 1, _, g1, e4, by simp; omega, by omega, by rw [h5, inD_push val x hle]⟩, g2⟩
  simp only [doneV, e2]
theorem DE_push_full {x : Int} (h : DE w bd bm bc n s c) (hg : DopIs w bo bd (pushOp x)) (hx : U64 x) (hs : s.length = n) (hc : c ≤ 100000) :
    Calls Try.prog 21 #[.pointer (some ⟨bo, 0, none⟩)] w fun e w' => ∃ g k : Int, e = .returned (.tuple #[.int .i64 2, .int .u64 g, .int .i64 k]) ∧ DE w' bd bm bc n s (c + 6) ∧ Only (S3 bo bm bc) w w' := by
  obtain ⟨L, tc, T, B, val, h1, h2, h3, h4, h5⟩ := h.ex
  have hle := h2.le
  rw [h5, inD_len] at hs
  obtain ⟨o, e1, e2⟩ := h2.push_full x (by omega)
  refine (done_any h1 (pushOp_ok hx) hg (few_of _ (by omega))).mono ?_
  rintro e w' ⟨rfl, -, -, g1, g2, -⟩
  rw [e1] at g1 ⊢
  refine ⟨dvalue o.v o.out, 2, ?_, ⟨L, _, T, B, val, g1, h2, by simp; omega, by omega, h5⟩, g2⟩
  simp only [doneV, e2]
  rfl
theorem DE_pop_done {s' : List Int} {x : Int} (h : DE w bd bm bc n (s' ++ [x]) c) (hg : DopIs w bo bd popOp) (hc : c ≤ 100000) :
    Calls Try.prog 21 #[.pointer (some ⟨bo, 0, none⟩)] w fun e w' => ∃ k : Int, e = .returned (.tuple #[.int .i64 1, .int .u64 x, .int .i64 k]) ∧ DE w' bd bm bc n s' (c + 6) ∧ Only (S3 bo bm bc) w w' := by
  obtain ⟨L, tc, T, B, val, h1, h2, h3, h4, h5⟩ := h.ex
  have hlt : T < B := by
    have := congrArg List.length h5
    rw [inD_len, List.length_append] at this
    simp at this
    omega
  rw [inD_pop val hlt] at h5
  obtain ⟨h6, h7⟩ := List.append_inj' h5 rfl
  have hx : x = val (B - 1) := by simpa using h7
  obtain ⟨L', o, k, T', B', e1, e2, e3, e4, e5, e6⟩ := h2.pop hlt
  refine (done_any h1 popOp_ok hg (few_of _ (by omega))).mono ?_
  rintro e w' ⟨rfl, -, -, g1, g2, -⟩
  rw [e1] at g1 ⊢
  refine ⟨k, ?_, ⟨L', _, T', B', val, g1, e5, by simp; omega, by omega, ?_⟩, g2⟩
  · simp only [doneV, e2, e3]
    rw [hx]
    simp [dvalue]
  · rcases e6 with ⟨rfl, rfl⟩ | ⟨a, rfl, rfl⟩
    · exact h6
    · rw [h6, inD_nil val (by omega), inD_nil val (by omega)]
theorem DE_pop_none (h : DE w bd bm bc n [] c) (hg : DopIs w bo bd popOp) (hc : c ≤ 100000) :
    Calls Try.prog 21 #[.pointer (some ⟨bo, 0, none⟩)] w fun e w' => ∃ g k : Int, e = .returned (.tuple #[.int .i64 4, .int .u64 g, .int .i64 k]) ∧ DE w' bd bm bc n [] (c + 6) ∧ Only (S3 bo bm bc) w w' := by
  obtain ⟨L, tc, T, B, val, h1, h2, h3, h4, h5⟩ := h.ex
  have hle := h2.le
  have hlen := congrArg List.length h5
  rw [inD_len] at hlen
  obtain ⟨L', o, k, e1, e2, e3, e4⟩ := h2.pop_none (by simp at hlen; omega)
  refine (done_any h1 popOp_ok hg (few_of _ (by omega))).mono ?_
  rintro e w' ⟨rfl, -, -, g1, g2, -⟩
  rw [e1] at g1 ⊢
  refine ⟨dvalue o.v o.out, k, ?_, ⟨L', _, T, B, val, g1, e4, by simp; omega, by omega, h5⟩, g2⟩
  simp only [doneV, e2]
end
end Go.Proofs.Ytblkbfdmoanbfaa
