/-
  A gate that is alone: made, and its operations done at once (contracts over the tickets).
-/
import Derived.Test.YtjjjjbfblhadnaaGateA
namespace Go.Proofs.Ytjjjjbfblhadnaa
open Go.RowKit
set_option linter.unusedVariables false

structure AE (w : World) (bg bm bc n T H : Nat) (val : Nat → Int) (c : Nat) : Prop where
  ex : ∃ L tc, GateEnv w bg bm bc 0 n tc L ∧ Alone n L T H val ∧ tc ≤ c
section
variable {w w' : World} {bo bg bm bc n T H c : Nat} {val : Nat → Int}
theorem AE.only0 (h : AE w bg bm bc n T H val c) (ho : Only S0 w w') : AE w' bg bm bc n T H val c := by
  obtain ⟨L, tc, h1, h2, h3⟩ := h.ex
  exact ⟨L, tc, h1.only0 ho, h2, h3⟩
theorem AE.le (h : AE w bg bm bc n T H val c) {c' : Nat} (hc : c ≤ c') : AE w bg bm bc n T H val c' := by
  obtain ⟨L, tc, h1, h2, h3⟩ := h.ex
  exact ⟨L, tc, h1, h2, by omega⟩
theorem AE.tail_le (h : AE w bg bm bc n T H val c) : H ≤ T ∧ T ≤ H + n := by
  obtain ⟨L, tc, h1, h2, h3⟩ := h.ex
  exact ⟨h2.le, h2.ge⟩

theorem made_any (n : Nat) (w : World) (h1 : 1 ≤ n) (h64 : n ≤ 64) (val : Nat → Int) :
    Calls Try.prog 20 #[.int .i64 n] w fun e w' => ∃ bg bm bc, e = .returned (.pointer (some ⟨bg, 0, none⟩)) ∧ AE w' bg bm bc n 0 0 val 1000 ∧ Only S0 w w' ∧ w.heap.size ≤ bg ∧ w.heap.size ≤ bm ∧ w.heap.size ≤ bc := by
  go_enter Try.func20, Try.ntmps20
  go_wp2_with fail
  refine (New_any _).mono ?_
  rintro e w1 ⟨bm, bc, rfl, q1, p1, b1, b2⟩
  rw [show countOf (2 + 2 * (n : Int)) = 2 + 2 * n by unfold countOf; omega] at q1
  have HQ := hide q1
  have HP := hide p1
  clear q1 p1
  go_wp2_with fail
  refine (Make_good 0 n HQ.out (few_of _ (by omega)) h1 h64 (by simp)).mono ?_
  rintro e w2 ⟨bg, rfl, g2, q2, p2, b3⟩
  rw [zeroL_rep] at q2
  have HG := hide g2
  have HQ2 := hide q2
  have HP2 := hide p2
  clear g2 q2 p2
  go_wp2_with fail
  go_ret
  refine ⟨bg, bm, bc, rfl, ⟨_, _, ⟨HG.out, HQ2.out, few_of _ (by omega), allU_zero _, by omega, by omega, by omega, by omega, by simp⟩, Alone.fresh h1 h64 val, by omega⟩, S0.then2 HP.out HP2.out b1 b2, Nat.le_trans HP.out.size b3, b1, b2⟩

theorem AE_put (h : AE w bg bm bc n T H val c) (x : Int) : Calls Try.prog 22 #[.pointer (some ⟨bg, 0, none⟩), .int .u64 x] w fun e w' =>
    ∃ bo, e = .returned (.pointer (some ⟨bo, 0, none⟩)) ∧ GopIs w' bo bg (putOp 0 x) ∧ AE w' bg bm bc n T H val c ∧ Only S0 w w' ∧ w.heap.size ≤ bo := by
  obtain ⟨L, tc, h1, h2, h3⟩ := h.ex
  refine (GPut_all h1 x).mono ?_
  rintro e w' ⟨bo, rfl, g, e', o, b⟩
  exact ⟨bo, rfl, g, ⟨L, tc, e', h2, h3⟩, o, b⟩
theorem AE_take (h : AE w bg bm bc n T H val c) : Calls Try.prog 23 #[.pointer (some ⟨bg, 0, none⟩)] w fun e w' =>
    ∃ bo, e = .returned (.pointer (some ⟨bo, 0, none⟩)) ∧ GopIs w' bo bg (takeOp 0) ∧ AE w' bg bm bc n T H val c ∧ Only S0 w w' ∧ w.heap.size ≤ bo := by
  obtain ⟨L, tc, h1, h2, h3⟩ := h.ex
  refine (GTake_all h1).mono ?_
  rintro e w' ⟨bo, rfl, g, e', o, b⟩
  exact ⟨bo, rfl, g, ⟨L, tc, e', h2, h3⟩, o, b⟩
theorem AE_put_done {x : Int} (h : AE w bg bm bc n T H val c) (hg : GopIs w bo bg (putOp 0 x)) (hx : U64 x) (ht : T < H + n) (hs : T + 1 ≤ 1000000) (hc : c ≤ 100000000) :
    Calls Try.prog 21 #[.pointer (some ⟨bo, 0, none⟩)] w fun e w' => ∃ g k : Int, e = .returned (.tuple #[.int .i64 1, .int .u64 g, .int .i64 k]) ∧
      AE w' bg bm bc n (T + 1) H (fun t => if t = T then x else val t) (c + 5) ∧ Only (S3 bo bm bc) w w' := by
  obtain ⟨L, tc, h1, h2, h3⟩ := h.ex
  obtain ⟨L', o, k, e1, e2, e3, e4⟩ := h2.put x ht hs
  refine (done_any h1 (putOp_ok h1 hx) hg (few_of _ (by omega))).mono ?_
  rintro e w' ⟨rfl, -, -, g1, g2, -⟩
  rw [e1] at g1 ⊢
  refine ⟨gvalue o.ahead o.v o.out, k, ?_, ⟨L', _, g1, e4, by simp; omega⟩, g2⟩
  simp only [doneV, e2]
theorem AE_put_full {x : Int} (h : AE w bg bm bc n T H val c) (hg : GopIs w bo bg (putOp 0 x)) (hx : U64 x) (ht : T = H + n) (hc : c ≤ 100000000) :
    Calls Try.prog 21 #[.pointer (some ⟨bo, 0, none⟩)] w fun e w' => ∃ g k : Int, e = .returned (.tuple #[.int .i64 2, .int .u64 g, .int .i64 k]) ∧
      AE w' bg bm bc n T H val (c + 5) ∧ Only (S3 bo bm bc) w w' := by
  obtain ⟨L, tc, h1, h2, h3⟩ := h.ex
  obtain ⟨o, e1, e2⟩ := h2.put_full x ht
  refine (done_any h1 (putOp_ok h1 hx) hg (few_of _ (by omega))).mono ?_
  rintro e w' ⟨rfl, -, -, g1, g2, -⟩
  rw [e1] at g1 ⊢
  refine ⟨gvalue o.ahead o.v o.out, 2, ?_, ⟨L, _, g1, h2, by simp; omega⟩, g2⟩
  simp only [doneV, e2]
  rfl
theorem AE_take_done (h : AE w bg bm bc n T H val c) (hg : GopIs w bo bg (takeOp 0)) (ht : H < T) (hc : c ≤ 100000000) :
    Calls Try.prog 21 #[.pointer (some ⟨bo, 0, none⟩)] w fun e w' => ∃ k : Int, e = .returned (.tuple #[.int .i64 1, .int .u64 (val H), .int .i64 k]) ∧
      AE w' bg bm bc n T (H + 1) val (c + 5) ∧ Only (S3 bo bm bc) w w' := by
  obtain ⟨L, tc, h1, h2, h3⟩ := h.ex
  obtain ⟨L', o, k, e1, e2, e3, e4, e5⟩ := h2.take ht
  refine (done_any h1 (takeOp_ok h1) hg (few_of _ (by omega))).mono ?_
  rintro e w' ⟨rfl, -, -, g1, g2, -⟩
  rw [e1] at g1 ⊢
  refine ⟨k, ?_, ⟨L', _, g1, e5, by simp; omega⟩, g2⟩
  simp only [doneV, e3]
  rw [e2]
theorem AE_take_none (h : AE w bg bm bc n T H val c) (hg : GopIs w bo bg (takeOp 0)) (ht : H = T) (hc : c ≤ 100000000) :
    Calls Try.prog 21 #[.pointer (some ⟨bo, 0, none⟩)] w fun e w' => ∃ g k : Int, e = .returned (.tuple #[.int .i64 4, .int .u64 g, .int .i64 k]) ∧
      AE w' bg bm bc n T H val (c + 5) ∧ Only (S3 bo bm bc) w w' := by
  obtain ⟨L, tc, h1, h2, h3⟩ := h.ex
  obtain ⟨o, e1, e2⟩ := h2.take_none ht
  refine (done_any h1 (takeOp_ok h1) hg (few_of _ (by omega))).mono ?_
  rintro e w' ⟨rfl, -, -, g1, g2, -⟩
  rw [e1] at g1 ⊢
  refine ⟨gvalue o.ahead o.v o.out, 2, ?_, ⟨L, _, g1, h2, by simp; omega⟩, g2⟩
  simp only [doneV, e2]
  rfl
end
end Go.Proofs.Ytjjjjbfblhadnaa
