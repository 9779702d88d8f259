/-
  Package crew: of, what an operation of a worker begins with.
-/
import Derived.Test.YtdoaipjdldknaaaKC9
namespace Go.Proofs.Ytdoaipjdldknaaa
open Go.RowKit
set_option linter.unusedVariables false
/-- The cells of an operation that has begun nothing. -/
def cop0 (cb : Nat) : Array Value := #[.nilIface, .nilFunc, .int .i64 0, .int .u64 0, .pointer (some ⟨cb, 0, none⟩)]
section
variable {w : World} {cb bb bg : Nat} {dv : Value} {n : Nat} {bd : Nat → Nat} {wk : Int}
theorem of_in (hc : CrewAt w cb bb bg dv) (hd : DqsAt w dv n bd) (h0 : 0 ≤ wk) (h1 : wk < n) : Calls Try.prog 35 #[.pointer (some ⟨cb, 0, none⟩), .int .i64 wk] w fun e w' =>
    e = .returned (.tuple #[.pointer (some ⟨w.heap.size, 0, none⟩), .bool true]) ∧ w' = w.alloc (.cells (cop0 cb) 70) := by
  obtain ⟨g, cap, cs, rfl, hblk, hx⟩ := hd.ex
  have o1 := (Only.refl S0 w).alloc (.cells (cop0 cb) 70)
  have c2 := (hc.only o1 (fun h => h)).c2
  unfold cop0 at *
  clear hc hd hblk hx o1
  go_enter Try.func35, Try.ntmps35
  go_wp2_with fail
  go_ret2
  exact ⟨rfl, rfl⟩
theorem of_out (hc : CrewAt w cb bb bg dv) (hd : DqsAt w dv n bd) (h : wk < 0 ∨ (n:Int) ≤ wk) : Calls Try.prog 35 #[.pointer (some ⟨cb, 0, none⟩), .int .i64 wk] w fun e w' =>
    e = .returned (.tuple #[.pointer (some ⟨w.heap.size, 0, none⟩), .bool false]) ∧ CopAt w' w.heap.size cb .nilIface .nilFunc 4 0 ∧ Only S0 w w' := by
  obtain ⟨g, cap, cs, rfl, hblk, hx⟩ := hd.ex
  have o1 := (Only.refl S0 w).alloc (.cells (cop0 cb) 70)
  have c2 := (hc.only o1 (fun h => h)).c2
  have hn := Blk.new w 70 (cop0 cb)
  have HN := hide (show CopAt _ w.heap.size cb .nilIface .nilFunc 0 0 from hn)
  have HO := hide o1
  unfold cop0 at *
  clear hc hd hblk hx o1 hn
  rcases h with h | h
  · have hh : ¬ (0 ≤ wk) := by omega
    go_enter Try.func35, Try.ntmps35
    go_wp2_with fail
    refine (CEnd_any 4 0 HN.out).mono ?_
    rintro e w1 ⟨rfl, h1, o1⟩
    have H1 := hide h1
    have O1 := hide (HO.out.then o1 (fun i hi h => by have h' : i = w.heap.size := h; omega))
    clear h1 o1
    go_wp2_with fail
    go_ret2
    exact ⟨rfl, H1.out, O1.out⟩
  · rcases Int.lt_or_le wk 0 with hl | hl
    · have hh : ¬ (0 ≤ wk) := by omega
      clear h
      go_enter Try.func35, Try.ntmps35
      go_wp2_with fail
      refine (CEnd_any 4 0 HN.out).mono ?_
      rintro e w1 ⟨rfl, h1, o1⟩
      have H1 := hide h1
      have O1 := hide (HO.out.then o1 (fun i hi h => by have h' : i = w.heap.size := h; omega))
      clear h1 o1
      go_wp2_with fail
      go_ret2
      exact ⟨rfl, H1.out, O1.out⟩
    · have hh : ¬ (wk < n) := by omega
      go_enter Try.func35, Try.ntmps35
      go_wp2_with fail
      refine (CEnd_any 4 0 HN.out).mono ?_
      rintro e w1 ⟨rfl, h1, o1⟩
      have H1 := hide h1
      have O1 := hide (HO.out.then o1 (fun i hi h => by have h' : i = w.heap.size := h; omega))
      clear h1 o1
      go_wp2_with fail
      go_ret2
      exact ⟨rfl, H1.out, O1.out⟩
end
end Go.Proofs.Ytdoaipjdldknaaa
