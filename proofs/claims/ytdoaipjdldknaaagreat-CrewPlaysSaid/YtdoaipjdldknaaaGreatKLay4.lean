/-
  trouperef03.Lay: the cells of a fresh ring.
-/
import Derived.Test.YtdoaipjdldknaaaGreatKGate5
import Derived.Test.YtdoaipjdldknaaaGreatRef1
import Derived.Deep.RegionHeld3
import Derived.Deep.LoopGhost
import Derived.Test.YtdoaipjdldknaaaGreatKDeq5
namespace Go.Proofs.YtdoaipjdldknaaaGreat
open Go.RowKit
set_option linter.unusedVariables false

section
variable {w : World} {rm rc : Nat} {L : List Int} {tc : Int}
theorem RefAt.cellN (h : RefAt w rm rc L tc) (i : Nat) (h1 : i < L.length) : w.cell? ⟨rc, i, none⟩ = some (.int .u64 (at_ L i)) := by
  have := h.cell i (by omega) (by omega)
  simpa using this
set_option maxHeartbeats 1000000 in
theorem Lay3_any (b n : Nat) (h : RefAt w rm rc L tc) (h64 : n ≤ 64) (hin : b + (2 + 2 * n) ≤ L.length) :
    Calls Tryz.prog 40 #[.pointer (some ⟨rm, 0, none⟩), .agg #[.int .i64 b, .int .i64 n]] w fun e w' =>
      e = .returned (.tuple #[]) ∧ RefAt w' rm rc (zeroL L b (2 + 2 * n)) tc ∧ Only (S2 rm rc) w w' := by
  have hl := h.len
  have hn := h.ne
  have h1 := h.mem.lt
  have h2 := h.cells.lt
  have c0 := h.mem.cellv (i := 0) rfl
  have f1 := h.cells.frozen b
  have c2 := h.cellN b (by omega)
  have f3 := h.cells.frozen (b + 1)
  have c3 := h.cellN (b + 1) (by omega)
  have H := hide h
  clear h
  go_enter Tryz.func40, Tryz.ntmps40
  go_wp2_with fail
  go_region
  go_wp2_with fail
  go_region
  go_wp2_with fail
  have hr : w.heap.size ≠ rc := by omega
  have h3 := (H.out.stored b 0).stored (b + 1) 0
  have o3 := ((Only.refl (S2 rm rc) w).set1 b (.inr rfl) (.int .u64 0)).set1 (b + 1) (.inr rfl) (.int .u64 0)
  have b3 := Blk.new ((w.setCell ⟨rc, b, none⟩ (.int .u64 0)).setCell ⟨rc, b + 1, none⟩ (.int .u64 0)) 94 #[.int .i64 b, .int .i64 n]
  simp only [World.size_setCell] at b3
  have HB3 := hide b3.drew.drew
  have HO3 := hide (o3.alloc (.cells #[.int .i64 b, .int .i64 n] 94)).drew.drew
  have H3 := hide (show RefAt _ rm rc _ tc from ⟨(h3.mem.alloc (.cells #[.int .i64 b, .int .i64 n] 94)).drew.drew, (h3.cells.alloc _).drew.drew, h3.len, h3.tc0⟩)
  clear h3 o3 b3
  clear f1 c2 f3 c3 c0 H
  go_loopg [4] n (fun q iv wr => ∃ (k : Nat), q = n - k ∧ k ≤ n ∧ iv = .int .i64 k ∧ RefAt wr rm rc (zeroL L b (2 + 2 * k)) tc ∧ Blk wr w.heap.size 94 #[.int .i64 b, .int .i64 n] ∧ Only (S2 rm rc) w wr)
  case atStart => exact ⟨0, rfl, Nat.zero_le _, rfl, H3.out, HB3.out, HO3.out⟩
  case round =>
    obtain ⟨k, rfl, hk, rfl, hm, hb, ho⟩ := hrel
    have d0 := hb.cellv (i := 0) rfl
    have d1 := hb.cellv (i := 1) rfl
    have e0 := hm.mem.cellv (i := 0) rfl
    rw [zeroL_len] at e0
    by_cases hlt : k < n
    · have f1 := hm.cells.frozen (b + 2 + 2 * k)
      have c2 := hm.cellN (b + 2 + 2 * k) (by rw [zeroL_len]; omega)
      have f3 := hm.cells.frozen (b + 3 + 2 * k)
      have c3 := hm.cellN (b + 3 + 2 * k) (by rw [zeroL_len]; omega)
      have HM := hide hm
      have HB := hide hb
      have HO := hide ho
      clear hm hb ho
      go_wp2_with fail
      go_region
      go_wp2_with fail
      go_region
      go_wp2_with fail
      go_roundg (n - (k + 1))
      case rel =>
        refine ⟨k + 1, rfl, by omega, by go_num, ?_, ?_, ?_⟩
        · have := ((HM.out.stored (b + 2 + 2 * k) 0).stored (b + 3 + 2 * k) 0).drew.drew
          rw [show 2 + 2 * (k + 1) = 2 + 2 * k + 1 + 1 by omega]
          simp only [zeroL]
          rw [show b + (2 + 2 * k) = b + 2 + 2 * k by omega, show b + (2 + 2 * k + 1) = b + 3 + 2 * k by omega]
          exact this
        · exact ((HB.out.far (p := ⟨rc, b + 2 + 2 * k, none⟩) hr (.int .u64 0)).far (p := ⟨rc, b + 3 + 2 * k, none⟩) hr (.int .u64 0)).drew.drew
        · exact ((HO.out.set1 (b + 2 + 2 * k) (.inr rfl) (.int .u64 0)).set1 (b + 3 + 2 * k) (.inr rfl) (.int .u64 0)).drew.drew
      case measure => omega
    · obtain rfl : k = n := by omega
      have HM := hide hm
      have HB := hide hb
      have HO := hide ho
      clear hm hb ho
      go_wp2_with fail
      go_end0
      exact ⟨rfl, HM.out, HO.out⟩
end
end Go.Proofs.YtdoaipjdldknaaaGreat
/-
  trouperef04.Lay: the cells of a fresh deque.
-/
namespace Go.Proofs.YtdoaipjdldknaaaGreat
open Go.RowKit
set_option linter.unusedVariables false

section
variable {w : World} {rm rc : Nat} {L : List Int} {tc : Int}
theorem layD_more (L : List Int) (b k : Nat) : layD L b (2 + (k + 1)) = (layD L b (2 + k)).set (b + 2 + k) 0 := by
  rw [show 2 + (k + 1) = (2 + k) + 1 by omega, layD, if_neg (by omega), show b + (2 + k) = b + 2 + k by omega]
set_option maxHeartbeats 1000000 in
theorem Lay4_any (b n : Nat) (h : RefAt w rm rc L tc) (h64 : n ≤ 64) (hin : b + (2 + n) ≤ L.length) :
    Calls Tryz.prog 38 #[.pointer (some ⟨rm, 0, none⟩), .agg #[.int .i64 b, .int .i64 n]] w fun e w' =>
      e = .returned (.tuple #[]) ∧ RefAt w' rm rc (layD L b (2 + n)) tc ∧ Only (S2 rm rc) w w' := by
  have hl := h.len
  have hn := h.ne
  have h1 := h.mem.lt
  have h2 := h.cells.lt
  have c0 := h.mem.cellv (i := 0) rfl
  have f1 := h.cells.frozen b
  have c2 := h.cellN b (by omega)
  have f3 := h.cells.frozen (b + 1)
  have c3 := h.cellN (b + 1) (by omega)
  have H := hide h
  clear h
  go_enter Tryz.func38, Tryz.ntmps38
  go_wp2_with fail
  go_region
  go_wp2_with fail
  go_region
  go_wp2_with fail
  have hr : w.heap.size ≠ rc := by omega
  have h3 := (H.out.stored b 1).stored (b + 1) 1
  have o3 := ((Only.refl (S2 rm rc) w).set1 b (.inr rfl) (.int .u64 1)).set1 (b + 1) (.inr rfl) (.int .u64 1)
  have b3 := Blk.new ((w.setCell ⟨rc, b, none⟩ (.int .u64 1)).setCell ⟨rc, b + 1, none⟩ (.int .u64 1)) 91 #[.int .i64 b, .int .i64 n]
  simp only [World.size_setCell] at b3
  have HB3 := hide b3.drew.drew
  have HO3 := hide (o3.alloc (.cells #[.int .i64 b, .int .i64 n] 91)).drew.drew
  have H3 := hide (show RefAt _ rm rc (layD L b 2) tc from ⟨(h3.mem.alloc (.cells #[.int .i64 b, .int .i64 n] 91)).drew.drew, (h3.cells.alloc _).drew.drew, h3.len, h3.tc0⟩)
  clear h3 o3 b3
  clear f1 c2 f3 c3 c0 H
  go_loopg [4] n (fun q iv wr => ∃ (k : Nat), q = n - k ∧ k ≤ n ∧ iv = .int .i64 k ∧ RefAt wr rm rc (layD L b (2 + k)) tc ∧ Blk wr w.heap.size 91 #[.int .i64 b, .int .i64 n] ∧ Only (S2 rm rc) w wr)
  case atStart => exact ⟨0, rfl, Nat.zero_le _, rfl, H3.out, HB3.out, HO3.out⟩
  case round =>
    obtain ⟨k, rfl, hk, rfl, hm, hb, ho⟩ := hrel
    have d0 := hb.cellv (i := 0) rfl
    have d1 := hb.cellv (i := 1) rfl
    have e0 := hm.mem.cellv (i := 0) rfl
    rw [layD_len] at e0
    by_cases hlt : k < n
    · have f1 := hm.cells.frozen (b + 2 + k)
      have c2 := hm.cellN (b + 2 + k) (by rw [layD_len]; omega)
      have HM := hide hm
      have HB := hide hb
      have HO := hide ho
      clear hm hb ho
      go_wp2_with fail
      go_region
      go_wp2_with fail
      go_roundg (n - (k + 1))
      case rel =>
        refine ⟨k + 1, rfl, by omega, by go_num, ?_, ?_, ?_⟩
        · rw [layD_more]
          exact (HM.out.stored (b + 2 + k) 0).drew
        · exact (HB.out.far (p := ⟨rc, b + 2 + k, none⟩) hr (.int .u64 0)).drew
        · exact (HO.out.set1 (b + 2 + k) (.inr rfl) (.int .u64 0)).drew
      case measure => omega
    · obtain rfl : k = n := by omega
      have HM := hide hm
      have HB := hide hb
      have HO := hide ho
      clear hm hb ho
      go_wp2_with fail
      go_end0
      exact ⟨rfl, HM.out, HO.out⟩
end
end Go.Proofs.YtdoaipjdldknaaaGreat
