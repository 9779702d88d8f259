/-
  The document's operation of a bell: the walks of Next, Step and like.
-/
import Derived.Test.YtdoaipjdldknaaaGreatKBellN
import Derived.Test.YtdoaipjdldknaaaGreatFam
namespace Go.Proofs.YtdoaipjdldknaaaGreat
open Go.RowKit
set_option linter.unusedVariables false
section
variable {w : World} {base n V : Int} {lv : Value} {l : List Int}
set_option maxRecDepth 100000 in
set_option maxHeartbeats 4000000 in
theorem bNext_any (n : Nat) (kind V : Int) (hl : Rd w lv (l.map (.int .u64))) (hlen : l.length ≤ 1000000) (b0 : 0 ≤ base) (b1 : base ≤ 70000) (n1 : 1 ≤ n) (n8 : n ≤ 8) (hk1 : 1 ≤ kind) (hk4 : kind ≤ 4) (hV : U64 V) :
    Calls Tryz.prog 99 #[.agg #[.int .i64 base, .int .i64 n], .agg #[.int .i64 kind, .int .u64 V, lv]] w fun e w' => e = .returned (gwV (bnext base n kind V l)) ∧ Only S0 w w' := by
  obtain ⟨v1, v2⟩ := hV
  have HRD := hide hl
  have o3 := (((Only.refl S0 w).alloc (.cells #[.int .i64 base, .int .i64 n] 155)).alloc (.cells #[.int .i64 kind, .int .u64 V, lv] 133)).alloc (.cells #[.bool false, .int .i64 0, .int .i64 0, .int .u64 0, .int .u64 0, .int .i64 0, .int .u64 0, .int .u64 0] 62)
  have HRD3 := hide (hl.only0 o3)
  obtain ⟨a, ca, rfl, ha⟩ := hl
  rw [List.length_map] at HRD HRD3 o3 ⊢
  have HO3 := hide o3
  clear ha o3
  by_cases h4 : kind = 4
  · subst h4
    have hb : bnext base n 4 V l = ringL base n 0 l := by simp [bnext]
    rw [hb]
    clear hb hk1 hk4
    have HR := hide (ref_ring_any n HRD3.out hlen b0 b1 n8)
    go_enter Tryz.func99, Tryz.ntmps99
    go_wp2_with fail
    refine HR.out.mono ?_
    rintro e w1 ⟨rfl, o1⟩
    obtain ⟨W, hW⟩ : ∃ W, ringL base n 0 l = W := ⟨_, rfl⟩
    rw [hW]
    obtain ⟨ov, what, cell, aa, bb, out, value⟩ := W
    have HO1 := hide (HO3.out.trans o1)
    have RB := hide (show Blk w1 (w.heap.size + 1 + 1) 62 #[.bool false, .int .i64 0, .int .i64 0, .int .u64 0, .int .u64 0, .int .i64 0, .int .u64 0, .int .u64 0] from by
      have := (Blk.new ((w.alloc (.cells #[.int .i64 base, .int .i64 n] 155)).alloc (.cells #[.int .i64 4, .int .u64 V, .slice a l.length ca] 133)) 62 #[.bool false, .int .i64 0, .int .i64 0, .int .u64 0, .int .u64 0, .int .i64 0, .int .u64 0, .int .u64 0]).only o1 (fun h => h)
      simpa using this)
    have z0 := RB.out.cellv (i := 0) rfl
    have y0 := RB.out.frozen 0
    have z1 := RB.out.cellv (i := 1) rfl
    have y1 := RB.out.frozen 1
    have z2 := RB.out.cellv (i := 2) rfl
    have y2 := RB.out.frozen 2
    have z3 := RB.out.cellv (i := 3) rfl
    have y3 := RB.out.frozen 3
    have z4 := RB.out.cellv (i := 4) rfl
    have y4 := RB.out.frozen 4
    have z5 := RB.out.cellv (i := 5) rfl
    have y5 := RB.out.frozen 5
    have z6 := RB.out.cellv (i := 6) rfl
    have y6 := RB.out.frozen 6
    have z7 := RB.out.cellv (i := 7) rfl
    have y7 := RB.out.frozen 7
    have HW := hide hW
    clear hW o1
    unfold gwV
    go_wp2_with fail
    (try simp only [Exit.inBlock, Exit.then])
    refine bodyPost_ret (by simp [results, Tryz.results99, go_sem, z0, z1, z2, z3, z4, z5, z6, z7]; try rfl) rfl ?_
    exact ⟨by rw [HW.out]; rfl, by
      iterate 8 (refine Only.setNew ?_ _ (by omega) _)
      exact HO1.out⟩
  · have hk3 : kind = 1 ∨ kind = 2 ∨ kind = 3 := by omega
    by_cases hVn : (n : Int) ≤ V
    · have HB := hide (show bnext base n kind V l = wOver 4 0 by unfold bnext; rw [if_neg h4, if_pos hVn])
      have hkb : (kind == 4) = false := by simp [h4]
      clear hk3 h4
      go_enter Tryz.func99, Tryz.ntmps99
      go_wp2_with fail
      go_returns
      refine ⟨?_, (((Only.refl _ _).alloc _).alloc _).alloc _⟩
      rw [HB.out]
      rfl
    · replace hVn : V < (n : Int) := by omega
      by_cases hl0 : l.length = 0
      · obtain rfl : l = [] := List.eq_nil_of_length_eq_zero hl0
        clear hl0 h4
        rcases hk3 with rfl | rfl | rfl
        · have HB := hide (show bnext base n 1 V [] = wStore (base + V) 1 by unfold bnext; rw [if_neg (by decide), if_neg (by omega)]; rfl)
          go_enter Tryz.func99, Tryz.ntmps99
          go_wp2_with fail
          go_returns
          refine ⟨?_, (((Only.refl _ _).alloc _).alloc _).alloc _⟩
          rw [HB.out]
          rfl
        · have HB := hide (show bnext base n 2 V [] = wStore (base + V) 0 by unfold bnext; rw [if_neg (by decide), if_neg (by omega)]; rfl)
          go_enter Tryz.func99, Tryz.ntmps99
          go_wp2_with fail
          go_returns
          refine ⟨?_, (((Only.refl _ _).alloc _).alloc _).alloc _⟩
          rw [HB.out]
          rfl
        · have HB := hide (show bnext base n 3 V [] = wLoad (base + V) by unfold bnext; rw [if_neg (by decide), if_neg (by omega)]; rfl)
          go_enter Tryz.func99, Tryz.ntmps99
          go_wp2_with fail
          go_returns
          refine ⟨?_, (((Only.refl _ _).alloc _).alloc _).alloc _⟩
          rw [HB.out]
          rfl
      · obtain ⟨g, off, rfl, hg, hc⟩ := HRD.out.cells rfl hl0
        have c0 := (HO3.out.cell (p := ⟨g, off + 0, none⟩) hg (fun h => h)).trans (hc 0 (by omega))
        rw [Nat.add_zero] at c0
        obtain ⟨x, t, rfl⟩ : ∃ x t, l = x :: t := by
          cases l with
          | nil => exact absurd rfl hl0
          | cons x t => exact ⟨x, t, rfl⟩
        have hlb : (((x :: t).length : Int) == 0) = false := by rw [beq_eq_false_iff_ne]; omega
        have hlb2 : ((x :: t).length == 0) = false := by simp
        have hlen1 : 0 < (x :: t).length := by simp
        simp only [List.getD_cons_zero] at c0
        generalize hm : (x :: t).length = m at *
        clear hm hc hl0 h4 HRD HRD3 HO3
        rcases hk3 with rfl | rfl | rfl
        · have HB := hide (show bnext base n 1 V (x :: t) = wOver 1 0 by unfold bnext; rw [if_neg (by decide), if_neg (by omega)]; simp)
          go_enter Tryz.func99, Tryz.ntmps99
          go_wp2_with fail
          go_returns
          refine ⟨?_, (((Only.refl _ _).alloc _).alloc _).alloc _⟩
          rw [HB.out]
          rfl
        · have HB := hide (show bnext base n 2 V (x :: t) = wOver 1 0 by unfold bnext; rw [if_neg (by decide), if_neg (by omega)]; simp)
          go_enter Tryz.func99, Tryz.ntmps99
          go_wp2_with fail
          go_returns
          refine ⟨?_, (((Only.refl _ _).alloc _).alloc _).alloc _⟩
          rw [HB.out]
          rfl
        · by_cases hx : x = 0
          · have HB := hide (show bnext base n 3 V (x :: t) = wOver 1 0 by unfold bnext; rw [if_neg (by decide), if_neg (by omega)]; simp [hx])
            have hxb : (x != 0) = false := by simp [hx]
            clear hx
            go_enter Tryz.func99, Tryz.ntmps99
            go_wp2_with fail
            go_returns
            refine ⟨?_, (((Only.refl _ _).alloc _).alloc _).alloc _⟩
            rw [HB.out]
            rfl
          · have HB := hide (show bnext base n 3 V (x :: t) = wOver 4 0 by unfold bnext; rw [if_neg (by decide), if_neg (by omega)]; simp [hx])
            have hxb : (x != 0) = true := by simp [hx]
            clear hx
            go_enter Tryz.func99, Tryz.ntmps99
            go_wp2_with fail
            go_returns
            refine ⟨?_, (((Only.refl _ _).alloc _).alloc _).alloc _⟩
            rw [HB.out]
            rfl
end
end Go.Proofs.YtdoaipjdldknaaaGreat
