/-
  The document's operation of a vigil: the walk of Next.
-/
import Derived.Test.YtafnlmkhfonghaaVigN
import Derived.Test.YtafnlmkhfonghaaBellN3
namespace Go.Proofs.Ytafnlmkhfonghaa
open Go.RowKit
set_option linter.unusedVariables false
theorem LogAt.shape {w : World} {B : Nat} {lv : Value} {l : List Int} (h : LogAt w B lv l) : ∃ a ca, lv = .slice a l.length ca ∧ l.length ≤ ca ∧ (l ≠ [] → ∃ g off, a = some ⟨g, off, none⟩ ∧ g < w.heap.size ∧ ∀ i, i < l.length → w.cell? ⟨g, off + i, none⟩ = some (.int .u64 (l.getD i 0))) := by
  rcases Sl.form h with ⟨rfl, h2⟩ | ⟨g, cap, cs, rfl, hB, hb, hcap, _⟩
  · have : l = [] := by simpa using h2
    subst this
    exact ⟨none, 0, rfl, Nat.le_refl _, fun h => (h rfl).elim⟩
  · refine ⟨some ⟨g, 0, none⟩, cap, by simp, by simpa using hcap, fun hne => ?_⟩
    have hl : (l.map (Value.int .u64)).length ≠ 0 := by simpa using hne
    obtain ⟨g', off, e, hg, hc⟩ := Rd.cells (l := l) (Sl.rd h) (by simp) hl
    injection e with e
    injection e with e1 e2 e3
    subst e1 e2
    exact ⟨_, _, rfl, hg, hc⟩
section
variable {w : World} {base n : Int} {lv : Value} {l : List Int} {B : Nat}
set_option maxRecDepth 100000 in
set_option maxHeartbeats 8000000 in
theorem vNext_claim (x y : Int) (hl : LogAt w B lv l) (hlen : l.length ≤ 1000000) (b0 : 0 ≤ base) (b1 : base ≤ 70000) (n16 : n ≤ 16) (hin : vin n x y) :
    Calls Try.prog 52 #[.agg #[.int .i64 base, .int .i64 n], .agg #[.int .i64 3, .int .i64 x, .int .i64 y, lv]] w fun e w' => e = .returned (gwV (vnext base n 3 x y l)) ∧ Only S0 w w' := by
  obtain ⟨a, ca, rfl, hca, hlc⟩ := hl.shape
  clear hl
  have o4 := (((((Only.refl S0 w).alloc (.cells #[.int .i64 base, .int .i64 n] 85)).alloc (.cells #[.int .i64 3, .int .i64 x, .int .i64 y, .slice a l.length ca] 91)).alloc (.cells #[.bool false, .int .i64 0, .int .i64 0, .int .u64 0, .int .u64 0, .int .i64 0, .int .u64 0, .int .u64 0] 78)).alloc (.cells #[.int .i64 base, .int .i64 n] 85))
  have hb1 := (((Blk.new (w.alloc (.cells #[.int .i64 base, .int .i64 n] 85)) 91 #[.int .i64 3, .int .i64 x, .int .i64 y, .slice a l.length ca]).alloc (.cells #[.bool false, .int .i64 0, .int .i64 0, .int .u64 0, .int .u64 0, .int .i64 0, .int .u64 0, .int .u64 0] 78)).alloc (.cells #[.int .i64 base, .int .i64 n] 85))
  have hb2 := (Blk.new ((w.alloc (.cells #[.int .i64 base, .int .i64 n] 85)).alloc (.cells #[.int .i64 3, .int .i64 x, .int .i64 y, .slice a l.length ca] 91)) 78 #[.bool false, .int .i64 0, .int .i64 0, .int .u64 0, .int .u64 0, .int .i64 0, .int .u64 0, .int .u64 0]).alloc (.cells #[.int .i64 base, .int .i64 n] 85)
  have HO4 := hide o4
  have HB1 := hide hb1
  have HB2 := hide hb2
  have HLC0 := hide hlc
  clear o4 hb1 hb2 hlc
  obtain ⟨W, hW⟩ : ∃ W, vnext base n 3 x y l = W := ⟨_, rfl⟩
  rw [hW]
  have HW := hide hW
  clear hW
  go_enter Try.func52, Try.ntmps52
  go_wp2_with fail
  refine (RCell_any x y b0 b1 n16 _).mono ?_
  rintro e w1 ⟨rfl, hw1⟩
  rw [← hw1] at HO4 HB1 HB2
  have HO1 := hide HO4.out
  have BO := hide (show Blk w1 (w.heap.size + 1) 91 #[.int .i64 3, .int .i64 x, .int .i64 y, .slice a l.length ca] from by simpa using HB1.out)
  have RB := hide (show Blk w1 (w.heap.size + 1 + 1) 78 #[.bool false, .int .i64 0, .int .i64 0, .int .u64 0, .int .u64 0, .int .i64 0, .int .u64 0, .int .u64 0] from by simpa using HB2.out)
  have HLC := hide (show l ≠ [] → ∃ g off, a = some ⟨g, off, none⟩ ∧ ∀ i, i < l.length → w1.cell? ⟨g, off + i, none⟩ = some (.int .u64 (l.getD i 0)) from fun hne => by
    obtain ⟨g, off, e, hg, hc⟩ := HLC0.out hne
    exact ⟨g, off, e, fun i hi => (HO1.out.cell (p := ⟨g, off + i, none⟩) hg (fun h => h)).trans (hc i hi)⟩)
  clear hw1 HO4 HB1 HB2 HLC0
  have q0 := BO.out.cellv (i := 0) rfl
  have q1 := BO.out.cellv (i := 1) rfl
  have q2 := BO.out.cellv (i := 2) rfl
  have q3 := BO.out.cellv (i := 3) rfl
  have z0 := RB.out.cellv (i := 0) rfl
  have y0 := RB.out.frozen 0
  have z1 := RB.out.cellv (i := 1) rfl
  have y1 := RB.out.frozen 1
  have z2 := RB.out.cellv (i := 2) rfl
  have y2 := RB.out.frozen 2
  have z3 := RB.out.cellv (i := 3) rfl
  have y3 := RB.out.frozen 3
  have z4 := RB.out.cellv (i := 4) rfl
  have y4 := RB.out.frozen 4
  have z5 := RB.out.cellv (i := 5) rfl
  have y5 := RB.out.frozen 5
  have z6 := RB.out.cellv (i := 6) rfl
  have y6 := RB.out.frozen 6
  have z7 := RB.out.cellv (i := 7) rfl
  have y7 := RB.out.frozen 7
  rw [show vcel base n x y = vcell base n x y from by rw [vcel, if_pos hin]]
  have hv := vcell_in hin b0
  have hv2 : vcell base n x y ≤ 70400 := by
    have := sq_le hin n16
    omega
  obtain ⟨c, hc⟩ : ∃ c, vcell base n x y = c := ⟨_, rfl⟩
  have HVN := hide (show vnext base n 3 x y l = vnextC c l from by rw [vnext, if_pos hin, hc]; rfl)
  rw [hc] at hv hv2 ⊢
  have hc0 : 0 ≤ c := by omega
  clear hin hv hc
  cases l with
  | nil =>
    have hlb : ((([] : List Int).length : Int) == 0) = true := rfl
    have HE := hide (show vnext base n 3 x y [] = wSwap c 1 2 from by rw [HVN.out]; rfl)
    go_wp2_with fail
    (try simp only [Exit.inBlock, Exit.then])
    refine bodyPost_ret (by simp [results, Try.results52, go_sem, z0, z1, z2, z3, z4, z5, z6, z7]; try rfl) rfl ?_
    exact ⟨by rw [← HW.out, HE.out]; rfl, by
      iterate 8 (refine Only.setNew ?_ _ (by omega) _)
      exact HO1.out⟩
  | cons v t =>
    obtain ⟨g, off, rfl, hc⟩ := HLC.out (by simp)
    have c0 := hc 0 (by simp)
    rw [Nat.add_zero] at c0
    simp only [List.getD_cons_zero] at c0
    have hlb : (((v :: t).length : Int) == 0) = false := by rw [beq_eq_false_iff_ne]; simp; omega
    have hlp : 0 < (v :: t).length := by simp
    clear hc HLC
    by_cases hx : v = 1
    · have HE := hide (show vnext base n 3 x y (v :: t) = wOver 1 0 from by rw [HVN.out]; simp [vnextC, hx])
      have hxb : (v == 1) = true := by simp [hx]
      clear hx
      go_wp2_with fail
      refine (over_any 1 _).mono ?_
      rintro e w2 ⟨rfl, o2⟩
      have HO2 := hide (HO1.out.trans o2)
      have RB2 := hide (RB.out.only o2 (fun h => h))
      clear o2 z0 y0 z1 y1 z2 y2 z3 y3 z4 y4 z5 y5 z6 y6 z7 y7
      have z0 := RB2.out.cellv (i := 0) rfl
      have y0 := RB2.out.frozen 0
      have z1 := RB2.out.cellv (i := 1) rfl
      have y1 := RB2.out.frozen 1
      have z2 := RB2.out.cellv (i := 2) rfl
      have y2 := RB2.out.frozen 2
      have z3 := RB2.out.cellv (i := 3) rfl
      have y3 := RB2.out.frozen 3
      have z4 := RB2.out.cellv (i := 4) rfl
      have y4 := RB2.out.frozen 4
      have z5 := RB2.out.cellv (i := 5) rfl
      have y5 := RB2.out.frozen 5
      have z6 := RB2.out.cellv (i := 6) rfl
      have y6 := RB2.out.frozen 6
      have z7 := RB2.out.cellv (i := 7) rfl
      have y7 := RB2.out.frozen 7
      unfold gwV
      go_wp2_with fail
      (try simp only [Exit.inBlock, Exit.then])
      refine bodyPost_ret (by simp [results, Try.results52, go_sem, z0, z1, z2, z3, z4, z5, z6, z7]; try rfl) rfl ?_
      exact ⟨by rw [← HW.out, HE.out]; rfl, by
        iterate 8 (refine Only.setNew ?_ _ (by omega) _)
        exact HO2.out⟩
    · have HE := hide (show vnext base n 3 x y (v :: t) = wOver 4 0 from by rw [HVN.out]; simp [vnextC, hx])
      have hxb : (v == 1) = false := by simp [hx]
      clear hx
      go_wp2_with fail
      refine (over_any 4 _).mono ?_
      rintro e w2 ⟨rfl, o2⟩
      have HO2 := hide (HO1.out.trans o2)
      have RB2 := hide (RB.out.only o2 (fun h => h))
      clear o2 z0 y0 z1 y1 z2 y2 z3 y3 z4 y4 z5 y5 z6 y6 z7 y7
      have z0 := RB2.out.cellv (i := 0) rfl
      have y0 := RB2.out.frozen 0
      have z1 := RB2.out.cellv (i := 1) rfl
      have y1 := RB2.out.frozen 1
      have z2 := RB2.out.cellv (i := 2) rfl
      have y2 := RB2.out.frozen 2
      have z3 := RB2.out.cellv (i := 3) rfl
      have y3 := RB2.out.frozen 3
      have z4 := RB2.out.cellv (i := 4) rfl
      have y4 := RB2.out.frozen 4
      have z5 := RB2.out.cellv (i := 5) rfl
      have y5 := RB2.out.frozen 5
      have z6 := RB2.out.cellv (i := 6) rfl
      have y6 := RB2.out.frozen 6
      have z7 := RB2.out.cellv (i := 7) rfl
      have y7 := RB2.out.frozen 7
      unfold gwV
      go_wp2_with fail
      (try simp only [Exit.inBlock, Exit.then])
      refine bodyPost_ret (by simp [results, Try.results52, go_sem, z0, z1, z2, z3, z4, z5, z6, z7]; try rfl) rfl ?_
      exact ⟨by rw [← HW.out, HE.out]; rfl, by
        iterate 8 (refine Only.setNew ?_ _ (by omega) _)
        exact HO2.out⟩
set_option maxRecDepth 100000 in
set_option maxHeartbeats 8000000 in
theorem vNext_watch (x y : Int) (hl : LogAt w B lv l) (hlen : l.length ≤ 1000000) (b0 : 0 ≤ base) (b1 : base ≤ 70000) (n16 : n ≤ 16) (hin : vin n x y) :
    Calls Try.prog 52 #[.agg #[.int .i64 base, .int .i64 n], .agg #[.int .i64 1, .int .i64 x, .int .i64 y, lv]] w fun e w' => e = .returned (gwV (vnext base n 1 x y l)) ∧ Only S0 w w' := by
  obtain ⟨a, ca, rfl, hca, hlc⟩ := hl.shape
  clear hl
  have o4 := (((((Only.refl S0 w).alloc (.cells #[.int .i64 base, .int .i64 n] 85)).alloc (.cells #[.int .i64 1, .int .i64 x, .int .i64 y, .slice a l.length ca] 91)).alloc (.cells #[.bool false, .int .i64 0, .int .i64 0, .int .u64 0, .int .u64 0, .int .i64 0, .int .u64 0, .int .u64 0] 78)).alloc (.cells #[.int .i64 base, .int .i64 n] 85))
  have hb1 := (((Blk.new (w.alloc (.cells #[.int .i64 base, .int .i64 n] 85)) 91 #[.int .i64 1, .int .i64 x, .int .i64 y, .slice a l.length ca]).alloc (.cells #[.bool false, .int .i64 0, .int .i64 0, .int .u64 0, .int .u64 0, .int .i64 0, .int .u64 0, .int .u64 0] 78)).alloc (.cells #[.int .i64 base, .int .i64 n] 85))
  have hb2 := (Blk.new ((w.alloc (.cells #[.int .i64 base, .int .i64 n] 85)).alloc (.cells #[.int .i64 1, .int .i64 x, .int .i64 y, .slice a l.length ca] 91)) 78 #[.bool false, .int .i64 0, .int .i64 0, .int .u64 0, .int .u64 0, .int .i64 0, .int .u64 0, .int .u64 0]).alloc (.cells #[.int .i64 base, .int .i64 n] 85)
  have HO4 := hide o4
  have HB1 := hide hb1
  have HB2 := hide hb2
  have HLC0 := hide hlc
  clear o4 hb1 hb2 hlc
  obtain ⟨W, hW⟩ : ∃ W, vnext base n 1 x y l = W := ⟨_, rfl⟩
  rw [hW]
  have HW := hide hW
  clear hW
  go_enter Try.func52, Try.ntmps52
  go_wp2_with fail
  refine (RCell_any x y b0 b1 n16 _).mono ?_
  rintro e w1 ⟨rfl, hw1⟩
  rw [← hw1] at HO4 HB1 HB2
  have HO1 := hide HO4.out
  have BO := hide (show Blk w1 (w.heap.size + 1) 91 #[.int .i64 1, .int .i64 x, .int .i64 y, .slice a l.length ca] from by simpa using HB1.out)
  have RB := hide (show Blk w1 (w.heap.size + 1 + 1) 78 #[.bool false, .int .i64 0, .int .i64 0, .int .u64 0, .int .u64 0, .int .i64 0, .int .u64 0, .int .u64 0] from by simpa using HB2.out)
  have HLC := hide (show l ≠ [] → ∃ g off, a = some ⟨g, off, none⟩ ∧ ∀ i, i < l.length → w1.cell? ⟨g, off + i, none⟩ = some (.int .u64 (l.getD i 0)) from fun hne => by
    obtain ⟨g, off, e, hg, hc⟩ := HLC0.out hne
    exact ⟨g, off, e, fun i hi => (HO1.out.cell (p := ⟨g, off + i, none⟩) hg (fun h => h)).trans (hc i hi)⟩)
  clear hw1 HO4 HB1 HB2 HLC0
  have q0 := BO.out.cellv (i := 0) rfl
  have q1 := BO.out.cellv (i := 1) rfl
  have q2 := BO.out.cellv (i := 2) rfl
  have q3 := BO.out.cellv (i := 3) rfl
  have z0 := RB.out.cellv (i := 0) rfl
  have y0 := RB.out.frozen 0
  have z1 := RB.out.cellv (i := 1) rfl
  have y1 := RB.out.frozen 1
  have z2 := RB.out.cellv (i := 2) rfl
  have y2 := RB.out.frozen 2
  have z3 := RB.out.cellv (i := 3) rfl
  have y3 := RB.out.frozen 3
  have z4 := RB.out.cellv (i := 4) rfl
  have y4 := RB.out.frozen 4
  have z5 := RB.out.cellv (i := 5) rfl
  have y5 := RB.out.frozen 5
  have z6 := RB.out.cellv (i := 6) rfl
  have y6 := RB.out.frozen 6
  have z7 := RB.out.cellv (i := 7) rfl
  have y7 := RB.out.frozen 7
  rw [show vcel base n x y = vcell base n x y from by rw [vcel, if_pos hin]]
  have hv := vcell_in hin b0
  have hv2 : vcell base n x y ≤ 70400 := by
    have := sq_le hin n16
    omega
  obtain ⟨c, hc⟩ : ∃ c, vcell base n x y = c := ⟨_, rfl⟩
  have HVN := hide (show vnext base n 1 x y l = vnextL 1 c l from by rw [vnext, if_pos hin, hc]; rfl)
  rw [hc] at hv hv2 ⊢
  have hc0 : 0 ≤ c := by omega
  clear hin hv hc
  go_wp2_with fail
  go_loopg [6] l.length (fun q sv wr => ∃ (l' : List Int) (a : Option Addr) (ca : Nat), q = l'.length ∧ sv = .slice a l'.length ca ∧ l'.length ≤ ca ∧ l'.length ≤ 1000000 ∧ (l' ≠ [] → ∃ g off, a = some ⟨g, off, none⟩ ∧ ∀ i, i < l'.length → wr.cell? ⟨g, off + i, none⟩ = some (.int .u64 (l'.getD i 0))) ∧ vnextL 1 c l' = W ∧ Only S0 w wr ∧ wr.cell? ⟨w.heap.size + 1, 0, none⟩ = some (.int .i64 1) ∧ Blk wr (w.heap.size + 1 + 1) 78 #[.bool false, .int .i64 0, .int .i64 0, .int .u64 0, .int .u64 0, .int .i64 0, .int .u64 0, .int .u64 0])
  case atStart => exact ⟨l, _, _, rfl, rfl, hca, hlen, HLC.out, by rw [← HVN.out]; exact HW.out, HO1.out, q0, RB.out⟩
  case round =>
  clear HW HLC hlen hca HO1 BO RB q0 q1 q2 q3 z0 y0 z1 y1 z2 y2 z3 y3 z4 y4 z5 y5 z6 y6 z7 y7
  obtain ⟨l', a, ca, rfl, rfl, hca, hlen, hlc, hw, ho1, q0, hrb⟩ := hrel
  have HO1 := hide ho1
  have RB := hide hrb
  clear ho1 hrb
  have z0 := RB.out.cellv (i := 0) rfl
  have y0 := RB.out.frozen 0
  have z1 := RB.out.cellv (i := 1) rfl
  have y1 := RB.out.frozen 1
  have z2 := RB.out.cellv (i := 2) rfl
  have y2 := RB.out.frozen 2
  have z3 := RB.out.cellv (i := 3) rfl
  have y3 := RB.out.frozen 3
  have z4 := RB.out.cellv (i := 4) rfl
  have y4 := RB.out.frozen 4
  have z5 := RB.out.cellv (i := 5) rfl
  have y5 := RB.out.frozen 5
  have z6 := RB.out.cellv (i := 6) rfl
  have y6 := RB.out.frozen 6
  have z7 := RB.out.cellv (i := 7) rfl
  have y7 := RB.out.frozen 7
  have HLC := hide hlc
  have HW := hide hw
  clear hlc hw
  cases l' with
  | nil =>
    have hlb : ((([] : List Int).length : Int) == 0) = true := rfl
    go_wp2_with fail
    (try simp only [Exit.inBlock, Exit.then])
    refine bodyPost_ret (by simp [results, Try.results52, go_sem, z0, z1, z2, z3, z4, z5, z6, z7]; try rfl) rfl ?_
    exact ⟨by rw [← HW.out]; rfl, by
      iterate 8 (refine Only.setNew ?_ _ (by omega) _)
      exact HO1.out⟩
  | cons x t =>
    obtain ⟨g, off, rfl, hc⟩ := HLC.out (by simp)
    have HCC := hide hc
    have c0 := hc 0 (by simp)
    rw [Nat.add_zero] at c0
    simp only [List.getD_cons_zero] at c0
    have hlb : (((x :: t).length : Int) == 0) = false := by rw [beq_eq_false_iff_ne]; simp; omega
    have hlp : 0 < (x :: t).length := by simp
    clear hc
    by_cases hx : x = 1
    · have HE := hide (show vnextL 1 c (x :: t) = wOver 4 0 from by cases t <;> simp [vnextL, hx])
      have hxb : (x == 1) = true := by simp [hx]
      clear hx
      go_wp2_with fail
      go_region
      go_wp2_with fail
      refine (over_any 4 _).mono ?_
      rintro e w2 ⟨rfl, o2⟩
      have HO2 := hide (HO1.out.drew.trans o2)
      have RB2 := hide (RB.out.drew.only o2 (fun h => h))
      clear o2 z0 y0 z1 y1 z2 y2 z3 y3 z4 y4 z5 y5 z6 y6 z7 y7
      have z0 := RB2.out.cellv (i := 0) rfl
      have y0 := RB2.out.frozen 0
      have z1 := RB2.out.cellv (i := 1) rfl
      have y1 := RB2.out.frozen 1
      have z2 := RB2.out.cellv (i := 2) rfl
      have y2 := RB2.out.frozen 2
      have z3 := RB2.out.cellv (i := 3) rfl
      have y3 := RB2.out.frozen 3
      have z4 := RB2.out.cellv (i := 4) rfl
      have y4 := RB2.out.frozen 4
      have z5 := RB2.out.cellv (i := 5) rfl
      have y5 := RB2.out.frozen 5
      have z6 := RB2.out.cellv (i := 6) rfl
      have y6 := RB2.out.frozen 6
      have z7 := RB2.out.cellv (i := 7) rfl
      have y7 := RB2.out.frozen 7
      unfold gwV
      go_wp2_with fail
      (try simp only [Exit.inBlock, Exit.then])
      refine bodyPost_ret (by simp [results, Try.results52, go_sem, z0, z1, z2, z3, z4, z5, z6, z7]; try rfl) rfl ?_
      exact ⟨by rw [← HW.out, HE.out]; rfl, by
        iterate 8 (refine Only.setNew ?_ _ (by omega) _)
        exact HO2.out⟩
    · skip
      cases t with
      | nil =>
        have HE := hide (show vnextL 1 c [x] = wSwap c x 1 from by simp [vnextL, hx])
        have hxb : (x == 1) = false := by simp [hx]
        clear hx
        go_wp2_with fail
        go_region
        go_wp2_with fail
        (try simp only [Exit.inBlock, Exit.then])
        refine bodyPost_ret (by simp [results, Try.results52, go_sem, z0, z1, z2, z3, z4, z5, z6, z7]; try rfl) rfl ?_
        exact ⟨by rw [← HW.out, HE.out]; rfl, by
          refine Only.drew ?_
          iterate 8 (refine Only.setNew ?_ _ (by omega) _)
          exact HO1.out⟩
      | cons y t =>
        have c1 := HCC.out 1 (by simp)
        simp only [List.getD_cons_succ, List.getD_cons_zero] at c1
        have hlb1 : (((x :: y :: t).length : Int) == 1) = false := by rw [beq_eq_false_iff_ne]; simp; omega
        have hlp1 : 2 ≤ (x :: y :: t).length := by simp
        by_cases hy : y = 1
        · subst hy
          have HE := hide (show vnextL 1 c (x :: 1 :: t) = wOver 1 0 from by simp [vnextL, hx])
          have hxb : (x == 1) = false := by simp [hx]
          clear hx
          go_wp2_with fail
          go_region
          go_wp2_with fail
          refine (over_any 1 _).mono ?_
          rintro e w2 ⟨rfl, o2⟩
          have HO2 := hide (HO1.out.drew.trans o2)
          have RB2 := hide (RB.out.drew.only o2 (fun h => h))
          clear o2 z0 y0 z1 y1 z2 y2 z3 y3 z4 y4 z5 y5 z6 y6 z7 y7
          have z0 := RB2.out.cellv (i := 0) rfl
          have y0 := RB2.out.frozen 0
          have z1 := RB2.out.cellv (i := 1) rfl
          have y1 := RB2.out.frozen 1
          have z2 := RB2.out.cellv (i := 2) rfl
          have y2 := RB2.out.frozen 2
          have z3 := RB2.out.cellv (i := 3) rfl
          have y3 := RB2.out.frozen 3
          have z4 := RB2.out.cellv (i := 4) rfl
          have y4 := RB2.out.frozen 4
          have z5 := RB2.out.cellv (i := 5) rfl
          have y5 := RB2.out.frozen 5
          have z6 := RB2.out.cellv (i := 6) rfl
          have y6 := RB2.out.frozen 6
          have z7 := RB2.out.cellv (i := 7) rfl
          have y7 := RB2.out.frozen 7
          unfold gwV
          go_wp2_with fail
          (try simp only [Exit.inBlock, Exit.then])
          refine bodyPost_ret (by simp [results, Try.results52, go_sem, z0, z1, z2, z3, z4, z5, z6, z7]; try rfl) rfl ?_
          exact ⟨by rw [← HW.out, HE.out]; rfl, by
            iterate 8 (refine Only.setNew ?_ _ (by omega) _)
            exact HO2.out⟩
        · have HE := hide (show vnextL 1 c (x :: y :: t) = vnextL 1 c t from by rw [vnextL, if_neg (by simp [hx]), if_neg hy])
          have hxb : (x == 1) = false := by simp [hx]
          have hyb : (y == 1) = false := by simp [hy]
          clear hx hy
          by_cases hca2 : ca = 2
          · subst hca2
            obtain rfl : t = [] := by
              cases t with
              | nil => rfl
              | cons _ _ => simp at hca
            go_wp2_with fail
            go_region
            go_wp2_with fail
            go_roundg 0
            case rel => exact ⟨[], _, _, rfl, rfl, by simp, by simp, fun h => absurd rfl h, by rw [← HE.out]; exact HW.out, HO1.out.drew, q0, RB.out.drew⟩
            case measure => simp
          · have hct : t.length ≤ ca - 2 := by simp at hca; omega
            have hlt : t.length ≤ 1000000 := by simp at hlen; omega
            have hct' : t.length + 2 ≤ ca := by simp at hca; omega
            go_wp2_with fail
            go_region
            go_wp2_with fail
            go_roundg t.length
            case rel =>
              refine ⟨t, _, _, rfl, rfl, hct, hlt, fun hne => ⟨_, _, rfl, fun i hi => ?_⟩, by rw [← HE.out]; exact HW.out, HO1.out.drew, q0, RB.out.drew⟩
              have h2 := HCC.out (i + 2) (by simp; omega)
              rw [show off + (i + 2) = off + 2 + i by omega] at h2
              simpa using h2
            case measure => simp; omega
set_option maxRecDepth 100000 in
set_option maxHeartbeats 8000000 in
theorem vNext_unwatch (x y : Int) (hl : LogAt w B lv l) (hlen : l.length ≤ 1000000) (b0 : 0 ≤ base) (b1 : base ≤ 70000) (n16 : n ≤ 16) (hin : vin n x y) :
    Calls Try.prog 52 #[.agg #[.int .i64 base, .int .i64 n], .agg #[.int .i64 2, .int .i64 x, .int .i64 y, lv]] w fun e w' => e = .returned (gwV (vnext base n 2 x y l)) ∧ Only S0 w w' := by
  obtain ⟨a, ca, rfl, hca, hlc⟩ := hl.shape
  clear hl
  have o4 := (((((Only.refl S0 w).alloc (.cells #[.int .i64 base, .int .i64 n] 85)).alloc (.cells #[.int .i64 2, .int .i64 x, .int .i64 y, .slice a l.length ca] 91)).alloc (.cells #[.bool false, .int .i64 0, .int .i64 0, .int .u64 0, .int .u64 0, .int .i64 0, .int .u64 0, .int .u64 0] 78)).alloc (.cells #[.int .i64 base, .int .i64 n] 85))
  have hb1 := (((Blk.new (w.alloc (.cells #[.int .i64 base, .int .i64 n] 85)) 91 #[.int .i64 2, .int .i64 x, .int .i64 y, .slice a l.length ca]).alloc (.cells #[.bool false, .int .i64 0, .int .i64 0, .int .u64 0, .int .u64 0, .int .i64 0, .int .u64 0, .int .u64 0] 78)).alloc (.cells #[.int .i64 base, .int .i64 n] 85))
  have hb2 := (Blk.new ((w.alloc (.cells #[.int .i64 base, .int .i64 n] 85)).alloc (.cells #[.int .i64 2, .int .i64 x, .int .i64 y, .slice a l.length ca] 91)) 78 #[.bool false, .int .i64 0, .int .i64 0, .int .u64 0, .int .u64 0, .int .i64 0, .int .u64 0, .int .u64 0]).alloc (.cells #[.int .i64 base, .int .i64 n] 85)
  have HO4 := hide o4
  have HB1 := hide hb1
  have HB2 := hide hb2
  have HLC0 := hide hlc
  clear o4 hb1 hb2 hlc
  obtain ⟨W, hW⟩ : ∃ W, vnext base n 2 x y l = W := ⟨_, rfl⟩
  rw [hW]
  have HW := hide hW
  clear hW
  go_enter Try.func52, Try.ntmps52
  go_wp2_with fail
  refine (RCell_any x y b0 b1 n16 _).mono ?_
  rintro e w1 ⟨rfl, hw1⟩
  rw [← hw1] at HO4 HB1 HB2
  have HO1 := hide HO4.out
  have BO := hide (show Blk w1 (w.heap.size + 1) 91 #[.int .i64 2, .int .i64 x, .int .i64 y, .slice a l.length ca] from by simpa using HB1.out)
  have RB := hide (show Blk w1 (w.heap.size + 1 + 1) 78 #[.bool false, .int .i64 0, .int .i64 0, .int .u64 0, .int .u64 0, .int .i64 0, .int .u64 0, .int .u64 0] from by simpa using HB2.out)
  have HLC := hide (show l ≠ [] → ∃ g off, a = some ⟨g, off, none⟩ ∧ ∀ i, i < l.length → w1.cell? ⟨g, off + i, none⟩ = some (.int .u64 (l.getD i 0)) from fun hne => by
    obtain ⟨g, off, e, hg, hc⟩ := HLC0.out hne
    exact ⟨g, off, e, fun i hi => (HO1.out.cell (p := ⟨g, off + i, none⟩) hg (fun h => h)).trans (hc i hi)⟩)
  clear hw1 HO4 HB1 HB2 HLC0
  have q0 := BO.out.cellv (i := 0) rfl
  have q1 := BO.out.cellv (i := 1) rfl
  have q2 := BO.out.cellv (i := 2) rfl
  have q3 := BO.out.cellv (i := 3) rfl
  have z0 := RB.out.cellv (i := 0) rfl
  have y0 := RB.out.frozen 0
  have z1 := RB.out.cellv (i := 1) rfl
  have y1 := RB.out.frozen 1
  have z2 := RB.out.cellv (i := 2) rfl
  have y2 := RB.out.frozen 2
  have z3 := RB.out.cellv (i := 3) rfl
  have y3 := RB.out.frozen 3
  have z4 := RB.out.cellv (i := 4) rfl
  have y4 := RB.out.frozen 4
  have z5 := RB.out.cellv (i := 5) rfl
  have y5 := RB.out.frozen 5
  have z6 := RB.out.cellv (i := 6) rfl
  have y6 := RB.out.frozen 6
  have z7 := RB.out.cellv (i := 7) rfl
  have y7 := RB.out.frozen 7
  rw [show vcel base n x y = vcell base n x y from by rw [vcel, if_pos hin]]
  have hv := vcell_in hin b0
  have hv2 : vcell base n x y ≤ 70400 := by
    have := sq_le hin n16
    omega
  obtain ⟨c, hc⟩ : ∃ c, vcell base n x y = c := ⟨_, rfl⟩
  have HVN := hide (show vnext base n 2 x y l = vnextL 2 c l from by rw [vnext, if_pos hin, hc]; rfl)
  rw [hc] at hv hv2 ⊢
  have hc0 : 0 ≤ c := by omega
  clear hin hv hc
  go_wp2_with fail
  go_loopg [6] l.length (fun q sv wr => ∃ (l' : List Int) (a : Option Addr) (ca : Nat), q = l'.length ∧ sv = .slice a l'.length ca ∧ l'.length ≤ ca ∧ l'.length ≤ 1000000 ∧ (l' ≠ [] → ∃ g off, a = some ⟨g, off, none⟩ ∧ ∀ i, i < l'.length → wr.cell? ⟨g, off + i, none⟩ = some (.int .u64 (l'.getD i 0))) ∧ vnextL 2 c l' = W ∧ Only S0 w wr ∧ wr.cell? ⟨w.heap.size + 1, 0, none⟩ = some (.int .i64 2) ∧ Blk wr (w.heap.size + 1 + 1) 78 #[.bool false, .int .i64 0, .int .i64 0, .int .u64 0, .int .u64 0, .int .i64 0, .int .u64 0, .int .u64 0])
  case atStart => exact ⟨l, _, _, rfl, rfl, hca, hlen, HLC.out, by rw [← HVN.out]; exact HW.out, HO1.out, q0, RB.out⟩
  case round =>
  clear HW HLC hlen hca HO1 BO RB q0 q1 q2 q3 z0 y0 z1 y1 z2 y2 z3 y3 z4 y4 z5 y5 z6 y6 z7 y7
  obtain ⟨l', a, ca, rfl, rfl, hca, hlen, hlc, hw, ho1, q0, hrb⟩ := hrel
  have HO1 := hide ho1
  have RB := hide hrb
  clear ho1 hrb
  have z0 := RB.out.cellv (i := 0) rfl
  have y0 := RB.out.frozen 0
  have z1 := RB.out.cellv (i := 1) rfl
  have y1 := RB.out.frozen 1
  have z2 := RB.out.cellv (i := 2) rfl
  have y2 := RB.out.frozen 2
  have z3 := RB.out.cellv (i := 3) rfl
  have y3 := RB.out.frozen 3
  have z4 := RB.out.cellv (i := 4) rfl
  have y4 := RB.out.frozen 4
  have z5 := RB.out.cellv (i := 5) rfl
  have y5 := RB.out.frozen 5
  have z6 := RB.out.cellv (i := 6) rfl
  have y6 := RB.out.frozen 6
  have z7 := RB.out.cellv (i := 7) rfl
  have y7 := RB.out.frozen 7
  have HLC := hide hlc
  have HW := hide hw
  clear hlc hw
  cases l' with
  | nil =>
    have hlb : ((([] : List Int).length : Int) == 0) = true := rfl
    go_wp2_with fail
    (try simp only [Exit.inBlock, Exit.then])
    refine bodyPost_ret (by simp [results, Try.results52, go_sem, z0, z1, z2, z3, z4, z5, z6, z7]; try rfl) rfl ?_
    exact ⟨by rw [← HW.out]; rfl, by
      iterate 8 (refine Only.setNew ?_ _ (by omega) _)
      exact HO1.out⟩
  | cons x t =>
    obtain ⟨g, off, rfl, hc⟩ := HLC.out (by simp)
    have HCC := hide hc
    have c0 := hc 0 (by simp)
    rw [Nat.add_zero] at c0
    simp only [List.getD_cons_zero] at c0
    have hlb : (((x :: t).length : Int) == 0) = false := by rw [beq_eq_false_iff_ne]; simp; omega
    have hlp : 0 < (x :: t).length := by simp
    clear hc
    by_cases hx : x ≠ 1
    · have HE := hide (show vnextL 2 c (x :: t) = wOver 4 0 from by cases t <;> simp [vnextL, hx])
      have hxb : (x == 1) = false := by simp [hx]
      clear hx
      go_wp2_with fail
      go_region
      go_wp2_with fail
      refine (over_any 4 _).mono ?_
      rintro e w2 ⟨rfl, o2⟩
      have HO2 := hide (HO1.out.drew.trans o2)
      have RB2 := hide (RB.out.drew.only o2 (fun h => h))
      clear o2 z0 y0 z1 y1 z2 y2 z3 y3 z4 y4 z5 y5 z6 y6 z7 y7
      have z0 := RB2.out.cellv (i := 0) rfl
      have y0 := RB2.out.frozen 0
      have z1 := RB2.out.cellv (i := 1) rfl
      have y1 := RB2.out.frozen 1
      have z2 := RB2.out.cellv (i := 2) rfl
      have y2 := RB2.out.frozen 2
      have z3 := RB2.out.cellv (i := 3) rfl
      have y3 := RB2.out.frozen 3
      have z4 := RB2.out.cellv (i := 4) rfl
      have y4 := RB2.out.frozen 4
      have z5 := RB2.out.cellv (i := 5) rfl
      have y5 := RB2.out.frozen 5
      have z6 := RB2.out.cellv (i := 6) rfl
      have y6 := RB2.out.frozen 6
      have z7 := RB2.out.cellv (i := 7) rfl
      have y7 := RB2.out.frozen 7
      unfold gwV
      go_wp2_with fail
      (try simp only [Exit.inBlock, Exit.then])
      refine bodyPost_ret (by simp [results, Try.results52, go_sem, z0, z1, z2, z3, z4, z5, z6, z7]; try rfl) rfl ?_
      exact ⟨by rw [← HW.out, HE.out]; rfl, by
        iterate 8 (refine Only.setNew ?_ _ (by omega) _)
        exact HO2.out⟩
    · replace hx : x = 1 := Classical.not_not.mp hx
      cases t with
      | nil =>
        have HE := hide (show vnextL 2 c [x] = wSwap c 1 0 from by simp [vnextL, hx])
        have hxb : (x == 1) = true := by simp [hx]
        clear hx
        go_wp2_with fail
        go_region
        go_wp2_with fail
        (try simp only [Exit.inBlock, Exit.then])
        refine bodyPost_ret (by simp [results, Try.results52, go_sem, z0, z1, z2, z3, z4, z5, z6, z7]; try rfl) rfl ?_
        exact ⟨by rw [← HW.out, HE.out]; rfl, by
          refine Only.drew ?_
          iterate 8 (refine Only.setNew ?_ _ (by omega) _)
          exact HO1.out⟩
      | cons y t =>
        have c1 := HCC.out 1 (by simp)
        simp only [List.getD_cons_succ, List.getD_cons_zero] at c1
        have hlb1 : (((x :: y :: t).length : Int) == 1) = false := by rw [beq_eq_false_iff_ne]; simp; omega
        have hlp1 : 2 ≤ (x :: y :: t).length := by simp
        by_cases hy : y = 1
        · subst hy
          have HE := hide (show vnextL 2 c (x :: 1 :: t) = wOver 1 0 from by simp [vnextL, hx])
          have hxb : (x == 1) = true := by simp [hx]
          clear hx
          go_wp2_with fail
          go_region
          go_wp2_with fail
          refine (over_any 1 _).mono ?_
          rintro e w2 ⟨rfl, o2⟩
          have HO2 := hide (HO1.out.drew.trans o2)
          have RB2 := hide (RB.out.drew.only o2 (fun h => h))
          clear o2 z0 y0 z1 y1 z2 y2 z3 y3 z4 y4 z5 y5 z6 y6 z7 y7
          have z0 := RB2.out.cellv (i := 0) rfl
          have y0 := RB2.out.frozen 0
          have z1 := RB2.out.cellv (i := 1) rfl
          have y1 := RB2.out.frozen 1
          have z2 := RB2.out.cellv (i := 2) rfl
          have y2 := RB2.out.frozen 2
          have z3 := RB2.out.cellv (i := 3) rfl
          have y3 := RB2.out.frozen 3
          have z4 := RB2.out.cellv (i := 4) rfl
          have y4 := RB2.out.frozen 4
          have z5 := RB2.out.cellv (i := 5) rfl
          have y5 := RB2.out.frozen 5
          have z6 := RB2.out.cellv (i := 6) rfl
          have y6 := RB2.out.frozen 6
          have z7 := RB2.out.cellv (i := 7) rfl
          have y7 := RB2.out.frozen 7
          unfold gwV
          go_wp2_with fail
          (try simp only [Exit.inBlock, Exit.then])
          refine bodyPost_ret (by simp [results, Try.results52, go_sem, z0, z1, z2, z3, z4, z5, z6, z7]; try rfl) rfl ?_
          exact ⟨by rw [← HW.out, HE.out]; rfl, by
            iterate 8 (refine Only.setNew ?_ _ (by omega) _)
            exact HO2.out⟩
        · have HE := hide (show vnextL 2 c (x :: y :: t) = vnextL 2 c t from by rw [vnextL, if_neg (by simp [hx]), if_neg hy])
          have hxb : (x == 1) = true := by simp [hx]
          have hyb : (y == 1) = false := by simp [hy]
          clear hx hy
          by_cases hca2 : ca = 2
          · subst hca2
            obtain rfl : t = [] := by
              cases t with
              | nil => rfl
              | cons _ _ => simp at hca
            go_wp2_with fail
            go_region
            go_wp2_with fail
            go_roundg 0
            case rel => exact ⟨[], _, _, rfl, rfl, by simp, by simp, fun h => absurd rfl h, by rw [← HE.out]; exact HW.out, HO1.out.drew, q0, RB.out.drew⟩
            case measure => simp
          · have hct : t.length ≤ ca - 2 := by simp at hca; omega
            have hlt : t.length ≤ 1000000 := by simp at hlen; omega
            have hct' : t.length + 2 ≤ ca := by simp at hca; omega
            go_wp2_with fail
            go_region
            go_wp2_with fail
            go_roundg t.length
            case rel =>
              refine ⟨t, _, _, rfl, rfl, hct, hlt, fun hne => ⟨_, _, rfl, fun i hi => ?_⟩, by rw [← HE.out]; exact HW.out, HO1.out.drew, q0, RB.out.drew⟩
              have h2 := HCC.out (i + 2) (by simp; omega)
              rw [show off + (i + 2) = off + 2 + i by omega] at h2
              simpa using h2
            case measure => simp; omega
set_option maxRecDepth 100000 in
set_option maxHeartbeats 8000000 in
theorem vNext_none (kind x y : Int) (hl : LogAt w B lv l) (hlen : l.length ≤ 1000000) (b0 : 0 ≤ base) (b1 : base ≤ 70000) (n16 : n ≤ 16) (hin : ¬ vin n x y) :
    Calls Try.prog 52 #[.agg #[.int .i64 base, .int .i64 n], .agg #[.int .i64 kind, .int .i64 x, .int .i64 y, lv]] w fun e w' => e = .returned (gwV (vnext base n kind x y l)) ∧ Only S0 w w' := by
  obtain ⟨a, ca, rfl, hca, hlc⟩ := hl.shape
  clear hl
  have o4 := (((((Only.refl S0 w).alloc (.cells #[.int .i64 base, .int .i64 n] 85)).alloc (.cells #[.int .i64 kind, .int .i64 x, .int .i64 y, .slice a l.length ca] 91)).alloc (.cells #[.bool false, .int .i64 0, .int .i64 0, .int .u64 0, .int .u64 0, .int .i64 0, .int .u64 0, .int .u64 0] 78)).alloc (.cells #[.int .i64 base, .int .i64 n] 85))
  have hb1 := (((Blk.new (w.alloc (.cells #[.int .i64 base, .int .i64 n] 85)) 91 #[.int .i64 kind, .int .i64 x, .int .i64 y, .slice a l.length ca]).alloc (.cells #[.bool false, .int .i64 0, .int .i64 0, .int .u64 0, .int .u64 0, .int .i64 0, .int .u64 0, .int .u64 0] 78)).alloc (.cells #[.int .i64 base, .int .i64 n] 85))
  have hb2 := (Blk.new ((w.alloc (.cells #[.int .i64 base, .int .i64 n] 85)).alloc (.cells #[.int .i64 kind, .int .i64 x, .int .i64 y, .slice a l.length ca] 91)) 78 #[.bool false, .int .i64 0, .int .i64 0, .int .u64 0, .int .u64 0, .int .i64 0, .int .u64 0, .int .u64 0]).alloc (.cells #[.int .i64 base, .int .i64 n] 85)
  have HO4 := hide o4
  have HB1 := hide hb1
  have HB2 := hide hb2
  have HLC0 := hide hlc
  clear o4 hb1 hb2 hlc
  obtain ⟨W, hW⟩ : ∃ W, vnext base n kind x y l = W := ⟨_, rfl⟩
  rw [hW]
  have HW := hide hW
  clear hW
  go_enter Try.func52, Try.ntmps52
  go_wp2_with fail
  refine (RCell_any x y b0 b1 n16 _).mono ?_
  rintro e w1 ⟨rfl, hw1⟩
  rw [← hw1] at HO4 HB1 HB2
  have HO1 := hide HO4.out
  have BO := hide (show Blk w1 (w.heap.size + 1) 91 #[.int .i64 kind, .int .i64 x, .int .i64 y, .slice a l.length ca] from by simpa using HB1.out)
  have RB := hide (show Blk w1 (w.heap.size + 1 + 1) 78 #[.bool false, .int .i64 0, .int .i64 0, .int .u64 0, .int .u64 0, .int .i64 0, .int .u64 0, .int .u64 0] from by simpa using HB2.out)
  have HLC := hide (show l ≠ [] → ∃ g off, a = some ⟨g, off, none⟩ ∧ ∀ i, i < l.length → w1.cell? ⟨g, off + i, none⟩ = some (.int .u64 (l.getD i 0)) from fun hne => by
    obtain ⟨g, off, e, hg, hc⟩ := HLC0.out hne
    exact ⟨g, off, e, fun i hi => (HO1.out.cell (p := ⟨g, off + i, none⟩) hg (fun h => h)).trans (hc i hi)⟩)
  clear hw1 HO4 HB1 HB2 HLC0
  have q0 := BO.out.cellv (i := 0) rfl
  have q1 := BO.out.cellv (i := 1) rfl
  have q2 := BO.out.cellv (i := 2) rfl
  have q3 := BO.out.cellv (i := 3) rfl
  have z0 := RB.out.cellv (i := 0) rfl
  have y0 := RB.out.frozen 0
  have z1 := RB.out.cellv (i := 1) rfl
  have y1 := RB.out.frozen 1
  have z2 := RB.out.cellv (i := 2) rfl
  have y2 := RB.out.frozen 2
  have z3 := RB.out.cellv (i := 3) rfl
  have y3 := RB.out.frozen 3
  have z4 := RB.out.cellv (i := 4) rfl
  have y4 := RB.out.frozen 4
  have z5 := RB.out.cellv (i := 5) rfl
  have y5 := RB.out.frozen 5
  have z6 := RB.out.cellv (i := 6) rfl
  have y6 := RB.out.frozen 6
  have z7 := RB.out.cellv (i := 7) rfl
  have y7 := RB.out.frozen 7
  rw [show vcel base n x y = -1 from by rw [vcel, if_neg hin]]
  have HE := hide (show vnext base n kind x y l = wOver 4 0 from by rw [vnext, if_neg hin])
  clear hin HLC
  go_wp2_with fail
  refine (over_any 4 _).mono ?_
  rintro e w2 ⟨rfl, o2⟩
  have HO2 := hide (HO1.out.trans o2)
  have RB2 := hide (RB.out.only o2 (fun h => h))
  clear o2 z0 y0 z1 y1 z2 y2 z3 y3 z4 y4 z5 y5 z6 y6 z7 y7
  have z0 := RB2.out.cellv (i := 0) rfl
  have y0 := RB2.out.frozen 0
  have z1 := RB2.out.cellv (i := 1) rfl
  have y1 := RB2.out.frozen 1
  have z2 := RB2.out.cellv (i := 2) rfl
  have y2 := RB2.out.frozen 2
  have z3 := RB2.out.cellv (i := 3) rfl
  have y3 := RB2.out.frozen 3
  have z4 := RB2.out.cellv (i := 4) rfl
  have y4 := RB2.out.frozen 4
  have z5 := RB2.out.cellv (i := 5) rfl
  have y5 := RB2.out.frozen 5
  have z6 := RB2.out.cellv (i := 6) rfl
  have y6 := RB2.out.frozen 6
  have z7 := RB2.out.cellv (i := 7) rfl
  have y7 := RB2.out.frozen 7
  unfold gwV
  go_wp2_with fail
  (try simp only [Exit.inBlock, Exit.then])
  refine bodyPost_ret (by simp [results, Try.results52, go_sem, z0, z1, z2, z3, z4, z5, z6, z7]; try rfl) rfl ?_
  exact ⟨by rw [← HW.out, HE.out]; rfl, by
    iterate 8 (refine Only.setNew ?_ _ (by omega) _)
    exact HO2.out⟩
theorem vNext_any (kind x y : Int) (hl : LogAt w B lv l) (hlen : l.length ≤ 1000000) (b0 : 0 ≤ base) (b1 : base ≤ 70000) (n16 : n ≤ 16) (hk1 : 1 ≤ kind) (hk3 : kind ≤ 3) :
    Calls Try.prog 52 #[.agg #[.int .i64 base, .int .i64 n], .agg #[.int .i64 kind, .int .i64 x, .int .i64 y, lv]] w fun e w' => e = .returned (gwV (vnext base n kind x y l)) ∧ Only S0 w w' := by
  by_cases hin : vin n x y
  · have hk : kind = 1 ∨ kind = 2 ∨ kind = 3 := by omega
    rcases hk with rfl | rfl | rfl
    · exact vNext_watch x y hl hlen b0 b1 n16 hin
    · exact vNext_unwatch x y hl hlen b0 b1 n16 hin
    · exact vNext_claim x y hl hlen b0 b1 n16 hin
  · exact vNext_none kind x y hl hlen b0 b1 n16 hin
end
end Go.Proofs.Ytafnlmkhfonghaa
