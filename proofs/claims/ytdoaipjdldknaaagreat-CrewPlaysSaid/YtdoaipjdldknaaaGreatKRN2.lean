/-
  The document's crew (trouperef20): a part at the beginning of a log.
-/
import Derived.Test.YtdoaipjdldknaaaGreatKRN1
namespace Go.Proofs.YtdoaipjdldknaaaGreat
open Go.RowKit
set_option linter.unusedVariables false
/-- A log, or the rest of one. -/
structure LogS (w : World) (a : Option Addr) (len cap : Nat) (l : List Int) : Prop where
  len_ : len = l.length
  cap_ : len ≤ cap
  big : cap ≤ 9223372036854775807
  cells : len ≠ 0 → ∃ g off, a = some ⟨g, off, none⟩ ∧ g < w.heap.size ∧ ∀ i, i < len → w.cell? ⟨g, off + i, none⟩ = some (.int .u64 (l.getD i 0))
section
variable {w w' : World} {a : Option Addr} {len cap k : Nat} {l : List Int}
theorem LogS.only0 (h : LogS w a len cap l) (ho : Only S0 w w') : LogS w' a len cap l := by
  refine ⟨h.len_, h.cap_, h.big, fun hn => ?_⟩
  obtain ⟨g, off, rfl, hg, hc⟩ := h.cells hn
  exact ⟨g, off, rfl, Nat.lt_of_lt_of_le hg ho.size, fun i hi => (ho.cell (p := ⟨g, off + i, none⟩) hg (fun h => h)).trans (hc i hi)⟩
theorem LogS.take (h : LogS w a len cap l) (hk : k ≤ len) : Rd w (.slice a k cap) ((l.take k).map (.int .u64)) := by
  have hl := h.len_
  refine ⟨a, cap, by rw [List.length_map, List.length_take]; congr 1; omega, fun hn => ?_⟩
  rw [List.length_map, List.length_take] at hn
  obtain ⟨g, off, rfl, hg, hc⟩ := h.cells (by omega)
  refine ⟨g, off, rfl, hg, fun i u hu => ?_⟩
  rw [List.getElem?_map, List.getElem?_take] at hu
  by_cases hi : i < k
  · rw [if_pos hi, List.getElem?_eq_getElem (by omega)] at hu
    simp only [Option.map_some, Option.some.injEq] at hu
    rw [hc i (by omega), ← hu]
    simp [List.getD, show i < l.length by omega]
  · rw [if_neg hi] at hu; cases hu
theorem LogS.rd (h : LogS w a len cap l) : Rd w (.slice a len cap) (l.map (.int .u64)) := by
  have := h.take (Nat.le_refl len)
  rw [h.len_, List.take_length] at this
  rw [h.len_]
  exact this
/-- The rest of a log behind k. -/
theorem LogS.drop (h : LogS w a len cap l) (hk : k ≤ len) {a' : Option Addr} (ha : ∀ g off, a = some ⟨g, off, none⟩ → k < cap → a' = some ⟨g, off + k, none⟩) : LogS w a' (len - k) (cap - k) (l.drop k) := by
  have hl := h.len_
  refine ⟨by rw [List.length_drop]; omega, by have := h.cap_; omega, by have := h.big; omega, fun hn => ?_⟩
  obtain ⟨g, off, rfl, hg, hc⟩ := h.cells (by omega)
  refine ⟨g, off + k, ha g off rfl (by have := h.cap_; omega), hg, fun i hi => ?_⟩
  rw [Nat.add_assoc, hc (k + i) (by omega)]
  simp [List.getD, List.getElem?_drop]
end
/-- The cells of an answer. -/
def gwC (W : GW) : Array Value := #[.bool W.over, .int .i64 W.what, .int .i64 W.cell, .int .u64 W.a, .int .u64 W.b, .int .i64 W.out, .int .u64 W.value, .int .u64 0]
section
variable {w : World} {F : CLay}
set_option maxRecDepth 100000 in
set_option maxHeartbeats 4000000 in
theorem rpart_any (hF : F.Ok) (hb : F.base ≤ 60000) {of wk kind V : Int} {p : PSt} {a : Option Addr} {len cap : Nat} {l : List Int} (h : PBeg F of wk kind V p) (hl : LogS w a len cap l) (hlen : len ≤ 1000000) (hu : AllU l) :
    Calls Tryz.prog 48 #[crewV F, .int .i64 of, .int .i64 wk, .int .i64 kind, .int .u64 V, .slice a len cap] w fun e w' => e = .returned (.tuple #[gwV (pask F (prun F p l).1), .int .i64 ((prun F p l).2 : Nat)]) ∧ Only S0 w w' := by
  have oo := ((Only.refl S0 w).alloc (.cells #[.int .i64 F.base, .int .i64 F.n, .int .i64 F.slots, .int .i64 F.actors] 34)).alloc (.cells #[.bool false, .int .i64 0, .int .i64 0, .int .u64 0, .int .u64 0, .int .i64 0, .int .u64 0, .int .u64 0] 62)
  have hb1 := (Blk.new w 34 #[.int .i64 F.base, .int .i64 F.n, .int .i64 F.slots, .int .i64 F.actors]).alloc (.cells #[.bool false, .int .i64 0, .int .i64 0, .int .u64 0, .int .u64 0, .int .i64 0, .int .u64 0, .int .u64 0] 62)
  have hb2 := Blk.new (w.alloc (.cells #[.int .i64 F.base, .int .i64 F.n, .int .i64 F.slots, .int .i64 F.actors] 34)) 62 #[.bool false, .int .i64 0, .int .i64 0, .int .u64 0, .int .u64 0, .int .i64 0, .int .u64 0, .int .u64 0]
  have hbe : (w.alloc (.cells #[.int .i64 F.base, .int .i64 F.n, .int .i64 F.slots, .int .i64 F.actors] 34)).heap.size = w.heap.size + 1 := by simp
  rw [hbe] at hb2
  have HO := hide oo
  have HB1 := hide hb1
  have HB2 := hide hb2
  have HL := hide hl
  have HP := hide h
  have HU := hide hu
  have HF := hide hF
  have hcl := hl.cap_
  have hcb := hl.big
  clear oo hb1 hb2 hbe hl h hu hF
  unfold crewV
  go_enter Tryz.func48, Tryz.ntmps48
  go_wp2_with fail
  generalize (w.alloc (.cells #[.int .i64 F.base, .int .i64 F.n, .int .i64 F.slots, .int .i64 F.actors] 34)).alloc (.cells #[.bool false, .int .i64 0, .int .i64 0, .int .u64 0, .int .u64 0, .int .i64 0, .int .u64 0, .int .u64 0] 62) = w0 at *
  generalize hw : w.heap.size + 1 = bR at *
  generalize hw' : w.heap.size = bC at *
  have HW := hide (And.intro hw hw')
  clear hw hw'
  go_loopg [14] len (fun q kv wr => ∃ k : Nat, q = len - k ∧ k ≤ (prun F p l).2 ∧ k ≤ len ∧ kv = .int .i64 k ∧ Blk wr bC 34 #[.int .i64 F.base, .int .i64 F.n, .int .i64 F.slots, .int .i64 F.actors] ∧ Blk wr bR 62 #[.bool false, .int .i64 0, .int .i64 0, .int .u64 0, .int .u64 0, .int .i64 0, .int .u64 0, .int .u64 0] ∧ Only S0 w wr)
  case atStart => exact ⟨0, rfl, Nat.zero_le _, Nat.zero_le _, rfl, HB1.out, HB2.out, HO.out⟩
  case round =>
    clear HB1 HB2 HO
    obtain ⟨k, rfl, hkr, hk, rfl, q1, q2, q3⟩ := hrel
    have HB1 := hide q1
    have HB2 := hide q2
    have HO := hide q3
    have HKR := hide hkr
    clear q1 q2 q3 hkr
    by_cases hlt : k < len
    · go_upto_region 4 with fail
      go_cut [15] (fun v15 wx => ∃ xq, v15 = .pointer (some ⟨xq, 0, none⟩) ∧ Blk wx xq 62 (gwC (pask F ((l.take k).foldl (pans F) p))) ∧ Only S0 wr wx ∧ wr.heap.size ≤ xq)
      case first =>
        have Z := hide (And.intro (HB1.out.cellv (i := 0) rfl) (And.intro (HB1.out.cellv (i := 1) rfl) (And.intro (HB1.out.cellv (i := 2) rfl) (HB1.out.cellv (i := 3) rfl))))
        have b0 := Blk.lt HB1.out
        obtain ⟨W, hW⟩ : ∃ W, pask F ((l.take k).foldl (pans F) p) = W := ⟨_, rfl⟩
        have hnx := fun (wx : World) (hx : Only S0 wr wx) => rnext_any (w := wx) HF.out hb HP.out (prun_proper F l p k HKR.out) (((HL.out.only0 HO.out).only0 hx).take hk) (by rw [List.length_take]; omega) (fun x hx => HU.out x (List.mem_of_mem_take hx))
        rw [hW] at hnx
        have HNX := hide hnx
        have HWE := hide hW
        clear hnx hW
        obtain ⟨ov, what, cell, aa, bb, out, value⟩ := W
        unfold crewV at HNX
        have hoA : Only S0 wr ((wr.alloc (.cells #[.bool false, .int .i64 0, .int .i64 0, .int .u64 0, .int .u64 0, .int .i64 0, .int .u64 0, .int .u64 0] 62)).drew) := ((Only.refl S0 wr).alloc _).drew
        have hbA : Blk ((wr.alloc (.cells #[.bool false, .int .i64 0, .int .i64 0, .int .u64 0, .int .u64 0, .int .i64 0, .int .u64 0, .int .u64 0] 62)).drew) wr.heap.size 62 #[.bool false, .int .i64 0, .int .i64 0, .int .u64 0, .int .u64 0, .int .i64 0, .int .u64 0, .int .u64 0] := (Blk.new wr _ _).drew
        have hk0 : (0 : Int) ≤ (k : Int) := by omega
        have hkc : (k : Int) ≤ (cap : Int) := by omega
        have hkl : (k : Int) ≤ (len : Int) := by omega
        have HOA := hide hoA
        have HBA := hide hbA
        clear hoA hbA
        go_region_held3 (fun w' : World => w'.cell? ⟨bC, 0, none⟩ = some (.int .i64 F.base) ∧ w'.cell? ⟨bC, 1, none⟩ = some (.int .i64 F.n) ∧ w'.cell? ⟨bC, 2, none⟩ = some (.int .i64 F.slots) ∧ w'.cell? ⟨bC, 3, none⟩ = some (.int .i64 F.actors)) (first | with_reducible exact hold4 Z.out b0 b0 b0 b0 (Only.refl S0 wr).drew | with_reducible exact hold4 Z.out b0 b0 b0 b0 ((Only.refl S0 wr).alloc _).drew | with_reducible exact hold4 Z.out b0 b0 b0 b0 O1.out | with_reducible exact hold4 Z.out b0 b0 b0 b0 (O1.out.alloc _) | with_reducible exact hold4 Z.out b0 b0 b0 b0 (O1.out.then (want_only w2 wr.heap.size ov what cell aa bb out value) (fun j hj h => absurd h (by unfold S1; omega)))) (first | (go_at_call 80; (with_reducible refine (HNX.out _ (Only.refl S0 wr).drew).mono ?_); rintro e w2 ⟨rfl, o1⟩; unfold gwV; have O1 := hide ((Only.refl S0 wr).drew.trans o1); have WAY : k = k := rfl; clear o1) | (go_at_call 80; (with_reducible refine (HNX.out _ HOA.out).mono ?_); rintro e w2 ⟨rfl, o1⟩; unfold gwV; have O1 := hide (HOA.out.trans o1); have R1 := hide (HBA.out.only o1 (fun h => h)); have z0 := R1.out.cellv (i := 0) rfl; have z1 := R1.out.cellv (i := 1) rfl; have z2 := R1.out.cellv (i := 2) rfl; have z3 := R1.out.cellv (i := 3) rfl; have z4 := R1.out.cellv (i := 4) rfl; have z5 := R1.out.cellv (i := 5) rfl; have z6 := R1.out.cellv (i := 6) rfl; have z7 := R1.out.cellv (i := 7) rfl; have x0 := R1.out.frozen 0; have x1 := R1.out.frozen 1; have x2 := R1.out.frozen 2; have x3 := R1.out.frozen 3; have x4 := R1.out.frozen 4; have x5 := R1.out.frozen 5; have x6 := R1.out.frozen 6; have x7 := R1.out.frozen 7; clear o1))
        all_goals (go_wp2_with fail; go_meet)
        all_goals (rw [HWE.out]; dsimp only [gwC])
        all_goals first
          | (have _t := WAY
             refine ⟨w2.heap.size, rfl, ?_, ?_, O1.out.size⟩
             · with_reducible exact Blk.new w2 _ _
             · with_reducible exact O1.out.alloc _)
          | (refine ⟨wr.heap.size, rfl, ?_, ?_, Nat.le_refl _⟩
             · with_reducible exact want_set R1.out ov what cell aa bb out value
             · with_reducible exact O1.out.then (want_only w2 wr.heap.size ov what cell aa bb out value) (fun j hj h => absurd h (by unfold S1; omega)))
      case rest =>
        obtain ⟨xq, rfl, hx, ho, hxq⟩ := hcut
        have HX := hide hx
        have HO2 := hide (HO.out.trans ho)
        have HC2 := hide (HB1.out.only ho (fun h => h))
        have HR2 := hide (HB2.out.only ho (fun h => h))
        have nxr : xq ≠ bR := by have := Blk.lt HB2.out; omega
        clear hx ho hxq
        obtain ⟨q, hq⟩ : ∃ q, (l.take k).foldl (pans F) p = q := ⟨_, rfl⟩
        obtain ⟨W, hW⟩ : ∃ W, pask F q = W := ⟨_, rfl⟩
        have HX' := HX.out
        rw [hq, hW] at HX'
        obtain ⟨ov, what, cell, aa, bb, out, value⟩ := W
        have HXX := hide (show Blk wc xq 62 #[.bool ov, .int .i64 what, .int .i64 cell, .int .u64 aa, .int .u64 bb, .int .i64 out, .int .u64 value, .int .u64 0] from HX')
        have HQ := hide hq
        have HWE := hide hW
        clear HX' HX hq hW
        have z0 := HXX.out.cellv (i := 0) rfl
        have z1 := HXX.out.cellv (i := 1) rfl
        have z2 := HXX.out.cellv (i := 2) rfl
        have z3 := HXX.out.cellv (i := 3) rfl
        have z4 := HXX.out.cellv (i := 4) rfl
        have z5 := HXX.out.cellv (i := 5) rfl
        have z6 := HXX.out.cellv (i := 6) rfl
        have z7 := HXX.out.cellv (i := 7) rfl
        by_cases h0 : q.out = 0
        · obtain rfl : ov = false := by have := pask_go (F := F) h0; rw [HWE.out] at this; exact this
          have hk2 : k + 1 ≤ (prun F p l).2 := by
            rcases Nat.lt_or_ge k (prun F p l).2 with h | h
            · exact h
            · have e : k = (prun F p l).2 := by have := HKR.out; omega
              have h1 := prun_fold F l p
              rw [← e, HQ.out] at h1
              have := prun_all F l p (by rw [h1]; exact h0)
              have := HL.out.len_
              omega
          have HK2 := hide hk2
          clear hk2 h0
          go_wp2_with fail
          go_roundg (len - (k + 1))
          case rel => exact ⟨k + 1, rfl, HK2.out, by omega, by go_num, HC2.out, HR2.out, HO2.out⟩
          case measure => omega
        · obtain rfl : ov = true := by have := (pask_over (F := F) h0).1; rw [HWE.out] at this; exact this
          have e : k = (prun F p l).2 := by
            rcases Nat.lt_or_ge k (prun F p l).2 with h | h
            · have := prun_before F l p k h
              rw [HQ.out] at this
              exact absurd this h0
            · have := HKR.out; omega
          have e1 : (prun F p l).1 = q := by rw [prun_fold F l p, ← e]; exact HQ.out
          have HE := hide (And.intro e e1)
          clear e e1 h0
          have r0 := HR2.out.cellv (i := 0) rfl
          have r1 := HR2.out.cellv (i := 1) rfl
          have r2 := HR2.out.cellv (i := 2) rfl
          have r3 := HR2.out.cellv (i := 3) rfl
          have r4 := HR2.out.cellv (i := 4) rfl
          have r5 := HR2.out.cellv (i := 5) rfl
          have r6 := HR2.out.cellv (i := 6) rfl
          have r7 := HR2.out.cellv (i := 7) rfl
          have y0 := HR2.out.frozen 0
          have y1 := HR2.out.frozen 1
          have y2 := HR2.out.frozen 2
          have y3 := HR2.out.frozen 3
          have y4 := HR2.out.frozen 4
          have y5 := HR2.out.frozen 5
          have y6 := HR2.out.frozen 6
          have y7 := HR2.out.frozen 7
          go_wp2_with fail
          (try simp only [Exit.inBlock, Exit.then])
          refine bodyPost_ret (by simp [results, Tryz.results48, go_sem, r0, r1, r2, r3, r4, r5, r6, r7]; try rfl) rfl ?_
          rw [HE.out.2, HWE.out, ← HE.out.1]
          refine ⟨rfl, ?_⟩
          exact (HO2.out.then (want_only wc bR true what cell aa bb out value) (fun j hj h => by have h' : j = bR := h; have := HW.out; exfalso; omega))
    · have hkl : k = len := by omega
      have c0 := HB1.out.cellv (i := 0) rfl
      have c1 := HB1.out.cellv (i := 1) rfl
      have c2 := HB1.out.cellv (i := 2) rfl
      have c3 := HB1.out.cellv (i := 3) rfl
      obtain ⟨q, hq⟩ : ∃ q, (prun F p l).1 = q := ⟨_, rfl⟩
      obtain ⟨W, hW⟩ : ∃ W, pask F q = W := ⟨_, rfl⟩
      have hll := HL.out.len_
      have hfold : l.foldl (pans F) p = q := by
        have h1 := prun_fold F l p
        have h2 := prun_le F l p
        have h3 := HKR.out
        rw [hq, List.take_of_length_le (by omega)] at h1
        exact h1.symm
      have hn2 : (prun F p l).2 = len := by
        have h2 := prun_le F l p
        have h3 := HKR.out
        omega
      have hpr : PProper F p l := by
        have := prun_proper F l p l.length (by have h3 := HKR.out; omega)
        rw [List.take_length] at this
        exact this
      have hnx := rnext_any (w := wr) HF.out hb HP.out hpr (HL.out.only0 HO.out).rd (by omega) HU.out
      rw [hfold, hW] at hnx
      have HNX := hide hnx
      have HQ := hide (And.intro hq (And.intro hW hn2))
      clear hnx hW hq hfold hpr hll hn2
      obtain ⟨ov, what, cell, aa, bb, out, value⟩ := W
      unfold crewV at HNX
      go_wp2_with (go_at_call 80; (with_reducible refine HNX.out.mono ?_); rintro e w2 ⟨rfl, o1⟩; unfold gwV; have O1 := hide (HO.out.trans o1); have R1 := hide (HB2.out.only o1 (fun h => h)); have z0 := R1.out.cellv (i := 0) rfl; have z1 := R1.out.cellv (i := 1) rfl; have z2 := R1.out.cellv (i := 2) rfl; have z3 := R1.out.cellv (i := 3) rfl; have z4 := R1.out.cellv (i := 4) rfl; have z5 := R1.out.cellv (i := 5) rfl; have z6 := R1.out.cellv (i := 6) rfl; have z7 := R1.out.cellv (i := 7) rfl; have x0 := R1.out.frozen 0; have x1 := R1.out.frozen 1; have x2 := R1.out.frozen 2; have x3 := R1.out.frozen 3; have x4 := R1.out.frozen 4; have x5 := R1.out.frozen 5; have x6 := R1.out.frozen 6; have x7 := R1.out.frozen 7; clear o1)
      (try simp only [Exit.inBlock, Exit.then])
      refine bodyPost_ret (by simp [results, Tryz.results48, go_sem, z0, z1, z2, z3, z4, z5, z6, z7]; try rfl) rfl ?_
      rw [HQ.out.1, HQ.out.2.1, HQ.out.2.2]
      refine ⟨rfl, ?_⟩
      exact (O1.out.then (want_only w2 bR ov what cell aa bb out value) (fun j hj h => by have h' : j = bR := h; have := HW.out; exfalso; omega))
end
end Go.Proofs.YtdoaipjdldknaaaGreat
