/-
  CrewMakes, the walk.
-/
import Derived.Test.YtdoaipjdldknaaaGreatKRef20
import Derived.Test.YtdoaipjdldknaaaGreatKAlive
import Derived.Deep.RegionHeld3
import Derived.Deep.LoopGhost
namespace Go.Proofs.YtdoaipjdldknaaaGreat
open Go.RowKit
set_option linter.unusedVariables false
/-- k nines behind m zeros' beginning. -/
def nines (m : Nat) : Nat → List Int
  | 0 => List.replicate m 0
  | k + 1 => (nines m k).set k 99
theorem nines_len (m k : Nat) : (nines m k).length = m := by
  induction k with
  | zero => simp [nines]
  | succ k ih => simp [nines, ih]
theorem nines_u (m k : Nat) : AllU (nines m k) := by
  induction k with
  | zero => exact allU_zero _
  | succ k ih => exact ih.set _ ⟨by decide, by decide⟩
set_option maxRecDepth 100000 in
set_option maxHeartbeats 16000000 in
theorem crewMakes_walk (c base s0 s1 s2 : Int) (w : World) (x0 : (Lit.int .i64 c).wf = true) (x1 : (Lit.int .i64 base).wf = true) (x2 : (Lit.int .i64 s0).wf = true) (x3 : (Lit.int .i64 s1).wf = true) (x4 : (Lit.int .i64 s2).wf = true) :
    Calls Tryz.prog 3 #[.int .i64 c, .int .i64 base, .agg #[.int .i64 s0, .int .i64 s1, .int .i64 s2]] w fun e w' => e = .returned (.bool true) ∧ Below w.heap.size w w' := by
  clear x0 x1 x2 x3 x4
  by_cases hbig : c > 2000
  · have HO := hide ((Only.refl S0 w).alloc (.cells #[.int .i64 s0, .int .i64 s1, .int .i64 s2] 22))
    go_enter Tryz.func3, Tryz.ntmps3
    go_wp2_with fail
    refine (alive20_any _).mono ?_
    rintro e w1 ⟨rfl, p1⟩
    have P1 := hide (HO.out.trans p1)
    clear p1
    go_wp2_with fail
    go_ret
    exact ⟨rfl, S0.below P1.out⟩
  · obtain ⟨m, hm⟩ : ∃ m, countOf c = m := ⟨_, rfl⟩
    have hm1 : m ≤ 2000 := by rw [← hm]; unfold countOf; omega
    have HC := hide hm
    clear hm
    have HB := hide (Blk.new w 22 #[.int .i64 s0, .int .i64 s1, .int .i64 s2])
    have HO := hide ((Only.refl S0 w).alloc (.cells #[.int .i64 s0, .int .i64 s1, .int .i64 s2] 22))
    go_enter Tryz.func3, Tryz.ntmps3
    go_wp2_with fail
    refine (alive20_any _).mono ?_
    rintro e w1 ⟨rfl, p1⟩
    have P1 := hide (HO.out.trans p1)
    have B1 := hide (HB.out.only p1 (fun h => h))
    clear p1 HO HB
    generalize hx : w.heap.size = x at *
    have HX := hide hx
    clear hx
    go_wp2_with fail
    refine (New_any c).mono ?_
    rintro e w2 ⟨bm, bc, rfl, h2, p2, b1, b2⟩
    rw [HC.out] at h2
    have P2 := hide (P1.out.trans p2)
    have B2 := hide (B1.out.only p2 (fun h => h))
    have H2 := hide h2
    have b1' : x ≤ bm := by have := P1.out.size; have := HX.out; omega
    have b2' : x ≤ bc := by have := P1.out.size; have := HX.out; omega
    have b1w : w.heap.size ≤ bm := by have := HX.out; omega
    have b2w : w.heap.size ≤ bc := by have := HX.out; omega
    have nxm : x ≠ bm := by have := Blk.lt B1.out; omega
    have nxc : x ≠ bc := by have := Blk.lt B1.out; omega
    have H1W := hide (And.intro b1w b2w)
    clear h2 p2 b1 b2 b1w b2w B1 P1
    go_wp2_with fail
    go_loopg [8] m (fun q iv wr => ∃ (k : Nat), q = m - k ∧ k ≤ m ∧ iv = .int .i64 k ∧ MemAt wr bm bc (nines m k) k ∧ Blk wr x 22 #[.int .i64 s0, .int .i64 s1, .int .i64 s2] ∧ Only S0 w wr)
    case atStart => exact ⟨0, rfl, Nat.zero_le _, rfl, H2.out, B2.out, P2.out⟩
    case round =>
      clear H2 P2 B2
      obtain ⟨k, rfl, hk, rfl, hm, hb, ho⟩ := hrel
      have HM := hide hm
      have HO := hide ho
      have HB := hide hb
      clear hm ho hb
      by_cases hlt : k < m
      · go_wp2_with fail
        refine (Len_any HM.out).mono ?_
        rintro e w3 ⟨rfl, rfl⟩
        rw [nines_len]
        go_wp2_with fail
        refine (Store_in k 99 HM.out (few_of _ (by omega)) (by omega) (by rw [nines_len]; omega)).mono ?_
        rintro e w3 ⟨rfl, h3, o3⟩
        have H3 := hide h3
        have O3 := hide (S0.then2 HO.out o3 H1W.out.1 H1W.out.2)
        have B3 := hide (HB.out.only o3 (fun h => by unfold S2 at h; omega))
        clear h3 o3
        go_wp2_with fail
        go_roundg (m - (k + 1))
        case rel => exact ⟨k + 1, rfl, by omega, by go_num, by have := H3.out; simpa [nines] using this, B3.out, O3.out⟩
        case measure => omega
      · obtain hkm : k = m := by omega
        subst hkm
        have y0 := HB.out.cellv (i := 0) rfl
        have y1 := HB.out.cellv (i := 1) rfl
        have y2 := HB.out.cellv (i := 2) rfl
        by_cases hmay : (1 ≤ s0 ∧ s0 ≤ 8) ∧ (1 ≤ s1 ∧ s1 ≤ 64) ∧ (1 ≤ s2 ∧ s2 ≤ 64)
        · obtain ⟨⟨m1, m2⟩, ⟨m3, m4⟩, ⟨m5, m6⟩⟩ := hmay
          obtain ⟨F, f0, rfl, rfl, rfl⟩ : ∃ F : CLay, F.base = base.toNat ∧ (F.n : Int) = s0 ∧ (F.slots : Int) = s1 ∧ (F.actors : Int) = s2 := ⟨⟨base.toNat, s0.toNat, s1.toNat, s2.toNat⟩, rfl, by show ((s0.toNat : Nat) : Int) = s0; omega, by show ((s1.toNat : Nat) : Int) = s1; omega, by show ((s2.toNat : Nat) : Int) = s2; omega⟩
          have HFO : F.Ok := ⟨by omega, by omega, by omega, by omega, by omega, by omega⟩
          have hsz7 : F.size ≤ 700 := HFO.size_le
          have HGS := hide (show csize (F.n : Int) (F.slots : Int) (F.actors : Int) = (F.size : Nat) from HFO.csize)
          by_cases h3 : 0 ≤ base ∧ base + F.size ≤ k
          · obtain ⟨h3, h4⟩ := h3
            obtain rfl : base = (F.base : Int) := by omega
            have HIN : F.base + F.size ≤ k := by omega
            have HBS : F.base ≤ 70000 := by omega
            have h4' : ¬ (k : Int) - (F.size : Int) < (F.base : Int) := by omega
            clear h4 f0
            go_wp2_with fail
            refine (Len_any HM.out).mono ?_
            rintro e w3 ⟨rfl, rfl⟩
            rw [nines_len]
            go_wp2_with fail
            refine (CMake_good F HFO HM.out (few_of _ (by omega)) (nines_u _ _) (by rw [nines_len]; exact HIN)).mono ?_
            rintro e w6 ⟨cb, bb, bg, dv, bd, rfl, henv, o6, -, -, -, -⟩
            have HMEM := hide henv.mem
            have HP2 := hide (S0.then2 HO.out o6 H1W.out.1 H1W.out.2)
            have HB6 := hide (HB.out.only o6 (fun h => by unfold S2 at h; omega))
            clear henv o6 HM HO HB y0 y1 y2
            have y0 := HB6.out.cellv (i := 0) rfl
            have y1 := HB6.out.cellv (i := 1) rfl
            have y2 := HB6.out.cellv (i := 2) rfl
            go_wp2_with fail
            refine (CMake_nil (F.base : Int) (F.n : Int) (F.slots : Int) (F.actors : Int) _).mono ?_
            rintro e w7 ⟨rfl, rfl⟩
            go_upto_region 13 with fail
            have oa := (Only.refl S0 w6).alloc (.cells #[.int .i64 F.base, .int .i64 F.n, .int .i64 F.slots, .int .i64 F.actors] 34)
            have HAT := hide (Blk.new w6 34 #[.int .i64 F.base, .int .i64 F.n, .int .i64 F.slots, .int .i64 F.actors])
            have HMEMA := hide (HMEM.out.only oa (fun h => h) (fun h => h))
            have HP3 := hide (HP2.out.trans oa)
            have HBA := hide (HB6.out.only oa (fun h => h))
            clear oa HMEM HP2 HB6 y0 y1 y2
            generalize w6.alloc (.cells #[.int .i64 F.base, .int .i64 F.n, .int .i64 F.slots, .int .i64 F.actors] 34) = wA at *
            generalize w6.heap.size = at_ at *
            have y0 := HBA.out.cellv (i := 0) rfl
            have y1 := HBA.out.cellv (i := 1) rfl
            have y2 := HBA.out.cellv (i := 2) rfl
            have z0 := HAT.out.cellv (i := 0) rfl
            have z1 := HAT.out.cellv (i := 1) rfl
            have z2 := HAT.out.cellv (i := 2) rfl
            have z3 := HAT.out.cellv (i := 3) rfl
            go_wp2_with fail
            refine (RSize_any (F := F) _ HFO).mono ?_
            rintro e w7 ⟨rfl, p7⟩
            have HMEM := hide (HMEMA.out.only p7 (fun h => h) (fun h => h))
            have HP2 := hide (HP3.out.trans p7)
            have HB6 := hide (HBA.out.only p7 (fun h => h))
            have HAT6 := hide (HAT.out.only p7 (fun h => h))
            clear p7 HMEMA HP3 HBA y0 y1 y2 z0 z1 z2 z3 HAT
            have y0 := HB6.out.cellv (i := 0) rfl
            have y1 := HB6.out.cellv (i := 1) rfl
            have y2 := HB6.out.cellv (i := 2) rfl
            go_wp2_with fail
            refine (CSize_any _ _ _ _).mono ?_
            rintro e w8 ⟨rfl, rfl⟩
            rw [HGS.out]
            go_wp2_with fail
            refine (RefNew_any c).mono ?_
            rintro e w8 ⟨rm, rc, rfl, h8, p8, b5, b6⟩
            rw [HC.out] at h8
            have HM := hide (HMEM.out.only p8 (fun h => h) (fun h => h))
            have HP8 := hide (HP2.out.trans p8)
            have HAT8 := hide (HAT6.out.only p8 (fun h => h))
            have hr1 : w.heap.size ≤ rm := Nat.le_trans HP2.out.size b5
            have hr2 : w.heap.size ≤ rc := Nat.le_trans HP2.out.size b6
            have hm1 := HMEM.out.mem.lt
            have hm2 := HMEM.out.cells.lt
            have hm3 := Blk.lt HAT6.out
            have ha1 : rm ≠ bm := by omega
            have ha2 : rm ≠ bc := by omega
            have ha3 : rc ≠ bm := by omega
            have ha4 : rc ≠ bc := by omega
            have ha5 : at_ ≠ rc := by omega
            have ha6 : at_ ≠ rm := by omega
            have hrne := h8.ne
            have H8 := hide h8
            clear h8 p8 b5 b6 hm1 hm2 hm3 HMEM HP2 HB6 HAT6 y0 y1 y2
            go_wp2_with fail
            go_loopg [17] k (fun q iv wr => ∃ (j : Nat), q = k - j ∧ j ≤ k ∧ iv = .int .i64 j ∧ MemAt wr bm bc (layC (nines k k) F) (k + (F.size : Nat)) ∧ RefAt wr rm rc (nines k j) 0 ∧ Blk wr at_ 34 #[.int .i64 F.base, .int .i64 F.n, .int .i64 F.slots, .int .i64 F.actors] ∧ Only S0 w wr)
            case atStart => exact ⟨0, rfl, Nat.zero_le _, rfl, HM.out, H8.out, HAT8.out, HP8.out⟩
            case round =>
              clear HM H8 HP8 HAT8
              obtain ⟨j, rfl, hk, rfl, hm, hr, hat, ho⟩ := hrel
              have cr0 := hr.mem.cellv (i := 0) rfl
              rw [nines_len] at cr0
              by_cases hlt : j < k
              · have cr1 := hr.cellN j (by rw [nines_len]; omega)
                have f1 := hr.cells.frozen j
                have HM := hide hm
                have HR := hide hr
                have HP := hide ho
                have HAT := hide hat
                clear hm hr ho hat
                go_wp2_with fail
                go_roundg (k - (j + 1))
                case rel =>
                  exact ⟨j + 1, rfl, by omega, by go_num, ⟨HM.out.mem.far (p := ⟨rc, j, none⟩) (fun h => ha3 h.symm) _, HM.out.cells.far (p := ⟨rc, j, none⟩) (fun h => ha4 h.symm) _, HM.out.len, HM.out.tc0⟩, HR.out.stored j 99, HAT.out.far (p := ⟨rc, j, none⟩) ha5 _, HP.out.setNew j hr2 _⟩
                case measure => omega
              · obtain hjk : j = k := by omega
                subst hjk
                have HM := hide hm
                have HR := hide hr
                have HP := hide ho
                have z0 := hat.cellv (i := 0) rfl
                have z1 := hat.cellv (i := 1) rfl
                have z2 := hat.cellv (i := 2) rfl
                have z3 := hat.cellv (i := 3) rfl
                clear hm hr ho hat
                go_wp2_with fail
                refine (RLay_any HFO HBS (by rw [nines_len]; exact HIN) HR.out).mono ?_
                rintro e w9 ⟨rfl, h9, o9⟩
                have HM9 := hide (HM.out.only o9 (by unfold S2; omega) (by unfold S2; omega))
                have HP9 := hide (S0.then2 HP.out o9 hr1 hr2)
                have HR9 := hide h9
                clear h9 o9 HM HP HR z0 z1 z2 z3
                have HM := HM9
                have HP := HP9
                have HR := HR9
                clear HM9 HP9 HR9
                go_wp2_with fail
                have cr0 := HR.out.mem.cellv (i := 0) rfl
                have hnm := HR.out.mem.lt
                have HLEN : (layC (nines j j) F).length = j := (by rw [layC_len, nines_len])
                rw [HLEN] at cr0
                have hrd := HR.out.drew.rd
                rw [HLEN] at hrd
                have HRD := hide hrd
                clear hrd
                have hbig : (layC (nines j j) F).length ≤ 1000000 := by rw [HLEN]; omega
                go_region_held3 (fun w' => w'.cell? ⟨rm, 0, none⟩ = some (.slice (some ⟨rc, 0, none⟩) j j)) (first | exact cr0 | exact d0 | exact f0) (first | (go_at_call 14; refine (All_any (HM.out.drew)).mono ?_; rintro e w4 ⟨v, rfl, hv, o4⟩; have d0 := (o4.cell (p := ⟨rm, 0, none⟩) hnm (fun h => h)).trans cr0; have HV := hide hv; have HO4 := hide o4; clear hv o4) | (go_at_call 13; refine (Same_yes (A := layC (nines j j) F) hbig HV.out.rd (HRD.out.only0 HO4.out)).mono ?_; rintro e w5 ⟨rfl, o5⟩; have f0 := (o5.cell (p := ⟨rm, 0, none⟩) (Nat.lt_of_lt_of_le hnm HO4.out.size) (fun h => h)).trans d0; have HO5 := hide o5; clear o5))
                go_wp2_with fail
                go_ret
                exact ⟨rfl, S0.below ((HP.out.drew.trans HO4.out).trans HO5.out)⟩
          · by_cases h5 : base < 0
            · have HBAD := hide (show csize (F.n : Int) (F.slots : Int) (F.actors : Int) = 0 ∨ base < 0 ∨ (k : Int) - csize (F.n : Int) (F.slots : Int) (F.actors : Int) < base from .inr (.inl h5))
              clear h3 f0
              go_wp2_with fail
              refine (Len_any HM.out).mono ?_
              rintro e w3 ⟨rfl, rfl⟩
              rw [nines_len]
              go_wp2_with fail
              refine (CMake_bad base (F.n : Int) (F.slots : Int) (F.actors : Int) HM.out (by rw [nines_len]; exact HBAD.out)).mono ?_
              rintro e w6 ⟨rfl, rfl⟩
              have HMEM := HM
              have HP2 := HO
              have HB6 := HB
              clear HM HO HB
              go_wp2_with fail
              refine (CMake_nil base (F.n : Int) (F.slots : Int) (F.actors : Int) _).mono ?_
              rintro e w7 ⟨rfl, rfl⟩
              go_upto_region 13 with fail
              have oa := (Only.refl S0 wr).alloc (.cells #[.int .i64 base, .int .i64 F.n, .int .i64 F.slots, .int .i64 F.actors] 34)
              have HAT := hide (Blk.new wr 34 #[.int .i64 base, .int .i64 F.n, .int .i64 F.slots, .int .i64 F.actors])
              have HMEMA := hide (HMEM.out.only oa (fun h => h) (fun h => h))
              have HP3 := hide (HP2.out.trans oa)
              have HBA := hide (HB6.out.only oa (fun h => h))
              clear oa HMEM HP2 HB6 y0 y1 y2
              generalize wr.alloc (.cells #[.int .i64 base, .int .i64 F.n, .int .i64 F.slots, .int .i64 F.actors] 34) = wA at *
              generalize wr.heap.size = at_ at *
              have y0 := HBA.out.cellv (i := 0) rfl
              have y1 := HBA.out.cellv (i := 1) rfl
              have y2 := HBA.out.cellv (i := 2) rfl
              have z0 := HAT.out.cellv (i := 0) rfl
              have z1 := HAT.out.cellv (i := 1) rfl
              have z2 := HAT.out.cellv (i := 2) rfl
              have z3 := HAT.out.cellv (i := 3) rfl
              go_wp2_with fail
              refine (RSize_any (F := F) _ HFO).mono ?_
              rintro e w7 ⟨rfl, p7⟩
              have HMEM := hide (HMEMA.out.only p7 (fun h => h) (fun h => h))
              have HP2 := hide (HP3.out.trans p7)
              have HB6 := hide (HBA.out.only p7 (fun h => h))
              have HAT6 := hide (HAT.out.only p7 (fun h => h))
              clear p7 HMEMA HP3 HBA y0 y1 y2 z0 z1 z2 z3 HAT
              have y0 := HB6.out.cellv (i := 0) rfl
              have y1 := HB6.out.cellv (i := 1) rfl
              have y2 := HB6.out.cellv (i := 2) rfl
              go_wp2_with fail
              refine (CSize_any _ _ _ _).mono ?_
              rintro e w8 ⟨rfl, rfl⟩
              rw [HGS.out]
              go_wp2_with fail
              refine (RefNew_any c).mono ?_
              rintro e w8 ⟨rm, rc, rfl, h8, p8, b5, b6⟩
              rw [HC.out] at h8
              have HM := hide (HMEM.out.only p8 (fun h => h) (fun h => h))
              have HP8 := hide (HP2.out.trans p8)
              have HAT8 := hide (HAT6.out.only p8 (fun h => h))
              have hr1 : w.heap.size ≤ rm := Nat.le_trans HP2.out.size b5
              have hr2 : w.heap.size ≤ rc := Nat.le_trans HP2.out.size b6
              have hm1 := HMEM.out.mem.lt
              have hm2 := HMEM.out.cells.lt
              have hm3 := Blk.lt HAT6.out
              have ha1 : rm ≠ bm := by omega
              have ha2 : rm ≠ bc := by omega
              have ha3 : rc ≠ bm := by omega
              have ha4 : rc ≠ bc := by omega
              have ha5 : at_ ≠ rc := by omega
              have ha6 : at_ ≠ rm := by omega
              have hrne := h8.ne
              have H8 := hide h8
              clear h8 p8 b5 b6 hm1 hm2 hm3 HMEM HP2 HB6 HAT6 y0 y1 y2
              go_wp2_with fail
              go_loopg [17] k (fun q iv wr => ∃ (j : Nat), q = k - j ∧ j ≤ k ∧ iv = .int .i64 j ∧ MemAt wr bm bc (nines k k) k ∧ RefAt wr rm rc (nines k j) 0 ∧ Blk wr at_ 34 #[.int .i64 base, .int .i64 F.n, .int .i64 F.slots, .int .i64 F.actors] ∧ Only S0 w wr)
              case atStart => exact ⟨0, rfl, Nat.zero_le _, rfl, HM.out, H8.out, HAT8.out, HP8.out⟩
              case round =>
                clear HM H8 HP8 HAT8
                obtain ⟨j, rfl, hk, rfl, hm, hr, hat, ho⟩ := hrel
                have cr0 := hr.mem.cellv (i := 0) rfl
                rw [nines_len] at cr0
                by_cases hlt : j < k
                · have cr1 := hr.cellN j (by rw [nines_len]; omega)
                  have f1 := hr.cells.frozen j
                  have HM := hide hm
                  have HR := hide hr
                  have HP := hide ho
                  have HAT := hide hat
                  clear hm hr ho hat
                  go_wp2_with fail
                  go_roundg (k - (j + 1))
                  case rel =>
                    exact ⟨j + 1, rfl, by omega, by go_num, ⟨HM.out.mem.far (p := ⟨rc, j, none⟩) (fun h => ha3 h.symm) _, HM.out.cells.far (p := ⟨rc, j, none⟩) (fun h => ha4 h.symm) _, HM.out.len, HM.out.tc0⟩, HR.out.stored j 99, HAT.out.far (p := ⟨rc, j, none⟩) ha5 _, HP.out.setNew j hr2 _⟩
                  case measure => omega
                · obtain hjk : j = k := by omega
                  subst hjk
                  have HM := hide hm
                  have HR := hide hr
                  have HP := hide ho
                  have z0 := hat.cellv (i := 0) rfl
                  have z1 := hat.cellv (i := 1) rfl
                  have z2 := hat.cellv (i := 2) rfl
                  have z3 := hat.cellv (i := 3) rfl
                  clear hm hr ho hat
                  go_wp2_with fail
                  have cr0 := HR.out.mem.cellv (i := 0) rfl
                  have hnm := HR.out.mem.lt
                  have HLEN : (nines j j).length = j := (nines_len _ _)
                  rw [HLEN] at cr0
                  have hrd := HR.out.drew.rd
                  rw [HLEN] at hrd
                  have HRD := hide hrd
                  clear hrd
                  have hbig : (nines j j).length ≤ 1000000 := by rw [HLEN]; omega
                  go_region_held3 (fun w' => w'.cell? ⟨rm, 0, none⟩ = some (.slice (some ⟨rc, 0, none⟩) j j)) (first | exact cr0 | exact d0 | exact f0) (first | (go_at_call 14; refine (All_any (HM.out.drew)).mono ?_; rintro e w4 ⟨v, rfl, hv, o4⟩; have d0 := (o4.cell (p := ⟨rm, 0, none⟩) hnm (fun h => h)).trans cr0; have HV := hide hv; have HO4 := hide o4; clear hv o4) | (go_at_call 13; refine (Same_yes (A := nines j j) hbig HV.out.rd (HRD.out.only0 HO4.out)).mono ?_; rintro e w5 ⟨rfl, o5⟩; have f0 := (o5.cell (p := ⟨rm, 0, none⟩) (Nat.lt_of_lt_of_le hnm HO4.out.size) (fun h => h)).trans d0; have HO5 := hide o5; clear o5))
                  go_wp2_with fail
                  go_ret
                  exact ⟨rfl, S0.below ((HP.out.drew.trans HO4.out).trans HO5.out)⟩
            · have h6 : (k : Int) - (F.size : Int) < base := by omega
              have HBAD := hide (show csize (F.n : Int) (F.slots : Int) (F.actors : Int) = 0 ∨ base < 0 ∨ (k : Int) - csize (F.n : Int) (F.slots : Int) (F.actors : Int) < base from .inr (.inr (by rw [HGS.out]; exact h6)))
              clear h3 f0
              go_wp2_with fail
              refine (Len_any HM.out).mono ?_
              rintro e w3 ⟨rfl, rfl⟩
              rw [nines_len]
              go_wp2_with fail
              refine (CMake_bad base (F.n : Int) (F.slots : Int) (F.actors : Int) HM.out (by rw [nines_len]; exact HBAD.out)).mono ?_
              rintro e w6 ⟨rfl, rfl⟩
              have HMEM := HM
              have HP2 := HO
              have HB6 := HB
              clear HM HO HB
              go_wp2_with fail
              refine (CMake_nil base (F.n : Int) (F.slots : Int) (F.actors : Int) _).mono ?_
              rintro e w7 ⟨rfl, rfl⟩
              go_upto_region 13 with fail
              have oa := (Only.refl S0 wr).alloc (.cells #[.int .i64 base, .int .i64 F.n, .int .i64 F.slots, .int .i64 F.actors] 34)
              have HAT := hide (Blk.new wr 34 #[.int .i64 base, .int .i64 F.n, .int .i64 F.slots, .int .i64 F.actors])
              have HMEMA := hide (HMEM.out.only oa (fun h => h) (fun h => h))
              have HP3 := hide (HP2.out.trans oa)
              have HBA := hide (HB6.out.only oa (fun h => h))
              clear oa HMEM HP2 HB6 y0 y1 y2
              generalize wr.alloc (.cells #[.int .i64 base, .int .i64 F.n, .int .i64 F.slots, .int .i64 F.actors] 34) = wA at *
              generalize wr.heap.size = at_ at *
              have y0 := HBA.out.cellv (i := 0) rfl
              have y1 := HBA.out.cellv (i := 1) rfl
              have y2 := HBA.out.cellv (i := 2) rfl
              have z0 := HAT.out.cellv (i := 0) rfl
              have z1 := HAT.out.cellv (i := 1) rfl
              have z2 := HAT.out.cellv (i := 2) rfl
              have z3 := HAT.out.cellv (i := 3) rfl
              go_wp2_with fail
              refine (RSize_any (F := F) _ HFO).mono ?_
              rintro e w7 ⟨rfl, p7⟩
              have HMEM := hide (HMEMA.out.only p7 (fun h => h) (fun h => h))
              have HP2 := hide (HP3.out.trans p7)
              have HB6 := hide (HBA.out.only p7 (fun h => h))
              have HAT6 := hide (HAT.out.only p7 (fun h => h))
              clear p7 HMEMA HP3 HBA y0 y1 y2 z0 z1 z2 z3 HAT
              have y0 := HB6.out.cellv (i := 0) rfl
              have y1 := HB6.out.cellv (i := 1) rfl
              have y2 := HB6.out.cellv (i := 2) rfl
              go_wp2_with fail
              refine (CSize_any _ _ _ _).mono ?_
              rintro e w8 ⟨rfl, rfl⟩
              rw [HGS.out]
              go_wp2_with fail
              refine (RefNew_any c).mono ?_
              rintro e w8 ⟨rm, rc, rfl, h8, p8, b5, b6⟩
              rw [HC.out] at h8
              have HM := hide (HMEM.out.only p8 (fun h => h) (fun h => h))
              have HP8 := hide (HP2.out.trans p8)
              have HAT8 := hide (HAT6.out.only p8 (fun h => h))
              have hr1 : w.heap.size ≤ rm := Nat.le_trans HP2.out.size b5
              have hr2 : w.heap.size ≤ rc := Nat.le_trans HP2.out.size b6
              have hm1 := HMEM.out.mem.lt
              have hm2 := HMEM.out.cells.lt
              have hm3 := Blk.lt HAT6.out
              have ha1 : rm ≠ bm := by omega
              have ha2 : rm ≠ bc := by omega
              have ha3 : rc ≠ bm := by omega
              have ha4 : rc ≠ bc := by omega
              have ha5 : at_ ≠ rc := by omega
              have ha6 : at_ ≠ rm := by omega
              have hrne := h8.ne
              have H8 := hide h8
              clear h8 p8 b5 b6 hm1 hm2 hm3 HMEM HP2 HB6 HAT6 y0 y1 y2
              go_wp2_with fail
              go_loopg [17] k (fun q iv wr => ∃ (j : Nat), q = k - j ∧ j ≤ k ∧ iv = .int .i64 j ∧ MemAt wr bm bc (nines k k) k ∧ RefAt wr rm rc (nines k j) 0 ∧ Blk wr at_ 34 #[.int .i64 base, .int .i64 F.n, .int .i64 F.slots, .int .i64 F.actors] ∧ Only S0 w wr)
              case atStart => exact ⟨0, rfl, Nat.zero_le _, rfl, HM.out, H8.out, HAT8.out, HP8.out⟩
              case round =>
                clear HM H8 HP8 HAT8
                obtain ⟨j, rfl, hk, rfl, hm, hr, hat, ho⟩ := hrel
                have cr0 := hr.mem.cellv (i := 0) rfl
                rw [nines_len] at cr0
                by_cases hlt : j < k
                · have cr1 := hr.cellN j (by rw [nines_len]; omega)
                  have f1 := hr.cells.frozen j
                  have HM := hide hm
                  have HR := hide hr
                  have HP := hide ho
                  have HAT := hide hat
                  clear hm hr ho hat
                  go_wp2_with fail
                  go_roundg (k - (j + 1))
                  case rel =>
                    exact ⟨j + 1, rfl, by omega, by go_num, ⟨HM.out.mem.far (p := ⟨rc, j, none⟩) (fun h => ha3 h.symm) _, HM.out.cells.far (p := ⟨rc, j, none⟩) (fun h => ha4 h.symm) _, HM.out.len, HM.out.tc0⟩, HR.out.stored j 99, HAT.out.far (p := ⟨rc, j, none⟩) ha5 _, HP.out.setNew j hr2 _⟩
                  case measure => omega
                · obtain hjk : j = k := by omega
                  subst hjk
                  have HM := hide hm
                  have HR := hide hr
                  have HP := hide ho
                  have z0 := hat.cellv (i := 0) rfl
                  have z1 := hat.cellv (i := 1) rfl
                  have z2 := hat.cellv (i := 2) rfl
                  have z3 := hat.cellv (i := 3) rfl
                  clear hm hr ho hat
                  go_wp2_with fail
                  have cr0 := HR.out.mem.cellv (i := 0) rfl
                  have hnm := HR.out.mem.lt
                  have HLEN : (nines j j).length = j := (nines_len _ _)
                  rw [HLEN] at cr0
                  have hrd := HR.out.drew.rd
                  rw [HLEN] at hrd
                  have HRD := hide hrd
                  clear hrd
                  have hbig : (nines j j).length ≤ 1000000 := by rw [HLEN]; omega
                  go_region_held3 (fun w' => w'.cell? ⟨rm, 0, none⟩ = some (.slice (some ⟨rc, 0, none⟩) j j)) (first | exact cr0 | exact d0 | exact f0) (first | (go_at_call 14; refine (All_any (HM.out.drew)).mono ?_; rintro e w4 ⟨v, rfl, hv, o4⟩; have d0 := (o4.cell (p := ⟨rm, 0, none⟩) hnm (fun h => h)).trans cr0; have HV := hide hv; have HO4 := hide o4; clear hv o4) | (go_at_call 13; refine (Same_yes (A := nines j j) hbig HV.out.rd (HRD.out.only0 HO4.out)).mono ?_; rintro e w5 ⟨rfl, o5⟩; have f0 := (o5.cell (p := ⟨rm, 0, none⟩) (Nat.lt_of_lt_of_le hnm HO4.out.size) (fun h => h)).trans d0; have HO5 := hide o5; clear o5))
                  go_wp2_with fail
                  go_ret
                  exact ⟨rfl, S0.below ((HP.out.drew.trans HO4.out).trans HO5.out)⟩
        · have HGS := hide (show csize s0 s1 s2 = 0 from by
            unfold csize
            rw [if_pos]
            by_cases a : 1 ≤ s0 ∧ s0 ≤ 8
            · by_cases b : 1 ≤ s1 ∧ s1 ≤ 64
              · have c' : ¬ (1 ≤ s2 ∧ s2 ≤ 64) := fun c' => hmay ⟨a, b, c'⟩
                exact .inr (.inl (by unfold gsize; rw [if_neg c']))
              · exact .inr (.inr (by unfold dsize; rw [if_neg b]))
            · exact .inl (by unfold bsize; rw [if_neg a]))
          have HBAD := hide (show csize s0 s1 s2 = 0 ∨ base < 0 ∨ (k : Int) - csize s0 s1 s2 < base from .inl HGS.out)
          rcases (show s0 < 1 ∨ (1 ≤ s0 ∧ 8 < s0) ∨ (1 ≤ s0 ∧ s0 ≤ 8 ∧ s1 < 1) ∨ (1 ≤ s0 ∧ s0 ≤ 8 ∧ 1 ≤ s1 ∧ 64 < s1) ∨ (1 ≤ s0 ∧ s0 ≤ 8 ∧ 1 ≤ s1 ∧ s1 ≤ 64 ∧ s2 < 1) ∨ (1 ≤ s0 ∧ s0 ≤ 8 ∧ 1 ≤ s1 ∧ s1 ≤ 64 ∧ 1 ≤ s2 ∧ 64 < s2) by omega) with g | ⟨g1, g⟩ | ⟨g1, g2, g⟩ | ⟨g1, g2, g3, g⟩ | ⟨g1, g2, g3, g4, g⟩ | ⟨g1, g2, g3, g4, g5, g⟩
          · clear hmay
            go_wp2_with fail
            refine (Len_any HM.out).mono ?_
            rintro e w3 ⟨rfl, rfl⟩
            rw [nines_len]
            go_wp2_with fail
            refine (CMake_bad base s0 s1 s2 HM.out (by rw [nines_len]; exact HBAD.out)).mono ?_
            rintro e w6 ⟨rfl, rfl⟩
            have HMEM := HM
            have HP2 := HO
            have HB6 := HB
            clear HM HO HB
            go_wp2_with fail
            refine (CMake_nil base s0 s1 s2 _).mono ?_
            rintro e w7 ⟨rfl, rfl⟩
            go_upto_region 13 with fail
            have oa := (Only.refl S0 wr).alloc (.cells #[.int .i64 base, .int .i64 s0, .int .i64 s1, .int .i64 s2] 34)
            have HAT := hide (Blk.new wr 34 #[.int .i64 base, .int .i64 s0, .int .i64 s1, .int .i64 s2])
            have HMEMA := hide (HMEM.out.only oa (fun h => h) (fun h => h))
            have HP3 := hide (HP2.out.trans oa)
            have HBA := hide (HB6.out.only oa (fun h => h))
            clear oa HMEM HP2 HB6 y0 y1 y2
            generalize wr.alloc (.cells #[.int .i64 base, .int .i64 s0, .int .i64 s1, .int .i64 s2] 34) = wA at *
            generalize wr.heap.size = at_ at *
            have y0 := HBA.out.cellv (i := 0) rfl
            have y1 := HBA.out.cellv (i := 1) rfl
            have y2 := HBA.out.cellv (i := 2) rfl
            have z0 := HAT.out.cellv (i := 0) rfl
            have z1 := HAT.out.cellv (i := 1) rfl
            have z2 := HAT.out.cellv (i := 2) rfl
            have z3 := HAT.out.cellv (i := 3) rfl
            go_wp2_with fail
            have HMEM := HMEMA
            have HP2 := HP3
            have HB6 := HBA
            have HAT6 := HAT
            refine (CSize_any _ _ _ _).mono ?_
            rintro e w8 ⟨rfl, rfl⟩
            rw [HGS.out]
            go_wp2_with fail
            refine (RefNew_any c).mono ?_
            rintro e w8 ⟨rm, rc, rfl, h8, p8, b5, b6⟩
            rw [HC.out] at h8
            have HM := hide (HMEM.out.only p8 (fun h => h) (fun h => h))
            have HP8 := hide (HP2.out.trans p8)
            have HAT8 := hide (HAT6.out.only p8 (fun h => h))
            have hr1 : w.heap.size ≤ rm := Nat.le_trans HP2.out.size b5
            have hr2 : w.heap.size ≤ rc := Nat.le_trans HP2.out.size b6
            have hm1 := HMEM.out.mem.lt
            have hm2 := HMEM.out.cells.lt
            have hm3 := Blk.lt HAT6.out
            have ha1 : rm ≠ bm := by omega
            have ha2 : rm ≠ bc := by omega
            have ha3 : rc ≠ bm := by omega
            have ha4 : rc ≠ bc := by omega
            have ha5 : at_ ≠ rc := by omega
            have ha6 : at_ ≠ rm := by omega
            have hrne := h8.ne
            have H8 := hide h8
            clear h8 p8 b5 b6 hm1 hm2 hm3 HMEM HP2 HB6 HAT6 y0 y1 y2
            go_wp2_with fail
            go_loopg [17] k (fun q iv wr => ∃ (j : Nat), q = k - j ∧ j ≤ k ∧ iv = .int .i64 j ∧ MemAt wr bm bc (nines k k) k ∧ RefAt wr rm rc (nines k j) 0 ∧ Blk wr at_ 34 #[.int .i64 base, .int .i64 s0, .int .i64 s1, .int .i64 s2] ∧ Only S0 w wr)
            case atStart => exact ⟨0, rfl, Nat.zero_le _, rfl, HM.out, H8.out, HAT8.out, HP8.out⟩
            case round =>
              clear HM H8 HP8 HAT8
              obtain ⟨j, rfl, hk, rfl, hm, hr, hat, ho⟩ := hrel
              have cr0 := hr.mem.cellv (i := 0) rfl
              rw [nines_len] at cr0
              by_cases hlt : j < k
              · have cr1 := hr.cellN j (by rw [nines_len]; omega)
                have f1 := hr.cells.frozen j
                have HM := hide hm
                have HR := hide hr
                have HP := hide ho
                have HAT := hide hat
                clear hm hr ho hat
                go_wp2_with fail
                go_roundg (k - (j + 1))
                case rel =>
                  exact ⟨j + 1, rfl, by omega, by go_num, ⟨HM.out.mem.far (p := ⟨rc, j, none⟩) (fun h => ha3 h.symm) _, HM.out.cells.far (p := ⟨rc, j, none⟩) (fun h => ha4 h.symm) _, HM.out.len, HM.out.tc0⟩, HR.out.stored j 99, HAT.out.far (p := ⟨rc, j, none⟩) ha5 _, HP.out.setNew j hr2 _⟩
                case measure => omega
              · obtain hjk : j = k := by omega
                subst hjk
                have HM := hide hm
                have HR := hide hr
                have HP := hide ho
                have z0 := hat.cellv (i := 0) rfl
                have z1 := hat.cellv (i := 1) rfl
                have z2 := hat.cellv (i := 2) rfl
                have z3 := hat.cellv (i := 3) rfl
                clear hm hr ho hat
                go_wp2_with fail
                have cr0 := HR.out.mem.cellv (i := 0) rfl
                have hnm := HR.out.mem.lt
                have HLEN : (nines j j).length = j := (nines_len _ _)
                rw [HLEN] at cr0
                have hrd := HR.out.drew.rd
                rw [HLEN] at hrd
                have HRD := hide hrd
                clear hrd
                have hbig : (nines j j).length ≤ 1000000 := by rw [HLEN]; omega
                go_region_held3 (fun w' => w'.cell? ⟨rm, 0, none⟩ = some (.slice (some ⟨rc, 0, none⟩) j j)) (first | exact cr0 | exact d0 | exact f0) (first | (go_at_call 14; refine (All_any (HM.out.drew)).mono ?_; rintro e w4 ⟨v, rfl, hv, o4⟩; have d0 := (o4.cell (p := ⟨rm, 0, none⟩) hnm (fun h => h)).trans cr0; have HV := hide hv; have HO4 := hide o4; clear hv o4) | (go_at_call 13; refine (Same_yes (A := nines j j) hbig HV.out.rd (HRD.out.only0 HO4.out)).mono ?_; rintro e w5 ⟨rfl, o5⟩; have f0 := (o5.cell (p := ⟨rm, 0, none⟩) (Nat.lt_of_lt_of_le hnm HO4.out.size) (fun h => h)).trans d0; have HO5 := hide o5; clear o5))
                go_wp2_with fail
                go_ret
                exact ⟨rfl, S0.below ((HP.out.drew.trans HO4.out).trans HO5.out)⟩
          · clear hmay
            go_wp2_with fail
            refine (Len_any HM.out).mono ?_
            rintro e w3 ⟨rfl, rfl⟩
            rw [nines_len]
            go_wp2_with fail
            refine (CMake_bad base s0 s1 s2 HM.out (by rw [nines_len]; exact HBAD.out)).mono ?_
            rintro e w6 ⟨rfl, rfl⟩
            have HMEM := HM
            have HP2 := HO
            have HB6 := HB
            clear HM HO HB
            go_wp2_with fail
            refine (CMake_nil base s0 s1 s2 _).mono ?_
            rintro e w7 ⟨rfl, rfl⟩
            go_upto_region 13 with fail
            have oa := (Only.refl S0 wr).alloc (.cells #[.int .i64 base, .int .i64 s0, .int .i64 s1, .int .i64 s2] 34)
            have HAT := hide (Blk.new wr 34 #[.int .i64 base, .int .i64 s0, .int .i64 s1, .int .i64 s2])
            have HMEMA := hide (HMEM.out.only oa (fun h => h) (fun h => h))
            have HP3 := hide (HP2.out.trans oa)
            have HBA := hide (HB6.out.only oa (fun h => h))
            clear oa HMEM HP2 HB6 y0 y1 y2
            generalize wr.alloc (.cells #[.int .i64 base, .int .i64 s0, .int .i64 s1, .int .i64 s2] 34) = wA at *
            generalize wr.heap.size = at_ at *
            have y0 := HBA.out.cellv (i := 0) rfl
            have y1 := HBA.out.cellv (i := 1) rfl
            have y2 := HBA.out.cellv (i := 2) rfl
            have z0 := HAT.out.cellv (i := 0) rfl
            have z1 := HAT.out.cellv (i := 1) rfl
            have z2 := HAT.out.cellv (i := 2) rfl
            have z3 := HAT.out.cellv (i := 3) rfl
            go_wp2_with fail
            have HMEM := HMEMA
            have HP2 := HP3
            have HB6 := HBA
            have HAT6 := HAT
            refine (CSize_any _ _ _ _).mono ?_
            rintro e w8 ⟨rfl, rfl⟩
            rw [HGS.out]
            go_wp2_with fail
            refine (RefNew_any c).mono ?_
            rintro e w8 ⟨rm, rc, rfl, h8, p8, b5, b6⟩
            rw [HC.out] at h8
            have HM := hide (HMEM.out.only p8 (fun h => h) (fun h => h))
            have HP8 := hide (HP2.out.trans p8)
            have HAT8 := hide (HAT6.out.only p8 (fun h => h))
            have hr1 : w.heap.size ≤ rm := Nat.le_trans HP2.out.size b5
            have hr2 : w.heap.size ≤ rc := Nat.le_trans HP2.out.size b6
            have hm1 := HMEM.out.mem.lt
            have hm2 := HMEM.out.cells.lt
            have hm3 := Blk.lt HAT6.out
            have ha1 : rm ≠ bm := by omega
            have ha2 : rm ≠ bc := by omega
            have ha3 : rc ≠ bm := by omega
            have ha4 : rc ≠ bc := by omega
            have ha5 : at_ ≠ rc := by omega
            have ha6 : at_ ≠ rm := by omega
            have hrne := h8.ne
            have H8 := hide h8
            clear h8 p8 b5 b6 hm1 hm2 hm3 HMEM HP2 HB6 HAT6 y0 y1 y2
            go_wp2_with fail
            go_loopg [17] k (fun q iv wr => ∃ (j : Nat), q = k - j ∧ j ≤ k ∧ iv = .int .i64 j ∧ MemAt wr bm bc (nines k k) k ∧ RefAt wr rm rc (nines k j) 0 ∧ Blk wr at_ 34 #[.int .i64 base, .int .i64 s0, .int .i64 s1, .int .i64 s2] ∧ Only S0 w wr)
            case atStart => exact ⟨0, rfl, Nat.zero_le _, rfl, HM.out, H8.out, HAT8.out, HP8.out⟩
            case round =>
              clear HM H8 HP8 HAT8
              obtain ⟨j, rfl, hk, rfl, hm, hr, hat, ho⟩ := hrel
              have cr0 := hr.mem.cellv (i := 0) rfl
              rw [nines_len] at cr0
              by_cases hlt : j < k
              · have cr1 := hr.cellN j (by rw [nines_len]; omega)
                have f1 := hr.cells.frozen j
                have HM := hide hm
                have HR := hide hr
                have HP := hide ho
                have HAT := hide hat
                clear hm hr ho hat
                go_wp2_with fail
                go_roundg (k - (j + 1))
                case rel =>
                  exact ⟨j + 1, rfl, by omega, by go_num, ⟨HM.out.mem.far (p := ⟨rc, j, none⟩) (fun h => ha3 h.symm) _, HM.out.cells.far (p := ⟨rc, j, none⟩) (fun h => ha4 h.symm) _, HM.out.len, HM.out.tc0⟩, HR.out.stored j 99, HAT.out.far (p := ⟨rc, j, none⟩) ha5 _, HP.out.setNew j hr2 _⟩
                case measure => omega
              · obtain hjk : j = k := by omega
                subst hjk
                have HM := hide hm
                have HR := hide hr
                have HP := hide ho
                have z0 := hat.cellv (i := 0) rfl
                have z1 := hat.cellv (i := 1) rfl
                have z2 := hat.cellv (i := 2) rfl
                have z3 := hat.cellv (i := 3) rfl
                clear hm hr ho hat
                go_wp2_with fail
                have cr0 := HR.out.mem.cellv (i := 0) rfl
                have hnm := HR.out.mem.lt
                have HLEN : (nines j j).length = j := (nines_len _ _)
                rw [HLEN] at cr0
                have hrd := HR.out.drew.rd
                rw [HLEN] at hrd
                have HRD := hide hrd
                clear hrd
                have hbig : (nines j j).length ≤ 1000000 := by rw [HLEN]; omega
                go_region_held3 (fun w' => w'.cell? ⟨rm, 0, none⟩ = some (.slice (some ⟨rc, 0, none⟩) j j)) (first | exact cr0 | exact d0 | exact f0) (first | (go_at_call 14; refine (All_any (HM.out.drew)).mono ?_; rintro e w4 ⟨v, rfl, hv, o4⟩; have d0 := (o4.cell (p := ⟨rm, 0, none⟩) hnm (fun h => h)).trans cr0; have HV := hide hv; have HO4 := hide o4; clear hv o4) | (go_at_call 13; refine (Same_yes (A := nines j j) hbig HV.out.rd (HRD.out.only0 HO4.out)).mono ?_; rintro e w5 ⟨rfl, o5⟩; have f0 := (o5.cell (p := ⟨rm, 0, none⟩) (Nat.lt_of_lt_of_le hnm HO4.out.size) (fun h => h)).trans d0; have HO5 := hide o5; clear o5))
                go_wp2_with fail
                go_ret
                exact ⟨rfl, S0.below ((HP.out.drew.trans HO4.out).trans HO5.out)⟩
          · clear hmay
            go_wp2_with fail
            refine (Len_any HM.out).mono ?_
            rintro e w3 ⟨rfl, rfl⟩
            rw [nines_len]
            go_wp2_with fail
            refine (CMake_bad base s0 s1 s2 HM.out (by rw [nines_len]; exact HBAD.out)).mono ?_
            rintro e w6 ⟨rfl, rfl⟩
            have HMEM := HM
            have HP2 := HO
            have HB6 := HB
            clear HM HO HB
            go_wp2_with fail
            refine (CMake_nil base s0 s1 s2 _).mono ?_
            rintro e w7 ⟨rfl, rfl⟩
            go_upto_region 13 with fail
            have oa := (Only.refl S0 wr).alloc (.cells #[.int .i64 base, .int .i64 s0, .int .i64 s1, .int .i64 s2] 34)
            have HAT := hide (Blk.new wr 34 #[.int .i64 base, .int .i64 s0, .int .i64 s1, .int .i64 s2])
            have HMEMA := hide (HMEM.out.only oa (fun h => h) (fun h => h))
            have HP3 := hide (HP2.out.trans oa)
            have HBA := hide (HB6.out.only oa (fun h => h))
            clear oa HMEM HP2 HB6 y0 y1 y2
            generalize wr.alloc (.cells #[.int .i64 base, .int .i64 s0, .int .i64 s1, .int .i64 s2] 34) = wA at *
            generalize wr.heap.size = at_ at *
            have y0 := HBA.out.cellv (i := 0) rfl
            have y1 := HBA.out.cellv (i := 1) rfl
            have y2 := HBA.out.cellv (i := 2) rfl
            have z0 := HAT.out.cellv (i := 0) rfl
            have z1 := HAT.out.cellv (i := 1) rfl
            have z2 := HAT.out.cellv (i := 2) rfl
            have z3 := HAT.out.cellv (i := 3) rfl
            go_wp2_with fail
            have HMEM := HMEMA
            have HP2 := HP3
            have HB6 := HBA
            have HAT6 := HAT
            refine (CSize_any _ _ _ _).mono ?_
            rintro e w8 ⟨rfl, rfl⟩
            rw [HGS.out]
            go_wp2_with fail
            refine (RefNew_any c).mono ?_
            rintro e w8 ⟨rm, rc, rfl, h8, p8, b5, b6⟩
            rw [HC.out] at h8
            have HM := hide (HMEM.out.only p8 (fun h => h) (fun h => h))
            have HP8 := hide (HP2.out.trans p8)
            have HAT8 := hide (HAT6.out.only p8 (fun h => h))
            have hr1 : w.heap.size ≤ rm := Nat.le_trans HP2.out.size b5
            have hr2 : w.heap.size ≤ rc := Nat.le_trans HP2.out.size b6
            have hm1 := HMEM.out.mem.lt
            have hm2 := HMEM.out.cells.lt
            have hm3 := Blk.lt HAT6.out
            have ha1 : rm ≠ bm := by omega
            have ha2 : rm ≠ bc := by omega
            have ha3 : rc ≠ bm := by omega
            have ha4 : rc ≠ bc := by omega
            have ha5 : at_ ≠ rc := by omega
            have ha6 : at_ ≠ rm := by omega
            have hrne := h8.ne
            have H8 := hide h8
            clear h8 p8 b5 b6 hm1 hm2 hm3 HMEM HP2 HB6 HAT6 y0 y1 y2
            go_wp2_with fail
            go_loopg [17] k (fun q iv wr => ∃ (j : Nat), q = k - j ∧ j ≤ k ∧ iv = .int .i64 j ∧ MemAt wr bm bc (nines k k) k ∧ RefAt wr rm rc (nines k j) 0 ∧ Blk wr at_ 34 #[.int .i64 base, .int .i64 s0, .int .i64 s1, .int .i64 s2] ∧ Only S0 w wr)
            case atStart => exact ⟨0, rfl, Nat.zero_le _, rfl, HM.out, H8.out, HAT8.out, HP8.out⟩
            case round =>
              clear HM H8 HP8 HAT8
              obtain ⟨j, rfl, hk, rfl, hm, hr, hat, ho⟩ := hrel
              have cr0 := hr.mem.cellv (i := 0) rfl
              rw [nines_len] at cr0
              by_cases hlt : j < k
              · have cr1 := hr.cellN j (by rw [nines_len]; omega)
                have f1 := hr.cells.frozen j
                have HM := hide hm
                have HR := hide hr
                have HP := hide ho
                have HAT := hide hat
                clear hm hr ho hat
                go_wp2_with fail
                go_roundg (k - (j + 1))
                case rel =>
                  exact ⟨j + 1, rfl, by omega, by go_num, ⟨HM.out.mem.far (p := ⟨rc, j, none⟩) (fun h => ha3 h.symm) _, HM.out.cells.far (p := ⟨rc, j, none⟩) (fun h => ha4 h.symm) _, HM.out.len, HM.out.tc0⟩, HR.out.stored j 99, HAT.out.far (p := ⟨rc, j, none⟩) ha5 _, HP.out.setNew j hr2 _⟩
                case measure => omega
              · obtain hjk : j = k := by omega
                subst hjk
                have HM := hide hm
                have HR := hide hr
                have HP := hide ho
                have z0 := hat.cellv (i := 0) rfl
                have z1 := hat.cellv (i := 1) rfl
                have z2 := hat.cellv (i := 2) rfl
                have z3 := hat.cellv (i := 3) rfl
                clear hm hr ho hat
                go_wp2_with fail
                have cr0 := HR.out.mem.cellv (i := 0) rfl
                have hnm := HR.out.mem.lt
                have HLEN : (nines j j).length = j := (nines_len _ _)
                rw [HLEN] at cr0
                have hrd := HR.out.drew.rd
                rw [HLEN] at hrd
                have HRD := hide hrd
                clear hrd
                have hbig : (nines j j).length ≤ 1000000 := by rw [HLEN]; omega
                go_region_held3 (fun w' => w'.cell? ⟨rm, 0, none⟩ = some (.slice (some ⟨rc, 0, none⟩) j j)) (first | exact cr0 | exact d0 | exact f0) (first | (go_at_call 14; refine (All_any (HM.out.drew)).mono ?_; rintro e w4 ⟨v, rfl, hv, o4⟩; have d0 := (o4.cell (p := ⟨rm, 0, none⟩) hnm (fun h => h)).trans cr0; have HV := hide hv; have HO4 := hide o4; clear hv o4) | (go_at_call 13; refine (Same_yes (A := nines j j) hbig HV.out.rd (HRD.out.only0 HO4.out)).mono ?_; rintro e w5 ⟨rfl, o5⟩; have f0 := (o5.cell (p := ⟨rm, 0, none⟩) (Nat.lt_of_lt_of_le hnm HO4.out.size) (fun h => h)).trans d0; have HO5 := hide o5; clear o5))
                go_wp2_with fail
                go_ret
                exact ⟨rfl, S0.below ((HP.out.drew.trans HO4.out).trans HO5.out)⟩
          · clear hmay
            go_wp2_with fail
            refine (Len_any HM.out).mono ?_
            rintro e w3 ⟨rfl, rfl⟩
            rw [nines_len]
            go_wp2_with fail
            refine (CMake_bad base s0 s1 s2 HM.out (by rw [nines_len]; exact HBAD.out)).mono ?_
            rintro e w6 ⟨rfl, rfl⟩
            have HMEM := HM
            have HP2 := HO
            have HB6 := HB
            clear HM HO HB
            go_wp2_with fail
            refine (CMake_nil base s0 s1 s2 _).mono ?_
            rintro e w7 ⟨rfl, rfl⟩
            go_upto_region 13 with fail
            have oa := (Only.refl S0 wr).alloc (.cells #[.int .i64 base, .int .i64 s0, .int .i64 s1, .int .i64 s2] 34)
            have HAT := hide (Blk.new wr 34 #[.int .i64 base, .int .i64 s0, .int .i64 s1, .int .i64 s2])
            have HMEMA := hide (HMEM.out.only oa (fun h => h) (fun h => h))
            have HP3 := hide (HP2.out.trans oa)
            have HBA := hide (HB6.out.only oa (fun h => h))
            clear oa HMEM HP2 HB6 y0 y1 y2
            generalize wr.alloc (.cells #[.int .i64 base, .int .i64 s0, .int .i64 s1, .int .i64 s2] 34) = wA at *
            generalize wr.heap.size = at_ at *
            have y0 := HBA.out.cellv (i := 0) rfl
            have y1 := HBA.out.cellv (i := 1) rfl
            have y2 := HBA.out.cellv (i := 2) rfl
            have z0 := HAT.out.cellv (i := 0) rfl
            have z1 := HAT.out.cellv (i := 1) rfl
            have z2 := HAT.out.cellv (i := 2) rfl
            have z3 := HAT.out.cellv (i := 3) rfl
            go_wp2_with fail
            have HMEM := HMEMA
            have HP2 := HP3
            have HB6 := HBA
            have HAT6 := HAT
            refine (CSize_any _ _ _ _).mono ?_
            rintro e w8 ⟨rfl, rfl⟩
            rw [HGS.out]
            go_wp2_with fail
            refine (RefNew_any c).mono ?_
            rintro e w8 ⟨rm, rc, rfl, h8, p8, b5, b6⟩
            rw [HC.out] at h8
            have HM := hide (HMEM.out.only p8 (fun h => h) (fun h => h))
            have HP8 := hide (HP2.out.trans p8)
            have HAT8 := hide (HAT6.out.only p8 (fun h => h))
            have hr1 : w.heap.size ≤ rm := Nat.le_trans HP2.out.size b5
            have hr2 : w.heap.size ≤ rc := Nat.le_trans HP2.out.size b6
            have hm1 := HMEM.out.mem.lt
            have hm2 := HMEM.out.cells.lt
            have hm3 := Blk.lt HAT6.out
            have ha1 : rm ≠ bm := by omega
            have ha2 : rm ≠ bc := by omega
            have ha3 : rc ≠ bm := by omega
            have ha4 : rc ≠ bc := by omega
            have ha5 : at_ ≠ rc := by omega
            have ha6 : at_ ≠ rm := by omega
            have hrne := h8.ne
            have H8 := hide h8
            clear h8 p8 b5 b6 hm1 hm2 hm3 HMEM HP2 HB6 HAT6 y0 y1 y2
            go_wp2_with fail
            go_loopg [17] k (fun q iv wr => ∃ (j : Nat), q = k - j ∧ j ≤ k ∧ iv = .int .i64 j ∧ MemAt wr bm bc (nines k k) k ∧ RefAt wr rm rc (nines k j) 0 ∧ Blk wr at_ 34 #[.int .i64 base, .int .i64 s0, .int .i64 s1, .int .i64 s2] ∧ Only S0 w wr)
            case atStart => exact ⟨0, rfl, Nat.zero_le _, rfl, HM.out, H8.out, HAT8.out, HP8.out⟩
            case round =>
              clear HM H8 HP8 HAT8
              obtain ⟨j, rfl, hk, rfl, hm, hr, hat, ho⟩ := hrel
              have cr0 := hr.mem.cellv (i := 0) rfl
              rw [nines_len] at cr0
              by_cases hlt : j < k
              · have cr1 := hr.cellN j (by rw [nines_len]; omega)
                have f1 := hr.cells.frozen j
                have HM := hide hm
                have HR := hide hr
                have HP := hide ho
                have HAT := hide hat
                clear hm hr ho hat
                go_wp2_with fail
                go_roundg (k - (j + 1))
                case rel =>
                  exact ⟨j + 1, rfl, by omega, by go_num, ⟨HM.out.mem.far (p := ⟨rc, j, none⟩) (fun h => ha3 h.symm) _, HM.out.cells.far (p := ⟨rc, j, none⟩) (fun h => ha4 h.symm) _, HM.out.len, HM.out.tc0⟩, HR.out.stored j 99, HAT.out.far (p := ⟨rc, j, none⟩) ha5 _, HP.out.setNew j hr2 _⟩
                case measure => omega
              · obtain hjk : j = k := by omega
                subst hjk
                have HM := hide hm
                have HR := hide hr
                have HP := hide ho
                have z0 := hat.cellv (i := 0) rfl
                have z1 := hat.cellv (i := 1) rfl
                have z2 := hat.cellv (i := 2) rfl
                have z3 := hat.cellv (i := 3) rfl
                clear hm hr ho hat
                go_wp2_with fail
                have cr0 := HR.out.mem.cellv (i := 0) rfl
                have hnm := HR.out.mem.lt
                have HLEN : (nines j j).length = j := (nines_len _ _)
                rw [HLEN] at cr0
                have hrd := HR.out.drew.rd
                rw [HLEN] at hrd
                have HRD := hide hrd
                clear hrd
                have hbig : (nines j j).length ≤ 1000000 := by rw [HLEN]; omega
                go_region_held3 (fun w' => w'.cell? ⟨rm, 0, none⟩ = some (.slice (some ⟨rc, 0, none⟩) j j)) (first | exact cr0 | exact d0 | exact f0) (first | (go_at_call 14; refine (All_any (HM.out.drew)).mono ?_; rintro e w4 ⟨v, rfl, hv, o4⟩; have d0 := (o4.cell (p := ⟨rm, 0, none⟩) hnm (fun h => h)).trans cr0; have HV := hide hv; have HO4 := hide o4; clear hv o4) | (go_at_call 13; refine (Same_yes (A := nines j j) hbig HV.out.rd (HRD.out.only0 HO4.out)).mono ?_; rintro e w5 ⟨rfl, o5⟩; have f0 := (o5.cell (p := ⟨rm, 0, none⟩) (Nat.lt_of_lt_of_le hnm HO4.out.size) (fun h => h)).trans d0; have HO5 := hide o5; clear o5))
                go_wp2_with fail
                go_ret
                exact ⟨rfl, S0.below ((HP.out.drew.trans HO4.out).trans HO5.out)⟩
          · clear hmay
            go_wp2_with fail
            refine (Len_any HM.out).mono ?_
            rintro e w3 ⟨rfl, rfl⟩
            rw [nines_len]
            go_wp2_with fail
            refine (CMake_bad base s0 s1 s2 HM.out (by rw [nines_len]; exact HBAD.out)).mono ?_
            rintro e w6 ⟨rfl, rfl⟩
            have HMEM := HM
            have HP2 := HO
            have HB6 := HB
            clear HM HO HB
            go_wp2_with fail
            refine (CMake_nil base s0 s1 s2 _).mono ?_
            rintro e w7 ⟨rfl, rfl⟩
            go_upto_region 13 with fail
            have oa := (Only.refl S0 wr).alloc (.cells #[.int .i64 base, .int .i64 s0, .int .i64 s1, .int .i64 s2] 34)
            have HAT := hide (Blk.new wr 34 #[.int .i64 base, .int .i64 s0, .int .i64 s1, .int .i64 s2])
            have HMEMA := hide (HMEM.out.only oa (fun h => h) (fun h => h))
            have HP3 := hide (HP2.out.trans oa)
            have HBA := hide (HB6.out.only oa (fun h => h))
            clear oa HMEM HP2 HB6 y0 y1 y2
            generalize wr.alloc (.cells #[.int .i64 base, .int .i64 s0, .int .i64 s1, .int .i64 s2] 34) = wA at *
            generalize wr.heap.size = at_ at *
            have y0 := HBA.out.cellv (i := 0) rfl
            have y1 := HBA.out.cellv (i := 1) rfl
            have y2 := HBA.out.cellv (i := 2) rfl
            have z0 := HAT.out.cellv (i := 0) rfl
            have z1 := HAT.out.cellv (i := 1) rfl
            have z2 := HAT.out.cellv (i := 2) rfl
            have z3 := HAT.out.cellv (i := 3) rfl
            go_wp2_with fail
            have HMEM := HMEMA
            have HP2 := HP3
            have HB6 := HBA
            have HAT6 := HAT
            refine (CSize_any _ _ _ _).mono ?_
            rintro e w8 ⟨rfl, rfl⟩
            rw [HGS.out]
            go_wp2_with fail
            refine (RefNew_any c).mono ?_
            rintro e w8 ⟨rm, rc, rfl, h8, p8, b5, b6⟩
            rw [HC.out] at h8
            have HM := hide (HMEM.out.only p8 (fun h => h) (fun h => h))
            have HP8 := hide (HP2.out.trans p8)
            have HAT8 := hide (HAT6.out.only p8 (fun h => h))
            have hr1 : w.heap.size ≤ rm := Nat.le_trans HP2.out.size b5
            have hr2 : w.heap.size ≤ rc := Nat.le_trans HP2.out.size b6
            have hm1 := HMEM.out.mem.lt
            have hm2 := HMEM.out.cells.lt
            have hm3 := Blk.lt HAT6.out
            have ha1 : rm ≠ bm := by omega
            have ha2 : rm ≠ bc := by omega
            have ha3 : rc ≠ bm := by omega
            have ha4 : rc ≠ bc := by omega
            have ha5 : at_ ≠ rc := by omega
            have ha6 : at_ ≠ rm := by omega
            have hrne := h8.ne
            have H8 := hide h8
            clear h8 p8 b5 b6 hm1 hm2 hm3 HMEM HP2 HB6 HAT6 y0 y1 y2
            go_wp2_with fail
            go_loopg [17] k (fun q iv wr => ∃ (j : Nat), q = k - j ∧ j ≤ k ∧ iv = .int .i64 j ∧ MemAt wr bm bc (nines k k) k ∧ RefAt wr rm rc (nines k j) 0 ∧ Blk wr at_ 34 #[.int .i64 base, .int .i64 s0, .int .i64 s1, .int .i64 s2] ∧ Only S0 w wr)
            case atStart => exact ⟨0, rfl, Nat.zero_le _, rfl, HM.out, H8.out, HAT8.out, HP8.out⟩
            case round =>
              clear HM H8 HP8 HAT8
              obtain ⟨j, rfl, hk, rfl, hm, hr, hat, ho⟩ := hrel
              have cr0 := hr.mem.cellv (i := 0) rfl
              rw [nines_len] at cr0
              by_cases hlt : j < k
              · have cr1 := hr.cellN j (by rw [nines_len]; omega)
                have f1 := hr.cells.frozen j
                have HM := hide hm
                have HR := hide hr
                have HP := hide ho
                have HAT := hide hat
                clear hm hr ho hat
                go_wp2_with fail
                go_roundg (k - (j + 1))
                case rel =>
                  exact ⟨j + 1, rfl, by omega, by go_num, ⟨HM.out.mem.far (p := ⟨rc, j, none⟩) (fun h => ha3 h.symm) _, HM.out.cells.far (p := ⟨rc, j, none⟩) (fun h => ha4 h.symm) _, HM.out.len, HM.out.tc0⟩, HR.out.stored j 99, HAT.out.far (p := ⟨rc, j, none⟩) ha5 _, HP.out.setNew j hr2 _⟩
                case measure => omega
              · obtain hjk : j = k := by omega
                subst hjk
                have HM := hide hm
                have HR := hide hr
                have HP := hide ho
                have z0 := hat.cellv (i := 0) rfl
                have z1 := hat.cellv (i := 1) rfl
                have z2 := hat.cellv (i := 2) rfl
                have z3 := hat.cellv (i := 3) rfl
                clear hm hr ho hat
                go_wp2_with fail
                have cr0 := HR.out.mem.cellv (i := 0) rfl
                have hnm := HR.out.mem.lt
                have HLEN : (nines j j).length = j := (nines_len _ _)
                rw [HLEN] at cr0
                have hrd := HR.out.drew.rd
                rw [HLEN] at hrd
                have HRD := hide hrd
                clear hrd
                have hbig : (nines j j).length ≤ 1000000 := by rw [HLEN]; omega
                go_region_held3 (fun w' => w'.cell? ⟨rm, 0, none⟩ = some (.slice (some ⟨rc, 0, none⟩) j j)) (first | exact cr0 | exact d0 | exact f0) (first | (go_at_call 14; refine (All_any (HM.out.drew)).mono ?_; rintro e w4 ⟨v, rfl, hv, o4⟩; have d0 := (o4.cell (p := ⟨rm, 0, none⟩) hnm (fun h => h)).trans cr0; have HV := hide hv; have HO4 := hide o4; clear hv o4) | (go_at_call 13; refine (Same_yes (A := nines j j) hbig HV.out.rd (HRD.out.only0 HO4.out)).mono ?_; rintro e w5 ⟨rfl, o5⟩; have f0 := (o5.cell (p := ⟨rm, 0, none⟩) (Nat.lt_of_lt_of_le hnm HO4.out.size) (fun h => h)).trans d0; have HO5 := hide o5; clear o5))
                go_wp2_with fail
                go_ret
                exact ⟨rfl, S0.below ((HP.out.drew.trans HO4.out).trans HO5.out)⟩
          · clear hmay
            go_wp2_with fail
            refine (Len_any HM.out).mono ?_
            rintro e w3 ⟨rfl, rfl⟩
            rw [nines_len]
            go_wp2_with fail
            refine (CMake_bad base s0 s1 s2 HM.out (by rw [nines_len]; exact HBAD.out)).mono ?_
            rintro e w6 ⟨rfl, rfl⟩
            have HMEM := HM
            have HP2 := HO
            have HB6 := HB
            clear HM HO HB
            go_wp2_with fail
            refine (CMake_nil base s0 s1 s2 _).mono ?_
            rintro e w7 ⟨rfl, rfl⟩
            go_upto_region 13 with fail
            have oa := (Only.refl S0 wr).alloc (.cells #[.int .i64 base, .int .i64 s0, .int .i64 s1, .int .i64 s2] 34)
            have HAT := hide (Blk.new wr 34 #[.int .i64 base, .int .i64 s0, .int .i64 s1, .int .i64 s2])
            have HMEMA := hide (HMEM.out.only oa (fun h => h) (fun h => h))
            have HP3 := hide (HP2.out.trans oa)
            have HBA := hide (HB6.out.only oa (fun h => h))
            clear oa HMEM HP2 HB6 y0 y1 y2
            generalize wr.alloc (.cells #[.int .i64 base, .int .i64 s0, .int .i64 s1, .int .i64 s2] 34) = wA at *
            generalize wr.heap.size = at_ at *
            have y0 := HBA.out.cellv (i := 0) rfl
            have y1 := HBA.out.cellv (i := 1) rfl
            have y2 := HBA.out.cellv (i := 2) rfl
            have z0 := HAT.out.cellv (i := 0) rfl
            have z1 := HAT.out.cellv (i := 1) rfl
            have z2 := HAT.out.cellv (i := 2) rfl
            have z3 := HAT.out.cellv (i := 3) rfl
            go_wp2_with fail
            have HMEM := HMEMA
            have HP2 := HP3
            have HB6 := HBA
            have HAT6 := HAT
            refine (CSize_any _ _ _ _).mono ?_
            rintro e w8 ⟨rfl, rfl⟩
            rw [HGS.out]
            go_wp2_with fail
            refine (RefNew_any c).mono ?_
            rintro e w8 ⟨rm, rc, rfl, h8, p8, b5, b6⟩
            rw [HC.out] at h8
            have HM := hide (HMEM.out.only p8 (fun h => h) (fun h => h))
            have HP8 := hide (HP2.out.trans p8)
            have HAT8 := hide (HAT6.out.only p8 (fun h => h))
            have hr1 : w.heap.size ≤ rm := Nat.le_trans HP2.out.size b5
            have hr2 : w.heap.size ≤ rc := Nat.le_trans HP2.out.size b6
            have hm1 := HMEM.out.mem.lt
            have hm2 := HMEM.out.cells.lt
            have hm3 := Blk.lt HAT6.out
            have ha1 : rm ≠ bm := by omega
            have ha2 : rm ≠ bc := by omega
            have ha3 : rc ≠ bm := by omega
            have ha4 : rc ≠ bc := by omega
            have ha5 : at_ ≠ rc := by omega
            have ha6 : at_ ≠ rm := by omega
            have hrne := h8.ne
            have H8 := hide h8
            clear h8 p8 b5 b6 hm1 hm2 hm3 HMEM HP2 HB6 HAT6 y0 y1 y2
            go_wp2_with fail
            go_loopg [17] k (fun q iv wr => ∃ (j : Nat), q = k - j ∧ j ≤ k ∧ iv = .int .i64 j ∧ MemAt wr bm bc (nines k k) k ∧ RefAt wr rm rc (nines k j) 0 ∧ Blk wr at_ 34 #[.int .i64 base, .int .i64 s0, .int .i64 s1, .int .i64 s2] ∧ Only S0 w wr)
            case atStart => exact ⟨0, rfl, Nat.zero_le _, rfl, HM.out, H8.out, HAT8.out, HP8.out⟩
            case round =>
              clear HM H8 HP8 HAT8
              obtain ⟨j, rfl, hk, rfl, hm, hr, hat, ho⟩ := hrel
              have cr0 := hr.mem.cellv (i := 0) rfl
              rw [nines_len] at cr0
              by_cases hlt : j < k
              · have cr1 := hr.cellN j (by rw [nines_len]; omega)
                have f1 := hr.cells.frozen j
                have HM := hide hm
                have HR := hide hr
                have HP := hide ho
                have HAT := hide hat
                clear hm hr ho hat
                go_wp2_with fail
                go_roundg (k - (j + 1))
                case rel =>
                  exact ⟨j + 1, rfl, by omega, by go_num, ⟨HM.out.mem.far (p := ⟨rc, j, none⟩) (fun h => ha3 h.symm) _, HM.out.cells.far (p := ⟨rc, j, none⟩) (fun h => ha4 h.symm) _, HM.out.len, HM.out.tc0⟩, HR.out.stored j 99, HAT.out.far (p := ⟨rc, j, none⟩) ha5 _, HP.out.setNew j hr2 _⟩
                case measure => omega
              · obtain hjk : j = k := by omega
                subst hjk
                have HM := hide hm
                have HR := hide hr
                have HP := hide ho
                have z0 := hat.cellv (i := 0) rfl
                have z1 := hat.cellv (i := 1) rfl
                have z2 := hat.cellv (i := 2) rfl
                have z3 := hat.cellv (i := 3) rfl
                clear hm hr ho hat
                go_wp2_with fail
                have cr0 := HR.out.mem.cellv (i := 0) rfl
                have hnm := HR.out.mem.lt
                have HLEN : (nines j j).length = j := (nines_len _ _)
                rw [HLEN] at cr0
                have hrd := HR.out.drew.rd
                rw [HLEN] at hrd
                have HRD := hide hrd
                clear hrd
                have hbig : (nines j j).length ≤ 1000000 := by rw [HLEN]; omega
                go_region_held3 (fun w' => w'.cell? ⟨rm, 0, none⟩ = some (.slice (some ⟨rc, 0, none⟩) j j)) (first | exact cr0 | exact d0 | exact f0) (first | (go_at_call 14; refine (All_any (HM.out.drew)).mono ?_; rintro e w4 ⟨v, rfl, hv, o4⟩; have d0 := (o4.cell (p := ⟨rm, 0, none⟩) hnm (fun h => h)).trans cr0; have HV := hide hv; have HO4 := hide o4; clear hv o4) | (go_at_call 13; refine (Same_yes (A := nines j j) hbig HV.out.rd (HRD.out.only0 HO4.out)).mono ?_; rintro e w5 ⟨rfl, o5⟩; have f0 := (o5.cell (p := ⟨rm, 0, none⟩) (Nat.lt_of_lt_of_le hnm HO4.out.size) (fun h => h)).trans d0; have HO5 := hide o5; clear o5))
                go_wp2_with fail
                go_ret
                exact ⟨rfl, S0.below ((HP.out.drew.trans HO4.out).trans HO5.out)⟩
end Go.Proofs.YtdoaipjdldknaaaGreat
