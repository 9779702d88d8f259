/-
  GateOnce, the walk.
-/
import Derived.Test.YtjjjjbfblhadnaaGateR2
import Derived.Test.YtjjjjbfblhadnaaAlive5
namespace Go.Proofs.Ytjjjjbfblhadnaa
open Go.RowKit
set_option linter.unusedVariables false

theorem take_next {l : List Int} {j : Nat} (h : j < l.length) : l.take (j + 1) = l.take j ++ [l.getD j 0] := by
  rw [List.take_succ_eq_append_getElem h]
  simp [List.getD, h]
def cntK (TK : Nat → List Int) (v : Int) (k : Nat) : Nat := (if 0 < k then (TK 0).count v else 0) + (if 1 < k then (TK 1).count v else 0)
/-- What a crowd's slice is, to be read. -/
theorem slice_of {w : World} {B : Nat} {v : Value} {l : List Int} (h : Sl w B 28 v (u64s l)) : ∃ a c, v = .slice a l.length c ∧ (l.length ≠ 0 → ∃ g off, a = some ⟨g, off, none⟩ ∧ g < w.heap.size ∧ ∀ i, i < l.length → w.cell? ⟨g, off + i, none⟩ = some (.int .u64 (l.getD i 0))) := by
  obtain ⟨a, c, hv, hc⟩ := h.rd
  rw [u64s_len] at hv hc
  refine ⟨a, c, hv, fun hn => ?_⟩
  obtain ⟨g, off, ha, hg, hx⟩ := hc hn
  exact ⟨g, off, ha, hg, fun i hi => hx i _ (u64s_get hi)⟩

set_option maxRecDepth 100000 in
set_option maxHeartbeats 4000000 in
theorem gateOnce_walk (a0 : Int) (a1 : Option Addr) (len1 cap1 : Nat) (x1 : List Int) (w : World) (w0 : (Lit.int .u8 a0).wf = true) (w1 : InInts .u8 w a1 len1 x1) :
    Calls Try.prog 4 #[.int .u8 a0, .slice a1 len1 cap1] w fun e w' => e = .returned (.bool true) ∧ Below w.heap.size w w' := by
  have k1 := (bounds_u8 w0).1
  have k2 := (bounds_u8 w0).2
  have HW := hide w1
  clear w0 w1
  obtain ⟨n, hn⟩ : ∃ n : Nat, 1 + a0 % 6 = (n : Int) := ⟨(1 + a0 % 6).toNat, by omega⟩
  have n1 : 1 ≤ n := by omega
  have n6 : n ≤ 6 := by omega
  go_enter Try.func4, Try.ntmps4
  go_wp2_with fail
  refine (alive5_any w).mono ?_
  rintro e wa ⟨rfl, p1⟩
  have P1 := hide p1
  clear p1
  go_wp2_with fail
  have HN := hide hn
  clear hn k1 k2
  have HW2 := hide (show InInts .u8 wa a1 len1 x1 from ⟨HW.out.length, HW.out.wf, HW.out.big, fun hne => by obtain ⟨g, off, ha, hg, hc⟩ := HW.out.cells hne; exact ⟨g, off, ha, Nat.lt_of_lt_of_le hg P1.out.size, fun i hi => (P1.out.cell (p := ⟨g, off + i, none⟩) hg (fun h => h)).trans (hc i hi)⟩⟩)
  refine (run_any n wa n1 n6 a1 len1 cap1 x1 HW2.out).mono ?_
  rintro e wb ⟨v, rfl, cb, ob, nb, tb, bg, bm, bc, L, tc, o, bo, nx, vi, tv, IN, TK, T, H, s, rfl, hs, hs1, hTH, hno⟩
  have hnx : ∀ q, q < 2 → nx q ≤ 1000000 := fun q hq => by have := hs.nl q hq; omega
  obtain ⟨f1, f2⟩ := hs.cr.once hTH hno hnx
  have HF2 := hide f2
  have il := hs.il
  have kl0 := hs.kl 0 (by omega)
  have kl1 := hs.kl 1 (by omega)
  have HS := hide hs.cw
  have P2 := hide (P1.out.trans hs.on)
  obtain ⟨ai, ci, rfl, hri⟩ := slice_of hs.cw.inS
  obtain ⟨t0, d0, ht0, hr0⟩ := slice_of (hs.cw.tkS 0 (by omega))
  obtain ⟨t1, d1, ht1, hr1⟩ := slice_of (hs.cw.tkS 1 (by omega))
  have HRI := hide hri
  have HR0 := hide hr0
  have HR1 := hide hr1
  obtain ⟨li, hli⟩ : ∃ li, IN.length = li := ⟨_, rfl⟩
  obtain ⟨l0, hl0⟩ : ∃ l0, (TK 0).length = l0 := ⟨_, rfl⟩
  obtain ⟨l1, hl1⟩ : ∃ l1, (TK 1).length = l1 := ⟨_, rfl⟩
  rw [hli] at HRI il HS f1
  rw [hl0] at HR0 kl0 ht0 f1
  rw [hl1] at HR1 kl1 ht1 f1
  have hc3 := HS.out.cc3
  have hc4 := HS.out.cc4
  have hc5 := HS.out.tt0
  have hc6 := HS.out.tt1
  rw [ht0] at hc5
  rw [ht1] at hc6
  have hg1 := HS.out.c.lt
  have hg2 := HS.out.tks.lt
  have HLI := hide hli
  have HL0 := hide hl0
  have HL1 := hide hl1
  have F1 := hide f1
  have HCC := hide (And.intro hc3 (And.intro hc4 (And.intro hc5 hc6)))
  have hsum : (l0 : Int) + (l1 : Int) = (li : Int) := by omega
  have hbb : ((li : Int) != (l0 : Int) + (l1 : Int)) = false := by simp; omega
  have hww : IntKind.i64.wrap ((l0 : Int) + (l1 : Int)) = (l0 : Int) + (l1 : Int) := IntWalk.i64_in _ (by omega)
  clear hs hTH hno hnx f1 f2 hri hr0 hr1 hli hl0 hl1 ht0 ht1 hsum P1 HW HW2
  go_wp2_with fail
  go_quiet (fail)
  clear hc3 hc4 hc5 hc6 hww
  go_wp2_with fail
  go_loopg [6, 7, 8, 9] li (fun q iv nv kv jv wr => ∃ (i : Nat), q = li - i ∧ i ≤ li ∧ iv = .int .i64 i ∧ Only S0 wb wr)
  case atStart => exact ⟨0, rfl, by omega, rfl, (Only.refl S0 wb).drewN _⟩
  case round =>
  obtain ⟨i, rfl, hi, rfl, ho⟩ := hrel
  have PP := hide ho
  clear ho
  have c3 := (PP.out.cell (p := ⟨cb, 3, none⟩) hg1 (fun h => h)).trans HCC.out.1
  by_cases hil : i < li
  · obtain ⟨g, off, rfl, hgg, hxi⟩ := HRI.out (by omega)
    have HXI := hide hxi
    obtain ⟨v, hv⟩ : ∃ v, IN.getD i 0 = v := ⟨_, rfl⟩
    have hmem : v ∈ IN := by
      rw [← hv]
      have h9 : i < IN.length := by rw [HLI.out]; exact hil
      have : IN.getD i 0 = IN[i] := by simp [List.getD, h9]
      rw [this]
      exact List.getElem_mem h9
    have HV := hide hv
    have HONE := hide (HF2.out v hmem)
    have HCB := hide (show ∀ k, k < 3 → cntK TK v k ≤ 10000 from fun k hk => by
      have q1 := List.count_le_length (a := v) (l := TK 0)
      have q2 := List.count_le_length (a := v) (l := TK 1)
      rw [HL0.out] at q1
      rw [HL1.out] at q2
      unfold cntK
      split <;> split <;> omega)
    clear hxi hv hmem
    go_wp2_with fail
    clear c3
    go_loopg [7, 8, 9] 2 (fun q nv kv jv wr => ∃ (k : Nat), q = 2 - k ∧ k ≤ 2 ∧ kv = .int .i64 k ∧ nv = .int .i64 (cntK TK v k : Nat) ∧ Only S0 wb wr)
    case atStart => exact ⟨0, rfl, by omega, rfl, rfl, PP.out⟩
    case round =>
    clear PP
    obtain ⟨k, rfl, hk, rfl, rfl, ho⟩ := hrel
    have PP := hide ho
    clear ho
    by_cases hk2 : k < 2
    · have hk01 : k = 0 ∨ k = 1 := by omega
      clear hk hk2
      rcases hk01 with rfl | rfl
      · have cs := (PP.out.cell (p := ⟨cb, 4, none⟩) hg1 (fun h => h)).trans HCC.out.2.1
        have cv := (PP.out.cell (p := ⟨tb, 0, none⟩) hg2 (fun h => h)).trans HCC.out.2.2.1
        go_wp2_with fail
        clear cs cv
        obtain ⟨base, hbase⟩ : ∃ base, cntK TK v 0 = base := ⟨_, rfl⟩
        rw [hbase]
        have HBASE := hide hbase
        have hb1 : base ≤ 10000 := by rw [← hbase]; exact HCB.out 0 (by omega)
        clear hbase
        go_loopg [7, 9] l0 (fun q nv jv wr => ∃ (j : Nat), q = l0 - j ∧ j ≤ l0 ∧ jv = .int .i64 j ∧ nv = .int .i64 ((base + ((TK 0).take j).count v : Nat) : Int) ∧ Only S0 wb wr)
        case atStart => exact ⟨0, rfl, by omega, rfl, by simp, PP.out⟩
        case round =>
        clear PP
        obtain ⟨j, rfl, hj, rfl, rfl, ho⟩ := hrel
        have PP := hide ho
        clear ho
        obtain ⟨cj, hcj⟩ : ∃ cj, base + ((TK 0).take j).count v = cj := ⟨_, rfl⟩
        have hcj1 : cj ≤ 20000 := by rw [← hcj]; have := List.count_le_length (a := v) (l := (TK 0).take j); rw [List.length_take] at this; omega
        rw [hcj]
        have HCJ := hide hcj
        clear hcj
        have cs := (PP.out.cell (p := ⟨cb, 4, none⟩) hg1 (fun h => h)).trans HCC.out.2.1
        have cv := (PP.out.cell (p := ⟨tb, 0, none⟩) hg2 (fun h => h)).trans HCC.out.2.2.1
        by_cases hjl : j < l0
        · obtain ⟨g2, off2, rfl, hgg2, hx2⟩ := HR0.out (by omega)
          have ce := (PP.out.cell (p := ⟨g2, off2 + j, none⟩) hgg2 (fun h => h)).trans (hx2 j hjl)
          have ci3 := (PP.out.cell (p := ⟨cb, 3, none⟩) hg1 (fun h => h)).trans HCC.out.1
          have cei := (PP.out.cell (p := ⟨g, off + i, none⟩) hgg (fun h => h)).trans (HXI.out i hil)
          rw [HV.out] at cei
          have HX2 := hide hx2
          obtain ⟨y, hy⟩ : ∃ y, (TK 0).getD j 0 = y := ⟨_, rfl⟩
          rw [hy] at ce
          have HNX := hide (take_next (l := TK 0) (j := j) (by rw [HL0.out]; exact hjl))
          have HY := hide hy
          have hi0 : (0 : Int) ≤ i := by omega
          have hi1 : (i : Int) < li := by omega
          have hj0 : (0 : Int) ≤ j := by omega
          have hj1 : (j : Int) < l0 := by omega
          clear hx2 hy
          by_cases hyv : y = v
          · have hyb : (y == v) = true := by simpa using hyv
            have HYV := hide hyv
            clear hyv
            go_wp2_with fail
            go_quiet (fail)
            clear ce cei cs cv ci3
            go_wp2_with fail
            go_roundg (l0 - (j + 1))
            case rel =>
              refine ⟨j + 1, rfl, by omega, by go_num, ?_, PP.out.drewN _⟩
              rw [HNX.out, List.count_append, HY.out, HYV.out, show List.count v [v] = 1 by simp, ← HCJ.out]
              go_num
            case measure => omega
          · have hyb : (y == v) = false := by simpa using hyv
            have HYV := hide hyv
            clear hyv
            go_wp2_with fail
            go_quiet (fail)
            clear ce cei cs cv ci3
            go_wp2_with fail
            go_roundg (l0 - (j + 1))
            case rel =>
              refine ⟨j + 1, rfl, by omega, by go_num, ?_, PP.out.drewN _⟩
              rw [HNX.out, List.count_append, HY.out, show List.count v [y] = 0 from List.count_eq_zero.2 (by simpa using fun e => HYV.out (Eq.symm e)), ← HCJ.out, Nat.add_zero]
            case measure => omega
        obtain rfl : j = l0 := by omega
        go_wp2_with fail
        clear cs cv
        go_roundg (2 - (0 + 1))
        case rel =>
          refine ⟨0 + 1, rfl, by omega, rfl, ?_, PP.out⟩
          rw [← HCJ.out, ← HBASE.out, ← HL0.out, List.take_length]
          simp [cntK]
        case measure => omega
      · have cs := (PP.out.cell (p := ⟨cb, 4, none⟩) hg1 (fun h => h)).trans HCC.out.2.1
        have cv := (PP.out.cell (p := ⟨tb, 1, none⟩) hg2 (fun h => h)).trans HCC.out.2.2.2
        go_wp2_with fail
        clear cs cv
        obtain ⟨base, hbase⟩ : ∃ base, cntK TK v 1 = base := ⟨_, rfl⟩
        rw [hbase]
        have HBASE := hide hbase
        have hb1 : base ≤ 10000 := by rw [← hbase]; exact HCB.out 1 (by omega)
        clear hbase
        go_loopg [7, 9] l1 (fun q nv jv wr => ∃ (j : Nat), q = l1 - j ∧ j ≤ l1 ∧ jv = .int .i64 j ∧ nv = .int .i64 ((base + ((TK 1).take j).count v : Nat) : Int) ∧ Only S0 wb wr)
        case atStart => exact ⟨0, rfl, by omega, rfl, by simp, PP.out⟩
        case round =>
        clear PP
        obtain ⟨j, rfl, hj, rfl, rfl, ho⟩ := hrel
        have PP := hide ho
        clear ho
        obtain ⟨cj, hcj⟩ : ∃ cj, base + ((TK 1).take j).count v = cj := ⟨_, rfl⟩
        have hcj1 : cj ≤ 20000 := by rw [← hcj]; have := List.count_le_length (a := v) (l := (TK 1).take j); rw [List.length_take] at this; omega
        rw [hcj]
        have HCJ := hide hcj
        clear hcj
        have cs := (PP.out.cell (p := ⟨cb, 4, none⟩) hg1 (fun h => h)).trans HCC.out.2.1
        have cv := (PP.out.cell (p := ⟨tb, 1, none⟩) hg2 (fun h => h)).trans HCC.out.2.2.2
        by_cases hjl : j < l1
        · obtain ⟨g2, off2, rfl, hgg2, hx2⟩ := HR1.out (by omega)
          have ce := (PP.out.cell (p := ⟨g2, off2 + j, none⟩) hgg2 (fun h => h)).trans (hx2 j hjl)
          have ci3 := (PP.out.cell (p := ⟨cb, 3, none⟩) hg1 (fun h => h)).trans HCC.out.1
          have cei := (PP.out.cell (p := ⟨g, off + i, none⟩) hgg (fun h => h)).trans (HXI.out i hil)
          rw [HV.out] at cei
          have HX2 := hide hx2
          obtain ⟨y, hy⟩ : ∃ y, (TK 1).getD j 0 = y := ⟨_, rfl⟩
          rw [hy] at ce
          have HNX := hide (take_next (l := TK 1) (j := j) (by rw [HL1.out]; exact hjl))
          have HY := hide hy
          have hi0 : (0 : Int) ≤ i := by omega
          have hi1 : (i : Int) < li := by omega
          have hj0 : (0 : Int) ≤ j := by omega
          have hj1 : (j : Int) < l1 := by omega
          clear hx2 hy
          by_cases hyv : y = v
          · have hyb : (y == v) = true := by simpa using hyv
            have HYV := hide hyv
            clear hyv
            go_wp2_with fail
            go_quiet (fail)
            clear ce cei cs cv ci3
            go_wp2_with fail
            go_roundg (l1 - (j + 1))
            case rel =>
              refine ⟨j + 1, rfl, by omega, by go_num, ?_, PP.out.drewN _⟩
              rw [HNX.out, List.count_append, HY.out, HYV.out, show List.count v [v] = 1 by simp, ← HCJ.out]
              go_num
            case measure => omega
          · have hyb : (y == v) = false := by simpa using hyv
            have HYV := hide hyv
            clear hyv
            go_wp2_with fail
            go_quiet (fail)
            clear ce cei cs cv ci3
            go_wp2_with fail
            go_roundg (l1 - (j + 1))
            case rel =>
              refine ⟨j + 1, rfl, by omega, by go_num, ?_, PP.out.drewN _⟩
              rw [HNX.out, List.count_append, HY.out, show List.count v [y] = 0 from List.count_eq_zero.2 (by simpa using fun e => HYV.out (Eq.symm e)), ← HCJ.out, Nat.add_zero]
            case measure => omega
        obtain rfl : j = l1 := by omega
        go_wp2_with fail
        clear cs cv
        go_roundg (2 - (1 + 1))
        case rel =>
          refine ⟨1 + 1, rfl, by omega, rfl, ?_, PP.out⟩
          rw [← HCJ.out, ← HBASE.out, ← HL1.out, List.take_length]
          simp [cntK]
        case measure => omega
    obtain rfl : k = 2 := by omega
    have hone : ((cntK TK v 2 : Nat) : Int) = 1 := by
      have : cntK TK v 2 = 1 := HONE.out
      rw [this]; rfl
    rw [hone]
    clear hone
    go_wp2_with fail
    go_roundg (li - (i + 1))
    case rel => exact ⟨i + 1, rfl, by omega, by go_num, PP.out⟩
    case measure => omega
  go_wp2_with fail
  go_ret
  exact ⟨rfl, S0.below (P2.out.trans PP.out)⟩
end Go.Proofs.Ytjjjjbfblhadnaa
