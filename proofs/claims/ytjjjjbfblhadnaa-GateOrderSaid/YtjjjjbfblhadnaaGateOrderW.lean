/-
  GateOrder, the walk.
-/
import Derived.Test.YtjjjjbfblhadnaaGateR2
import Derived.Test.YtjjjjbfblhadnaaGateOnceW
namespace Go.Proofs.Ytjjjjbfblhadnaa
open Go.RowKit
set_option linter.unusedVariables false

def lastC (l : List Int) : Array Value := #[.int .u64 (lastv 0 l), .int .u64 (lastv 1 l)]
theorem lastC_set {l : List Int} {v : Int} {q : Nat} (hq : q < 2) (hv : v / 4294967296 = (q : Int)) : (lastC l).setIfInBounds q (.int .u64 v) = lastC (l ++ [v]) := by
  have : q = 0 ∨ q = 1 := by omega
  rcases this with rfl | rfl
  · unfold lastC
    rw [lastv_snoc, lastv_snoc, if_pos (by simpa using hv), if_neg (by rw [hv]; decide)]
    rfl
  · unfold lastC
    rw [lastv_snoc, lastv_snoc, if_neg (by rw [hv]; decide), if_pos (by simpa using hv)]
    rfl
set_option maxRecDepth 100000 in
set_option maxHeartbeats 4000000 in
theorem gateOrder_walk (a0 : Int) (a1 : Option Addr) (len1 cap1 : Nat) (x1 : List Int) (w : World) (w0 : (Lit.int .u8 a0).wf = true) (w1 : InInts .u8 w a1 len1 x1) :
    Calls Try.prog 5 #[.int .u8 a0, .slice a1 len1 cap1] w fun e w' => e = .returned (.bool true) ∧ Below w.heap.size w w' := by
  have k1 := (bounds_u8 w0).1
  have k2 := (bounds_u8 w0).2
  have HW := hide w1
  clear w0 w1
  obtain ⟨n, hn⟩ : ∃ n : Nat, 1 + a0 % 6 = (n : Int) := ⟨(1 + a0 % 6).toNat, by omega⟩
  have n1 : 1 ≤ n := by omega
  have n6 : n ≤ 6 := by omega
  go_enter Try.func5, Try.ntmps5
  go_wp2_with fail
  refine (alive5_any w).mono ?_
  rintro e wa ⟨rfl, p1⟩
  have P1 := hide p1
  clear p1
  go_wp2_with fail
  have HN := hide hn
  clear hn k1 k2
  have HW2 := hide (show InInts .u8 wa a1 len1 x1 from ⟨HW.out.length, HW.out.wf, HW.out.big, fun hne => by obtain ⟨g, off, ha, hg, hc⟩ := HW.out.cells hne; exact ⟨g, off, ha, Nat.lt_of_lt_of_le hg P1.out.size, fun i hi => (P1.out.cell (p := ⟨g, off + i, none⟩) hg (fun h => h)).trans (hc i hi)⟩⟩)
  refine (run_any n wa n1 n6 a1 len1 cap1 x1 HW2.out).mono ?_
  rintro e wb ⟨v, rfl, cb, ob, nb, tb, bg, bm, bc, L, tc, o, bo, nx, vi, tv, IN, TK, T, H, s, rfl, hs, hs1, hTH, hno⟩
  have hnx : ∀ q, q < 2 → nx q ≤ 1000000 := fun q hq => by have := hs.nl q hq; omega
  have il := hs.il
  have kl0 := hs.kl 0 (by omega)
  have kl1 := hs.kl 1 (by omega)
  have HORD := hide (fun (k j : Nat) (hk : k < 2) (hj : j < (TK k).length) => hs.cr.order hnx hk hj)
  have HS := hide hs.cw
  have P2 := hide (P1.out.trans hs.on)
  obtain ⟨t0, d0, ht0, hr0⟩ := slice_of (hs.cw.tkS 0 (by omega))
  obtain ⟨t1, d1, ht1, hr1⟩ := slice_of (hs.cw.tkS 1 (by omega))
  have HR0 := hide hr0
  have HR1 := hide hr1
  obtain ⟨l0, hl0⟩ : ∃ l0, (TK 0).length = l0 := ⟨_, rfl⟩
  obtain ⟨l1, hl1⟩ : ∃ l1, (TK 1).length = l1 := ⟨_, rfl⟩
  rw [hl0] at HR0 kl0 ht0
  rw [hl1] at HR1 kl1 ht1
  have hc4 := HS.out.cc4
  have hc5 := HS.out.tt0
  have hc6 := HS.out.tt1
  rw [ht0] at hc5
  rw [ht1] at hc6
  have hg1 := HS.out.c.lt
  have hg2 := HS.out.tks.lt
  have HL0 := hide hl0
  have HL1 := hide hl1
  have HCC := hide (And.intro hc4 (And.intro hc5 hc6))
  clear hs hTH hno hnx hr0 hr1 hl0 hl1 ht0 ht1 P1 HW HW2 hc4 hc5 hc6
  go_wp2_with fail
  go_loopg [6, 7, 8, 9] 2 (fun q kv lv jv pv wr => ∃ (k : Nat), q = 2 - k ∧ k ≤ 2 ∧ kv = .int .i64 k ∧ Only S0 wb wr)
  case atStart => exact ⟨0, rfl, by omega, rfl, Only.refl S0 wb⟩
  case round =>
  obtain ⟨k, rfl, hk, rfl, ho⟩ := hrel
  have PP := hide ho
  clear ho
  by_cases hk2 : k < 2
  · have hk01 : k = 0 ∨ k = 1 := by omega
    clear hk hk2
    rcases hk01 with rfl | rfl
    · have cs := (PP.out.cell (p := ⟨cb, 4, none⟩) hg1 (fun h => h)).trans HCC.out.1
      have cv := (PP.out.cell (p := ⟨tb, 0, none⟩) hg2 (fun h => h)).trans HCC.out.2.1
      go_wp2_with fail
      obtain ⟨gl, hgl⟩ : ∃ gl, wr.heap.size = gl := ⟨_, rfl⟩
      have hgl1 : wb.heap.size ≤ gl := by rw [← hgl]; exact PP.out.size
      have HB := hide (show Blk (wr.alloc (.cells #[.int .u64 0, .int .u64 0] 28)) gl 28 (lastC ((TK 0).take 0)) by rw [← hgl]; exact Blk.new wr _ _)
      have P3 := hide (PP.out.alloc (.cells #[.int .u64 0, .int .u64 0] 28))
      rw [hgl]
      generalize wr.alloc (.cells #[.int .u64 0, .int .u64 0] 28) = w3 at HB P3 ⊢
      clear cs cv PP hgl
      go_loopg [8, 9] l0 (fun q jv pv wr => ∃ (j : Nat), q = l0 - j ∧ j ≤ l0 ∧ jv = .int .i64 j ∧ Blk wr gl 28 (lastC ((TK 0).take j)) ∧ Only S0 wb wr)
      case atStart => exact ⟨0, rfl, by omega, rfl, HB.out, P3.out⟩
      case round =>
      clear HB P3
      obtain ⟨j, rfl, hj, rfl, hb, ho⟩ := hrel
      have PP := hide ho
      have HB := hide hb
      clear ho hb
      have cs := (PP.out.cell (p := ⟨cb, 4, none⟩) hg1 (fun h => h)).trans HCC.out.1
      have cv := (PP.out.cell (p := ⟨tb, 0, none⟩) hg2 (fun h => h)).trans HCC.out.2.1
      by_cases hjl : j < l0
      · obtain ⟨g2, off2, rfl, hgg2, hx2⟩ := HR0.out (by omega)
        have ce := (PP.out.cell (p := ⟨g2, off2 + j, none⟩) hgg2 (fun h => h)).trans (hx2 j hjl)
        have HX2 := hide hx2
        obtain ⟨q, hq2, hqv, hlast, hy64⟩ := HORD.out 0 j (by omega) (by rw [HL0.out]; exact hjl)
        obtain ⟨y, hy⟩ : ∃ y, (TK 0).getD j 0 = y := ⟨_, rfl⟩
        rw [hy] at ce hqv hlast hy64
        have HNX := hide (take_next (l := TK 0) (j := j) (by rw [HL0.out]; exact hjl))
        have HY := hide hy
        have hj0 : (0 : Int) ≤ j := by omega
        have hj1 : (j : Int) < l0 := by omega
        clear hx2 hy
        have cl0 : wr.cell? ⟨gl, 0, none⟩ = some (.int .u64 (lastv 0 ((TK 0).take j))) := HB.out.cellv (i := 0) rfl
        have cl1 : wr.cell? ⟨gl, 1, none⟩ = some (.int .u64 (lastv 1 ((TK 0).take j))) := HB.out.cellv (i := 1) rfl
        have cf0 := HB.out.frozen 0
        have cf1 := HB.out.frozen 1
        have hq01 : q = 0 ∨ q = 1 := by omega
        rcases hq01 with rfl | rfl
        · obtain ⟨lv, hlv⟩ : ∃ lv, lastv 0 ((TK 0).take j) = lv := ⟨_, rfl⟩
          have hlast' : lv < y := by rw [← hlv]; exact hlast
          rw [hlv] at cl0
          have HQV := hide hqv
          clear hlv hlast
          go_wp2_with fail
          go_quiet (fail)
          go_wp2_with fail
          clear ce cs cv cl0 cl1 cf0 cf1
          go_roundg (l0 - (j + 1))
          case rel =>
            refine ⟨j + 1, rfl, by omega, by go_num, ?_, (PP.out.drewN _).setNew 0 hgl1 _⟩
            rw [HNX.out, HY.out, ← lastC_set (q := 0) (by omega) HQV.out]
            exact (HB.out.drewN _).set_ 0 (.int .u64 y)
          case measure => omega
        · obtain ⟨lv, hlv⟩ : ∃ lv, lastv 1 ((TK 0).take j) = lv := ⟨_, rfl⟩
          have hlast' : lv < y := by rw [← hlv]; exact hlast
          rw [hlv] at cl1
          have HQV := hide hqv
          clear hlv hlast
          go_wp2_with fail
          go_quiet (fail)
          go_wp2_with fail
          clear ce cs cv cl0 cl1 cf0 cf1
          go_roundg (l0 - (j + 1))
          case rel =>
            refine ⟨j + 1, rfl, by omega, by go_num, ?_, (PP.out.drewN _).setNew 1 hgl1 _⟩
            rw [HNX.out, HY.out, ← lastC_set (q := 1) (by omega) HQV.out]
            exact (HB.out.drewN _).set_ 1 (.int .u64 y)
          case measure => omega
      obtain rfl : j = l0 := by omega
      go_wp2_with fail
      clear cs cv
      go_roundg (2 - (0 + 1))
      case rel => exact ⟨0 + 1, rfl, by omega, rfl, PP.out⟩
      case measure => omega
    · have cs := (PP.out.cell (p := ⟨cb, 4, none⟩) hg1 (fun h => h)).trans HCC.out.1
      have cv := (PP.out.cell (p := ⟨tb, 1, none⟩) hg2 (fun h => h)).trans HCC.out.2.2
      go_wp2_with fail
      obtain ⟨gl, hgl⟩ : ∃ gl, wr.heap.size = gl := ⟨_, rfl⟩
      have hgl1 : wb.heap.size ≤ gl := by rw [← hgl]; exact PP.out.size
      have HB := hide (show Blk (wr.alloc (.cells #[.int .u64 0, .int .u64 0] 28)) gl 28 (lastC ((TK 1).take 0)) by rw [← hgl]; exact Blk.new wr _ _)
      have P3 := hide (PP.out.alloc (.cells #[.int .u64 0, .int .u64 0] 28))
      rw [hgl]
      generalize wr.alloc (.cells #[.int .u64 0, .int .u64 0] 28) = w3 at HB P3 ⊢
      clear cs cv PP hgl
      go_loopg [8, 9] l1 (fun q jv pv wr => ∃ (j : Nat), q = l1 - j ∧ j ≤ l1 ∧ jv = .int .i64 j ∧ Blk wr gl 28 (lastC ((TK 1).take j)) ∧ Only S0 wb wr)
      case atStart => exact ⟨0, rfl, by omega, rfl, HB.out, P3.out⟩
      case round =>
      clear HB P3
      obtain ⟨j, rfl, hj, rfl, hb, ho⟩ := hrel
      have PP := hide ho
      have HB := hide hb
      clear ho hb
      have cs := (PP.out.cell (p := ⟨cb, 4, none⟩) hg1 (fun h => h)).trans HCC.out.1
      have cv := (PP.out.cell (p := ⟨tb, 1, none⟩) hg2 (fun h => h)).trans HCC.out.2.2
      by_cases hjl : j < l1
      · obtain ⟨g2, off2, rfl, hgg2, hx2⟩ := HR1.out (by omega)
        have ce := (PP.out.cell (p := ⟨g2, off2 + j, none⟩) hgg2 (fun h => h)).trans (hx2 j hjl)
        have HX2 := hide hx2
        obtain ⟨q, hq2, hqv, hlast, hy64⟩ := HORD.out 1 j (by omega) (by rw [HL1.out]; exact hjl)
        obtain ⟨y, hy⟩ : ∃ y, (TK 1).getD j 0 = y := ⟨_, rfl⟩
        rw [hy] at ce hqv hlast hy64
        have HNX := hide (take_next (l := TK 1) (j := j) (by rw [HL1.out]; exact hjl))
        have HY := hide hy
        have hj0 : (0 : Int) ≤ j := by omega
        have hj1 : (j : Int) < l1 := by omega
        clear hx2 hy
        have cl0 : wr.cell? ⟨gl, 0, none⟩ = some (.int .u64 (lastv 0 ((TK 1).take j))) := HB.out.cellv (i := 0) rfl
        have cl1 : wr.cell? ⟨gl, 1, none⟩ = some (.int .u64 (lastv 1 ((TK 1).take j))) := HB.out.cellv (i := 1) rfl
        have cf0 := HB.out.frozen 0
        have cf1 := HB.out.frozen 1
        have hq01 : q = 0 ∨ q = 1 := by omega
        rcases hq01 with rfl | rfl
        · obtain ⟨lv, hlv⟩ : ∃ lv, lastv 0 ((TK 1).take j) = lv := ⟨_, rfl⟩
          have hlast' : lv < y := by rw [← hlv]; exact hlast
          rw [hlv] at cl0
          have HQV := hide hqv
          clear hlv hlast
          go_wp2_with fail
          go_quiet (fail)
          go_wp2_with fail
          clear ce cs cv cl0 cl1 cf0 cf1
          go_roundg (l1 - (j + 1))
          case rel =>
            refine ⟨j + 1, rfl, by omega, by go_num, ?_, (PP.out.drewN _).setNew 0 hgl1 _⟩
            rw [HNX.out, HY.out, ← lastC_set (q := 0) (by omega) HQV.out]
            exact (HB.out.drewN _).set_ 0 (.int .u64 y)
          case measure => omega
        · obtain ⟨lv, hlv⟩ : ∃ lv, lastv 1 ((TK 1).take j) = lv := ⟨_, rfl⟩
          have hlast' : lv < y := by rw [← hlv]; exact hlast
          rw [hlv] at cl1
          have HQV := hide hqv
          clear hlv hlast
          go_wp2_with fail
          go_quiet (fail)
          go_wp2_with fail
          clear ce cs cv cl0 cl1 cf0 cf1
          go_roundg (l1 - (j + 1))
          case rel =>
            refine ⟨j + 1, rfl, by omega, by go_num, ?_, (PP.out.drewN _).setNew 1 hgl1 _⟩
            rw [HNX.out, HY.out, ← lastC_set (q := 1) (by omega) HQV.out]
            exact (HB.out.drewN _).set_ 1 (.int .u64 y)
          case measure => omega
      obtain rfl : j = l1 := by omega
      go_wp2_with fail
      clear cs cv
      go_roundg (2 - (1 + 1))
      case rel => exact ⟨1 + 1, rfl, by omega, rfl, PP.out⟩
      case measure => omega
  obtain rfl : k = 2 := by omega
  go_wp2_with fail
  go_ret
  exact ⟨rfl, S0.below (P2.out.trans PP.out)⟩
end Go.Proofs.Ytjjjjbfblhadnaa
