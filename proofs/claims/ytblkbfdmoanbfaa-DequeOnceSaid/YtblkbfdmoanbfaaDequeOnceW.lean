/-
  DequeOnce, the walk.
-/
import Derived.Test.YtblkbfdmoanbfaaDeqL
import Derived.Test.YtblkbfdmoanbfaaAlive4
namespace Go.Proofs.Ytblkbfdmoanbfaa
open Go.RowKit
set_option linter.unusedVariables false

theorem info_int : (Try.prog.info? 3).map (fun i => (i.zero, i.size, i.bytes)) = some (some (.int .i64 0), 1, 8) := by kernel_rfl
def cntF (l : List Int) : Nat → Int := fun q => ((l.count (q : Int) : Nat) : Int)
theorem cntF_nil : cntF [] = fun _ => 0 := by funext q; simp [cntF]
theorem cntF_snoc (l : List Int) (m : Nat) : cntF (l ++ [(m : Int)]) = upd (cntF l) m (cntF l m + 1) := by
  funext q
  by_cases e : q = m
  · subst e
    rw [upd_same]
    simp [cntF, List.count_append]
  · rw [upd_ne _ _ e]
    have : List.count (q : Int) [(m : Int)] = 0 := List.count_eq_zero.2 (by simp; omega)
    simp [cntF, List.count_append, this]
theorem once_zero {ALL : List Int} (h : ALL.Nodup) {i m : Nat} (hi : i < ALL.length) (hm : ALL.getD i 0 = (m : Int)) : cntF (ALL.take i) m = 0 := by
  have := nodup_next h hi
  rw [hm] at this
  unfold cntF
  rw [this]
  rfl
theorem once_next {ALL : List Int} (h : ALL.Nodup) {i m k : Nat} (hi : i < ALL.length) (hm : ALL.getD i 0 = (m : Int)) : (ints k (cntF (ALL.take i))).setIfInBounds m (.int .i64 1) = ints k (cntF (ALL.take (i + 1))) := by
  rw [ints_set, list_next hi, hm, cntF_snoc, once_zero h hi hm]
  rfl
set_option maxRecDepth 100000 in
set_option maxHeartbeats 4000000 in
theorem dequeOnce_walk (a0 : Int) (a1 : Option Addr) (len1 cap1 : Nat) (x1 : List Int) (w : World) (w0 : (Lit.int .u8 a0).wf = true) (w1 : InInts .u8 w a1 len1 x1) :
    Calls Try.prog 4 #[.int .u8 a0, .slice a1 len1 cap1] w fun e w' => e = .returned (.bool true) ∧ Below w.heap.size w w' := by
  have k1 := (bounds_u8 w0).1
  have k2 := (bounds_u8 w0).2
  have HW := hide w1
  clear w0 w1
  obtain ⟨n, hn⟩ : ∃ n : Nat, 1 + a0 % 6 = (n : Int) := ⟨(1 + a0 % 6).toNat, by omega⟩
  have n1 : 1 ≤ n := by omega
  have n6 : n ≤ 6 := by omega
  go_enter Try.func4, Try.ntmps4
  go_wp2_with fail
  refine (alive4_any w).mono ?_
  rintro e wa ⟨rfl, p1⟩
  have P1 := hide p1
  clear p1
  go_wp2_with fail
  have HN := hide hn
  clear hn k1 k2
  have HW2 := hide (show InInts .u8 wa a1 len1 x1 from ⟨HW.out.length, HW.out.wf, HW.out.big, fun hne => by obtain ⟨g, off, ha, hg, hc⟩ := HW.out.cells hne; exact ⟨g, off, ha, Nat.lt_of_lt_of_le hg P1.out.size, fun i hi => (P1.out.cell (p := ⟨g, off + i, none⟩) hg (fun h => h)).trans (hc i hi)⟩⟩)
  refine (drun_any n wa n1 n6 a1 len1 cap1 x1 HW2.out).mono ?_
  rintro e wb ⟨v, rfl, gb, tb, bd, bm, bc, L, tc, o, bo, pu, nx, sv, XS, lost, most, T, Bt, s, rfl, hs, hs1, hov⟩
  have hperm : (XS 0).Perm (XS 1 ++ XS 2) := by have := hs.ga.perm; rw [List.append_nil] at this; exact this
  have hnd0 : (XS 0).Nodup := sorted_nodup hs.ga.insorted
  have hnd : (XS 1 ++ XS 2).Nodup := hperm.nodup_iff.1 hnd0
  have hrng : ∀ x ∈ XS 1 ++ XS 2, 1 ≤ x ∧ x ≤ (nx : Int) := fun x hx => hs.ga.rng x (hperm.mem_iff.2 hx)
  obtain ⟨ALL, hall⟩ : ∃ ALL, XS 1 ++ XS 2 = ALL := ⟨_, rfl⟩
  have hget1 : ∀ i, i < (XS 1).length → (XS 1).getD i 0 = ALL.getD i 0 := fun i hi => by rw [← hall]; simp only [List.getD]; rw [List.getElem?_append_left hi]
  have hget2 : ∀ i, (XS 1).length ≤ i → (XS 2).getD (i - (XS 1).length) 0 = ALL.getD i 0 := fun i hi => by rw [← hall]; simp only [List.getD]; rw [List.getElem?_append_right hi]
  have hlen : ALL.length = (XS 1).length + (XS 2).length := by rw [← hall, List.length_append]
  have hin : (XS 0).length = ALL.length := by rw [← hall]; exact hperm.length_eq
  have hone : ∀ i, i < (XS 0).length → ALL.count ((XS 0).getD i 0) = 1 ∧ 1 ≤ (XS 0).getD i 0 ∧ (XS 0).getD i 0 ≤ (nx : Int) := fun i hi => by
    have hm := getD_mem hi
    refine ⟨?_, hs.ga.rng _ hm⟩
    rw [← hall]
    exact nodup_one hnd (hperm.mem_iff.1 hm)
  rw [hall] at hnd hrng
  have xl0 := hs.xl 0 (by omega)
  have xl1 := hs.xl 1 (by omega)
  have xl2 := hs.xl 2 (by omega)
  have hnx := hs.nl
  have P2 := hide (P1.out.trans hs.on)
  obtain ⟨b0, d0, e0, r0⟩ := slice_of (hs.gw.sl 0 (by omega))
  obtain ⟨b1, d1, e1, r1⟩ := slice_of (hs.gw.sl 1 (by omega))
  obtain ⟨b2, d2, e2, r2⟩ := slice_of (hs.gw.sl 2 (by omega))
  have c3 := hs.gw.cc3
  have c4 := hs.gw.cc4
  have c5 := hs.gw.cc5
  have c7 := hs.gw.cc7
  rw [e0] at c4
  rw [e1] at c5
  rw [e2] at c7
  have hg1 := hs.gw.g.lt
  obtain ⟨l0, hl0⟩ : ∃ l0, (XS 0).length = l0 := ⟨_, rfl⟩
  obtain ⟨l1, hl1⟩ : ∃ l1, (XS 1).length = l1 := ⟨_, rfl⟩
  obtain ⟨l2, hl2⟩ : ∃ l2, (XS 2).length = l2 := ⟨_, rfl⟩
  rw [hl0] at c4 r0 xl0 hin hone
  rw [hl1] at c5 r1 xl1 hget1 hget2 hlen
  rw [hl2] at c7 r2 xl2 hlen
  have HR0 := hide r0
  have HR1 := hide r1
  have HR2 := hide r2
  have HND := hide hnd
  have HRNG := hide hrng
  have HG1 := hide hget1
  have HG2 := hide hget2
  have HLEN := hide hlen
  have HONE := hide hone
  have hsum : l0 = l1 + l2 := by omega
  have HCC := hide (And.intro c3 (And.intro c4 (And.intro c5 c7)))
  have hbb : ((l0 : Int) != (l1 : Int) + (l2 : Int)) = false := by simp; omega
  have hww : IntKind.i64.wrap ((l1 : Int) + (l2 : Int)) = (l1 : Int) + (l2 : Int) := IntWalk.i64_in _ (by omega)
  have HSUM := hide hsum
  have hm1 := make_flat_at 51 3 (.int .i64 0) 8 Try.underlying51 info_int rfl (nx + 1) ((nx : Int) + 1) (by omega) (by omega) (by omega)
  clear hs hov hperm hnd0 hnd hrng hall hget1 hget2 hlen hin hone r0 r1 r2 e0 e1 e2 hl0 hl1 hl2 hsum P1 HW HW2
  go_wp2_with fail
  go_quiet (fail)
  clear c4 c5 c7 hww hbb
  go_wp2_with fail
  clear hm1 c3
  go_loopg [7] (l1 + l2) (fun q iv wr => ∃ (i : Nat), q = l1 + l2 - i ∧ i ≤ l1 + l2 ∧ iv = .int .i64 i ∧ Only S0 wb wr ∧ Blk wr wb.heap.size 3 (ints (nx + 1) (cntF (ALL.take i))))
  case atStart =>
    refine ⟨0, rfl, by omega, rfl, ((Only.refl S0 wb).drewN _).alloc _, ?_⟩
    rw [List.take_zero, cntF_nil, ← ints_zeros]
    exact Blk.new_at (by simp)
  case round =>
  obtain ⟨i, rfl, hi, rfl, ho, hb⟩ := hrel
  have PP := hide ho
  have BB := hide hb
  clear ho hb
  have c5 := (PP.out.cell (p := ⟨gb, 5, none⟩) hg1 (fun h => h)).trans HCC.out.2.2.1
  have c7 := (PP.out.cell (p := ⟨gb, 7, none⟩) hg1 (fun h => h)).trans HCC.out.2.2.2
  by_cases hil : i < l1 + l2
  · obtain ⟨y, hy⟩ : ∃ y, ALL.getD i 0 = y := ⟨_, rfl⟩
    have hym := HRNG.out y (by rw [← hy]; exact getD_mem (by rw [HLEN.out]; exact hil))
    obtain ⟨m, rfl⟩ : ∃ m : Nat, y = (m : Int) := ⟨y.toNat, by omega⟩
    have HM := hide hy
    clear hy
    obtain ⟨m1, m2⟩ := hym
    have c3 := (PP.out.cell (p := ⟨gb, 3, none⟩) hg1 (fun h => h)).trans HCC.out.1
    have cs := BB.out.cellv (ints_get (cntF (ALL.take i)) (show m < nx + 1 by omega))
    rw [once_zero HND.out (by rw [HLEN.out]; exact hil) HM.out] at cs
    have cf := BB.out.frozen m
    have mm1 : (m : Int) < (nx : Int) + 1 := by omega
    by_cases hip : i < l1
    · obtain ⟨g, off, rfl, hgg, hxi⟩ := HR1.out (by omega)
      have ce := (PP.out.cell (p := ⟨g, off + i, none⟩) hgg (fun h => h)).trans (hxi i (by omega))
      rw [HG1.out i hip, HM.out] at ce
      have HXI := hide hxi
      clear hxi
      
      have hww : IntKind.i64.wrap ((l1 : Int) + (l2 : Int)) = (l1 : Int) + (l2 : Int) := IntWalk.i64_in _ (by omega)
      go_wp2_with fail
      go_quiet (fail)
      go_wp2_with fail
      
      clear ce c3 c5 c7 cs  hww
      go_roundg (l1 + l2 - (i + 1))
      case rel =>
        refine ⟨i + 1, rfl, by omega, by go_num, ?_, ?_⟩
        · exact (PP.out.drewN _).setNew m (Nat.le_refl _) _
        · have := (BB.out.drewN 0).set_ m (.int .i64 1)
          rw [once_next HND.out (by rw [HLEN.out]; omega) HM.out] at this
          exact this
      case measure => omega
    · obtain ⟨g, off, rfl, hgg, hxi⟩ := HR2.out (by omega)
      have ce := (PP.out.cell (p := ⟨g, off + (i - l1), none⟩) hgg (fun h => h)).trans (hxi (i - l1) (by omega))
      rw [HG2.out i (by omega), HM.out] at ce
      have HXI := hide hxi
      clear hxi
      have hj0 : (0 : Int) ≤ (i : Int) - l1 := by omega
      have hj1 : (i : Int) - l1 < l2 := by omega
      have hjt : ((i : Int) - l1).toNat = i - l1 := by omega
      have hjw : IntKind.i64.wrap ((i : Int) - l1) = (i : Int) - l1 := IntWalk.i64_in _ (by omega)
      have hww : IntKind.i64.wrap ((l1 : Int) + (l2 : Int)) = (l1 : Int) + (l2 : Int) := IntWalk.i64_in _ (by omega)
      
      go_wp2_with fail
      go_quiet (fail)
      go_wp2_with fail
      go_quiet (fail)
      go_wp2_with fail
      clear ce c3 c5 c7 cs hjt hjw hww
      go_roundg (l1 + l2 - (i + 1))
      case rel =>
        refine ⟨i + 1, rfl, by omega, by go_num, ?_, ?_⟩
        · exact (PP.out.drewN _).setNew m (Nat.le_refl _) _
        · have := (BB.out.drewN 0).set_ m (.int .i64 1)
          rw [once_next HND.out (by rw [HLEN.out]; omega) HM.out] at this
          exact this
      case measure => omega
  obtain rfl : i = l1 + l2 := by omega
  have BB2 := hide (show Blk _ wb.heap.size 3 (ints (nx + 1) (cntF ALL)) from by have := BB.out; rw [List.take_of_length_le (by rw [HLEN.out]; omega)] at this; exact this)
  clear BB
  have hww : IntKind.i64.wrap ((l1 : Int) + (l2 : Int)) = (l1 : Int) + (l2 : Int) := IntWalk.i64_in _ (by omega)
  go_wp2_with fail
  go_quiet (fail)
  clear c5 c7 hww
  go_wp2_with fail
  go_loopg [9] l0 (fun q iv wr => ∃ (i : Nat), q = l0 - i ∧ i ≤ l0 ∧ iv = .int .i64 i ∧ Only S0 wb wr ∧ Blk wr wb.heap.size 3 (ints (nx + 1) (cntF ALL)))
  case atStart => exact ⟨0, rfl, by omega, rfl, PP.out.drewN _, BB2.out.drewN _⟩
  case round =>
  clear PP BB2
  obtain ⟨i, rfl, hi, rfl, ho, hb⟩ := hrel
  have PP := hide ho
  have BB := hide hb
  clear ho hb
  have c4 := (PP.out.cell (p := ⟨gb, 4, none⟩) hg1 (fun h => h)).trans HCC.out.2.1
  by_cases hil : i < l0
  · obtain ⟨h1, h2, h3⟩ := HONE.out i hil
    obtain ⟨g, off, rfl, hgg, hxi⟩ := HR0.out (by omega)
    have ce := (PP.out.cell (p := ⟨g, off + i, none⟩) hgg (fun h => h)).trans (hxi i hil)
    obtain ⟨m, hm⟩ : ∃ m : Nat, (XS 0).getD i 0 = (m : Int) := ⟨((XS 0).getD i 0).toNat, by omega⟩
    rw [hm] at ce h1 h2 h3
    have cs := BB.out.cellv (ints_get (cntF ALL) (show m < nx + 1 by omega))
    rw [show cntF ALL m = 1 from by unfold cntF; rw [h1]; rfl] at cs
    have mm1 : (m : Int) < (nx : Int) + 1 := by omega
    have HXI := hide hxi
    clear hxi hm h1
    go_wp2_with fail
    clear ce cs c4
    go_roundg (l0 - (i + 1))
    case rel => exact ⟨i + 1, rfl, by omega, by go_num, PP.out, BB.out⟩
    case measure => omega
  go_wp2_with fail
  go_ret
  exact ⟨rfl, S0.below (P2.out.trans PP.out)⟩
end Go.Proofs.Ytblkbfdmoanbfaa
