/-
  DequeFirst, the walk.
-/
import Derived.Test.YtblkbfdmoanbfaaDeqL
import Derived.Test.YtblkbfdmoanbfaaAlive4
namespace Go.Proofs.Ytblkbfdmoanbfaa
open Go.RowKit
set_option linter.unusedVariables false

set_option maxRecDepth 100000 in
set_option maxHeartbeats 4000000 in
theorem dequeFirst_walk (a0 : Int) (a1 : Option Addr) (len1 cap1 : Nat) (x1 : List Int) (w : World) (w0 : (Lit.int .u8 a0).wf = true) (w1 : InInts .u8 w a1 len1 x1) :
    Calls Try.prog 5 #[.int .u8 a0, .slice a1 len1 cap1] w fun e w' => e = .returned (.bool true) ∧ Below w.heap.size w w' := by
  have k1 := (bounds_u8 w0).1
  have k2 := (bounds_u8 w0).2
  have HW := hide w1
  clear w0 w1
  obtain ⟨n, hn⟩ : ∃ n : Nat, 1 + a0 % 6 = (n : Int) := ⟨(1 + a0 % 6).toNat, by omega⟩
  have n1 : 1 ≤ n := by omega
  have n6 : n ≤ 6 := by omega
  go_enter Try.func5, Try.ntmps5
  go_wp2_with fail
  refine (alive4_any w).mono ?_
  rintro e wa ⟨rfl, p1⟩
  have P1 := hide p1
  clear p1
  go_wp2_with fail
  have HN := hide hn
  clear hn k1 k2
  have HW2 := hide (show InInts .u8 wa a1 len1 x1 from ⟨HW.out.length, HW.out.wf, HW.out.big, fun hne => by obtain ⟨g, off, ha, hg, hc⟩ := HW.out.cells hne; exact ⟨g, off, ha, Nat.lt_of_lt_of_le hg P1.out.size, fun i hi => (P1.out.cell (p := ⟨g, off + i, none⟩) hg (fun h => h)).trans (hc i hi)⟩⟩)
  refine (drun_any n wa n1 n6 a1 len1 cap1 x1 HW2.out).mono ?_
  rintro e wb ⟨v, rfl, gb, tb, bd, bm, bc, L, tc, o, bo, pu, nx, sv, XS, lost, most, T, Bt, s, rfl, hs, hs1, hov⟩
  have hso : (XS 2).Pairwise (· < ·) := by have := hs.ga.sorted; rw [List.append_nil] at this; exact this
  have HSO := hide hso
  have kl := hs.xl 2 (by omega)
  have P2 := hide (P1.out.trans hs.on)
  obtain ⟨a2, c2, h2, hr2⟩ := slice_of (hs.gw.sl 2 (by omega))
  have HR2 := hide hr2
  have hc7 := hs.gw.cc7
  rw [h2] at hc7
  have hg1 := hs.gw.g.lt
  obtain ⟨l2, hl2⟩ : ∃ l2, (XS 2).length = l2 := ⟨_, rfl⟩
  rw [hl2] at HR2 kl hc7
  have HL2 := hide hl2
  have HC7 := hide hc7
  clear hs hov hso hr2 h2 hc7 hl2 P1 HW HW2
  go_wp2_with fail
  go_loopg [6] l2 (fun q iv wr => ∃ (i : Nat), q = l2 + 1 - i ∧ 1 ≤ i ∧ i ≤ l2 + 1 ∧ iv = .int .i64 i ∧ Only S0 wb wr)
  case atStart => exact ⟨1, by omega, by omega, by omega, rfl, Only.refl S0 wb⟩
  case round =>
  obtain ⟨i, rfl, hi1, hi2, rfl, ho⟩ := hrel
  have PP := hide ho
  clear ho
  have c7 := (PP.out.cell (p := ⟨gb, 7, none⟩) hg1 (fun h => h)).trans HC7.out
  by_cases hil : i < l2
  · obtain ⟨g, off, rfl, hgg, hxi⟩ := HR2.out (by omega)
    have ce := (PP.out.cell (p := ⟨g, off + i, none⟩) hgg (fun h => h)).trans (hxi i hil)
    have cp := (PP.out.cell (p := ⟨g, off + (i - 1), none⟩) hgg (fun h => h)).trans (hxi (i - 1) (by omega))
    have hlt := sorted_next HSO.out (i := i) hi1 (by rw [HL2.out]; exact hil)
    have HXI := hide hxi
    clear hxi
    generalize (XS 2).getD i 0 = y at ce hlt
    generalize (XS 2).getD (i - 1) 0 = z at cp hlt
    have hnl : ¬ y ≤ z := by omega
    clear hlt
    have hi0 : (0 : Int) ≤ (i : Int) := by omega
    have hj0 : (0 : Int) ≤ (i : Int) - 1 := by omega
    have hj1 : (i : Int) - 1 < l2 := by omega
    have hjt : ((i : Int) - 1).toNat = i - 1 := by omega
    have hjw : IntKind.i64.wrap ((i : Int) - 1) = (i : Int) - 1 := IntWalk.i64_in _ (by omega)
    go_wp2_with fail
    go_quiet (fail)
    clear ce cp c7 hjt hjw
    go_wp2_with fail
    go_roundg (l2 + 1 - (i + 1))
    case rel => exact ⟨i + 1, rfl, by omega, by omega, by go_num, PP.out.drewN _⟩
    case measure => omega
  go_wp2_with fail
  go_ret
  exact ⟨rfl, S0.below (P2.out.trans PP.out)⟩
end Go.Proofs.Ytblkbfdmoanbfaa
