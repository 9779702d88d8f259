/-
  DequeBound, the walk.
-/
import Derived.Test.YtblkbfdmoanbfaaDeqL
import Derived.Test.YtblkbfdmoanbfaaAlive4
namespace Go.Proofs.Ytblkbfdmoanbfaa
open Go.RowKit
set_option linter.unusedVariables false

set_option maxRecDepth 100000 in
set_option maxHeartbeats 4000000 in
theorem dequeBound_walk (a0 : Int) (a1 : Option Addr) (len1 cap1 : Nat) (x1 : List Int) (a2 : Int) (w : World) (w0 : (Lit.int .u8 a0).wf = true) (w1 : InInts .u8 w a1 len1 x1) (w2 : (Lit.int .u8 a2).wf = true) :
    Calls Try.prog 6 #[.int .u8 a0, .slice a1 len1 cap1, .int .u8 a2] w fun e w' => e = .returned (.bool true) ∧ Below w.heap.size w w' := by
  have k1 := (bounds_u8 w0).1
  have k2 := (bounds_u8 w0).2
  have k3 := (bounds_u8 w2).1
  have k4 := (bounds_u8 w2).2
  have HW := hide w1
  clear w0 w1 w2
  obtain ⟨n, hn⟩ : ∃ n : Nat, 1 + a0 % 6 = (n : Int) := ⟨(1 + a0 % 6).toNat, by omega⟩
  have n1 : 1 ≤ n := by omega
  have n6 : n ≤ 6 := by omega
  obtain ⟨fl, hfl⟩ : ∃ fl : Nat, a2 % 10 = (fl : Int) := ⟨(a2 % 10).toNat, by omega⟩
  have hf9 : fl ≤ 9 := by omega
  have HFL := hide hfl
  clear hfl
  go_enter Try.func6, Try.ntmps6
  go_wp2_with fail
  refine (alive4_any w).mono ?_
  rintro e wa ⟨rfl, p1⟩
  have P1 := hide p1
  clear p1
  go_wp2_with fail
  have HN := hide hn
  clear hn k1 k2
  have HW2 := hide (show InInts .u8 wa a1 len1 x1 from ⟨HW.out.length, HW.out.wf, HW.out.big, fun hne => by obtain ⟨g, off, ha, hg, hc⟩ := HW.out.cells hne; exact ⟨g, off, ha, Nat.lt_of_lt_of_le hg P1.out.size, fun i hi => (P1.out.cell (p := ⟨g, off + i, none⟩) hg (fun h => h)).trans (hc i hi)⟩⟩)
  refine (drun_any n wa n1 n6 a1 len1 cap1 x1 HW2.out).mono ?_
  rintro e wb ⟨v, rfl, gb, tb, bd, bm, bc, L, tc, o, bo, pu, nx, sv, XS, lost, most, T, Bt, s, rfl, hs, hs1, hov⟩
  have HDE := hide (hs.alone hs1 (hov 0 (by omega)))
  have hmo := hs.mo
  have P2 := hide (P1.out.trans hs.on)
  have c9 := hs.gw.cc9
  have HG := hide hs.gw.g
  have b5 : w.heap.size ≤ bd := Nat.le_trans P1.out.size hs.gw.b5
  have b6 : w.heap.size ≤ bm := Nat.le_trans P1.out.size hs.gw.b6
  have b7 : w.heap.size ≤ bc := Nat.le_trans P1.out.size hs.gw.b7
  clear hs hov P1 HW HW2
  have hC0 : (gangC bd tb (actD o) bo pu nx sv lost most)[0]? = some (.pointer (some ⟨bd, 0, none⟩)) := rfl
  generalize gangC bd tb (actD o) bo pu nx sv lost most = C at HG hC0
  have HC0 := hide hC0
  clear hC0
  go_wp2_with fail
  clear c9
  have HFL2 := HFL.out
  go_loopg [9] fl (fun q iv wr => ∃ (i : Nat) (st : List Int), q = fl - i ∧ i ≤ fl ∧ iv = .int .i64 i ∧ st.length = min i n ∧ DE wr bd bm bc n st (4000 + 6 * i) ∧ Blk wr gb 50 C ∧ Only S0 w wr)
  case atStart => exact ⟨0, [], rfl, by omega, rfl, by simp, HDE.out, HG.out, P2.out⟩
  case round =>
  clear HDE HG P2
  obtain ⟨i, st, rfl, hi, rfl, hst, hd, hg, ho⟩ := hrel
  have HD := hide hd
  have HG := hide hg
  have HO := hide ho
  have HST := hide hst
  clear hd hg ho hst
  by_cases hil : i < fl
  · have k0 := HG.out.cellv HC0.out
    have hw : IntKind.u64.wrap (i : Int) = (i : Int) := by rw [IntKind.wrap_u64]; omega
    go_wp2_with fail
    refine (DE_push HD.out (i : Int)).mono ?_
    rintro e w3 ⟨bo2, rfl, g3, a3, o3, b3⟩
    have A3 := hide a3
    have G3 := hide g3
    have O3 := hide (HO.out.trans o3)
    have B3 := hide (HG.out.only o3 fun h => h)
    have c4 : w.heap.size ≤ bo2 := Nat.le_trans HO.out.size b3
    have hne : gb ≠ bo2 := by have := HG.out.lt; omega
    clear a3 g3 o3 b3 k0
    go_wp2_with fail
    by_cases hin : i < n
    · refine (DE_push_done A3.out G3.out ⟨by omega, by omega⟩ (by have := HST.out; omega) (by omega)).mono ?_
      rintro e w4 ⟨gv, kv, rfl, a4, o4⟩
      have A4 := hide a4
      have B4 := hide (B3.out.only o4 fun e => by
        obtain ⟨L, tc, T, B, val, he, -⟩ := A3.out.ex
        rcases e with e | e | e
        · exact hne e
        · exact Blk.ne_ B3.out he.mem.mem (by decide) e
        · exact Blk.ne_ B3.out he.mem.cells (by decide) e)
      have O4 := hide (S0.then3 O3.out o4 c4 b6 b7)
      clear a4 o4
      go_wp2_with fail
      go_roundg (fl - (i + 1))
      case rel => exact ⟨i + 1, st ++ [(i : Int)], rfl, by omega, by go_num, by rw [List.length_append]; have := HST.out; simp; omega, A4.out.le (by omega), B4.out, O4.out⟩
      case measure => omega
    · refine (DE_push_full A3.out G3.out ⟨by omega, by omega⟩ (by have := HST.out; omega) (by omega)).mono ?_
      rintro e w4 ⟨gv, kv, rfl, a4, o4⟩
      have A4 := hide a4
      have B4 := hide (B3.out.only o4 fun e => by
        obtain ⟨L, tc, T, B, val, he, -⟩ := A3.out.ex
        rcases e with e | e | e
        · exact hne e
        · exact Blk.ne_ B3.out he.mem.mem (by decide) e
        · exact Blk.ne_ B3.out he.mem.cells (by decide) e)
      have O4 := hide (S0.then3 O3.out o4 c4 b6 b7)
      clear a4 o4
      go_wp2_with fail
      go_roundg (fl - (i + 1))
      case rel => exact ⟨i + 1, st, rfl, by omega, by go_num, by have := HST.out; omega, A4.out.le (by omega), B4.out, O4.out⟩
      case measure => omega
  go_wp2_with fail
  go_ret
  exact ⟨rfl, S0.below HO.out⟩
end Go.Proofs.Ytblkbfdmoanbfaa
