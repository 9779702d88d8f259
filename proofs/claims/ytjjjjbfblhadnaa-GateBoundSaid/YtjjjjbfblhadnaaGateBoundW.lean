/-
  GateBound, the walk.
-/
import Derived.Test.YtjjjjbfblhadnaaGateB
import Derived.Test.YtjjjjbfblhadnaaOpen
import Derived.Deep.LoopGhost
namespace Go.Proofs.Ytjjjjbfblhadnaa
open Go.RowKit
set_option linter.unusedVariables false

theorem u8_at {w : World} {a : Option Addr} {len : Nat} {xs : List Int} (h : InInts .u8 w a len xs) {i : Nat} (hi : i < len) : 0 ≤ elt xs i ∧ elt xs i ≤ 255 := by
  have := bounds_u8 (elt_wf h.wf (i := i) (by rw [h.length]; exact hi))
  omega

set_option maxRecDepth 100000 in
set_option maxHeartbeats 4000000 in
theorem gateBound_walk (s : Int) (a : Option Addr) (len cap : Nat) (xs : List Int) (v : Int) (w : World) (w0 : (Lit.int .u8 s).wf = true) (w1 : InInts .u8 w a len xs) (w2 : (Lit.int .u64 v).wf = true) :
    Calls Try.prog 6 #[.int .u8 s, .slice a len cap, .int .u64 v] w fun e w' => e = .returned (.bool true) ∧ Below w.heap.size w w' := by
  have hbig := w1.big
  have k1 := (bounds_u8 w0).1
  have k2 := (bounds_u8 w0).2
  have HX := hide fun (i : Nat) (hi : i < len) => u8_at w1 hi
  have HC := hide w1.cells
  clear w0 w1 w2
  obtain ⟨n, hn⟩ : ∃ n : Nat, 1 + s % 8 = (n : Int) := ⟨(1 + s % 8).toNat, by omega⟩
  have n1 : 1 ≤ n := by omega
  have n8 : n ≤ 8 := by omega
  go_enter Try.func6, Try.ntmps6
  go_wp2_with fail
  refine (alive5_any w).mono ?_
  rintro e wa ⟨rfl, p1⟩
  have P1 := hide p1
  clear p1
  go_wp2_with fail
  have HN := hide hn
  clear hn k1 k2
  refine (made_any n wa n1 (by omega) (fun _ => 0)).mono ?_
  rintro e wb ⟨bg, bm, bc, rfl, h2, p2, b1, b2, b3⟩
  have H2 := hide h2
  have P2 := hide (P1.out.trans p2)
  have c1 : w.heap.size ≤ bg := Nat.le_trans P1.out.size b1
  have c2 : w.heap.size ≤ bm := Nat.le_trans P1.out.size b2
  have c3 : w.heap.size ≤ bc := Nat.le_trans P1.out.size b3
  clear h2 p2 b1 b2 b3 P1
  go_wp2_with fail
  go_loopg [9, 10, 11, 12, 13, 14, 15, 16, 17, 18, 19, 20, 21] 40 (fun q iv a10 a11 a12 a13 a14 a15 a16 a17 a18 a19 a20 a21 wr => ∃ (r T : Nat) (val : Nat → Int), q = 40 - r ∧ r ≤ 40 ∧ iv = .int .i64 r ∧ r ≤ len ∧ T ≤ 8 * r ∧ AE wr bg bm bc n T T val (1000 + 100 * r) ∧ Only S0 w wr)
  case atStart => exact ⟨0, 0, _, rfl, by omega, rfl, by omega, by omega, H2.out, P2.out⟩
  case round =>
    clear H2 P2
    obtain ⟨r, T, val, rfl, hr, rfl, hrl, hT, ha, ho⟩ := hrel
    have HA := hide ha
    have HO := hide ho
    clear ha ho
    by_cases hlt : r < len
    · by_cases hlt4 : r < 40
      · obtain ⟨g, off, rfl, hg, hc⟩ := HC.out (by omega)
        have ce := (HO.out.cell (p := ⟨g, off + r, none⟩) hg (fun h => h)).trans (hc r hlt)
        obtain ⟨x0, x1⟩ := HX.out r hlt
        have HCC := hide hc
        clear hc
        generalize elt xs r = x at ce x0 x1
        obtain ⟨kk, hkk⟩ : ∃ kk : Nat, x % ((n : Int) + 3) = (kk : Int) := ⟨(x % ((n : Int) + 3)).toNat, by have := Int.emod_nonneg x (show (n : Int) + 3 ≠ 0 by omega); omega⟩
        have hk10 : kk ≤ 10 := by have := Int.emod_lt_of_pos x (show (0 : Int) < (n : Int) + 3 by omega); omega
        go_wp2_with fail
        have hd : decide ((r : Int) < 40) = true := by simp; omega
        simp only [hkk, hd]
        clear hd
        have HKK := hide hkk
        clear hkk ce x0 x1
        go_loopg [11, 12, 13, 14] kk (fun q iv a12 a13 a14 wr => ∃ (i : Nat) (val' : Nat → Int), q = kk - i ∧ i ≤ kk ∧ iv = .int .i64 i ∧ AE wr bg bm bc n (T + min i n) T val' (1000 + 100 * r + 5 * i) ∧ (∀ j, j < min i n → val' (T + j) = add64 v j) ∧ Only S0 w wr)
        case atStart => exact ⟨0, val, rfl, by omega, rfl, by simpa using HA.out, fun j hj => by simp at hj, HO.out⟩
        case round =>
          clear HA HO
          obtain ⟨i, val', rfl, hi, rfl, ha, hv, ho⟩ := hrel
          have HA := hide ha
          have HO := hide ho
          have HV := hide hv
          clear ha ho hv
          by_cases hik : i < kk
          · go_wp2_with fail
            refine (AE_put HA.out (add64 v i)).mono ?_
            rintro e w3 ⟨bo, rfl, g3, a3, o3, b3⟩
            have A3 := hide a3
            have G3 := hide g3
            have O3 := hide (HO.out.trans o3)
            have c4 : w.heap.size ≤ bo := Nat.le_trans HO.out.size b3
            clear a3 g3 o3 b3
            go_wp2_with fail
            by_cases hin : i < n
            · refine (AE_put_done A3.out G3.out (u64_add _ _) (by omega) (by omega) (by omega)).mono ?_
              rintro e w4 ⟨gv, kv, rfl, a4, o4⟩
              have A4 := hide a4
              have O4 := hide (S0.then3 O3.out o4 c4 c2 c3)
              clear a4 o4
              go_wp2_with fail
              go_roundg (kk - (i + 1))
              case rel =>
                refine ⟨i + 1, (fun t => if t = T + min i n then add64 v i else val' t), rfl, by omega, by go_num, ?_, ?_, O4.out⟩
                · have := A4.out
                  rw [show T + min i n + 1 = T + min (i + 1) n by omega] at this
                  exact this.le (by omega)
                · intro j hj
                  by_cases hji : j = i
                  · subst hji
                    show (if T + j = T + min j n then add64 v j else val' (T + j)) = _
                    rw [if_pos (by omega)]
                  · show (if T + j = T + min i n then add64 v i else val' (T + j)) = _
                    rw [if_neg (by omega)]
                    exact HV.out j (by omega)
              case measure => omega
            · refine (AE_put_full A3.out G3.out (u64_add _ _) (by omega) (by omega)).mono ?_
              rintro e w4 ⟨gv, kv, rfl, a4, o4⟩
              have A4 := hide a4
              have O4 := hide (S0.then3 O3.out o4 c4 c2 c3)
              clear a4 o4
              go_wp2_with fail
              go_roundg (kk - (i + 1))
              case rel =>
                refine ⟨i + 1, val', rfl, by omega, by go_num, ?_, ?_, O4.out⟩
                · have := A4.out
                  rw [show T + min i n = T + min (i + 1) n by omega] at this
                  exact this.le (by omega)
                · intro j hj
                  exact HV.out j (by omega)
              case measure => omega
          · obtain hkk' : i = kk := by omega
            subst hkk'
            obtain ⟨m, hm⟩ : ∃ m, min i n = m := ⟨_, rfl⟩
            have HM := hide hm
            rw [hm] at HA HV
            have hmi : m ≤ i := by omega
            have hmn : m ≤ n := by omega
            have hmz : (if n < i then (n : Int) else (i : Int)) = (m : Int) := by split <;> omega
            have hmz2 : (if (n : Int) < (i : Int) then (n : Int) else (i : Int)) = (m : Int) := by split <;> omega
            clear hm
            go_wp2_with fail
            go_loopg [15, 16, 17, 18] m (fun q iv a16 a17 a18 wr => ∃ (j : Nat), q = m - j ∧ j ≤ m ∧ iv = .int .i64 j ∧ AE wr bg bm bc n (T + m) (T + j) val' (1000 + 100 * r + 5 * i + 5 * j) ∧ Only S0 w wr)
            case atStart => exact ⟨0, rfl, by omega, rfl, HA.out, HO.out⟩
            case round =>
              clear HA HO
              obtain ⟨j, rfl, hj, rfl, ha, ho⟩ := hrel
              have HA := hide ha
              have HO := hide ho
              clear ha ho
              by_cases hjm : j < m
              · go_wp2_with fail
                refine (AE_take HA.out).mono ?_
                rintro e w3 ⟨bo, rfl, g3, a3, o3, b3⟩
                have A3 := hide a3
                have G3 := hide g3
                have O3 := hide (HO.out.trans o3)
                have c4 : w.heap.size ≤ bo := Nat.le_trans HO.out.size b3
                clear a3 g3 o3 b3
                go_wp2_with fail
                refine (AE_take_done A3.out G3.out (by omega) (by omega)).mono ?_
                rintro e w4 ⟨kv, rfl, a4, o4⟩
                have A4 := hide a4
                have O4 := hide (S0.then3 O3.out o4 c4 c2 c3)
                clear a4 o4
                rw [HV.out j hjm]
                unfold add64
                go_wp2_with fail
                go_roundg (m - (j + 1))
                case rel => exact ⟨j + 1, rfl, by omega, by go_num, A4.out.le (by omega), O4.out⟩
                case measure => omega
              · obtain hjm' : j = m := by omega
                subst hjm'
                go_wp2_with fail
                refine (AE_take HA.out).mono ?_
                rintro e w3 ⟨bo, rfl, g3, a3, o3, b3⟩
                have A3 := hide a3
                have G3 := hide g3
                have O3 := hide (HO.out.trans o3)
                have c4 : w.heap.size ≤ bo := Nat.le_trans HO.out.size b3
                clear a3 g3 o3 b3
                go_wp2_with fail
                refine (AE_take_none A3.out G3.out rfl (by omega)).mono ?_
                rintro e w4 ⟨gv, kv, rfl, a4, o4⟩
                have A4 := hide a4
                have O4 := hide (S0.then3 O3.out o4 c4 c2 c3)
                clear a4 o4
                go_wp2_with fail
                go_roundg (40 - (r + 1))
                case rel => exact ⟨r + 1, T + j, val', rfl, by omega, by go_num, by omega, by omega, A4.out.le (by omega), O4.out⟩
                case measure => omega
      · go_wp2_with fail
        go_ret
        exact ⟨rfl, S0.below HO.out⟩
    · go_wp2_with fail
      go_ret
      exact ⟨rfl, S0.below HO.out⟩
end Go.Proofs.Ytjjjjbfblhadnaa
