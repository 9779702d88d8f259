/-
  CellsKept, the walk.
-/
import Derived.Test.YtdaddbkhdalcfaaAlive1
import Derived.Test.YtdaddbkhdalcfaaKept1
import Derived.Deep.LoopGhost
namespace Go.Proofs.Ytdaddbkhdalcfaa
open Go.RowKit
set_option linter.unusedVariables false

set_option maxRecDepth 100000 in
set_option maxHeartbeats 1000000 in
theorem cellsKept_walk (a : Option Addr) (len cap : Nat) (xs : List Int) (w : World) (w0 : InInts .u64 w a len xs) :
    Calls Try.prog 8 #[.slice a len cap] w fun e w' => e = .returned (.bool true) ∧ Below w.heap.size w w' := by
  have hbig := w0.big
  have hcell := hide w0.cells
  have hxl := hide w0.length
  clear w0
  by_cases hn : (len : Int) > 300
  · go_enter Try.func8, Try.ntmps8
    go_wp2_with fail
    refine (alive1_any w).mono ?_
    rintro e w1 ⟨rfl, p1⟩
    have P1 := hide p1
    clear p1
    go_wp2_with fail
    go_ret
    exact ⟨rfl, S0.below P1.out⟩
  · have hn' : (len : Int) ≤ 300 := by omega
    have hcnt : countOf (len : Int) = len := by unfold countOf; omega
    have HCN := hide hcnt
    clear hcnt
    go_enter Try.func8, Try.ntmps8
    go_wp2_with fail
    refine (alive1_any w).mono ?_
    rintro e w1 ⟨rfl, p1⟩
    go_wp2_with fail
    refine (New_any len).mono ?_
    rintro e w2 ⟨bm, bc, rfl, h2, p2, b1, b2⟩
    rw [HCN.out, ← fill_zero xs] at h2
    have P2 := hide (p1.trans p2)
    have H2 := hide h2
    have b1' : w.heap.size ≤ bm := Nat.le_trans p1.size b1
    have b2' : w.heap.size ≤ bc := Nat.le_trans p1.size b2
    clear h2 p1 p2 b1 b2
    go_wp2_with fail
    go_loopg [4] len (fun q i wr => ∃ (k : Nat), k ≤ len ∧ q = len - k ∧ i = .int .i64 k ∧ MemAt wr bm bc (fillTo xs len k) k ∧ Only S0 w wr)
    case atStart => exact ⟨0, Nat.zero_le _, rfl, rfl, H2.out, P2.out⟩
    case round =>
      obtain ⟨k, hk, rfl, rfl, hm, ho⟩ := hrel
      have HM := hide hm
      have HO := hide ho
      clear hm ho
      by_cases hlt : k < len
      · obtain ⟨g, off, rfl, hg, hc⟩ := hcell.out (by omega)
        have c1 := (HO.out.cell (p := ⟨g, off + k, none⟩) hg (fun h => h)).trans (hc k hlt)
        have HC := hide hc
        clear hc
        go_wp2_with fail
        refine (Store_in k (elt xs k) HM.out (few_of _ (by omega)) (by omega) (by rw [fill_len _ _ _ hxl.out hk]; omega)).mono ?_
        rintro e w4 ⟨rfl, h4, o4⟩
        rw [Int.toNat_natCast, fill_succ _ _ _ hxl.out hlt] at h4
        have H4 := hide h4
        have P4 := hide (S0.then2 HO.out o4 b1' b2')
        clear h4 o4
        go_wp2_with fail
        go_roundg (len - (k + 1))
        case rel => exact ⟨k + 1, by omega, rfl, by go_num, H4.out, P4.out⟩
        case measure => omega
      · obtain rfl : k = len := by omega
        have hfa := fill_all xs k hxl.out
        have hm := HM.out
        rw [hfa] at hm
        have HM2 := hide hm
        clear hm hfa HM
        go_wp2_with fail
        refine (All_full HM2.out).mono ?_
        rintro e w4 ⟨ga, ca, ua, rfl, a1, a2, a3, a4, a5, a6, o4⟩
        have A1 := hide a1
        have A2 := hide a2
        have A3 := hide a3
        have A5 := hide a5
        have A4 := hide a4
        have P4 := hide o4
        have M4 := hide (HM2.out.only o4 (fun h => h) (fun h => h))
        clear a1 a2 a3 a4 a5 a6 o4
        rw [hxl.out]
        go_wp2_with fail
        refine (All_full M4.out).mono ?_
        rintro e w5 ⟨gb, cb, ub, rfl, d1, d2, d3, d4, d5, d6, o5⟩
        rw [hxl.out]
        have hab : ga ≠ gb := Nat.ne_of_lt (Nat.lt_of_lt_of_le A2.out.lt d1)
        have hmg : bm ≠ ga := fun e => by have := A2.out.ne_ M4.out.mem (by decide); omega
        have hcg : bc ≠ ga := fun e => by have := HM2.out.cells.lt; have := A1.out; omega
        have hmb : bm ≠ gb := fun e => by have := d2.ne_ (M4.out.only o5 (fun h => h) (fun h => h)).mem (by decide); omega
        have hcb : bc ≠ gb := fun e => by have := M4.out.cells.lt; omega
        have ga0 : w.heap.size ≤ ga := Nat.le_trans HO.out.size A1.out
        have D2 := hide d2
        have D3 := hide d3
        have D5 := hide d5
        have D6 := hide d6
        have A25 := hide (A2.out.only o5 (fun h => h))
        have M5 := hide (M4.out.only o5 (fun h => h) (fun h => h))
        have P5 := hide ((HO.out.trans P4.out).trans o5)
        clear d1 d2 d3 d5 d6 o5 HM2 HO M4 P4 A2
        go_wp2_with fail
        go_loopg [7] k (fun q i wr => ∃ (j : Nat) (cur : Array Value), j ≤ k ∧ q = k - j ∧ i = .int .i64 j ∧ Blk wr ga 22 cur ∧ cur.size = ca ∧ Blk wr gb 22 ub ∧ MemAt wr bm bc xs k ∧ Only S0 w wr)
        case atStart => exact ⟨0, ua, Nat.zero_le _, rfl, rfl, A25.out, A5.out, D2.out, M5.out, P5.out⟩
        case round =>
          obtain ⟨j, cur, hj, rfl, rfl, hA, hs, hB, hm, ho⟩ := hrel
          have HA := hide hA
          have HB := hide hB
          have HS := hide hs
          have HM := hide hm
          have HO := hide ho
          clear hA hs hB hm ho
          by_cases hlt : j < k
          · have c1 := HA.out.cellv (i := j) (v := cur[j]'(by rw [HS.out]; have := A3.out; rw [hxl.out] at this; omega)) (by rw [Array.getElem?_eq_getElem])
            have f1 := HA.out.frozen j
            generalize cur[j]'(_) = cj at c1
            go_wp2_with fail
            go_roundg (k - (j + 1))
            case rel =>
              exact ⟨j + 1, cur.setIfInBounds j (.int .u64 77), by omega, rfl, by go_num, HA.out.set_ _ _, by simpa using HS.out, HB.out.far (p := ⟨ga, j, none⟩) (Ne.symm hab) _,
                ⟨HM.out.mem.far (p := ⟨ga, j, none⟩) hmg _, HM.out.cells.far (p := ⟨ga, j, none⟩) hcg _, HM.out.len, HM.out.tc0⟩, HO.out.setNew _ ga0 _⟩
            case measure => omega
          · obtain rfl : j = k := by omega
            have hsl : Sl wr ga 22 (.slice (some ⟨ga, 0, none⟩) j ca) (cur.toList.take j) := by
              have h3 := A3.out
              rw [hxl.out] at h3
              refine Sl.mk_ (g := ga) (cap := ca) (cur := cur) ?_ (Nat.le_refl _) HA.out ?_ ?_ HS.out ?_
              · simp [HS.out, h3]
              · simp [HS.out, h3]
              · exact A4.out
              · simp [HS.out, h3]
            have hsz : (cur.toList.take j).length = j := by
              have h3 := A3.out
              rw [hxl.out] at h3
              simp [HS.out, h3]
            have HSL := hide hsl
            have HSZ := hide hsz
            have hub : ∀ i, i < j → ub[i]? = some (.int .u64 (elt xs i)) := by
              intro i hi
              have h6 := congrArg (·[i]?) D6.out
              have hx := hxl.out
              simp only [List.getElem?_take, hx, hi, if_true, List.getElem?_map, Array.getElem?_toList] at h6
              rw [h6, List.getElem?_eq_getElem (by omega)]
              simp [elt, List.getD, show i < xs.length by omega]
            have HUB := hide hub
            clear hsl hsz hub
            go_wp2_with (at_builtin; refine wpList_app1 _ rfl (.tmp 43) (.tmp 44) 23 rfl 22 (.int .u64 0) 8 Try.underlying23 info_u64 rfl ga (.slice (some ⟨ga, 0, none⟩) j ca) (cur.toList.take j) (.int .u64 78) rfl rfl HSL.out rfl (by rw [HSZ.out]; omega) (by rw [HSZ.out]; unfold maxLen; omega) (Nat.le_of_lt HA.out.lt) ?_; intro v' w6 hv' o6 _; obtain ⟨g6, c6, rfl⟩ := app_form hv'; rw [List.length_append, HSZ.out, show j + [Value.int .u64 78].length = j + 1 from rfl]; have B6 := hide (HB.out.only o6 (fun h => hab (by simpa [Value.ownBlock] using h))); have M6 := hide (HM.out.only o6 (fun h => hmg (by simpa [Value.ownBlock] using h.symm)) (fun h => hcg (by simpa [Value.ownBlock] using h.symm))); have P6 := hide (HO.out.then o6 (fun i hi e => by simp [Value.ownBlock] at e; omega)); clear hv' o6)
            go_loopg [8] j (fun q i wr => ∃ (l : Nat), l ≤ j ∧ q = j - l ∧ i = .int .i64 l ∧ Blk wr gb 22 ub ∧ MemAt wr bm bc xs j ∧ Only S0 w wr)
            case atStart => exact ⟨0, Nat.zero_le _, rfl, rfl, B6.out, M6.out, P6.out⟩
            case round =>
              obtain ⟨l, hl, rfl, rfl, hB, hm, ho⟩ := hrel
              have HB7 := hide hB
              have HM7 := hide hm
              have HO7 := hide ho
              clear hB hm ho
              by_cases hlt : l < j
              · obtain ⟨g, off, rfl, hg, hc⟩ := hcell.out (by omega)
                have c1 := (HO7.out.cell (p := ⟨g, off + l, none⟩) hg (fun h => h)).trans (hc l hlt)
                have c2 := HB7.out.cellv (HUB.out l hlt)
                have HC := hide hc
                clear hc
                have hat : at_ xs (l : Int) = elt xs l := at_elt xs l
                have hlx : (l : Int) < xs.length := by rw [hxl.out]; omega
                have HLX := hide hlx
                have HAT := hide hat
                have hpk := fun n => Peek_in (l : Int) (HM7.out.drewN n) (by omega) HLX.out
                rw [hat] at hpk
                have HPK := hide hpk
                clear hlx hat hpk
                go_wp2_with fail
                go_quiet ((go_at_call 18; exact quiet_eq (HPK.out _)))
                go_wp2_with fail
                go_roundg (j - (l + 1))
                case rel => exact ⟨l + 1, by omega, rfl, by go_num, HB7.out.drewN _, HM7.out.drewN _, HO7.out.drewN _⟩
                case measure => omega
              · obtain rfl : l = j := by omega
                go_wp2_with fail
                refine (Touched_any HM7.out).mono ?_
                rintro e w7 ⟨rfl, rfl⟩
                go_wp2_with fail
                go_ret
                exact ⟨rfl, S0.below HO7.out⟩
end Go.Proofs.Ytdaddbkhdalcfaa
