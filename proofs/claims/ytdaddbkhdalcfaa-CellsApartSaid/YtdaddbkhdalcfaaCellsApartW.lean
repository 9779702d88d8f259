/-
  CellsApart, the walk.
-/
import Derived.Test.YtdaddbkhdalcfaaAlive1
import Derived.Test.YtdaddbkhdalcfaaKept1
import Derived.Deep.LoopGhost
namespace Go.Proofs.Ytdaddbkhdalcfaa
open Go.RowKit
set_option linter.unusedVariables false

/-- All cells but one hold what they held. -/
def ApartAt (xs : List Int) (n : Nat) (x : Int) (L : List Int) : Prop := L.length = n ∧ ∀ i : Nat, i < n → (i : Int) ≠ x → at_ L i = elt xs i
theorem apart_same (xs : List Int) (n : Nat) (x : Int) (h : xs.length = n) : ApartAt xs n x xs := ⟨h, fun i _ _ => at_elt xs i⟩
theorem apart_set (xs : List Int) (n : Nat) (x v : Int) (h : xs.length = n) (h0 : 0 ≤ x) : ApartAt xs n x (xs.set x.toNat v) :=
  ⟨by simpa using h, fun i _ hne => by
    have : x.toNat ≠ i := by omega
    simp [at_, elt, List.getD, this]⟩

set_option maxRecDepth 100000 in
set_option maxHeartbeats 2000000 in
theorem cellsApart_walk (a : Option Addr) (len cap : Nat) (xs : List Int) (x0 x1 x2 x3 : Int) (w : World) (w0 : InInts .u64 w a len xs)
    (v0 : (Lit.int .u8 x0).wf = true) (v1 : (Lit.int .i64 x1).wf = true) (v2 : (Lit.int .u64 x2).wf = true) (v3 : (Lit.int .u64 x3).wf = true) :
    Calls Try.prog 7 #[.slice a len cap, .agg #[.int .u8 x0, .int .i64 x1, .int .u64 x2, .int .u64 x3]] w fun e w' => e = .returned (.bool true) ∧ Below w.heap.size w w' := by
  have hbig := w0.big
  have hcell := hide w0.cells
  have hxl := hide w0.length
  have hx0 := bounds_u8 v0
  obtain ⟨y0, y1⟩ := hx0
  clear w0 v0 v1 v2 v3
  by_cases hn : (len : Int) > 300
  · go_enter Try.func7, Try.ntmps7
    go_wp2_with fail
    refine (alive1_any _).mono ?_
    rintro e w1 ⟨rfl, p1⟩
    have P1 := hide (((Only.refl S0 w).alloc _).trans p1)
    clear p1
    go_wp2_with fail
    go_ret
    exact ⟨rfl, S0.below P1.out⟩
  · have hn' : (len : Int) ≤ 300 := by omega
    have hcnt : countOf (len : Int) = len := by unfold countOf; omega
    have HCN := hide hcnt
    clear hcnt
    have hbx := Blk.new w 43 #[.int .u8 x0, .int .i64 x1, .int .u64 x2, .int .u64 x3]
    have HBX0 := hide hbx
    clear hbx
    go_enter Try.func7, Try.ntmps7
    go_wp2_with fail
    refine (alive1_any _).mono ?_
    rintro e w1 ⟨rfl, p1⟩
    have p1' := ((Only.refl S0 w).alloc (.cells #[.int .u8 x0, .int .i64 x1, .int .u64 x2, .int .u64 x3] 43)).trans p1
    have X1 := hide (HBX0.out.only p1 (fun h => h))
    have hgb : w.heap.size ≤ w.heap.size := Nat.le_refl _
    have P1 := hide p1'
    clear p1 p1' HBX0
    obtain ⟨gb, hgbe⟩ : ∃ gb, w.heap.size = gb := ⟨_, rfl⟩
    rw [hgbe] at X1 hgb ⊢
    have HGB := hide hgbe
    clear hgbe hgb
    go_wp2_with fail
    refine (New_any len).mono ?_
    rintro e w2 ⟨bm, bc, rfl, h2, p2, b1, b2⟩
    rw [HCN.out, ← fill_zero xs] at h2
    have P2 := hide (P1.out.trans p2)
    have H2 := hide h2
    have X2 := hide (X1.out.only p2 (fun h => h))
    have b1' : w.heap.size ≤ bm := Nat.le_trans P1.out.size b1
    have b2' : w.heap.size ≤ bc := Nat.le_trans P1.out.size b2
    have e1 : gb ≠ bm := X2.out.ne_ H2.out.mem (by decide)
    have e2 : gb ≠ bc := X2.out.ne_ H2.out.cells (by decide)
    clear h2 p2 b1 b2 X1 P1
    go_wp2_with fail
    go_loopg [6] len (fun q i wr => ∃ (k : Nat), k ≤ len ∧ q = len - k ∧ i = .int .i64 k ∧ MemAt wr bm bc (fillTo xs len k) k ∧ Blk wr gb 43 #[.int .u8 x0, .int .i64 x1, .int .u64 x2, .int .u64 x3] ∧ Only S0 w wr)
    case atStart => exact ⟨0, Nat.zero_le _, rfl, rfl, H2.out, X2.out, P2.out⟩
    case round =>
      obtain ⟨k, hk, rfl, rfl, hm, hx, ho⟩ := hrel
      have HM := hide hm
      have HX := hide hx
      have HO := hide ho
      clear hm hx ho
      by_cases hlt : k < len
      · obtain ⟨g, off, rfl, hg, hc⟩ := hcell.out (by omega)
        have c1 := (HO.out.cell (p := ⟨g, off + k, none⟩) hg (fun h => h)).trans (hc k hlt)
        have HC := hide hc
        clear hc
        go_wp2_with fail
        refine (Store_in k (elt xs k) HM.out (few_of _ (by omega)) (by omega) (by rw [fill_len _ _ _ hxl.out hk]; omega)).mono ?_
        rintro e w4 ⟨rfl, h4, o4⟩
        rw [Int.toNat_natCast, fill_succ _ _ _ hxl.out hlt] at h4
        have H4 := hide h4
        have P4 := hide (S0.then2 HO.out o4 b1' b2')
        have X4 := hide (HX.out.only o4 (fun h => by unfold S2 at h; omega))
        clear h4 o4
        go_wp2_with fail
        go_roundg (len - (k + 1))
        case rel => exact ⟨k + 1, by omega, rfl, by go_num, H4.out, X4.out, P4.out⟩
        case measure => omega
      · obtain rfl : k = len := by omega
        have hfa := fill_all xs k hxl.out
        have hm := HM.out
        rw [hfa] at hm
        have HM2 := hide hm
        clear hm hfa HM
        have c0 := HX.out.cellv (i := 0) rfl
        have c1 := HX.out.cellv (i := 1) rfl
        have c2 := HX.out.cellv (i := 2) rfl
        have c3 := HX.out.cellv (i := 3) rfl
        have hf : Hid (Few (k : Int)) := hide (few_of _ (by omega))
        have hq : x0 % 4 = 0 ∨ x0 % 4 = 1 ∨ x0 % 4 = 2 ∨ x0 % 4 = 3 := by omega
        by_cases hin : 0 ≤ x1 ∧ x1 < xs.length
        · obtain ⟨i0, i1⟩ := hin
          have I0 := hide i0
          have I1 := hide i1
          clear i0 i1
          rcases hq with hq | hq | hq | hq
          · go_wp2_with fail
            refine (Load_in x1 HM2.out hf.out I0.out I1.out).mono ?_
            rintro e w4 ⟨rfl, h4, o4⟩
            have HZ := hide h4
            have HP := hide (S0.then1 HO.out o4 b1')
            have HB := hide (HX.out.only o4 (fun h => by unfold S1 at h; omega))
            have HK := hide (apart_same xs k x1 hxl.out)
            clear h4 o4 c0 c1 c2 c3
            have d1 := HB.out.cellv (i := 1) rfl
            go_wp2_with fail
            go_loopg [7] k (fun q i wz => ∃ (l : Nat) (L' : List Int) (tc : Int), l ≤ k ∧ q = k - l ∧ i = .int .i64 l ∧ ApartAt xs k x1 L' ∧ MemAt wz bm bc L' tc ∧ Blk wz gb 43 #[.int .u8 x0, .int .i64 x1, .int .u64 x2, .int .u64 x3] ∧ Only S0 w wz)
            case atStart => exact ⟨0, _, _, Nat.zero_le _, rfl, rfl, HK.out, HZ.out, HB.out, HP.out⟩
            case round =>
              obtain ⟨l, L', tc, hl, rfl, rfl, hk', hm, hb, ho⟩ := hrel
              have HK' := hide hk'
              have HM7 := hide hm
              have HB7 := hide hb
              have HO7 := hide ho
              clear hk' hm hb ho d1 hf
              by_cases hlt : l < k
              · obtain ⟨g, off, rfl, hg, hc⟩ := hcell.out (by omega)
                have c1 := (HO7.out.cell (p := ⟨g, off + l, none⟩) hg (fun h => h)).trans (hc l hlt)
                have d1 := HB7.out.cellv (i := 1) rfl
                have HC := hide hc
                clear hc
                by_cases hne : (l : Int) = x1
                · have hnb : ((l : Int) != x1) = false := by simp [hne]
                  have HNE := hide hne
                  clear hne
                  go_wp2_with fail
                  go_quiet (fail)
                  go_wp2_with fail
                  go_roundg (k - (l + 1))
                  case rel => exact ⟨l + 1, L', tc, by omega, rfl, by go_num, HK'.out, HM7.out.drewN _, HB7.out.drewN _, HO7.out.drewN _⟩
                  case measure => omega
                · have hnb : ((l : Int) != x1) = true := by simp [hne]
                  have hat : at_ L' (l : Int) = elt xs l := HK'.out.2 l hlt hne
                  have hpk := fun n => Peek_in (l : Int) (HM7.out.drewN n) (by omega) (by rw [HK'.out.1]; omega)
                  rw [hat] at hpk
                  have HPK := hide hpk
                  clear hne hat hpk
                  go_wp2_with fail
                  go_quiet ((go_at_call 18; exact quiet_eq (HPK.out _)))
                  go_wp2_with fail
                  go_roundg (k - (l + 1))
                  case rel => exact ⟨l + 1, L', tc, by omega, rfl, by go_num, HK'.out, HM7.out.drewN _, HB7.out.drewN _, HO7.out.drewN _⟩
                  case measure => omega
              · obtain rfl : l = k := by omega
                go_wp2_with fail
                refine (All_full HM7.out).mono ?_
                rintro e w8 ⟨g8, c8, u8, rfl, _, _, _, _, _, _, o8⟩
                rw [HK'.out.1]
                have HO8 := hide (HO7.out.trans o8)
                clear o8
                go_wp2_with fail
                go_ret
                exact ⟨rfl, S0.below HO8.out⟩
          · go_wp2_with fail
            refine (Store_in x1 x3 HM2.out hf.out I0.out I1.out).mono ?_
            rintro e w4 ⟨rfl, h4, o4⟩
            have HZ := hide h4
            have HP := hide (S0.then2 HO.out o4 b1' b2')
            have HB := hide (HX.out.only o4 (fun h => by unfold S2 at h; omega))
            have HK := hide (apart_set xs k x1 x3 hxl.out I0.out)
            clear h4 o4 c0 c1 c2 c3
            have d1 := HB.out.cellv (i := 1) rfl
            go_wp2_with fail
            go_loopg [7] k (fun q i wz => ∃ (l : Nat) (L' : List Int) (tc : Int), l ≤ k ∧ q = k - l ∧ i = .int .i64 l ∧ ApartAt xs k x1 L' ∧ MemAt wz bm bc L' tc ∧ Blk wz gb 43 #[.int .u8 x0, .int .i64 x1, .int .u64 x2, .int .u64 x3] ∧ Only S0 w wz)
            case atStart => exact ⟨0, _, _, Nat.zero_le _, rfl, rfl, HK.out, HZ.out, HB.out, HP.out⟩
            case round =>
              obtain ⟨l, L', tc, hl, rfl, rfl, hk', hm, hb, ho⟩ := hrel
              have HK' := hide hk'
              have HM7 := hide hm
              have HB7 := hide hb
              have HO7 := hide ho
              clear hk' hm hb ho d1 hf
              by_cases hlt : l < k
              · obtain ⟨g, off, rfl, hg, hc⟩ := hcell.out (by omega)
                have c1 := (HO7.out.cell (p := ⟨g, off + l, none⟩) hg (fun h => h)).trans (hc l hlt)
                have d1 := HB7.out.cellv (i := 1) rfl
                have HC := hide hc
                clear hc
                by_cases hne : (l : Int) = x1
                · have hnb : ((l : Int) != x1) = false := by simp [hne]
                  have HNE := hide hne
                  clear hne
                  go_wp2_with fail
                  go_quiet (fail)
                  go_wp2_with fail
                  go_roundg (k - (l + 1))
                  case rel => exact ⟨l + 1, L', tc, by omega, rfl, by go_num, HK'.out, HM7.out.drewN _, HB7.out.drewN _, HO7.out.drewN _⟩
                  case measure => omega
                · have hnb : ((l : Int) != x1) = true := by simp [hne]
                  have hat : at_ L' (l : Int) = elt xs l := HK'.out.2 l hlt hne
                  have hpk := fun n => Peek_in (l : Int) (HM7.out.drewN n) (by omega) (by rw [HK'.out.1]; omega)
                  rw [hat] at hpk
                  have HPK := hide hpk
                  clear hne hat hpk
                  go_wp2_with fail
                  go_quiet ((go_at_call 18; exact quiet_eq (HPK.out _)))
                  go_wp2_with fail
                  go_roundg (k - (l + 1))
                  case rel => exact ⟨l + 1, L', tc, by omega, rfl, by go_num, HK'.out, HM7.out.drewN _, HB7.out.drewN _, HO7.out.drewN _⟩
                  case measure => omega
              · obtain rfl : l = k := by omega
                go_wp2_with fail
                refine (All_full HM7.out).mono ?_
                rintro e w8 ⟨g8, c8, u8, rfl, _, _, _, _, _, _, o8⟩
                rw [HK'.out.1]
                have HO8 := hide (HO7.out.trans o8)
                clear o8
                go_wp2_with fail
                go_ret
                exact ⟨rfl, S0.below HO8.out⟩
          · by_cases hsw : at_ xs x1 = x2
            · have HSW := hide hsw
              clear hsw
              go_wp2_with fail
              refine (Swap_yes x1 x2 x3 HM2.out hf.out I0.out I1.out HSW.out).mono ?_
              rintro e w4 ⟨rfl, h4, o4⟩
              have HZ := hide h4
              have HP := hide (S0.then2 HO.out o4 b1' b2')
              have HB := hide (HX.out.only o4 (fun h => by unfold S2 at h; omega))
              have HK := hide (apart_set xs k x1 x3 hxl.out I0.out)
              clear h4 o4 c0 c1 c2 c3
              have d1 := HB.out.cellv (i := 1) rfl
              go_wp2_with fail
              go_loopg [7] k (fun q i wz => ∃ (l : Nat) (L' : List Int) (tc : Int), l ≤ k ∧ q = k - l ∧ i = .int .i64 l ∧ ApartAt xs k x1 L' ∧ MemAt wz bm bc L' tc ∧ Blk wz gb 43 #[.int .u8 x0, .int .i64 x1, .int .u64 x2, .int .u64 x3] ∧ Only S0 w wz)
              case atStart => exact ⟨0, _, _, Nat.zero_le _, rfl, rfl, HK.out, HZ.out, HB.out, HP.out⟩
              case round =>
                obtain ⟨l, L', tc, hl, rfl, rfl, hk', hm, hb, ho⟩ := hrel
                have HK' := hide hk'
                have HM7 := hide hm
                have HB7 := hide hb
                have HO7 := hide ho
                clear hk' hm hb ho d1 hf
                by_cases hlt : l < k
                · obtain ⟨g, off, rfl, hg, hc⟩ := hcell.out (by omega)
                  have c1 := (HO7.out.cell (p := ⟨g, off + l, none⟩) hg (fun h => h)).trans (hc l hlt)
                  have d1 := HB7.out.cellv (i := 1) rfl
                  have HC := hide hc
                  clear hc
                  by_cases hne : (l : Int) = x1
                  · have hnb : ((l : Int) != x1) = false := by simp [hne]
                    have HNE := hide hne
                    clear hne
                    go_wp2_with fail
                    go_quiet (fail)
                    go_wp2_with fail
                    go_roundg (k - (l + 1))
                    case rel => exact ⟨l + 1, L', tc, by omega, rfl, by go_num, HK'.out, HM7.out.drewN _, HB7.out.drewN _, HO7.out.drewN _⟩
                    case measure => omega
                  · have hnb : ((l : Int) != x1) = true := by simp [hne]
                    have hat : at_ L' (l : Int) = elt xs l := HK'.out.2 l hlt hne
                    have hpk := fun n => Peek_in (l : Int) (HM7.out.drewN n) (by omega) (by rw [HK'.out.1]; omega)
                    rw [hat] at hpk
                    have HPK := hide hpk
                    clear hne hat hpk
                    go_wp2_with fail
                    go_quiet ((go_at_call 18; exact quiet_eq (HPK.out _)))
                    go_wp2_with fail
                    go_roundg (k - (l + 1))
                    case rel => exact ⟨l + 1, L', tc, by omega, rfl, by go_num, HK'.out, HM7.out.drewN _, HB7.out.drewN _, HO7.out.drewN _⟩
                    case measure => omega
                · obtain rfl : l = k := by omega
                  go_wp2_with fail
                  refine (All_full HM7.out).mono ?_
                  rintro e w8 ⟨g8, c8, u8, rfl, _, _, _, _, _, _, o8⟩
                  rw [HK'.out.1]
                  have HO8 := hide (HO7.out.trans o8)
                  clear o8
                  go_wp2_with fail
                  go_ret
                  exact ⟨rfl, S0.below HO8.out⟩
            · have HSW := hide hsw
              clear hsw
              go_wp2_with fail
              refine (Swap_no x1 x2 x3 HM2.out hf.out I0.out I1.out HSW.out).mono ?_
              rintro e w4 ⟨rfl, h4, o4⟩
              have HZ := hide h4
              have HP := hide (S0.then1 HO.out o4 b1')
              have HB := hide (HX.out.only o4 (fun h => by unfold S1 at h; omega))
              have HK := hide (apart_same xs k x1 hxl.out)
              clear h4 o4 c0 c1 c2 c3
              have d1 := HB.out.cellv (i := 1) rfl
              go_wp2_with fail
              go_loopg [7] k (fun q i wz => ∃ (l : Nat) (L' : List Int) (tc : Int), l ≤ k ∧ q = k - l ∧ i = .int .i64 l ∧ ApartAt xs k x1 L' ∧ MemAt wz bm bc L' tc ∧ Blk wz gb 43 #[.int .u8 x0, .int .i64 x1, .int .u64 x2, .int .u64 x3] ∧ Only S0 w wz)
              case atStart => exact ⟨0, _, _, Nat.zero_le _, rfl, rfl, HK.out, HZ.out, HB.out, HP.out⟩
              case round =>
                obtain ⟨l, L', tc, hl, rfl, rfl, hk', hm, hb, ho⟩ := hrel
                have HK' := hide hk'
                have HM7 := hide hm
                have HB7 := hide hb
                have HO7 := hide ho
                clear hk' hm hb ho d1 hf
                by_cases hlt : l < k
                · obtain ⟨g, off, rfl, hg, hc⟩ := hcell.out (by omega)
                  have c1 := (HO7.out.cell (p := ⟨g, off + l, none⟩) hg (fun h => h)).trans (hc l hlt)
                  have d1 := HB7.out.cellv (i := 1) rfl
                  have HC := hide hc
                  clear hc
                  by_cases hne : (l : Int) = x1
                  · have hnb : ((l : Int) != x1) = false := by simp [hne]
                    have HNE := hide hne
                    clear hne
                    go_wp2_with fail
                    go_quiet (fail)
                    go_wp2_with fail
                    go_roundg (k - (l + 1))
                    case rel => exact ⟨l + 1, L', tc, by omega, rfl, by go_num, HK'.out, HM7.out.drewN _, HB7.out.drewN _, HO7.out.drewN _⟩
                    case measure => omega
                  · have hnb : ((l : Int) != x1) = true := by simp [hne]
                    have hat : at_ L' (l : Int) = elt xs l := HK'.out.2 l hlt hne
                    have hpk := fun n => Peek_in (l : Int) (HM7.out.drewN n) (by omega) (by rw [HK'.out.1]; omega)
                    rw [hat] at hpk
                    have HPK := hide hpk
                    clear hne hat hpk
                    go_wp2_with fail
                    go_quiet ((go_at_call 18; exact quiet_eq (HPK.out _)))
                    go_wp2_with fail
                    go_roundg (k - (l + 1))
                    case rel => exact ⟨l + 1, L', tc, by omega, rfl, by go_num, HK'.out, HM7.out.drewN _, HB7.out.drewN _, HO7.out.drewN _⟩
                    case measure => omega
                · obtain rfl : l = k := by omega
                  go_wp2_with fail
                  refine (All_full HM7.out).mono ?_
                  rintro e w8 ⟨g8, c8, u8, rfl, _, _, _, _, _, _, o8⟩
                  rw [HK'.out.1]
                  have HO8 := hide (HO7.out.trans o8)
                  clear o8
                  go_wp2_with fail
                  go_ret
                  exact ⟨rfl, S0.below HO8.out⟩
          · go_wp2_with fail
            refine (Add_in x1 x3 HM2.out hf.out I0.out I1.out).mono ?_
            rintro e w4 ⟨rfl, h4, o4⟩
            have HZ := hide h4
            have HP := hide (S0.then2 HO.out o4 b1' b2')
            have HB := hide (HX.out.only o4 (fun h => by unfold S2 at h; omega))
            have HK := hide (apart_set xs k x1 (add64 (at_ xs x1) x3) hxl.out I0.out)
            clear h4 o4 c0 c1 c2 c3
            have d1 := HB.out.cellv (i := 1) rfl
            go_wp2_with fail
            go_loopg [7] k (fun q i wz => ∃ (l : Nat) (L' : List Int) (tc : Int), l ≤ k ∧ q = k - l ∧ i = .int .i64 l ∧ ApartAt xs k x1 L' ∧ MemAt wz bm bc L' tc ∧ Blk wz gb 43 #[.int .u8 x0, .int .i64 x1, .int .u64 x2, .int .u64 x3] ∧ Only S0 w wz)
            case atStart => exact ⟨0, _, _, Nat.zero_le _, rfl, rfl, HK.out, HZ.out, HB.out, HP.out⟩
            case round =>
              obtain ⟨l, L', tc, hl, rfl, rfl, hk', hm, hb, ho⟩ := hrel
              have HK' := hide hk'
              have HM7 := hide hm
              have HB7 := hide hb
              have HO7 := hide ho
              clear hk' hm hb ho d1 hf
              by_cases hlt : l < k
              · obtain ⟨g, off, rfl, hg, hc⟩ := hcell.out (by omega)
                have c1 := (HO7.out.cell (p := ⟨g, off + l, none⟩) hg (fun h => h)).trans (hc l hlt)
                have d1 := HB7.out.cellv (i := 1) rfl
                have HC := hide hc
                clear hc
                by_cases hne : (l : Int) = x1
                · have hnb : ((l : Int) != x1) = false := by simp [hne]
                  have HNE := hide hne
                  clear hne
                  go_wp2_with fail
                  go_quiet (fail)
                  go_wp2_with fail
                  go_roundg (k - (l + 1))
                  case rel => exact ⟨l + 1, L', tc, by omega, rfl, by go_num, HK'.out, HM7.out.drewN _, HB7.out.drewN _, HO7.out.drewN _⟩
                  case measure => omega
                · have hnb : ((l : Int) != x1) = true := by simp [hne]
                  have hat : at_ L' (l : Int) = elt xs l := HK'.out.2 l hlt hne
                  have hpk := fun n => Peek_in (l : Int) (HM7.out.drewN n) (by omega) (by rw [HK'.out.1]; omega)
                  rw [hat] at hpk
                  have HPK := hide hpk
                  clear hne hat hpk
                  go_wp2_with fail
                  go_quiet ((go_at_call 18; exact quiet_eq (HPK.out _)))
                  go_wp2_with fail
                  go_roundg (k - (l + 1))
                  case rel => exact ⟨l + 1, L', tc, by omega, rfl, by go_num, HK'.out, HM7.out.drewN _, HB7.out.drewN _, HO7.out.drewN _⟩
                  case measure => omega
              · obtain rfl : l = k := by omega
                go_wp2_with fail
                refine (All_full HM7.out).mono ?_
                rintro e w8 ⟨g8, c8, u8, rfl, _, _, _, _, _, _, o8⟩
                rw [HK'.out.1]
                have HO8 := hide (HO7.out.trans o8)
                clear o8
                go_wp2_with fail
                go_ret
                exact ⟨rfl, S0.below HO8.out⟩
        · have hi' : x1 < 0 ∨ (xs.length : Int) ≤ x1 := by omega
          have HI := hide hi'
          clear hin hi'
          rcases hq with hq | hq | hq | hq
          · go_wp2_with fail
            refine (Load_out x1 HM2.out HI.out).mono ?_
            rintro e w4 ⟨rfl, rfl⟩
            have HZ := HM2
            have HP := HO
            have HB := HX
            have HK := hide (apart_same xs k x1 hxl.out)
            clear c0 c1 c2 c3
            have d1 := HB.out.cellv (i := 1) rfl
            go_wp2_with fail
            go_loopg [7] k (fun q i wz => ∃ (l : Nat) (L' : List Int) (tc : Int), l ≤ k ∧ q = k - l ∧ i = .int .i64 l ∧ ApartAt xs k x1 L' ∧ MemAt wz bm bc L' tc ∧ Blk wz gb 43 #[.int .u8 x0, .int .i64 x1, .int .u64 x2, .int .u64 x3] ∧ Only S0 w wz)
            case atStart => exact ⟨0, _, _, Nat.zero_le _, rfl, rfl, HK.out, HZ.out, HB.out, HP.out⟩
            case round =>
              obtain ⟨l, L', tc, hl, rfl, rfl, hk', hm, hb, ho⟩ := hrel
              have HK' := hide hk'
              have HM7 := hide hm
              have HB7 := hide hb
              have HO7 := hide ho
              clear hk' hm hb ho d1 hf
              by_cases hlt : l < k
              · obtain ⟨g, off, rfl, hg, hc⟩ := hcell.out (by omega)
                have c1 := (HO7.out.cell (p := ⟨g, off + l, none⟩) hg (fun h => h)).trans (hc l hlt)
                have d1 := HB7.out.cellv (i := 1) rfl
                have HC := hide hc
                clear hc
                by_cases hne : (l : Int) = x1
                · have hnb : ((l : Int) != x1) = false := by simp [hne]
                  have HNE := hide hne
                  clear hne
                  go_wp2_with fail
                  go_quiet (fail)
                  go_wp2_with fail
                  go_roundg (k - (l + 1))
                  case rel => exact ⟨l + 1, L', tc, by omega, rfl, by go_num, HK'.out, HM7.out.drewN _, HB7.out.drewN _, HO7.out.drewN _⟩
                  case measure => omega
                · have hnb : ((l : Int) != x1) = true := by simp [hne]
                  have hat : at_ L' (l : Int) = elt xs l := HK'.out.2 l hlt hne
                  have hpk := fun n => Peek_in (l : Int) (HM7.out.drewN n) (by omega) (by rw [HK'.out.1]; omega)
                  rw [hat] at hpk
                  have HPK := hide hpk
                  clear hne hat hpk
                  go_wp2_with fail
                  go_quiet ((go_at_call 18; exact quiet_eq (HPK.out _)))
                  go_wp2_with fail
                  go_roundg (k - (l + 1))
                  case rel => exact ⟨l + 1, L', tc, by omega, rfl, by go_num, HK'.out, HM7.out.drewN _, HB7.out.drewN _, HO7.out.drewN _⟩
                  case measure => omega
              · obtain rfl : l = k := by omega
                go_wp2_with fail
                refine (All_full HM7.out).mono ?_
                rintro e w8 ⟨g8, c8, u8, rfl, _, _, _, _, _, _, o8⟩
                rw [HK'.out.1]
                have HO8 := hide (HO7.out.trans o8)
                clear o8
                go_wp2_with fail
                go_ret
                exact ⟨rfl, S0.below HO8.out⟩
          · go_wp2_with fail
            refine (Store_out x1 x3 HM2.out HI.out).mono ?_
            rintro e w4 ⟨rfl, rfl⟩
            have HZ := HM2
            have HP := HO
            have HB := HX
            have HK := hide (apart_same xs k x1 hxl.out)
            clear c0 c1 c2 c3
            have d1 := HB.out.cellv (i := 1) rfl
            go_wp2_with fail
            go_loopg [7] k (fun q i wz => ∃ (l : Nat) (L' : List Int) (tc : Int), l ≤ k ∧ q = k - l ∧ i = .int .i64 l ∧ ApartAt xs k x1 L' ∧ MemAt wz bm bc L' tc ∧ Blk wz gb 43 #[.int .u8 x0, .int .i64 x1, .int .u64 x2, .int .u64 x3] ∧ Only S0 w wz)
            case atStart => exact ⟨0, _, _, Nat.zero_le _, rfl, rfl, HK.out, HZ.out, HB.out, HP.out⟩
            case round =>
              obtain ⟨l, L', tc, hl, rfl, rfl, hk', hm, hb, ho⟩ := hrel
              have HK' := hide hk'
              have HM7 := hide hm
              have HB7 := hide hb
              have HO7 := hide ho
              clear hk' hm hb ho d1 hf
              by_cases hlt : l < k
              · obtain ⟨g, off, rfl, hg, hc⟩ := hcell.out (by omega)
                have c1 := (HO7.out.cell (p := ⟨g, off + l, none⟩) hg (fun h => h)).trans (hc l hlt)
                have d1 := HB7.out.cellv (i := 1) rfl
                have HC := hide hc
                clear hc
                by_cases hne : (l : Int) = x1
                · have hnb : ((l : Int) != x1) = false := by simp [hne]
                  have HNE := hide hne
                  clear hne
                  go_wp2_with fail
                  go_quiet (fail)
                  go_wp2_with fail
                  go_roundg (k - (l + 1))
                  case rel => exact ⟨l + 1, L', tc, by omega, rfl, by go_num, HK'.out, HM7.out.drewN _, HB7.out.drewN _, HO7.out.drewN _⟩
                  case measure => omega
                · have hnb : ((l : Int) != x1) = true := by simp [hne]
                  have hat : at_ L' (l : Int) = elt xs l := HK'.out.2 l hlt hne
                  have hpk := fun n => Peek_in (l : Int) (HM7.out.drewN n) (by omega) (by rw [HK'.out.1]; omega)
                  rw [hat] at hpk
                  have HPK := hide hpk
                  clear hne hat hpk
                  go_wp2_with fail
                  go_quiet ((go_at_call 18; exact quiet_eq (HPK.out _)))
                  go_wp2_with fail
                  go_roundg (k - (l + 1))
                  case rel => exact ⟨l + 1, L', tc, by omega, rfl, by go_num, HK'.out, HM7.out.drewN _, HB7.out.drewN _, HO7.out.drewN _⟩
                  case measure => omega
              · obtain rfl : l = k := by omega
                go_wp2_with fail
                refine (All_full HM7.out).mono ?_
                rintro e w8 ⟨g8, c8, u8, rfl, _, _, _, _, _, _, o8⟩
                rw [HK'.out.1]
                have HO8 := hide (HO7.out.trans o8)
                clear o8
                go_wp2_with fail
                go_ret
                exact ⟨rfl, S0.below HO8.out⟩
          · go_wp2_with fail
            refine (Swap_out x1 x2 x3 HM2.out HI.out).mono ?_
            rintro e w4 ⟨rfl, rfl⟩
            have HZ := HM2
            have HP := HO
            have HB := HX
            have HK := hide (apart_same xs k x1 hxl.out)
            clear c0 c1 c2 c3
            have d1 := HB.out.cellv (i := 1) rfl
            go_wp2_with fail
            go_loopg [7] k (fun q i wz => ∃ (l : Nat) (L' : List Int) (tc : Int), l ≤ k ∧ q = k - l ∧ i = .int .i64 l ∧ ApartAt xs k x1 L' ∧ MemAt wz bm bc L' tc ∧ Blk wz gb 43 #[.int .u8 x0, .int .i64 x1, .int .u64 x2, .int .u64 x3] ∧ Only S0 w wz)
            case atStart => exact ⟨0, _, _, Nat.zero_le _, rfl, rfl, HK.out, HZ.out, HB.out, HP.out⟩
            case round =>
              obtain ⟨l, L', tc, hl, rfl, rfl, hk', hm, hb, ho⟩ := hrel
              have HK' := hide hk'
              have HM7 := hide hm
              have HB7 := hide hb
              have HO7 := hide ho
              clear hk' hm hb ho d1 hf
              by_cases hlt : l < k
              · obtain ⟨g, off, rfl, hg, hc⟩ := hcell.out (by omega)
                have c1 := (HO7.out.cell (p := ⟨g, off + l, none⟩) hg (fun h => h)).trans (hc l hlt)
                have d1 := HB7.out.cellv (i := 1) rfl
                have HC := hide hc
                clear hc
                by_cases hne : (l : Int) = x1
                · have hnb : ((l : Int) != x1) = false := by simp [hne]
                  have HNE := hide hne
                  clear hne
                  go_wp2_with fail
                  go_quiet (fail)
                  go_wp2_with fail
                  go_roundg (k - (l + 1))
                  case rel => exact ⟨l + 1, L', tc, by omega, rfl, by go_num, HK'.out, HM7.out.drewN _, HB7.out.drewN _, HO7.out.drewN _⟩
                  case measure => omega
                · have hnb : ((l : Int) != x1) = true := by simp [hne]
                  have hat : at_ L' (l : Int) = elt xs l := HK'.out.2 l hlt hne
                  have hpk := fun n => Peek_in (l : Int) (HM7.out.drewN n) (by omega) (by rw [HK'.out.1]; omega)
                  rw [hat] at hpk
                  have HPK := hide hpk
                  clear hne hat hpk
                  go_wp2_with fail
                  go_quiet ((go_at_call 18; exact quiet_eq (HPK.out _)))
                  go_wp2_with fail
                  go_roundg (k - (l + 1))
                  case rel => exact ⟨l + 1, L', tc, by omega, rfl, by go_num, HK'.out, HM7.out.drewN _, HB7.out.drewN _, HO7.out.drewN _⟩
                  case measure => omega
              · obtain rfl : l = k := by omega
                go_wp2_with fail
                refine (All_full HM7.out).mono ?_
                rintro e w8 ⟨g8, c8, u8, rfl, _, _, _, _, _, _, o8⟩
                rw [HK'.out.1]
                have HO8 := hide (HO7.out.trans o8)
                clear o8
                go_wp2_with fail
                go_ret
                exact ⟨rfl, S0.below HO8.out⟩
          · go_wp2_with fail
            refine (Add_out x1 x3 HM2.out HI.out).mono ?_
            rintro e w4 ⟨rfl, rfl⟩
            have HZ := HM2
            have HP := HO
            have HB := HX
            have HK := hide (apart_same xs k x1 hxl.out)
            clear c0 c1 c2 c3
            have d1 := HB.out.cellv (i := 1) rfl
            go_wp2_with fail
            go_loopg [7] k (fun q i wz => ∃ (l : Nat) (L' : List Int) (tc : Int), l ≤ k ∧ q = k - l ∧ i = .int .i64 l ∧ ApartAt xs k x1 L' ∧ MemAt wz bm bc L' tc ∧ Blk wz gb 43 #[.int .u8 x0, .int .i64 x1, .int .u64 x2, .int .u64 x3] ∧ Only S0 w wz)
            case atStart => exact ⟨0, _, _, Nat.zero_le _, rfl, rfl, HK.out, HZ.out, HB.out, HP.out⟩
            case round =>
              obtain ⟨l, L', tc, hl, rfl, rfl, hk', hm, hb, ho⟩ := hrel
              have HK' := hide hk'
              have HM7 := hide hm
              have HB7 := hide hb
              have HO7 := hide ho
              clear hk' hm hb ho d1 hf
              by_cases hlt : l < k
              · obtain ⟨g, off, rfl, hg, hc⟩ := hcell.out (by omega)
                have c1 := (HO7.out.cell (p := ⟨g, off + l, none⟩) hg (fun h => h)).trans (hc l hlt)
                have d1 := HB7.out.cellv (i := 1) rfl
                have HC := hide hc
                clear hc
                by_cases hne : (l : Int) = x1
                · have hnb : ((l : Int) != x1) = false := by simp [hne]
                  have HNE := hide hne
                  clear hne
                  go_wp2_with fail
                  go_quiet (fail)
                  go_wp2_with fail
                  go_roundg (k - (l + 1))
                  case rel => exact ⟨l + 1, L', tc, by omega, rfl, by go_num, HK'.out, HM7.out.drewN _, HB7.out.drewN _, HO7.out.drewN _⟩
                  case measure => omega
                · have hnb : ((l : Int) != x1) = true := by simp [hne]
                  have hat : at_ L' (l : Int) = elt xs l := HK'.out.2 l hlt hne
                  have hpk := fun n => Peek_in (l : Int) (HM7.out.drewN n) (by omega) (by rw [HK'.out.1]; omega)
                  rw [hat] at hpk
                  have HPK := hide hpk
                  clear hne hat hpk
                  go_wp2_with fail
                  go_quiet ((go_at_call 18; exact quiet_eq (HPK.out _)))
                  go_wp2_with fail
                  go_roundg (k - (l + 1))
                  case rel => exact ⟨l + 1, L', tc, by omega, rfl, by go_num, HK'.out, HM7.out.drewN _, HB7.out.drewN _, HO7.out.drewN _⟩
                  case measure => omega
              · obtain rfl : l = k := by omega
                go_wp2_with fail
                refine (All_full HM7.out).mono ?_
                rintro e w8 ⟨g8, c8, u8, rfl, _, _, _, _, _, _, o8⟩
                rw [HK'.out.1]
                have HO8 := hide (HO7.out.trans o8)
                clear o8
                go_wp2_with fail
                go_ret
                exact ⟨rfl, S0.below HO8.out⟩
end Go.Proofs.Ytdaddbkhdalcfaa
