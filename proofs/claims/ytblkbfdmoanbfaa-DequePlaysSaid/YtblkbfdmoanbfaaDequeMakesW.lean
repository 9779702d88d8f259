/-
  DequeMakes, the walk.
-/
import Derived.Test.YtblkbfdmoanbfaaAlive4
import Derived.Deep.RegionHeld3
import Derived.Deep.LoopGhost
namespace Go.Proofs.Ytblkbfdmoanbfaa
open Go.RowKit
set_option linter.unusedVariables false

section
variable {w : World} {rm rc : Nat} {L : List Int} {tc : Int}
theorem RefAt.cellN (h : RefAt w rm rc L tc) (i : Nat) (h1 : i < L.length) : w.cell? ⟨rc, i, none⟩ = some (.int .u64 (at_ L i)) := by
  have := h.cell i (by omega) (by omega)
  simpa using this
theorem layD_more (L : List Int) (b k : Nat) : layD L b (2 + (k + 1)) = (layD L b (2 + k)).set (b + 2 + k) 0 := by
  rw [show 2 + (k + 1) = (2 + k) + 1 by omega, layD, if_neg (by omega), show b + (2 + k) = b + 2 + k by omega]
set_option maxHeartbeats 1000000 in
theorem Lay_any (b n : Nat) (h : RefAt w rm rc L tc) (h64 : n ≤ 64) (hin : b + (2 + n) ≤ L.length) :
    Calls Try.prog 19 #[.pointer (some ⟨rm, 0, none⟩), .agg #[.int .i64 b, .int .i64 n]] w fun e w' =>
      e = .returned (.tuple #[]) ∧ RefAt w' rm rc (layD L b (2 + n)) tc ∧ Only (S2 rm rc) w w' := by
  have hl := h.len
  have hn := h.ne
  have h1 := h.mem.lt
  have h2 := h.cells.lt
  have c0 := h.mem.cellv (i := 0) rfl
  have f1 := h.cells.frozen b
  have c2 := h.cellN b (by omega)
  have f3 := h.cells.frozen (b + 1)
  have c3 := h.cellN (b + 1) (by omega)
  have H := hide h
  clear h
  go_enter Try.func19, Try.ntmps19
  go_wp2_with fail
  go_region
  go_wp2_with fail
  go_region
  go_wp2_with fail
  have hr : w.heap.size ≠ rc := by omega
  have h3 := (H.out.stored b 1).stored (b + 1) 1
  have o3 := ((Only.refl (S2 rm rc) w).set1 b (.inr rfl) (.int .u64 1)).set1 (b + 1) (.inr rfl) (.int .u64 1)
  have b3 := Blk.new ((w.setCell ⟨rc, b, none⟩ (.int .u64 1)).setCell ⟨rc, b + 1, none⟩ (.int .u64 1)) 42 #[.int .i64 b, .int .i64 n]
  simp only [World.size_setCell] at b3
  have HB3 := hide b3.drew.drew
  have HO3 := hide (o3.alloc (.cells #[.int .i64 b, .int .i64 n] 42)).drew.drew
  have H3 := hide (show RefAt _ rm rc (layD L b 2) tc from ⟨(h3.mem.alloc (.cells #[.int .i64 b, .int .i64 n] 42)).drew.drew, (h3.cells.alloc _).drew.drew, h3.len, h3.tc0⟩)
  clear h3 o3 b3
  clear f1 c2 f3 c3 c0 H
  go_loopg [4] n (fun q iv wr => ∃ (k : Nat), q = n - k ∧ k ≤ n ∧ iv = .int .i64 k ∧ RefAt wr rm rc (layD L b (2 + k)) tc ∧ Blk wr w.heap.size 42 #[.int .i64 b, .int .i64 n] ∧ Only (S2 rm rc) w wr)
  case atStart => exact ⟨0, rfl, Nat.zero_le _, rfl, H3.out, HB3.out, HO3.out⟩
  case round =>
    obtain ⟨k, rfl, hk, rfl, hm, hb, ho⟩ := hrel
    have d0 := hb.cellv (i := 0) rfl
    have d1 := hb.cellv (i := 1) rfl
    have e0 := hm.mem.cellv (i := 0) rfl
    rw [layD_len] at e0
    by_cases hlt : k < n
    · have f1 := hm.cells.frozen (b + 2 + k)
      have c2 := hm.cellN (b + 2 + k) (by rw [layD_len]; omega)
      have HM := hide hm
      have HB := hide hb
      have HO := hide ho
      clear hm hb ho
      go_wp2_with fail
      go_region
      go_wp2_with fail
      go_roundg (n - (k + 1))
      case rel =>
        refine ⟨k + 1, rfl, by omega, by go_num, ?_, ?_, ?_⟩
        · rw [layD_more]
          exact (HM.out.stored (b + 2 + k) 0).drew
        · exact (HB.out.far (p := ⟨rc, b + 2 + k, none⟩) hr (.int .u64 0)).drew
        · exact (HO.out.set1 (b + 2 + k) (.inr rfl) (.int .u64 0)).drew
      case measure => omega
    · obtain rfl : k = n := by omega
      have HM := hide hm
      have HB := hide hb
      have HO := hide ho
      clear hm hb ho
      go_wp2_with fail
      go_end0
      exact ⟨rfl, HM.out, HO.out⟩
--MARK
/-- k nines behind m zeros' beginning. -/
def nines (m : Nat) : Nat → List Int
  | 0 => List.replicate m 0
  | k + 1 => (nines m k).set k 99
theorem nines_len (m k : Nat) : (nines m k).length = m := by
  induction k with
  | zero => simp [nines]
  | succ k ih => simp [nines, ih]

set_option maxRecDepth 100000 in
set_option maxHeartbeats 4000000 in
theorem dequeMakes_walk (c base n : Int) (w : World) (x0 : (Lit.int .i64 c).wf = true) (x1 : (Lit.int .i64 base).wf = true) (x2 : (Lit.int .i64 n).wf = true) :
    Calls Try.prog 3 #[.int .i64 c, .int .i64 base, .int .i64 n] w fun e w' => e = .returned (.bool true) ∧ Below w.heap.size w w' := by
  by_cases hbig : c > 1000
  · clear x0 x1 x2
    go_enter Try.func3, Try.ntmps3
    go_wp2_with fail
    refine (alive4_any w).mono ?_
    rintro e w1 ⟨rfl, p1⟩
    have P1 := hide p1
    clear p1
    go_wp2_with fail
    go_ret
    exact ⟨rfl, S0.below P1.out⟩
  · obtain ⟨m, hm⟩ : ∃ m, countOf c = m := ⟨_, rfl⟩
    have hm1 : m ≤ 1000 := by rw [← hm]; unfold countOf; omega
    have HC := hide hm
    clear hm
    by_cases h1 : 1 ≤ n ∧ n ≤ 64
    · obtain ⟨h1, h2⟩ := h1
      have HGS := hide (show dsize n = 2 + n by simp [dsize, h1, h2])
      by_cases h3 : 0 ≤ base ∧ base + (2 + n) ≤ m
      · obtain ⟨h3, h4⟩ := h3
        obtain ⟨bb, rfl⟩ : ∃ bb : Nat, base = bb := ⟨base.toNat, by omega⟩
        obtain ⟨nn, rfl⟩ : ∃ nn : Nat, n = nn := ⟨n.toNat, by omega⟩
        have HIN : bb + (2 + nn) ≤ m := by omega
        have HN1 : 1 ≤ nn := by omega
        have HN64 : nn ≤ 64 := by omega
        have HZ : (2 + (nn : Int) == 0) = false := by simp; omega
        clear x0 x1 x2
        go_enter Try.func3, Try.ntmps3
        go_wp2_with fail
        refine (alive4_any w).mono ?_
        rintro e w1 ⟨rfl, p1⟩
        have P1 := hide p1
        clear p1
        go_wp2_with fail
        refine (New_any c).mono ?_
        rintro e w2 ⟨bm, bc, rfl, h2, p2, b1, b2⟩
        rw [HC.out] at h2
        have P2 := hide (P1.out.trans p2)
        have H2 := hide h2
        have b1' : w.heap.size ≤ bm := Nat.le_trans P1.out.size b1
        have b2' : w.heap.size ≤ bc := Nat.le_trans P1.out.size b2
        clear h2 p2 b1 b2
        go_wp2_with fail
        go_loopg [8] m (fun q iv wr => ∃ (k : Nat), q = m - k ∧ k ≤ m ∧ iv = .int .i64 k ∧ MemAt wr bm bc (nines m k) k ∧ Only S0 w wr)
        case atStart => exact ⟨0, rfl, Nat.zero_le _, rfl, H2.out, P2.out⟩
        case round =>
          clear H2 P2
          obtain ⟨k, rfl, hk, rfl, hm, ho⟩ := hrel
          have HM := hide hm
          have HO := hide ho
          clear hm ho
          by_cases hlt : k < m
          · go_wp2_with fail
            refine (Len_any HM.out).mono ?_
            rintro e w3 ⟨rfl, rfl⟩
            rw [nines_len]
            go_wp2_with fail
            refine (Store_in k 99 HM.out (few_of _ (by omega)) (by omega) (by rw [nines_len]; omega)).mono ?_
            rintro e w3 ⟨rfl, h3, o3⟩
            have H3 := hide h3
            have O3 := hide (S0.then2 HO.out o3 b1' b2')
            clear h3 o3
            go_wp2_with fail
            go_roundg (m - (k + 1))
            case rel => exact ⟨k + 1, rfl, by omega, by go_num, by have := H3.out; simpa [nines] using this, O3.out⟩
            case measure => omega
          · obtain hkm : k = m := by omega
            subst hkm
            go_wp2_with fail
            refine (Len_any HM.out).mono ?_
            rintro e w3 ⟨rfl, rfl⟩
            rw [nines_len]
            go_wp2_with fail
            refine (Make_good bb nn HM.out (few_of _ (by omega)) HN1 HN64 (by rw [nines_len]; exact HIN)).mono ?_
            rintro e w6 ⟨bg, rfl, hg, h6, o6, b7⟩
            have HMEM := hide h6
            have HP2 := hide (S0.then2 HO.out o6 b1' b2')
            clear hg h6 o6 b7 HM HO
            go_wp2_with fail
            refine (Make_nil (bb : Int) (nn : Int) _).mono ?_
            rintro e w7 ⟨rfl, rfl⟩
            go_wp2_with fail
            refine (Size_any (nn : Int) _).mono ?_
            rintro e w7 ⟨rfl, rfl⟩
            rw [HGS.out]
            go_wp2_with fail
            refine (RefNew_any c).mono ?_
            rintro e w8 ⟨rm, rc, rfl, h8, p8, b5, b6⟩
            rw [HC.out] at h8
            have HM := hide (HMEM.out.only p8 (fun h => h) (fun h => h))
            have HP8 := hide (HP2.out.trans p8)
            have hr1 : w.heap.size ≤ rm := Nat.le_trans HP2.out.size b5
            have hr2 : w.heap.size ≤ rc := Nat.le_trans HP2.out.size b6
            have hm1 := HMEM.out.mem.lt
            have hm2 := HMEM.out.cells.lt
            have ha1 : rm ≠ bm := by omega
            have ha2 : rm ≠ bc := by omega
            have ha3 : rc ≠ bm := by omega
            have ha4 : rc ≠ bc := by omega
            have hrne := h8.ne
            have H8 := hide h8
            clear h8 p8 b5 b6 hm1 hm2
            go_wp2_with fail
            go_loopg [15] k (fun q iv wr => ∃ (j : Nat), q = k - j ∧ j ≤ k ∧ iv = .int .i64 j ∧ MemAt wr bm bc (layD (nines k k) bb (2 + nn)) (k + (2 + nn : Nat)) ∧ RefAt wr rm rc (nines k j) 0 ∧ Only S0 w wr)
            case atStart => exact ⟨0, rfl, Nat.zero_le _, rfl, HM.out, H8.out, HP8.out⟩
            case round =>
              clear HM H8 HP8
              obtain ⟨j, rfl, hk, rfl, hm, hr, ho⟩ := hrel
              have cr0 := hr.mem.cellv (i := 0) rfl
              rw [nines_len] at cr0
              by_cases hlt : j < k
              · have cr1 := hr.cellN j (by rw [nines_len]; omega)
                have f1 := hr.cells.frozen j
                have HM := hide hm
                have HR := hide hr
                have HP := hide ho
                clear hm hr ho
                go_wp2_with fail
                go_roundg (k - (j + 1))
                case rel =>
                  exact ⟨j + 1, rfl, by omega, by go_num, ⟨HM.out.mem.far (p := ⟨rc, j, none⟩) (fun h => ha3 h.symm) _, HM.out.cells.far (p := ⟨rc, j, none⟩) (fun h => ha4 h.symm) _, HM.out.len, HM.out.tc0⟩, HR.out.stored j 99, HP.out.setNew j hr2 _⟩
                case measure => omega
              · obtain hjk : j = k := by omega
                subst hjk
                have HM := hide hm
                have HR := hide hr
                have HP := hide ho
                clear hm hr ho
                go_wp2_with fail
                refine (Lay_any bb nn HR.out HN64 (by rw [nines_len]; exact HIN)).mono ?_
                rintro e w9 ⟨rfl, h9, o9⟩
                have HM9 := hide (HM.out.only o9 (by unfold S2; omega) (by unfold S2; omega))
                have HP9 := hide (S0.then2 HP.out o9 hr1 hr2)
                have HR9 := hide h9
                clear h9 o9 HM HP HR
                have HM := HM9
                have HP := HP9
                have HR := HR9
                clear HM9 HP9 HR9
                go_wp2_with fail
                have cr0 := HR.out.mem.cellv (i := 0) rfl
                have hnm := HR.out.mem.lt
                rw [layD_len, nines_len] at cr0
                have HLEN : (layD (nines j j) bb (2 + nn)).length = j := by rw [layD_len, nines_len]
                have hrd := HR.out.drew.rd
                rw [layD_len, nines_len] at hrd
                have HRD := hide hrd
                clear hrd
                have hbig : (layD (nines j j) bb (2 + nn)).length ≤ 1000000 := by rw [layD_len, nines_len]; omega
                go_region_held3 (fun w' => w'.cell? ⟨rm, 0, none⟩ = some (.slice (some ⟨rc, 0, none⟩) j j)) (first | exact cr0 | exact d0 | exact f0) (first | (go_at_call 18; refine (All_any (HM.out.drew)).mono ?_; rintro e w4 ⟨v, rfl, hv, o4⟩; have d0 := (o4.cell (p := ⟨rm, 0, none⟩) hnm (fun h => h)).trans cr0; have HV := hide hv; have HO4 := hide o4; clear hv o4) | (go_at_call 17; refine (Same_yes (A := layD (nines j j) bb (2 + nn)) hbig HV.out.rd (HRD.out.only0 HO4.out)).mono ?_; rintro e w5 ⟨rfl, o5⟩; have f0 := (o5.cell (p := ⟨rm, 0, none⟩) (Nat.lt_of_lt_of_le hnm HO4.out.size) (fun h => h)).trans d0; have HO5 := hide o5; clear o5))
                go_wp2_with fail
                go_ret
                exact ⟨rfl, S0.below ((HP.out.drew.trans HO4.out).trans HO5.out)⟩
      · by_cases h4 : base < 0
        · have HBAD : dsize n = 0 ∨ base < 0 ∨ (m : Int) - dsize n < base := .inr (.inl h4)
          have HBAD := hide HBAD
          clear h3
          go_enter Try.func3, Try.ntmps3
          go_wp2_with fail
          refine (alive4_any w).mono ?_
          rintro e w1 ⟨rfl, p1⟩
          have P1 := hide p1
          clear p1
          go_wp2_with fail
          refine (New_any c).mono ?_
          rintro e w2 ⟨bm, bc, rfl, h2, p2, b1, b2⟩
          rw [HC.out] at h2
          have P2 := hide (P1.out.trans p2)
          have H2 := hide h2
          have b1' : w.heap.size ≤ bm := Nat.le_trans P1.out.size b1
          have b2' : w.heap.size ≤ bc := Nat.le_trans P1.out.size b2
          clear h2 p2 b1 b2
          go_wp2_with fail
          go_loopg [8] m (fun q iv wr => ∃ (k : Nat), q = m - k ∧ k ≤ m ∧ iv = .int .i64 k ∧ MemAt wr bm bc (nines m k) k ∧ Only S0 w wr)
          case atStart => exact ⟨0, rfl, Nat.zero_le _, rfl, H2.out, P2.out⟩
          case round =>
            clear H2 P2
            obtain ⟨k, rfl, hk, rfl, hm, ho⟩ := hrel
            have HM := hide hm
            have HO := hide ho
            clear hm ho
            by_cases hlt : k < m
            · go_wp2_with fail
              refine (Len_any HM.out).mono ?_
              rintro e w3 ⟨rfl, rfl⟩
              rw [nines_len]
              go_wp2_with fail
              refine (Store_in k 99 HM.out (few_of _ (by omega)) (by omega) (by rw [nines_len]; omega)).mono ?_
              rintro e w3 ⟨rfl, h3, o3⟩
              have H3 := hide h3
              have O3 := hide (S0.then2 HO.out o3 b1' b2')
              clear h3 o3
              go_wp2_with fail
              go_roundg (m - (k + 1))
              case rel => exact ⟨k + 1, rfl, by omega, by go_num, by have := H3.out; simpa [nines] using this, O3.out⟩
              case measure => omega
            · obtain hkm : k = m := by omega
              subst hkm
              go_wp2_with fail
              refine (Len_any HM.out).mono ?_
              rintro e w3 ⟨rfl, rfl⟩
              rw [nines_len]
              go_wp2_with fail
              refine (Make_bad base n HM.out (by rw [nines_len]; exact HBAD.out)).mono ?_
              rintro e w6 ⟨rfl, rfl⟩
              have HMEM := HM
              have HP2 := HO
              clear HM HO
              go_wp2_with fail
              refine (Make_nil base n _).mono ?_
              rintro e w7 ⟨rfl, rfl⟩
              go_wp2_with fail
              refine (Size_any n _).mono ?_
              rintro e w7 ⟨rfl, rfl⟩
              rw [HGS.out]
              go_wp2_with fail
              refine (RefNew_any c).mono ?_
              rintro e w8 ⟨rm, rc, rfl, h8, p8, b5, b6⟩
              rw [HC.out] at h8
              have HM := hide (HMEM.out.only p8 (fun h => h) (fun h => h))
              have HP8 := hide (HP2.out.trans p8)
              have hr1 : w.heap.size ≤ rm := Nat.le_trans HP2.out.size b5
              have hr2 : w.heap.size ≤ rc := Nat.le_trans HP2.out.size b6
              have hm1 := HMEM.out.mem.lt
              have hm2 := HMEM.out.cells.lt
              have ha1 : rm ≠ bm := by omega
              have ha2 : rm ≠ bc := by omega
              have ha3 : rc ≠ bm := by omega
              have ha4 : rc ≠ bc := by omega
              have hrne := h8.ne
              have H8 := hide h8
              clear h8 p8 b5 b6 hm1 hm2
              go_wp2_with fail
              go_loopg [15] k (fun q iv wr => ∃ (j : Nat), q = k - j ∧ j ≤ k ∧ iv = .int .i64 j ∧ MemAt wr bm bc (nines k k) k ∧ RefAt wr rm rc (nines k j) 0 ∧ Only S0 w wr)
              case atStart => exact ⟨0, rfl, Nat.zero_le _, rfl, HM.out, H8.out, HP8.out⟩
              case round =>
                clear HM H8 HP8
                obtain ⟨j, rfl, hk, rfl, hm, hr, ho⟩ := hrel
                have cr0 := hr.mem.cellv (i := 0) rfl
                rw [nines_len] at cr0
                by_cases hlt : j < k
                · have cr1 := hr.cellN j (by rw [nines_len]; omega)
                  have f1 := hr.cells.frozen j
                  have HM := hide hm
                  have HR := hide hr
                  have HP := hide ho
                  clear hm hr ho
                  go_wp2_with fail
                  go_roundg (k - (j + 1))
                  case rel =>
                    exact ⟨j + 1, rfl, by omega, by go_num, ⟨HM.out.mem.far (p := ⟨rc, j, none⟩) (fun h => ha3 h.symm) _, HM.out.cells.far (p := ⟨rc, j, none⟩) (fun h => ha4 h.symm) _, HM.out.len, HM.out.tc0⟩, HR.out.stored j 99, HP.out.setNew j hr2 _⟩
                  case measure => omega
                · obtain hjk : j = k := by omega
                  subst hjk
                  have HM := hide hm
                  have HR := hide hr
                  have HP := hide ho
                  clear hm hr ho
                  go_wp2_with fail
                  have cr0 := HR.out.mem.cellv (i := 0) rfl
                  have hnm := HR.out.mem.lt
                  rw [nines_len] at cr0
                  have HLEN : (nines j j).length = j := nines_len _ _
                  have hrd := HR.out.drew.rd
                  rw [nines_len] at hrd
                  have HRD := hide hrd
                  clear hrd
                  have hbig : (nines j j).length ≤ 1000000 := by rw [nines_len]; omega
                  go_region_held3 (fun w' => w'.cell? ⟨rm, 0, none⟩ = some (.slice (some ⟨rc, 0, none⟩) j j)) (first | exact cr0 | exact d0 | exact f0) (first | (go_at_call 18; refine (All_any (HM.out.drew)).mono ?_; rintro e w4 ⟨v, rfl, hv, o4⟩; have d0 := (o4.cell (p := ⟨rm, 0, none⟩) hnm (fun h => h)).trans cr0; have HV := hide hv; have HO4 := hide o4; clear hv o4) | (go_at_call 17; refine (Same_yes (A := nines j j) hbig HV.out.rd (HRD.out.only0 HO4.out)).mono ?_; rintro e w5 ⟨rfl, o5⟩; have f0 := (o5.cell (p := ⟨rm, 0, none⟩) (Nat.lt_of_lt_of_le hnm HO4.out.size) (fun h => h)).trans d0; have HO5 := hide o5; clear o5))
                  go_wp2_with fail
                  go_ret
                  exact ⟨rfl, S0.below ((HP.out.drew.trans HO4.out).trans HO5.out)⟩
        · have h5 : (m : Int) - (2 + n) < base := by omega
          have HBAD : dsize n = 0 ∨ base < 0 ∨ (m : Int) - dsize n < base := .inr (.inr (by rw [HGS.out]; exact h5))
          have HBAD := hide HBAD
          clear h3
          go_enter Try.func3, Try.ntmps3
          go_wp2_with fail
          refine (alive4_any w).mono ?_
          rintro e w1 ⟨rfl, p1⟩
          have P1 := hide p1
          clear p1
          go_wp2_with fail
          refine (New_any c).mono ?_
          rintro e w2 ⟨bm, bc, rfl, h2, p2, b1, b2⟩
          rw [HC.out] at h2
          have P2 := hide (P1.out.trans p2)
          have H2 := hide h2
          have b1' : w.heap.size ≤ bm := Nat.le_trans P1.out.size b1
          have b2' : w.heap.size ≤ bc := Nat.le_trans P1.out.size b2
          clear h2 p2 b1 b2
          go_wp2_with fail
          go_loopg [8] m (fun q iv wr => ∃ (k : Nat), q = m - k ∧ k ≤ m ∧ iv = .int .i64 k ∧ MemAt wr bm bc (nines m k) k ∧ Only S0 w wr)
          case atStart => exact ⟨0, rfl, Nat.zero_le _, rfl, H2.out, P2.out⟩
          case round =>
            clear H2 P2
            obtain ⟨k, rfl, hk, rfl, hm, ho⟩ := hrel
            have HM := hide hm
            have HO := hide ho
            clear hm ho
            by_cases hlt : k < m
            · go_wp2_with fail
              refine (Len_any HM.out).mono ?_
              rintro e w3 ⟨rfl, rfl⟩
              rw [nines_len]
              go_wp2_with fail
              refine (Store_in k 99 HM.out (few_of _ (by omega)) (by omega) (by rw [nines_len]; omega)).mono ?_
              rintro e w3 ⟨rfl, h3, o3⟩
              have H3 := hide h3
              have O3 := hide (S0.then2 HO.out o3 b1' b2')
              clear h3 o3
              go_wp2_with fail
              go_roundg (m - (k + 1))
              case rel => exact ⟨k + 1, rfl, by omega, by go_num, by have := H3.out; simpa [nines] using this, O3.out⟩
              case measure => omega
            · obtain hkm : k = m := by omega
              subst hkm
              go_wp2_with fail
              refine (Len_any HM.out).mono ?_
              rintro e w3 ⟨rfl, rfl⟩
              rw [nines_len]
              go_wp2_with fail
              refine (Make_bad base n HM.out (by rw [nines_len]; exact HBAD.out)).mono ?_
              rintro e w6 ⟨rfl, rfl⟩
              have HMEM := HM
              have HP2 := HO
              clear HM HO
              go_wp2_with fail
              refine (Make_nil base n _).mono ?_
              rintro e w7 ⟨rfl, rfl⟩
              go_wp2_with fail
              refine (Size_any n _).mono ?_
              rintro e w7 ⟨rfl, rfl⟩
              rw [HGS.out]
              go_wp2_with fail
              refine (RefNew_any c).mono ?_
              rintro e w8 ⟨rm, rc, rfl, h8, p8, b5, b6⟩
              rw [HC.out] at h8
              have HM := hide (HMEM.out.only p8 (fun h => h) (fun h => h))
              have HP8 := hide (HP2.out.trans p8)
              have hr1 : w.heap.size ≤ rm := Nat.le_trans HP2.out.size b5
              have hr2 : w.heap.size ≤ rc := Nat.le_trans HP2.out.size b6
              have hm1 := HMEM.out.mem.lt
              have hm2 := HMEM.out.cells.lt
              have ha1 : rm ≠ bm := by omega
              have ha2 : rm ≠ bc := by omega
              have ha3 : rc ≠ bm := by omega
              have ha4 : rc ≠ bc := by omega
              have hrne := h8.ne
              have H8 := hide h8
              clear h8 p8 b5 b6 hm1 hm2
              go_wp2_with fail
              go_loopg [15] k (fun q iv wr => ∃ (j : Nat), q = k - j ∧ j ≤ k ∧ iv = .int .i64 j ∧ MemAt wr bm bc (nines k k) k ∧ RefAt wr rm rc (nines k j) 0 ∧ Only S0 w wr)
              case atStart => exact ⟨0, rfl, Nat.zero_le _, rfl, HM.out, H8.out, HP8.out⟩
              case round =>
                clear HM H8 HP8
                obtain ⟨j, rfl, hk, rfl, hm, hr, ho⟩ := hrel
                have cr0 := hr.mem.cellv (i := 0) rfl
                rw [nines_len] at cr0
                by_cases hlt : j < k
                · have cr1 := hr.cellN j (by rw [nines_len]; omega)
                  have f1 := hr.cells.frozen j
                  have HM := hide hm
                  have HR := hide hr
                  have HP := hide ho
                  clear hm hr ho
                  go_wp2_with fail
                  go_roundg (k - (j + 1))
                  case rel =>
                    exact ⟨j + 1, rfl, by omega, by go_num, ⟨HM.out.mem.far (p := ⟨rc, j, none⟩) (fun h => ha3 h.symm) _, HM.out.cells.far (p := ⟨rc, j, none⟩) (fun h => ha4 h.symm) _, HM.out.len, HM.out.tc0⟩, HR.out.stored j 99, HP.out.setNew j hr2 _⟩
                  case measure => omega
                · obtain hjk : j = k := by omega
                  subst hjk
                  have HM := hide hm
                  have HR := hide hr
                  have HP := hide ho
                  clear hm hr ho
                  go_wp2_with fail
                  have cr0 := HR.out.mem.cellv (i := 0) rfl
                  have hnm := HR.out.mem.lt
                  rw [nines_len] at cr0
                  have HLEN : (nines j j).length = j := nines_len _ _
                  have hrd := HR.out.drew.rd
                  rw [nines_len] at hrd
                  have HRD := hide hrd
                  clear hrd
                  have hbig : (nines j j).length ≤ 1000000 := by rw [nines_len]; omega
                  go_region_held3 (fun w' => w'.cell? ⟨rm, 0, none⟩ = some (.slice (some ⟨rc, 0, none⟩) j j)) (first | exact cr0 | exact d0 | exact f0) (first | (go_at_call 18; refine (All_any (HM.out.drew)).mono ?_; rintro e w4 ⟨v, rfl, hv, o4⟩; have d0 := (o4.cell (p := ⟨rm, 0, none⟩) hnm (fun h => h)).trans cr0; have HV := hide hv; have HO4 := hide o4; clear hv o4) | (go_at_call 17; refine (Same_yes (A := nines j j) hbig HV.out.rd (HRD.out.only0 HO4.out)).mono ?_; rintro e w5 ⟨rfl, o5⟩; have f0 := (o5.cell (p := ⟨rm, 0, none⟩) (Nat.lt_of_lt_of_le hnm HO4.out.size) (fun h => h)).trans d0; have HO5 := hide o5; clear o5))
                  go_wp2_with fail
                  go_ret
                  exact ⟨rfl, S0.below ((HP.out.drew.trans HO4.out).trans HO5.out)⟩
    · have HGS := hide (show dsize n = 0 by simp [dsize, h1])
      have HBAD : dsize n = 0 ∨ base < 0 ∨ (m : Int) - dsize n < base := .inl HGS.out
      have HBAD := hide HBAD
      by_cases h2 : n < 1
      · clear h1
        go_enter Try.func3, Try.ntmps3
        go_wp2_with fail
        refine (alive4_any w).mono ?_
        rintro e w1 ⟨rfl, p1⟩
        have P1 := hide p1
        clear p1
        go_wp2_with fail
        refine (New_any c).mono ?_
        rintro e w2 ⟨bm, bc, rfl, h2, p2, b1, b2⟩
        rw [HC.out] at h2
        have P2 := hide (P1.out.trans p2)
        have H2 := hide h2
        have b1' : w.heap.size ≤ bm := Nat.le_trans P1.out.size b1
        have b2' : w.heap.size ≤ bc := Nat.le_trans P1.out.size b2
        clear h2 p2 b1 b2
        go_wp2_with fail
        go_loopg [8] m (fun q iv wr => ∃ (k : Nat), q = m - k ∧ k ≤ m ∧ iv = .int .i64 k ∧ MemAt wr bm bc (nines m k) k ∧ Only S0 w wr)
        case atStart => exact ⟨0, rfl, Nat.zero_le _, rfl, H2.out, P2.out⟩
        case round =>
          clear H2 P2
          obtain ⟨k, rfl, hk, rfl, hm, ho⟩ := hrel
          have HM := hide hm
          have HO := hide ho
          clear hm ho
          by_cases hlt : k < m
          · go_wp2_with fail
            refine (Len_any HM.out).mono ?_
            rintro e w3 ⟨rfl, rfl⟩
            rw [nines_len]
            go_wp2_with fail
            refine (Store_in k 99 HM.out (few_of _ (by omega)) (by omega) (by rw [nines_len]; omega)).mono ?_
            rintro e w3 ⟨rfl, h3, o3⟩
            have H3 := hide h3
            have O3 := hide (S0.then2 HO.out o3 b1' b2')
            clear h3 o3
            go_wp2_with fail
            go_roundg (m - (k + 1))
            case rel => exact ⟨k + 1, rfl, by omega, by go_num, by have := H3.out; simpa [nines] using this, O3.out⟩
            case measure => omega
          · obtain hkm : k = m := by omega
            subst hkm
            go_wp2_with fail
            refine (Len_any HM.out).mono ?_
            rintro e w3 ⟨rfl, rfl⟩
            rw [nines_len]
            go_wp2_with fail
            refine (Make_bad base n HM.out (by rw [nines_len]; exact HBAD.out)).mono ?_
            rintro e w6 ⟨rfl, rfl⟩
            have HMEM := HM
            have HP2 := HO
            clear HM HO
            go_wp2_with fail
            refine (Make_nil base n _).mono ?_
            rintro e w7 ⟨rfl, rfl⟩
            go_wp2_with fail
            refine (Size_any n _).mono ?_
            rintro e w7 ⟨rfl, rfl⟩
            rw [HGS.out]
            go_wp2_with fail
            refine (RefNew_any c).mono ?_
            rintro e w8 ⟨rm, rc, rfl, h8, p8, b5, b6⟩
            rw [HC.out] at h8
            have HM := hide (HMEM.out.only p8 (fun h => h) (fun h => h))
            have HP8 := hide (HP2.out.trans p8)
            have hr1 : w.heap.size ≤ rm := Nat.le_trans HP2.out.size b5
            have hr2 : w.heap.size ≤ rc := Nat.le_trans HP2.out.size b6
            have hm1 := HMEM.out.mem.lt
            have hm2 := HMEM.out.cells.lt
            have ha1 : rm ≠ bm := by omega
            have ha2 : rm ≠ bc := by omega
            have ha3 : rc ≠ bm := by omega
            have ha4 : rc ≠ bc := by omega
            have hrne := h8.ne
            have H8 := hide h8
            clear h8 p8 b5 b6 hm1 hm2
            go_wp2_with fail
            go_loopg [15] k (fun q iv wr => ∃ (j : Nat), q = k - j ∧ j ≤ k ∧ iv = .int .i64 j ∧ MemAt wr bm bc (nines k k) k ∧ RefAt wr rm rc (nines k j) 0 ∧ Only S0 w wr)
            case atStart => exact ⟨0, rfl, Nat.zero_le _, rfl, HM.out, H8.out, HP8.out⟩
            case round =>
              clear HM H8 HP8
              obtain ⟨j, rfl, hk, rfl, hm, hr, ho⟩ := hrel
              have cr0 := hr.mem.cellv (i := 0) rfl
              rw [nines_len] at cr0
              by_cases hlt : j < k
              · have cr1 := hr.cellN j (by rw [nines_len]; omega)
                have f1 := hr.cells.frozen j
                have HM := hide hm
                have HR := hide hr
                have HP := hide ho
                clear hm hr ho
                go_wp2_with fail
                go_roundg (k - (j + 1))
                case rel =>
                  exact ⟨j + 1, rfl, by omega, by go_num, ⟨HM.out.mem.far (p := ⟨rc, j, none⟩) (fun h => ha3 h.symm) _, HM.out.cells.far (p := ⟨rc, j, none⟩) (fun h => ha4 h.symm) _, HM.out.len, HM.out.tc0⟩, HR.out.stored j 99, HP.out.setNew j hr2 _⟩
                case measure => omega
              · obtain hjk : j = k := by omega
                subst hjk
                have HM := hide hm
                have HR := hide hr
                have HP := hide ho
                clear hm hr ho
                go_wp2_with fail
                have cr0 := HR.out.mem.cellv (i := 0) rfl
                have hnm := HR.out.mem.lt
                rw [nines_len] at cr0
                have HLEN : (nines j j).length = j := nines_len _ _
                have hrd := HR.out.drew.rd
                rw [nines_len] at hrd
                have HRD := hide hrd
                clear hrd
                have hbig : (nines j j).length ≤ 1000000 := by rw [nines_len]; omega
                go_region_held3 (fun w' => w'.cell? ⟨rm, 0, none⟩ = some (.slice (some ⟨rc, 0, none⟩) j j)) (first | exact cr0 | exact d0 | exact f0) (first | (go_at_call 18; refine (All_any (HM.out.drew)).mono ?_; rintro e w4 ⟨v, rfl, hv, o4⟩; have d0 := (o4.cell (p := ⟨rm, 0, none⟩) hnm (fun h => h)).trans cr0; have HV := hide hv; have HO4 := hide o4; clear hv o4) | (go_at_call 17; refine (Same_yes (A := nines j j) hbig HV.out.rd (HRD.out.only0 HO4.out)).mono ?_; rintro e w5 ⟨rfl, o5⟩; have f0 := (o5.cell (p := ⟨rm, 0, none⟩) (Nat.lt_of_lt_of_le hnm HO4.out.size) (fun h => h)).trans d0; have HO5 := hide o5; clear o5))
                go_wp2_with fail
                go_ret
                exact ⟨rfl, S0.below ((HP.out.drew.trans HO4.out).trans HO5.out)⟩
      · have h3 : 64 < n := by omega
        clear h1
        go_enter Try.func3, Try.ntmps3
        go_wp2_with fail
        refine (alive4_any w).mono ?_
        rintro e w1 ⟨rfl, p1⟩
        have P1 := hide p1
        clear p1
        go_wp2_with fail
        refine (New_any c).mono ?_
        rintro e w2 ⟨bm, bc, rfl, h2, p2, b1, b2⟩
        rw [HC.out] at h2
        have P2 := hide (P1.out.trans p2)
        have H2 := hide h2
        have b1' : w.heap.size ≤ bm := Nat.le_trans P1.out.size b1
        have b2' : w.heap.size ≤ bc := Nat.le_trans P1.out.size b2
        clear h2 p2 b1 b2
        go_wp2_with fail
        go_loopg [8] m (fun q iv wr => ∃ (k : Nat), q = m - k ∧ k ≤ m ∧ iv = .int .i64 k ∧ MemAt wr bm bc (nines m k) k ∧ Only S0 w wr)
        case atStart => exact ⟨0, rfl, Nat.zero_le _, rfl, H2.out, P2.out⟩
        case round =>
          clear H2 P2
          obtain ⟨k, rfl, hk, rfl, hm, ho⟩ := hrel
          have HM := hide hm
          have HO := hide ho
          clear hm ho
          by_cases hlt : k < m
          · go_wp2_with fail
            refine (Len_any HM.out).mono ?_
            rintro e w3 ⟨rfl, rfl⟩
            rw [nines_len]
            go_wp2_with fail
            refine (Store_in k 99 HM.out (few_of _ (by omega)) (by omega) (by rw [nines_len]; omega)).mono ?_
            rintro e w3 ⟨rfl, h3, o3⟩
            have H3 := hide h3
            have O3 := hide (S0.then2 HO.out o3 b1' b2')
            clear h3 o3
            go_wp2_with fail
            go_roundg (m - (k + 1))
            case rel => exact ⟨k + 1, rfl, by omega, by go_num, by have := H3.out; simpa [nines] using this, O3.out⟩
            case measure => omega
          · obtain hkm : k = m := by omega
            subst hkm
            go_wp2_with fail
            refine (Len_any HM.out).mono ?_
            rintro e w3 ⟨rfl, rfl⟩
            rw [nines_len]
            go_wp2_with fail
            refine (Make_bad base n HM.out (by rw [nines_len]; exact HBAD.out)).mono ?_
            rintro e w6 ⟨rfl, rfl⟩
            have HMEM := HM
            have HP2 := HO
            clear HM HO
            go_wp2_with fail
            refine (Make_nil base n _).mono ?_
            rintro e w7 ⟨rfl, rfl⟩
            go_wp2_with fail
            refine (Size_any n _).mono ?_
            rintro e w7 ⟨rfl, rfl⟩
            rw [HGS.out]
            go_wp2_with fail
            refine (RefNew_any c).mono ?_
            rintro e w8 ⟨rm, rc, rfl, h8, p8, b5, b6⟩
            rw [HC.out] at h8
            have HM := hide (HMEM.out.only p8 (fun h => h) (fun h => h))
            have HP8 := hide (HP2.out.trans p8)
            have hr1 : w.heap.size ≤ rm := Nat.le_trans HP2.out.size b5
            have hr2 : w.heap.size ≤ rc := Nat.le_trans HP2.out.size b6
            have hm1 := HMEM.out.mem.lt
            have hm2 := HMEM.out.cells.lt
            have ha1 : rm ≠ bm := by omega
            have ha2 : rm ≠ bc := by omega
            have ha3 : rc ≠ bm := by omega
            have ha4 : rc ≠ bc := by omega
            have hrne := h8.ne
            have H8 := hide h8
            clear h8 p8 b5 b6 hm1 hm2
            go_wp2_with fail
            go_loopg [15] k (fun q iv wr => ∃ (j : Nat), q = k - j ∧ j ≤ k ∧ iv = .int .i64 j ∧ MemAt wr bm bc (nines k k) k ∧ RefAt wr rm rc (nines k j) 0 ∧ Only S0 w wr)
            case atStart => exact ⟨0, rfl, Nat.zero_le _, rfl, HM.out, H8.out, HP8.out⟩
            case round =>
              clear HM H8 HP8
              obtain ⟨j, rfl, hk, rfl, hm, hr, ho⟩ := hrel
              have cr0 := hr.mem.cellv (i := 0) rfl
              rw [nines_len] at cr0
              by_cases hlt : j < k
              · have cr1 := hr.cellN j (by rw [nines_len]; omega)
                have f1 := hr.cells.frozen j
                have HM := hide hm
                have HR := hide hr
                have HP := hide ho
                clear hm hr ho
                go_wp2_with fail
                go_roundg (k - (j + 1))
                case rel =>
                  exact ⟨j + 1, rfl, by omega, by go_num, ⟨HM.out.mem.far (p := ⟨rc, j, none⟩) (fun h => ha3 h.symm) _, HM.out.cells.far (p := ⟨rc, j, none⟩) (fun h => ha4 h.symm) _, HM.out.len, HM.out.tc0⟩, HR.out.stored j 99, HP.out.setNew j hr2 _⟩
                case measure => omega
              · obtain hjk : j = k := by omega
                subst hjk
                have HM := hide hm
                have HR := hide hr
                have HP := hide ho
                clear hm hr ho
                go_wp2_with fail
                have cr0 := HR.out.mem.cellv (i := 0) rfl
                have hnm := HR.out.mem.lt
                rw [nines_len] at cr0
                have HLEN : (nines j j).length = j := nines_len _ _
                have hrd := HR.out.drew.rd
                rw [nines_len] at hrd
                have HRD := hide hrd
                clear hrd
                have hbig : (nines j j).length ≤ 1000000 := by rw [nines_len]; omega
                go_region_held3 (fun w' => w'.cell? ⟨rm, 0, none⟩ = some (.slice (some ⟨rc, 0, none⟩) j j)) (first | exact cr0 | exact d0 | exact f0) (first | (go_at_call 18; refine (All_any (HM.out.drew)).mono ?_; rintro e w4 ⟨v, rfl, hv, o4⟩; have d0 := (o4.cell (p := ⟨rm, 0, none⟩) hnm (fun h => h)).trans cr0; have HV := hide hv; have HO4 := hide o4; clear hv o4) | (go_at_call 17; refine (Same_yes (A := nines j j) hbig HV.out.rd (HRD.out.only0 HO4.out)).mono ?_; rintro e w5 ⟨rfl, o5⟩; have f0 := (o5.cell (p := ⟨rm, 0, none⟩) (Nat.lt_of_lt_of_le hnm HO4.out.size) (fun h => h)).trans d0; have HO5 := hide o5; clear o5))
                go_wp2_with fail
                go_ret
                exact ⟨rfl, S0.below ((HP.out.drew.trans HO4.out).trans HO5.out)⟩
end
end Go.Proofs.Ytblkbfdmoanbfaa
