/-
  BellMakes, the walk.
-/
import Derived.Test.YtafnlmkhfonghaaAlive6
import Derived.Test.YtafnlmkhfonghaaFam
namespace Go.Proofs.Ytafnlmkhfonghaa
open Go.RowKit
set_option linter.unusedVariables false

theorem RefAt.cellN {w : World} {rm rc : Nat} {L : List Int} {tc : Int} (h : RefAt w rm rc L tc) (i : Nat) (h1 : i < L.length) : w.cell? ⟨rc, i, none⟩ = some (.int .u64 (at_ L i)) := by
  have := h.cell i (by omega) (by omega)
  simpa using this
/-- 99 in the first k places. -/
def firsts (k : Nat) : Nat → Int := fun i => if i < k then 99 else 0
theorem firsts_succ (m k : Nat) : (mk m (firsts k)).set k 99 = mk m (firsts (k + 1)) := by
  rw [mk_set]
  refine mk_congr fun i _ => ?_
  by_cases e : i = k
  · subst e
    rw [upd_same, firsts, if_pos (by omega)]
  · rw [upd_ne _ _ e, firsts, firsts]
    by_cases h : i < k
    · rw [if_pos h, if_pos (by omega)]
    · rw [if_neg h, if_neg (by omega)]
theorem firsts_zero (m : Nat) : List.replicate m 0 = mk m (firsts 0) := by
  rw [mk_rep]
  exact mk_congr fun i _ => by rw [firsts, if_neg (by omega)]
/-- The same, but for a stretch of zeros. -/
def holed (b z k : Nat) : Nat → Int := fun i => if i < k then (if b ≤ i ∧ i < b + z then 0 else 99) else 0
theorem holed_zero (m b z : Nat) : List.replicate m 0 = mk m (holed b z 0) := by
  rw [mk_rep]
  exact mk_congr fun i _ => by rw [holed, if_neg (by omega)]
theorem holed_out {m b z k : Nat} (h : ¬ (b ≤ k ∧ k < b + z)) : (mk m (holed b z k)).set k 99 = mk m (holed b z (k + 1)) := by
  rw [mk_set]
  refine mk_congr fun i _ => ?_
  by_cases e : i = k
  · subst e
    rw [upd_same, holed, if_pos (by omega), if_neg h]
  · rw [upd_ne _ _ e, holed, holed]
    by_cases h : i < k
    · simp only [if_pos h, if_pos (show i < k + 1 by omega)]
    · simp only [if_neg h, if_neg (show ¬ i < k + 1 by omega)]
theorem holed_in {m b z k : Nat} (h : b ≤ k ∧ k < b + z) : ((mk m (holed b z k)).set k 99).set k 0 = mk m (holed b z (k + 1)) := by
  rw [mk_set, mk_set]
  refine mk_congr fun i _ => ?_
  by_cases e : i = k
  · subst e
    rw [upd_same, holed, if_pos (by omega), if_pos h]
  · rw [upd_ne _ _ e, upd_ne _ _ e, holed, holed]
    by_cases h : i < k
    · simp only [if_pos h, if_pos (show i < k + 1 by omega)]
    · simp only [if_neg h, if_neg (show ¬ i < k + 1 by omega)]
theorem zeroL_firsts (m b : Nat) : ∀ z, b + z ≤ m → zeroL (mk m (firsts m)) b z = mk m (holed b z m)
  | 0, _ => by
    rw [zeroL]
    exact mk_congr fun i hi => by rw [firsts, holed, if_pos hi, if_pos hi, if_neg (by omega)]
  | z + 1, h => by
    rw [zeroL, zeroL_firsts m b z (by omega), mk_set]
    refine mk_congr fun i hi => ?_
    by_cases e : i = b + z
    · subst e
      rw [upd_same, holed, if_pos hi, if_pos (by omega)]
    · rw [upd_ne _ _ e, holed, holed, if_pos hi, if_pos hi]
      by_cases h : b ≤ i ∧ i < b + z
      · rw [if_pos h, if_pos (by omega)]
      · rw [if_neg h, if_neg (by omega)]

set_option maxRecDepth 100000 in
set_option maxHeartbeats 8000000 in
theorem bellMakes_walk (c base n : Int) (w : World) (x0 : (Lit.int .i64 c).wf = true) (x1 : (Lit.int .i64 base).wf = true) (x2 : (Lit.int .i64 n).wf = true) :
    Calls Try.prog 7 #[.int .i64 c, .int .i64 base, .int .i64 n] w fun e w' => e = .returned (.bool true) ∧ Below w.heap.size w w' := by
  by_cases hbig : c > 1000
  · clear x0 x1 x2
    go_enter Try.func7, Try.ntmps7
    go_wp2_with fail
    refine (alive6_any w).mono ?_
    rintro e w1 ⟨rfl, p1⟩
    have P1 := hide p1
    clear p1
    go_wp2_with fail
    go_ret
    exact ⟨rfl, S0.below P1.out⟩
  obtain ⟨m, hm⟩ : ∃ m, countOf c = m := ⟨_, rfl⟩
  have hm1 : m ≤ 1000 := by rw [← hm]; unfold countOf; omega
  have HC := hide hm
  clear hm
  by_cases h1 : 1 ≤ n ∧ n ≤ 8
  · obtain ⟨h1, h2⟩ := h1
    have HGS := hide (show bsize n = n by simp [bsize, h1, h2])
    by_cases h3 : 0 ≤ base ∧ base + n ≤ m
    · obtain ⟨h3, h4⟩ := h3
      obtain ⟨bb, rfl⟩ : ∃ bb : Nat, base = bb := ⟨base.toNat, by omega⟩
      obtain ⟨nn, rfl⟩ : ∃ nn : Nat, n = nn := ⟨n.toNat, by omega⟩
      have HIN : bb + nn ≤ m := by omega
      have HN1 : 1 ≤ nn := by omega
      have HN8 : nn ≤ 8 := by omega
      have HZ : ((nn : Int) == 0) = false := by rw [beq_eq_false_iff_ne]; omega
      clear x0 x1 x2
      go_enter Try.func7, Try.ntmps7
      go_wp2_with fail
      refine (alive6_any w).mono ?_
      rintro e w1 ⟨rfl, p1⟩
      have P1 := hide p1
      clear p1
      go_wp2_with fail
      refine (New_any c).mono ?_
      rintro e w2 ⟨bm, bc, rfl, h2, p2, b1, b2⟩
      rw [HC.out, firsts_zero] at h2
      have P2 := hide (P1.out.trans p2)
      have H2 := hide h2
      have b1' : w.heap.size ≤ bm := Nat.le_trans P1.out.size b1
      have b2' : w.heap.size ≤ bc := Nat.le_trans P1.out.size b2
      clear h2 p2 b1 b2
      go_wp2_with fail
      go_loopg [8] m (fun q iv wr => ∃ (k : Nat), q = m - k ∧ k ≤ m ∧ iv = .int .i64 k ∧ MemAt wr bm bc (mk m (firsts k)) k ∧ Only S0 w wr)
      case atStart => exact ⟨0, rfl, Nat.zero_le _, rfl, H2.out, P2.out⟩
      case round =>
      clear H2 P2
      obtain ⟨k, rfl, hk, rfl, hm, ho⟩ := hrel
      have HM := hide hm
      have HO := hide ho
      clear hm ho
      by_cases hlt : k < m
      · go_wp2_with fail
        refine (Len_any HM.out).mono ?_
        rintro e w3 ⟨rfl, rfl⟩
        rw [mk_len]
        go_wp2_with fail
        refine (Store_in k 99 HM.out (few_of _ (by omega)) (by omega) (by rw [mk_len]; omega)).mono ?_
        rintro e w3 ⟨rfl, h3, o3⟩
        rw [Int.toNat_natCast, firsts_succ] at h3
        have H3 := hide h3
        have O3 := hide (S0.then2 HO.out o3 b1' b2')
        clear h3 o3
        go_wp2_with fail
        go_roundg (m - (k + 1))
        case rel => exact ⟨k + 1, rfl, by omega, by go_num, H3.out, O3.out⟩
        case measure => omega
      obtain rfl : k = m := by omega
      go_wp2_with fail
      refine (Len_any HM.out).mono ?_
      rintro e w3 ⟨rfl, rfl⟩
      rw [mk_len]
      go_wp2_with fail
      refine (BMake_good bb nn HM.out (few_of _ (by omega)) HN1 HN8 (by rw [mk_len]; exact HIN)).mono ?_
      rintro e w6 ⟨bg, rfl, hg, h6, o6, b7⟩
      rw [zeroL_firsts _ _ _ HIN] at h6
      obtain ⟨tcm, htcm⟩ : ∃ tcm : Int, (k : Int) + (nn : Nat) = tcm := ⟨_, rfl⟩
      rw [htcm] at h6
      have HMEM := hide h6
      have HP2 := hide (S0.then2 HO.out o6 b1' b2')
      clear hg h6 o6 b7 HM HO htcm
      go_wp2_with fail
      refine (BMake_nil (bb : Int) (nn : Int) _).mono ?_
      rintro e w7 ⟨rfl, rfl⟩
      go_wp2_with fail
      refine (BSize_any (nn : Int) _).mono ?_
      rintro e w7 ⟨rfl, rfl⟩
      rw [HGS.out]
      go_wp2_with fail
      refine (RefNew_any c).mono ?_
      rintro e w8 ⟨rm, rc, rfl, h8, p8, b5, b6⟩
      rw [HC.out, holed_zero _ bb nn] at h8
      have HM := hide (HMEM.out.only p8 (fun h => h) (fun h => h))
      have HP8 := hide (HP2.out.trans p8)
      have hr1 : w.heap.size ≤ rm := Nat.le_trans HP2.out.size b5
      have hr2 : w.heap.size ≤ rc := Nat.le_trans HP2.out.size b6
      have hm1 := HMEM.out.mem.lt
      have hm2 := HMEM.out.cells.lt
      have ha1 : rm ≠ bm := by omega
      have ha2 : rm ≠ bc := by omega
      have ha3 : rc ≠ bm := by omega
      have ha4 : rc ≠ bc := by omega
      have hrne := h8.ne
      have H8 := hide h8
      clear h8 p8 b5 b6 hm1 hm2
      go_wp2_with fail
      go_loopg [15] k (fun q iv wr => ∃ (j : Nat), q = k - j ∧ j ≤ k ∧ iv = .int .i64 j ∧ MemAt wr bm bc (mk k (holed bb nn k)) tcm ∧ RefAt wr rm rc (mk k (holed bb nn j)) 0 ∧ Only S0 w wr)
      case atStart => exact ⟨0, rfl, Nat.zero_le _, rfl, HM.out, H8.out, HP8.out⟩
      case round =>
      clear HM H8 HP8
      obtain ⟨j, rfl, hk, rfl, hm, hr, ho⟩ := hrel
      have cr0 := hr.mem.cellv (i := 0) rfl
      rw [mk_len] at cr0
      by_cases hlt : j < k
      · have cr1 := hr.cellN j (by rw [mk_len]; omega)
        have f1 := hr.cells.frozen j
        have HM := hide hm
        have HR := hide hr
        have HP := hide ho
        clear hm hr ho
        by_cases r1 : j < bb
        · go_wp2_with fail
          go_roundg (k - (j + 1))
          case rel => exact ⟨j + 1, rfl, by omega, by go_num, ⟨HM.out.mem.far (p := ⟨rc, j, none⟩) (fun h => ha3 h.symm) _, HM.out.cells.far (p := ⟨rc, j, none⟩) (fun h => ha4 h.symm) _, HM.out.len, HM.out.tc0⟩, by rw [← holed_out (by omega)]; exact HR.out.stored j 99, HP.out.setNew j hr2 _⟩
          case measure => omega
        · replace r1 : bb ≤ j := by omega
          by_cases r2 : j < bb + nn
          · go_wp2_with fail
            go_roundg (k - (j + 1))
            case rel => exact ⟨j + 1, rfl, by omega, by go_num, ⟨(HM.out.mem.far (p := ⟨rc, j, none⟩) (fun h => ha3 h.symm) _).far (p := ⟨rc, j, none⟩) (fun h => ha3 h.symm) _, (HM.out.cells.far (p := ⟨rc, j, none⟩) (fun h => ha4 h.symm) _).far (p := ⟨rc, j, none⟩) (fun h => ha4 h.symm) _, HM.out.len, HM.out.tc0⟩, by rw [← holed_in ⟨r1, r2⟩]; exact (HR.out.stored j 99).stored j 0, (HP.out.setNew j hr2 _).setNew j hr2 _⟩
            case measure => omega
          · replace r2 : bb + nn ≤ j := by omega
            go_wp2_with fail
            go_roundg (k - (j + 1))
            case rel => exact ⟨j + 1, rfl, by omega, by go_num, ⟨HM.out.mem.far (p := ⟨rc, j, none⟩) (fun h => ha3 h.symm) _, HM.out.cells.far (p := ⟨rc, j, none⟩) (fun h => ha4 h.symm) _, HM.out.len, HM.out.tc0⟩, by rw [← holed_out (by omega)]; exact HR.out.stored j 99, HP.out.setNew j hr2 _⟩
            case measure => omega
      obtain rfl : j = k := by omega
      have HM := hide hm
      have HR := hide hr
      have HP := hide ho
      clear hm hr ho
      have hnm := HR.out.mem.lt
      have hrd := HR.out.drew.rd
      rw [mk_len] at hrd
      have HRD := hide hrd
      clear hrd
      have hbig : ((mk j (holed bb nn j))).length ≤ 1000000 := by rw [mk_len]; omega
      go_wp2_with fail
      go_region_held3 (fun w' => w'.cell? ⟨rm, 0, none⟩ = some (.slice (some ⟨rc, 0, none⟩) j j)) (first | exact cr0 | exact d0 | exact f0) (first | (go_at_call 41; refine (All_any (HM.out.drew)).mono ?_; rintro e w4 ⟨v, rfl, hv, o4⟩; have d0 := (o4.cell (p := ⟨rm, 0, none⟩) hnm (fun h => h)).trans cr0; have HV := hide hv; have HO4 := hide o4; clear hv o4) | (go_at_call 40; refine (Same_yes (A := mk j (holed bb nn j)) hbig HV.out.rd (HRD.out.only0 HO4.out)).mono ?_; rintro e w5 ⟨rfl, o5⟩; have f0 := (o5.cell (p := ⟨rm, 0, none⟩) (Nat.lt_of_lt_of_le hnm HO4.out.size) (fun h => h)).trans d0; have HO5 := hide o5; clear o5))
      go_wp2_with fail
      go_ret
      exact ⟨rfl, S0.below ((HP.out.drew.trans HO4.out).trans HO5.out)⟩
    · by_cases h4 : base < 0
      · have HBAD := hide (show bsize n = 0 ∨ base < 0 ∨ (m : Int) - bsize n < base from .inr (.inl h4))
        have HZ : ((n : Int) == 0) = false := by rw [beq_eq_false_iff_ne]; omega
        clear h3 x0
        go_enter Try.func7, Try.ntmps7
        go_wp2_with fail
        refine (alive6_any w).mono ?_
        rintro e w1 ⟨rfl, p1⟩
        have P1 := hide p1
        clear p1
        go_wp2_with fail
        refine (New_any c).mono ?_
        rintro e w2 ⟨bm, bc, rfl, h2, p2, b1, b2⟩
        rw [HC.out, firsts_zero] at h2
        have P2 := hide (P1.out.trans p2)
        have H2 := hide h2
        have b1' : w.heap.size ≤ bm := Nat.le_trans P1.out.size b1
        have b2' : w.heap.size ≤ bc := Nat.le_trans P1.out.size b2
        clear h2 p2 b1 b2
        go_wp2_with fail
        go_loopg [8] m (fun q iv wr => ∃ (k : Nat), q = m - k ∧ k ≤ m ∧ iv = .int .i64 k ∧ MemAt wr bm bc (mk m (firsts k)) k ∧ Only S0 w wr)
        case atStart => exact ⟨0, rfl, Nat.zero_le _, rfl, H2.out, P2.out⟩
        case round =>
        clear H2 P2
        obtain ⟨k, rfl, hk, rfl, hm, ho⟩ := hrel
        have HM := hide hm
        have HO := hide ho
        clear hm ho
        by_cases hlt : k < m
        · go_wp2_with fail
          refine (Len_any HM.out).mono ?_
          rintro e w3 ⟨rfl, rfl⟩
          rw [mk_len]
          go_wp2_with fail
          refine (Store_in k 99 HM.out (few_of _ (by omega)) (by omega) (by rw [mk_len]; omega)).mono ?_
          rintro e w3 ⟨rfl, h3, o3⟩
          rw [Int.toNat_natCast, firsts_succ] at h3
          have H3 := hide h3
          have O3 := hide (S0.then2 HO.out o3 b1' b2')
          clear h3 o3
          go_wp2_with fail
          go_roundg (m - (k + 1))
          case rel => exact ⟨k + 1, rfl, by omega, by go_num, H3.out, O3.out⟩
          case measure => omega
        obtain rfl : k = m := by omega
        go_wp2_with fail
        refine (Len_any HM.out).mono ?_
        rintro e w3 ⟨rfl, rfl⟩
        rw [mk_len]
        go_wp2_with fail
        refine (BMake_bad base n HM.out (by rw [mk_len]; exact HBAD.out)).mono ?_
        rintro e w6 ⟨rfl, rfl⟩
        obtain ⟨tcm, htcm⟩ : ∃ tcm : Int, (k : Int) = tcm := ⟨_, rfl⟩
        have HMEM := HM
        rw [htcm] at HMEM
        have HP2 := HO
        clear HM HO htcm
        go_wp2_with fail
        refine (BMake_nil base n _).mono ?_
        rintro e w7 ⟨rfl, rfl⟩
        go_wp2_with fail
        refine (BSize_any n _).mono ?_
        rintro e w7 ⟨rfl, rfl⟩
        rw [HGS.out]
        go_wp2_with fail
        refine (RefNew_any c).mono ?_
        rintro e w8 ⟨rm, rc, rfl, h8, p8, b5, b6⟩
        rw [HC.out, firsts_zero] at h8
        have HM := hide (HMEM.out.only p8 (fun h => h) (fun h => h))
        have HP8 := hide (HP2.out.trans p8)
        have hr1 : w.heap.size ≤ rm := Nat.le_trans HP2.out.size b5
        have hr2 : w.heap.size ≤ rc := Nat.le_trans HP2.out.size b6
        have hm1 := HMEM.out.mem.lt
        have hm2 := HMEM.out.cells.lt
        have ha1 : rm ≠ bm := by omega
        have ha2 : rm ≠ bc := by omega
        have ha3 : rc ≠ bm := by omega
        have ha4 : rc ≠ bc := by omega
        have hrne := h8.ne
        have H8 := hide h8
        clear h8 p8 b5 b6 hm1 hm2
        go_wp2_with fail
        go_loopg [15] k (fun q iv wr => ∃ (j : Nat), q = k - j ∧ j ≤ k ∧ iv = .int .i64 j ∧ MemAt wr bm bc (mk k (firsts k)) tcm ∧ RefAt wr rm rc (mk k (firsts j)) 0 ∧ Only S0 w wr)
        case atStart => exact ⟨0, rfl, Nat.zero_le _, rfl, HM.out, H8.out, HP8.out⟩
        case round =>
        clear HM H8 HP8
        obtain ⟨j, rfl, hk, rfl, hm, hr, ho⟩ := hrel
        have cr0 := hr.mem.cellv (i := 0) rfl
        rw [mk_len] at cr0
        by_cases hlt : j < k
        · have cr1 := hr.cellN j (by rw [mk_len]; omega)
          have f1 := hr.cells.frozen j
          have HM := hide hm
          have HR := hide hr
          have HP := hide ho
          clear hm hr ho
          go_wp2_with fail
          go_roundg (k - (j + 1))
          case rel => exact ⟨j + 1, rfl, by omega, by go_num, ⟨HM.out.mem.far (p := ⟨rc, j, none⟩) (fun h => ha3 h.symm) _, HM.out.cells.far (p := ⟨rc, j, none⟩) (fun h => ha4 h.symm) _, HM.out.len, HM.out.tc0⟩, by rw [← firsts_succ]; exact HR.out.stored j 99, HP.out.setNew j hr2 _⟩
          case measure => omega
        obtain rfl : j = k := by omega
        have HM := hide hm
        have HR := hide hr
        have HP := hide ho
        clear hm hr ho
        have hnm := HR.out.mem.lt
        have hrd := HR.out.drew.rd
        rw [mk_len] at hrd
        have HRD := hide hrd
        clear hrd
        have hbig : ((mk j (firsts j))).length ≤ 1000000 := by rw [mk_len]; omega
        go_wp2_with fail
        go_region_held3 (fun w' => w'.cell? ⟨rm, 0, none⟩ = some (.slice (some ⟨rc, 0, none⟩) j j)) (first | exact cr0 | exact d0 | exact f0) (first | (go_at_call 41; refine (All_any (HM.out.drew)).mono ?_; rintro e w4 ⟨v, rfl, hv, o4⟩; have d0 := (o4.cell (p := ⟨rm, 0, none⟩) hnm (fun h => h)).trans cr0; have HV := hide hv; have HO4 := hide o4; clear hv o4) | (go_at_call 40; refine (Same_yes (A := mk j (firsts j)) hbig HV.out.rd (HRD.out.only0 HO4.out)).mono ?_; rintro e w5 ⟨rfl, o5⟩; have f0 := (o5.cell (p := ⟨rm, 0, none⟩) (Nat.lt_of_lt_of_le hnm HO4.out.size) (fun h => h)).trans d0; have HO5 := hide o5; clear o5))
        go_wp2_with fail
        go_ret
        exact ⟨rfl, S0.below ((HP.out.drew.trans HO4.out).trans HO5.out)⟩
      · have h5 : (m : Int) - n < base := by omega
        replace h4 : 0 ≤ base := by omega
        have HBAD := hide (show bsize n = 0 ∨ base < 0 ∨ (m : Int) - bsize n < base from .inr (.inr (by rw [HGS.out]; omega)))
        have HZ : ((n : Int) == 0) = false := by rw [beq_eq_false_iff_ne]; omega
        clear h3 x0
        go_enter Try.func7, Try.ntmps7
        go_wp2_with fail
        refine (alive6_any w).mono ?_
        rintro e w1 ⟨rfl, p1⟩
        have P1 := hide p1
        clear p1
        go_wp2_with fail
        refine (New_any c).mono ?_
        rintro e w2 ⟨bm, bc, rfl, h2, p2, b1, b2⟩
        rw [HC.out, firsts_zero] at h2
        have P2 := hide (P1.out.trans p2)
        have H2 := hide h2
        have b1' : w.heap.size ≤ bm := Nat.le_trans P1.out.size b1
        have b2' : w.heap.size ≤ bc := Nat.le_trans P1.out.size b2
        clear h2 p2 b1 b2
        go_wp2_with fail
        go_loopg [8] m (fun q iv wr => ∃ (k : Nat), q = m - k ∧ k ≤ m ∧ iv = .int .i64 k ∧ MemAt wr bm bc (mk m (firsts k)) k ∧ Only S0 w wr)
        case atStart => exact ⟨0, rfl, Nat.zero_le _, rfl, H2.out, P2.out⟩
        case round =>
        clear H2 P2
        obtain ⟨k, rfl, hk, rfl, hm, ho⟩ := hrel
        have HM := hide hm
        have HO := hide ho
        clear hm ho
        by_cases hlt : k < m
        · go_wp2_with fail
          refine (Len_any HM.out).mono ?_
          rintro e w3 ⟨rfl, rfl⟩
          rw [mk_len]
          go_wp2_with fail
          refine (Store_in k 99 HM.out (few_of _ (by omega)) (by omega) (by rw [mk_len]; omega)).mono ?_
          rintro e w3 ⟨rfl, h3, o3⟩
          rw [Int.toNat_natCast, firsts_succ] at h3
          have H3 := hide h3
          have O3 := hide (S0.then2 HO.out o3 b1' b2')
          clear h3 o3
          go_wp2_with fail
          go_roundg (m - (k + 1))
          case rel => exact ⟨k + 1, rfl, by omega, by go_num, H3.out, O3.out⟩
          case measure => omega
        obtain rfl : k = m := by omega
        go_wp2_with fail
        refine (Len_any HM.out).mono ?_
        rintro e w3 ⟨rfl, rfl⟩
        rw [mk_len]
        go_wp2_with fail
        refine (BMake_bad base n HM.out (by rw [mk_len]; exact HBAD.out)).mono ?_
        rintro e w6 ⟨rfl, rfl⟩
        obtain ⟨tcm, htcm⟩ : ∃ tcm : Int, (k : Int) = tcm := ⟨_, rfl⟩
        have HMEM := HM
        rw [htcm] at HMEM
        have HP2 := HO
        clear HM HO htcm
        go_wp2_with fail
        refine (BMake_nil base n _).mono ?_
        rintro e w7 ⟨rfl, rfl⟩
        go_wp2_with fail
        refine (BSize_any n _).mono ?_
        rintro e w7 ⟨rfl, rfl⟩
        rw [HGS.out]
        go_wp2_with fail
        refine (RefNew_any c).mono ?_
        rintro e w8 ⟨rm, rc, rfl, h8, p8, b5, b6⟩
        rw [HC.out, firsts_zero] at h8
        have HM := hide (HMEM.out.only p8 (fun h => h) (fun h => h))
        have HP8 := hide (HP2.out.trans p8)
        have hr1 : w.heap.size ≤ rm := Nat.le_trans HP2.out.size b5
        have hr2 : w.heap.size ≤ rc := Nat.le_trans HP2.out.size b6
        have hm1 := HMEM.out.mem.lt
        have hm2 := HMEM.out.cells.lt
        have ha1 : rm ≠ bm := by omega
        have ha2 : rm ≠ bc := by omega
        have ha3 : rc ≠ bm := by omega
        have ha4 : rc ≠ bc := by omega
        have hrne := h8.ne
        have H8 := hide h8
        clear h8 p8 b5 b6 hm1 hm2
        go_wp2_with fail
        go_loopg [15] k (fun q iv wr => ∃ (j : Nat), q = k - j ∧ j ≤ k ∧ iv = .int .i64 j ∧ MemAt wr bm bc (mk k (firsts k)) tcm ∧ RefAt wr rm rc (mk k (firsts j)) 0 ∧ Only S0 w wr)
        case atStart => exact ⟨0, rfl, Nat.zero_le _, rfl, HM.out, H8.out, HP8.out⟩
        case round =>
        clear HM H8 HP8
        obtain ⟨j, rfl, hk, rfl, hm, hr, ho⟩ := hrel
        have cr0 := hr.mem.cellv (i := 0) rfl
        rw [mk_len] at cr0
        by_cases hlt : j < k
        · have cr1 := hr.cellN j (by rw [mk_len]; omega)
          have f1 := hr.cells.frozen j
          have HM := hide hm
          have HR := hide hr
          have HP := hide ho
          clear hm hr ho
          go_wp2_with fail
          go_roundg (k - (j + 1))
          case rel => exact ⟨j + 1, rfl, by omega, by go_num, ⟨HM.out.mem.far (p := ⟨rc, j, none⟩) (fun h => ha3 h.symm) _, HM.out.cells.far (p := ⟨rc, j, none⟩) (fun h => ha4 h.symm) _, HM.out.len, HM.out.tc0⟩, by rw [← firsts_succ]; exact HR.out.stored j 99, HP.out.setNew j hr2 _⟩
          case measure => omega
        obtain rfl : j = k := by omega
        have HM := hide hm
        have HR := hide hr
        have HP := hide ho
        clear hm hr ho
        have hnm := HR.out.mem.lt
        have hrd := HR.out.drew.rd
        rw [mk_len] at hrd
        have HRD := hide hrd
        clear hrd
        have hbig : ((mk j (firsts j))).length ≤ 1000000 := by rw [mk_len]; omega
        go_wp2_with fail
        go_region_held3 (fun w' => w'.cell? ⟨rm, 0, none⟩ = some (.slice (some ⟨rc, 0, none⟩) j j)) (first | exact cr0 | exact d0 | exact f0) (first | (go_at_call 41; refine (All_any (HM.out.drew)).mono ?_; rintro e w4 ⟨v, rfl, hv, o4⟩; have d0 := (o4.cell (p := ⟨rm, 0, none⟩) hnm (fun h => h)).trans cr0; have HV := hide hv; have HO4 := hide o4; clear hv o4) | (go_at_call 40; refine (Same_yes (A := mk j (firsts j)) hbig HV.out.rd (HRD.out.only0 HO4.out)).mono ?_; rintro e w5 ⟨rfl, o5⟩; have f0 := (o5.cell (p := ⟨rm, 0, none⟩) (Nat.lt_of_lt_of_le hnm HO4.out.size) (fun h => h)).trans d0; have HO5 := hide o5; clear o5))
        go_wp2_with fail
        go_ret
        exact ⟨rfl, S0.below ((HP.out.drew.trans HO4.out).trans HO5.out)⟩
  · have HGS := hide (show bsize n = 0 by simp [bsize, h1])
    have HBAD := hide (show bsize n = 0 ∨ base < 0 ∨ (m : Int) - bsize n < base from .inl HGS.out)
    by_cases h2 : n < 1
    · clear h1 x0
      go_enter Try.func7, Try.ntmps7
      go_wp2_with fail
      refine (alive6_any w).mono ?_
      rintro e w1 ⟨rfl, p1⟩
      have P1 := hide p1
      clear p1
      go_wp2_with fail
      refine (New_any c).mono ?_
      rintro e w2 ⟨bm, bc, rfl, h2, p2, b1, b2⟩
      rw [HC.out, firsts_zero] at h2
      have P2 := hide (P1.out.trans p2)
      have H2 := hide h2
      have b1' : w.heap.size ≤ bm := Nat.le_trans P1.out.size b1
      have b2' : w.heap.size ≤ bc := Nat.le_trans P1.out.size b2
      clear h2 p2 b1 b2
      go_wp2_with fail
      go_loopg [8] m (fun q iv wr => ∃ (k : Nat), q = m - k ∧ k ≤ m ∧ iv = .int .i64 k ∧ MemAt wr bm bc (mk m (firsts k)) k ∧ Only S0 w wr)
      case atStart => exact ⟨0, rfl, Nat.zero_le _, rfl, H2.out, P2.out⟩
      case round =>
      clear H2 P2
      obtain ⟨k, rfl, hk, rfl, hm, ho⟩ := hrel
      have HM := hide hm
      have HO := hide ho
      clear hm ho
      by_cases hlt : k < m
      · go_wp2_with fail
        refine (Len_any HM.out).mono ?_
        rintro e w3 ⟨rfl, rfl⟩
        rw [mk_len]
        go_wp2_with fail
        refine (Store_in k 99 HM.out (few_of _ (by omega)) (by omega) (by rw [mk_len]; omega)).mono ?_
        rintro e w3 ⟨rfl, h3, o3⟩
        rw [Int.toNat_natCast, firsts_succ] at h3
        have H3 := hide h3
        have O3 := hide (S0.then2 HO.out o3 b1' b2')
        clear h3 o3
        go_wp2_with fail
        go_roundg (m - (k + 1))
        case rel => exact ⟨k + 1, rfl, by omega, by go_num, H3.out, O3.out⟩
        case measure => omega
      obtain rfl : k = m := by omega
      go_wp2_with fail
      refine (Len_any HM.out).mono ?_
      rintro e w3 ⟨rfl, rfl⟩
      rw [mk_len]
      go_wp2_with fail
      refine (BMake_bad base n HM.out (by rw [mk_len]; exact HBAD.out)).mono ?_
      rintro e w6 ⟨rfl, rfl⟩
      obtain ⟨tcm, htcm⟩ : ∃ tcm : Int, (k : Int) = tcm := ⟨_, rfl⟩
      have HMEM := HM
      rw [htcm] at HMEM
      have HP2 := HO
      clear HM HO htcm
      go_wp2_with fail
      refine (BMake_nil base n _).mono ?_
      rintro e w7 ⟨rfl, rfl⟩
      go_wp2_with fail
      refine (BSize_any n _).mono ?_
      rintro e w7 ⟨rfl, rfl⟩
      rw [HGS.out]
      go_wp2_with fail
      refine (RefNew_any c).mono ?_
      rintro e w8 ⟨rm, rc, rfl, h8, p8, b5, b6⟩
      rw [HC.out, firsts_zero] at h8
      have HM := hide (HMEM.out.only p8 (fun h => h) (fun h => h))
      have HP8 := hide (HP2.out.trans p8)
      have hr1 : w.heap.size ≤ rm := Nat.le_trans HP2.out.size b5
      have hr2 : w.heap.size ≤ rc := Nat.le_trans HP2.out.size b6
      have hm1 := HMEM.out.mem.lt
      have hm2 := HMEM.out.cells.lt
      have ha1 : rm ≠ bm := by omega
      have ha2 : rm ≠ bc := by omega
      have ha3 : rc ≠ bm := by omega
      have ha4 : rc ≠ bc := by omega
      have hrne := h8.ne
      have H8 := hide h8
      clear h8 p8 b5 b6 hm1 hm2
      go_wp2_with fail
      go_loopg [15] k (fun q iv wr => ∃ (j : Nat), q = k - j ∧ j ≤ k ∧ iv = .int .i64 j ∧ MemAt wr bm bc (mk k (firsts k)) tcm ∧ RefAt wr rm rc (mk k (firsts j)) 0 ∧ Only S0 w wr)
      case atStart => exact ⟨0, rfl, Nat.zero_le _, rfl, HM.out, H8.out, HP8.out⟩
      case round =>
      clear HM H8 HP8
      obtain ⟨j, rfl, hk, rfl, hm, hr, ho⟩ := hrel
      have cr0 := hr.mem.cellv (i := 0) rfl
      rw [mk_len] at cr0
      by_cases hlt : j < k
      · have cr1 := hr.cellN j (by rw [mk_len]; omega)
        have f1 := hr.cells.frozen j
        have HM := hide hm
        have HR := hide hr
        have HP := hide ho
        clear hm hr ho
        go_wp2_with fail
        go_roundg (k - (j + 1))
        case rel => exact ⟨j + 1, rfl, by omega, by go_num, ⟨HM.out.mem.far (p := ⟨rc, j, none⟩) (fun h => ha3 h.symm) _, HM.out.cells.far (p := ⟨rc, j, none⟩) (fun h => ha4 h.symm) _, HM.out.len, HM.out.tc0⟩, by rw [← firsts_succ]; exact HR.out.stored j 99, HP.out.setNew j hr2 _⟩
        case measure => omega
      obtain rfl : j = k := by omega
      have HM := hide hm
      have HR := hide hr
      have HP := hide ho
      clear hm hr ho
      have hnm := HR.out.mem.lt
      have hrd := HR.out.drew.rd
      rw [mk_len] at hrd
      have HRD := hide hrd
      clear hrd
      have hbig : ((mk j (firsts j))).length ≤ 1000000 := by rw [mk_len]; omega
      go_wp2_with fail
      go_region_held3 (fun w' => w'.cell? ⟨rm, 0, none⟩ = some (.slice (some ⟨rc, 0, none⟩) j j)) (first | exact cr0 | exact d0 | exact f0) (first | (go_at_call 41; refine (All_any (HM.out.drew)).mono ?_; rintro e w4 ⟨v, rfl, hv, o4⟩; have d0 := (o4.cell (p := ⟨rm, 0, none⟩) hnm (fun h => h)).trans cr0; have HV := hide hv; have HO4 := hide o4; clear hv o4) | (go_at_call 40; refine (Same_yes (A := mk j (firsts j)) hbig HV.out.rd (HRD.out.only0 HO4.out)).mono ?_; rintro e w5 ⟨rfl, o5⟩; have f0 := (o5.cell (p := ⟨rm, 0, none⟩) (Nat.lt_of_lt_of_le hnm HO4.out.size) (fun h => h)).trans d0; have HO5 := hide o5; clear o5))
      go_wp2_with fail
      go_ret
      exact ⟨rfl, S0.below ((HP.out.drew.trans HO4.out).trans HO5.out)⟩
    · have h3 : 8 < n := by omega
      have h4 : 1 ≤ n := by omega
      clear h1 h2 x0
      go_enter Try.func7, Try.ntmps7
      go_wp2_with fail
      refine (alive6_any w).mono ?_
      rintro e w1 ⟨rfl, p1⟩
      have P1 := hide p1
      clear p1
      go_wp2_with fail
      refine (New_any c).mono ?_
      rintro e w2 ⟨bm, bc, rfl, h2, p2, b1, b2⟩
      rw [HC.out, firsts_zero] at h2
      have P2 := hide (P1.out.trans p2)
      have H2 := hide h2
      have b1' : w.heap.size ≤ bm := Nat.le_trans P1.out.size b1
      have b2' : w.heap.size ≤ bc := Nat.le_trans P1.out.size b2
      clear h2 p2 b1 b2
      go_wp2_with fail
      go_loopg [8] m (fun q iv wr => ∃ (k : Nat), q = m - k ∧ k ≤ m ∧ iv = .int .i64 k ∧ MemAt wr bm bc (mk m (firsts k)) k ∧ Only S0 w wr)
      case atStart => exact ⟨0, rfl, Nat.zero_le _, rfl, H2.out, P2.out⟩
      case round =>
      clear H2 P2
      obtain ⟨k, rfl, hk, rfl, hm, ho⟩ := hrel
      have HM := hide hm
      have HO := hide ho
      clear hm ho
      by_cases hlt : k < m
      · go_wp2_with fail
        refine (Len_any HM.out).mono ?_
        rintro e w3 ⟨rfl, rfl⟩
        rw [mk_len]
        go_wp2_with fail
        refine (Store_in k 99 HM.out (few_of _ (by omega)) (by omega) (by rw [mk_len]; omega)).mono ?_
        rintro e w3 ⟨rfl, h3, o3⟩
        rw [Int.toNat_natCast, firsts_succ] at h3
        have H3 := hide h3
        have O3 := hide (S0.then2 HO.out o3 b1' b2')
        clear h3 o3
        go_wp2_with fail
        go_roundg (m - (k + 1))
        case rel => exact ⟨k + 1, rfl, by omega, by go_num, H3.out, O3.out⟩
        case measure => omega
      obtain rfl : k = m := by omega
      go_wp2_with fail
      refine (Len_any HM.out).mono ?_
      rintro e w3 ⟨rfl, rfl⟩
      rw [mk_len]
      go_wp2_with fail
      refine (BMake_bad base n HM.out (by rw [mk_len]; exact HBAD.out)).mono ?_
      rintro e w6 ⟨rfl, rfl⟩
      obtain ⟨tcm, htcm⟩ : ∃ tcm : Int, (k : Int) = tcm := ⟨_, rfl⟩
      have HMEM := HM
      rw [htcm] at HMEM
      have HP2 := HO
      clear HM HO htcm
      go_wp2_with fail
      refine (BMake_nil base n _).mono ?_
      rintro e w7 ⟨rfl, rfl⟩
      go_wp2_with fail
      refine (BSize_any n _).mono ?_
      rintro e w7 ⟨rfl, rfl⟩
      rw [HGS.out]
      go_wp2_with fail
      refine (RefNew_any c).mono ?_
      rintro e w8 ⟨rm, rc, rfl, h8, p8, b5, b6⟩
      rw [HC.out, firsts_zero] at h8
      have HM := hide (HMEM.out.only p8 (fun h => h) (fun h => h))
      have HP8 := hide (HP2.out.trans p8)
      have hr1 : w.heap.size ≤ rm := Nat.le_trans HP2.out.size b5
      have hr2 : w.heap.size ≤ rc := Nat.le_trans HP2.out.size b6
      have hm1 := HMEM.out.mem.lt
      have hm2 := HMEM.out.cells.lt
      have ha1 : rm ≠ bm := by omega
      have ha2 : rm ≠ bc := by omega
      have ha3 : rc ≠ bm := by omega
      have ha4 : rc ≠ bc := by omega
      have hrne := h8.ne
      have H8 := hide h8
      clear h8 p8 b5 b6 hm1 hm2
      go_wp2_with fail
      go_loopg [15] k (fun q iv wr => ∃ (j : Nat), q = k - j ∧ j ≤ k ∧ iv = .int .i64 j ∧ MemAt wr bm bc (mk k (firsts k)) tcm ∧ RefAt wr rm rc (mk k (firsts j)) 0 ∧ Only S0 w wr)
      case atStart => exact ⟨0, rfl, Nat.zero_le _, rfl, HM.out, H8.out, HP8.out⟩
      case round =>
      clear HM H8 HP8
      obtain ⟨j, rfl, hk, rfl, hm, hr, ho⟩ := hrel
      have cr0 := hr.mem.cellv (i := 0) rfl
      rw [mk_len] at cr0
      by_cases hlt : j < k
      · have cr1 := hr.cellN j (by rw [mk_len]; omega)
        have f1 := hr.cells.frozen j
        have HM := hide hm
        have HR := hide hr
        have HP := hide ho
        clear hm hr ho
        go_wp2_with fail
        go_roundg (k - (j + 1))
        case rel => exact ⟨j + 1, rfl, by omega, by go_num, ⟨HM.out.mem.far (p := ⟨rc, j, none⟩) (fun h => ha3 h.symm) _, HM.out.cells.far (p := ⟨rc, j, none⟩) (fun h => ha4 h.symm) _, HM.out.len, HM.out.tc0⟩, by rw [← firsts_succ]; exact HR.out.stored j 99, HP.out.setNew j hr2 _⟩
        case measure => omega
      obtain rfl : j = k := by omega
      have HM := hide hm
      have HR := hide hr
      have HP := hide ho
      clear hm hr ho
      have hnm := HR.out.mem.lt
      have hrd := HR.out.drew.rd
      rw [mk_len] at hrd
      have HRD := hide hrd
      clear hrd
      have hbig : ((mk j (firsts j))).length ≤ 1000000 := by rw [mk_len]; omega
      go_wp2_with fail
      go_region_held3 (fun w' => w'.cell? ⟨rm, 0, none⟩ = some (.slice (some ⟨rc, 0, none⟩) j j)) (first | exact cr0 | exact d0 | exact f0) (first | (go_at_call 41; refine (All_any (HM.out.drew)).mono ?_; rintro e w4 ⟨v, rfl, hv, o4⟩; have d0 := (o4.cell (p := ⟨rm, 0, none⟩) hnm (fun h => h)).trans cr0; have HV := hide hv; have HO4 := hide o4; clear hv o4) | (go_at_call 40; refine (Same_yes (A := mk j (firsts j)) hbig HV.out.rd (HRD.out.only0 HO4.out)).mono ?_; rintro e w5 ⟨rfl, o5⟩; have f0 := (o5.cell (p := ⟨rm, 0, none⟩) (Nat.lt_of_lt_of_le hnm HO4.out.size) (fun h => h)).trans d0; have HO5 := hide o5; clear o5))
      go_wp2_with fail
      go_ret
      exact ⟨rfl, S0.below ((HP.out.drew.trans HO4.out).trans HO5.out)⟩
end Go.Proofs.Ytafnlmkhfonghaa
