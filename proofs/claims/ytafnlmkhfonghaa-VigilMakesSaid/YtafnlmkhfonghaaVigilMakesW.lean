/-
  VigilMakes, the walk.
-/
import Derived.Test.YtafnlmkhfonghaaAlive19
import Derived.Test.YtafnlmkhfonghaaFam
namespace Go.Proofs.Ytafnlmkhfonghaa
open Go.RowKit
set_option linter.unusedVariables false

/-- 99 in the first k places. -/
def firsts (k : Nat) : Nat → Int := fun i => if i < k then 99 else 0
theorem firsts_succ (m k : Nat) : (mk m (firsts k)).set k 99 = mk m (firsts (k + 1)) := by
  rw [mk_set]
  refine mk_congr fun i _ => ?_
  by_cases e : i = k
  · subst e
    rw [upd_same, firsts, if_pos (by omega)]
  · rw [upd_ne _ _ e, firsts, firsts]
    by_cases h : i < k
    · rw [if_pos h, if_pos (by omega)]
    · rw [if_neg h, if_neg (by omega)]
theorem firsts_zero (m : Nat) : List.replicate m 0 = mk m (firsts 0) := by
  rw [mk_rep]
  exact mk_congr fun i _ => by rw [firsts, if_neg (by omega)]
/-- The same, but for a stretch of zeros. -/
def holed (b z k : Nat) : Nat → Int := fun i => if i < k then (if b ≤ i ∧ i < b + z then 0 else 99) else 0
theorem holed_zero (m b z : Nat) : List.replicate m 0 = mk m (holed b z 0) := by
  rw [mk_rep]
  exact mk_congr fun i _ => by rw [holed, if_neg (by omega)]
theorem holed_out {m b z k : Nat} (h : ¬ (b ≤ k ∧ k < b + z)) : (mk m (holed b z k)).set k 99 = mk m (holed b z (k + 1)) := by
  rw [mk_set]
  refine mk_congr fun i _ => ?_
  by_cases e : i = k
  · subst e
    rw [upd_same, holed, if_pos (by omega), if_neg h]
  · rw [upd_ne _ _ e, holed, holed]
    by_cases h : i < k
    · simp only [if_pos h, if_pos (show i < k + 1 by omega)]
    · simp only [if_neg h, if_neg (show ¬ i < k + 1 by omega)]
theorem holed_in {m b z k : Nat} (h : b ≤ k ∧ k < b + z) : ((mk m (holed b z k)).set k 99).set k 0 = mk m (holed b z (k + 1)) := by
  rw [mk_set, mk_set]
  refine mk_congr fun i _ => ?_
  by_cases e : i = k
  · subst e
    rw [upd_same, holed, if_pos (by omega), if_pos h]
  · rw [upd_ne _ _ e, upd_ne _ _ e, holed, holed]
    by_cases h : i < k
    · simp only [if_pos h, if_pos (show i < k + 1 by omega)]
    · simp only [if_neg h, if_neg (show ¬ i < k + 1 by omega)]
theorem zeroL_firsts (m b : Nat) : ∀ z, b + z ≤ m → zeroL (mk m (firsts m)) b z = mk m (holed b z m)
  | 0, _ => by
    rw [zeroL]
    exact mk_congr fun i hi => by rw [firsts, holed, if_pos hi, if_pos hi, if_neg (by omega)]
  | z + 1, h => by
    rw [zeroL, zeroL_firsts m b z (by omega), mk_set]
    refine mk_congr fun i hi => ?_
    by_cases e : i = b + z
    · subst e
      rw [upd_same, holed, if_pos hi, if_pos (by omega)]
    · rw [upd_ne _ _ e, holed, holed, if_pos hi, if_pos hi]
      by_cases h : b ≤ i ∧ i < b + z
      · rw [if_pos h, if_pos (by omega)]
      · rw [if_neg h, if_neg (by omega)]

theorem mk_at {m i : Nat} (f : Nat → Int) (h : i < m) : at_ (mk m f) (i : Int) = f i := by
  unfold at_ mk
  simp [List.getD, h]
set_option maxRecDepth 100000 in
set_option maxHeartbeats 8000000 in
theorem vigilMakes_walk (c base n : Int) (w : World) (x0 : (Lit.int .i64 c).wf = true) (x1 : (Lit.int .i64 base).wf = true) (x2 : (Lit.int .i64 n).wf = true) :
    Calls Try.prog 8 #[.int .i64 c, .int .i64 base, .int .i64 n] w fun e w' => e = .returned (.bool true) ∧ Below w.heap.size w w' := by
  by_cases hbig : c > 1000
  · clear x0 x1 x2
    go_enter Try.func8, Try.ntmps8
    go_wp2_with fail
    refine (alive19_any w).mono ?_
    rintro e w1 ⟨rfl, p1⟩
    have P1 := hide p1
    clear p1
    go_wp2_with fail
    go_ret
    exact ⟨rfl, S0.below P1.out⟩
  obtain ⟨m, hm⟩ : ∃ m, countOf c = m := ⟨_, rfl⟩
  have hm1 : m ≤ 1000 := by rw [← hm]; unfold countOf; omega
  have HC := hide hm
  clear hm
  by_cases h1 : 1 ≤ n ∧ n ≤ 16
  · obtain ⟨h1, h2⟩ := h1
    obtain ⟨nn, rfl⟩ : ∃ nn : Nat, n = nn := ⟨n.toNat, by omega⟩
    obtain ⟨z, hz⟩ : ∃ z : Nat, nn * nn = z := ⟨_, rfl⟩
    have hzz : (nn : Int) * (nn : Int) = (z : Int) := by rw [← hz]; exact (Int.natCast_mul nn nn).symm
    have hsb := sq_bound h1 h2
    rw [hzz] at hsb
    obtain ⟨hsb1, hsb2⟩ := hsb
    have HGS := hide (show vsize (nn : Int) = z by rw [vsize, if_pos ⟨h1, h2⟩, hzz])
    have HZN := hide hz
    have HN1 : 1 ≤ nn := by omega
    have HN16 : nn ≤ 16 := by omega
    have HZ : ((z : Int) == 0) = false := by rw [beq_eq_false_iff_ne]; omega
    clear hz
    by_cases h3 : 0 ≤ base ∧ base + z ≤ m
    · obtain ⟨h3, h4⟩ := h3
      obtain ⟨bb, rfl⟩ : ∃ bb : Nat, base = bb := ⟨base.toNat, by omega⟩
      have HIN : bb + z ≤ m := by omega
      have hD : decide ((bb : Int) ≤ (m : Int) - (z : Int)) = true := by simp; omega
      clear x0 x1 x2
      go_enter Try.func8, Try.ntmps8
      go_wp2_with fail
      refine (alive19_any w).mono ?_
      rintro e w1 ⟨rfl, p1⟩
      have P1 := hide p1
      clear p1
      go_wp2_with fail
      refine (New_any c).mono ?_
      rintro e w2 ⟨bm, bc, rfl, h2, p2, b1, b2⟩
      rw [HC.out, firsts_zero] at h2
      have P2 := hide (P1.out.trans p2)
      have H2 := hide h2
      have b1' : w.heap.size ≤ bm := Nat.le_trans P1.out.size b1
      have b2' : w.heap.size ≤ bc := Nat.le_trans P1.out.size b2
      clear h2 p2 b1 b2
      go_wp2_with fail
      go_loopg [8] m (fun q iv wr => ∃ (k : Nat), q = m - k ∧ k ≤ m ∧ iv = .int .i64 k ∧ MemAt wr bm bc (mk m (firsts k)) k ∧ Only S0 w wr)
      case atStart => exact ⟨0, rfl, Nat.zero_le _, rfl, H2.out, P2.out⟩
      case round =>
      clear H2 P2
      obtain ⟨k, rfl, hk, rfl, hm, ho⟩ := hrel
      have HM := hide hm
      have HO := hide ho
      clear hm ho
      by_cases hlt : k < m
      · go_wp2_with fail
        refine (Len_any HM.out).mono ?_
        rintro e w3 ⟨rfl, rfl⟩
        rw [mk_len]
        go_wp2_with fail
        refine (Store_in k 99 HM.out (few_of _ (by omega)) (by omega) (by rw [mk_len]; omega)).mono ?_
        rintro e w3 ⟨rfl, h3, o3⟩
        rw [Int.toNat_natCast, firsts_succ] at h3
        have H3 := hide h3
        have O3 := hide (S0.then2 HO.out o3 b1' b2')
        clear h3 o3
        go_wp2_with fail
        go_roundg (m - (k + 1))
        case rel => exact ⟨k + 1, rfl, by omega, by go_num, H3.out, O3.out⟩
        case measure => omega
      obtain rfl : k = m := by omega
      go_wp2_with fail
      refine (Len_any HM.out).mono ?_
      rintro e w3 ⟨rfl, rfl⟩
      rw [mk_len]
      go_wp2_with fail
      refine (VMake_good bb nn z HM.out (few_of _ (by omega)) HN1 HN16 HZN.out (by rw [mk_len]; exact HIN)).mono ?_
      rintro e w6 ⟨vb, rfl, hg, h6, o6, b7⟩
      rw [zeroL_firsts _ _ _ HIN] at h6
      obtain ⟨tcm, htcm⟩ : ∃ tcm : Int, (k : Int) + (z : Nat) = tcm := ⟨_, rfl⟩
      rw [htcm] at h6
      have HMEM := hide h6
      have HP2 := hide (S0.then2 HO.out o6 b1' b2')
      clear hg h6 o6 b7 HM HO htcm
      go_wp2_with fail
      refine (VMake_nil (bb : Int) (nn : Int) _).mono ?_
      rintro e w7 ⟨rfl, rfl⟩
      go_wp2_with fail
      refine (VSize_any (nn : Int) _).mono ?_
      rintro e w7 ⟨rfl, rfl⟩
      rw [HGS.out]
      go_wp2_with fail
      refine (Count_any c _).mono ?_
      rintro e w7 ⟨rfl, rfl⟩
      rw [HC.out]
      go_wp2_with fail
      go_loopg [15, 16] k (fun q iv wv wr => ∃ (j : Nat), q = k - j ∧ j ≤ k ∧ iv = .int .i64 j ∧ MemAt wr bm bc (mk k (holed bb z k)) tcm ∧ Only S0 w wr)
      case atStart => exact ⟨0, rfl, Nat.zero_le _, rfl, HMEM.out, HP2.out⟩
      case round =>
      clear HMEM HP2
      obtain ⟨j, rfl, hk, rfl, hm, ho⟩ := hrel
      have HM := hide hm
      have HP := hide ho
      clear hm ho
      by_cases hlt : j < k
      · by_cases r1 : j < bb
        · go_wp2_with fail
          refine (Len_any HM.out).mono ?_
          rintro e w3 ⟨rfl, rfl⟩
          rw [mk_len]
          go_wp2_with fail
          refine (Peek_in (j : Int) HM.out (by omega) (by rw [mk_len]; omega)).mono ?_
          rintro e w3 ⟨rfl, rfl⟩
          rw [mk_at _ hlt, show holed bb z k j = 99 by rw [holed, if_pos hlt, if_neg (by omega)]]
          go_wp2_with fail
          go_roundg (k - (j + 1))
          case rel => exact ⟨j + 1, rfl, by omega, by go_num, HM.out, HP.out⟩
          case measure => omega
        · replace r1 : bb ≤ j := by omega
          by_cases r2 : j < bb + z
          · go_wp2_with fail
            refine (Len_any HM.out).mono ?_
            rintro e w3 ⟨rfl, rfl⟩
            rw [mk_len]
            go_wp2_with fail
            refine (Peek_in (j : Int) HM.out (by omega) (by rw [mk_len]; omega)).mono ?_
            rintro e w3 ⟨rfl, rfl⟩
            rw [mk_at _ hlt, show holed bb z k j = 0 by rw [holed, if_pos hlt, if_pos ⟨r1, r2⟩]]
            go_wp2_with fail
            go_roundg (k - (j + 1))
            case rel => exact ⟨j + 1, rfl, by omega, by go_num, HM.out, HP.out⟩
            case measure => omega
          · replace r2 : bb + z ≤ j := by omega
            go_wp2_with fail
            refine (Len_any HM.out).mono ?_
            rintro e w3 ⟨rfl, rfl⟩
            rw [mk_len]
            go_wp2_with fail
            refine (Peek_in (j : Int) HM.out (by omega) (by rw [mk_len]; omega)).mono ?_
            rintro e w3 ⟨rfl, rfl⟩
            rw [mk_at _ hlt, show holed bb z k j = 99 by rw [holed, if_pos hlt, if_neg (by omega)]]
            go_wp2_with fail
            go_roundg (k - (j + 1))
            case rel => exact ⟨j + 1, rfl, by omega, by go_num, HM.out, HP.out⟩
            case measure => omega
      obtain rfl : j = k := by omega
      go_wp2_with fail
      refine (Len_any HM.out).mono ?_
      rintro e w3 ⟨rfl, rfl⟩
      rw [mk_len]
      go_wp2_with fail
      go_ret
      exact ⟨rfl, S0.below HP.out⟩
    · by_cases h4 : base < 0
      · have HBAD := hide (show vsize (nn : Int) = 0 ∨ base < 0 ∨ (m : Int) - vsize (nn : Int) < base from .inr (.inl h4))
        clear h3 x0
        go_enter Try.func8, Try.ntmps8
        go_wp2_with fail
        refine (alive19_any w).mono ?_
        rintro e w1 ⟨rfl, p1⟩
        have P1 := hide p1
        clear p1
        go_wp2_with fail
        refine (New_any c).mono ?_
        rintro e w2 ⟨bm, bc, rfl, h2, p2, b1, b2⟩
        rw [HC.out, firsts_zero] at h2
        have P2 := hide (P1.out.trans p2)
        have H2 := hide h2
        have b1' : w.heap.size ≤ bm := Nat.le_trans P1.out.size b1
        have b2' : w.heap.size ≤ bc := Nat.le_trans P1.out.size b2
        clear h2 p2 b1 b2
        go_wp2_with fail
        go_loopg [8] m (fun q iv wr => ∃ (k : Nat), q = m - k ∧ k ≤ m ∧ iv = .int .i64 k ∧ MemAt wr bm bc (mk m (firsts k)) k ∧ Only S0 w wr)
        case atStart => exact ⟨0, rfl, Nat.zero_le _, rfl, H2.out, P2.out⟩
        case round =>
        clear H2 P2
        obtain ⟨k, rfl, hk, rfl, hm, ho⟩ := hrel
        have HM := hide hm
        have HO := hide ho
        clear hm ho
        by_cases hlt : k < m
        · go_wp2_with fail
          refine (Len_any HM.out).mono ?_
          rintro e w3 ⟨rfl, rfl⟩
          rw [mk_len]
          go_wp2_with fail
          refine (Store_in k 99 HM.out (few_of _ (by omega)) (by omega) (by rw [mk_len]; omega)).mono ?_
          rintro e w3 ⟨rfl, h3, o3⟩
          rw [Int.toNat_natCast, firsts_succ] at h3
          have H3 := hide h3
          have O3 := hide (S0.then2 HO.out o3 b1' b2')
          clear h3 o3
          go_wp2_with fail
          go_roundg (m - (k + 1))
          case rel => exact ⟨k + 1, rfl, by omega, by go_num, H3.out, O3.out⟩
          case measure => omega
        obtain rfl : k = m := by omega
        go_wp2_with fail
        refine (Len_any HM.out).mono ?_
        rintro e w3 ⟨rfl, rfl⟩
        rw [mk_len]
        go_wp2_with fail
        refine (VMake_bad base (nn : Int) HM.out (by rw [mk_len]; exact HBAD.out)).mono ?_
        rintro e w6 ⟨rfl, rfl⟩
        obtain ⟨tcm, htcm⟩ : ∃ tcm : Int, (k : Int) = tcm := ⟨_, rfl⟩
        have HMEM := HM
        rw [htcm] at HMEM
        have HP2 := HO
        clear HM HO htcm
        go_wp2_with fail
        refine (VMake_nil base (nn : Int) _).mono ?_
        rintro e w7 ⟨rfl, rfl⟩
        go_wp2_with fail
        refine (VSize_any (nn : Int) _).mono ?_
        rintro e w7 ⟨rfl, rfl⟩
        rw [HGS.out]
        go_wp2_with fail
        go_loopg [15, 16] k (fun q iv wv wr => ∃ (j : Nat), q = k - j ∧ j ≤ k ∧ iv = .int .i64 j ∧ MemAt wr bm bc (mk k (firsts k)) tcm ∧ Only S0 w wr)
        case atStart => exact ⟨0, rfl, Nat.zero_le _, rfl, HMEM.out, HP2.out⟩
        case round =>
        clear HMEM HP2
        obtain ⟨j, rfl, hk, rfl, hm, ho⟩ := hrel
        have HM := hide hm
        have HP := hide ho
        clear hm ho
        by_cases hlt : j < k
        · go_wp2_with fail
          refine (Len_any HM.out).mono ?_
          rintro e w3 ⟨rfl, rfl⟩
          rw [mk_len]
          go_wp2_with fail
          refine (Peek_in (j : Int) HM.out (by omega) (by rw [mk_len]; omega)).mono ?_
          rintro e w3 ⟨rfl, rfl⟩
          rw [mk_at _ hlt, show firsts k j = 99 by rw [firsts, if_pos hlt]]
          go_wp2_with fail
          go_roundg (k - (j + 1))
          case rel => exact ⟨j + 1, rfl, by omega, by go_num, HM.out, HP.out⟩
          case measure => omega
        obtain rfl : j = k := by omega
        go_wp2_with fail
        refine (Len_any HM.out).mono ?_
        rintro e w3 ⟨rfl, rfl⟩
        rw [mk_len]
        go_wp2_with fail
        go_ret
        exact ⟨rfl, S0.below HP.out⟩
      · have h5 : (m : Int) - z < base := by omega
        have hD : decide (base ≤ (m : Int) - (z : Int)) = false := by simp; omega
        replace h4 : 0 ≤ base := by omega
        have HBAD := hide (show vsize (nn : Int) = 0 ∨ base < 0 ∨ (m : Int) - vsize (nn : Int) < base from .inr (.inr (by rw [HGS.out]; omega)))
        clear h3 x0
        go_enter Try.func8, Try.ntmps8
        go_wp2_with fail
        refine (alive19_any w).mono ?_
        rintro e w1 ⟨rfl, p1⟩
        have P1 := hide p1
        clear p1
        go_wp2_with fail
        refine (New_any c).mono ?_
        rintro e w2 ⟨bm, bc, rfl, h2, p2, b1, b2⟩
        rw [HC.out, firsts_zero] at h2
        have P2 := hide (P1.out.trans p2)
        have H2 := hide h2
        have b1' : w.heap.size ≤ bm := Nat.le_trans P1.out.size b1
        have b2' : w.heap.size ≤ bc := Nat.le_trans P1.out.size b2
        clear h2 p2 b1 b2
        go_wp2_with fail
        go_loopg [8] m (fun q iv wr => ∃ (k : Nat), q = m - k ∧ k ≤ m ∧ iv = .int .i64 k ∧ MemAt wr bm bc (mk m (firsts k)) k ∧ Only S0 w wr)
        case atStart => exact ⟨0, rfl, Nat.zero_le _, rfl, H2.out, P2.out⟩
        case round =>
        clear H2 P2
        obtain ⟨k, rfl, hk, rfl, hm, ho⟩ := hrel
        have HM := hide hm
        have HO := hide ho
        clear hm ho
        by_cases hlt : k < m
        · go_wp2_with fail
          refine (Len_any HM.out).mono ?_
          rintro e w3 ⟨rfl, rfl⟩
          rw [mk_len]
          go_wp2_with fail
          refine (Store_in k 99 HM.out (few_of _ (by omega)) (by omega) (by rw [mk_len]; omega)).mono ?_
          rintro e w3 ⟨rfl, h3, o3⟩
          rw [Int.toNat_natCast, firsts_succ] at h3
          have H3 := hide h3
          have O3 := hide (S0.then2 HO.out o3 b1' b2')
          clear h3 o3
          go_wp2_with fail
          go_roundg (m - (k + 1))
          case rel => exact ⟨k + 1, rfl, by omega, by go_num, H3.out, O3.out⟩
          case measure => omega
        obtain rfl : k = m := by omega
        go_wp2_with fail
        refine (Len_any HM.out).mono ?_
        rintro e w3 ⟨rfl, rfl⟩
        rw [mk_len]
        go_wp2_with fail
        refine (VMake_bad base (nn : Int) HM.out (by rw [mk_len]; exact HBAD.out)).mono ?_
        rintro e w6 ⟨rfl, rfl⟩
        obtain ⟨tcm, htcm⟩ : ∃ tcm : Int, (k : Int) = tcm := ⟨_, rfl⟩
        have HMEM := HM
        rw [htcm] at HMEM
        have HP2 := HO
        clear HM HO htcm
        go_wp2_with fail
        refine (VMake_nil base (nn : Int) _).mono ?_
        rintro e w7 ⟨rfl, rfl⟩
        go_wp2_with fail
        refine (VSize_any (nn : Int) _).mono ?_
        rintro e w7 ⟨rfl, rfl⟩
        rw [HGS.out]
        go_wp2_with fail
        refine (Count_any c _).mono ?_
        rintro e w7 ⟨rfl, rfl⟩
        rw [HC.out]
        go_wp2_with fail
        go_loopg [15, 16] k (fun q iv wv wr => ∃ (j : Nat), q = k - j ∧ j ≤ k ∧ iv = .int .i64 j ∧ MemAt wr bm bc (mk k (firsts k)) tcm ∧ Only S0 w wr)
        case atStart => exact ⟨0, rfl, Nat.zero_le _, rfl, HMEM.out, HP2.out⟩
        case round =>
        clear HMEM HP2
        obtain ⟨j, rfl, hk, rfl, hm, ho⟩ := hrel
        have HM := hide hm
        have HP := hide ho
        clear hm ho
        by_cases hlt : j < k
        · go_wp2_with fail
          refine (Len_any HM.out).mono ?_
          rintro e w3 ⟨rfl, rfl⟩
          rw [mk_len]
          go_wp2_with fail
          refine (Peek_in (j : Int) HM.out (by omega) (by rw [mk_len]; omega)).mono ?_
          rintro e w3 ⟨rfl, rfl⟩
          rw [mk_at _ hlt, show firsts k j = 99 by rw [firsts, if_pos hlt]]
          go_wp2_with fail
          go_roundg (k - (j + 1))
          case rel => exact ⟨j + 1, rfl, by omega, by go_num, HM.out, HP.out⟩
          case measure => omega
        obtain rfl : j = k := by omega
        go_wp2_with fail
        refine (Len_any HM.out).mono ?_
        rintro e w3 ⟨rfl, rfl⟩
        rw [mk_len]
        go_wp2_with fail
        go_ret
        exact ⟨rfl, S0.below HP.out⟩
  · have HGS := hide (show vsize n = 0 by simp [vsize, h1])
    have HBAD := hide (show vsize n = 0 ∨ base < 0 ∨ (m : Int) - vsize n < base from .inl HGS.out)
    by_cases h2 : n < 1
    · clear h1 x0
      go_enter Try.func8, Try.ntmps8
      go_wp2_with fail
      refine (alive19_any w).mono ?_
      rintro e w1 ⟨rfl, p1⟩
      have P1 := hide p1
      clear p1
      go_wp2_with fail
      refine (New_any c).mono ?_
      rintro e w2 ⟨bm, bc, rfl, h2, p2, b1, b2⟩
      rw [HC.out, firsts_zero] at h2
      have P2 := hide (P1.out.trans p2)
      have H2 := hide h2
      have b1' : w.heap.size ≤ bm := Nat.le_trans P1.out.size b1
      have b2' : w.heap.size ≤ bc := Nat.le_trans P1.out.size b2
      clear h2 p2 b1 b2
      go_wp2_with fail
      go_loopg [8] m (fun q iv wr => ∃ (k : Nat), q = m - k ∧ k ≤ m ∧ iv = .int .i64 k ∧ MemAt wr bm bc (mk m (firsts k)) k ∧ Only S0 w wr)
      case atStart => exact ⟨0, rfl, Nat.zero_le _, rfl, H2.out, P2.out⟩
      case round =>
      clear H2 P2
      obtain ⟨k, rfl, hk, rfl, hm, ho⟩ := hrel
      have HM := hide hm
      have HO := hide ho
      clear hm ho
      by_cases hlt : k < m
      · go_wp2_with fail
        refine (Len_any HM.out).mono ?_
        rintro e w3 ⟨rfl, rfl⟩
        rw [mk_len]
        go_wp2_with fail
        refine (Store_in k 99 HM.out (few_of _ (by omega)) (by omega) (by rw [mk_len]; omega)).mono ?_
        rintro e w3 ⟨rfl, h3, o3⟩
        rw [Int.toNat_natCast, firsts_succ] at h3
        have H3 := hide h3
        have O3 := hide (S0.then2 HO.out o3 b1' b2')
        clear h3 o3
        go_wp2_with fail
        go_roundg (m - (k + 1))
        case rel => exact ⟨k + 1, rfl, by omega, by go_num, H3.out, O3.out⟩
        case measure => omega
      obtain rfl : k = m := by omega
      go_wp2_with fail
      refine (Len_any HM.out).mono ?_
      rintro e w3 ⟨rfl, rfl⟩
      rw [mk_len]
      go_wp2_with fail
      refine (VMake_bad base n HM.out (by rw [mk_len]; exact HBAD.out)).mono ?_
      rintro e w6 ⟨rfl, rfl⟩
      obtain ⟨tcm, htcm⟩ : ∃ tcm : Int, (k : Int) = tcm := ⟨_, rfl⟩
      have HMEM := HM
      rw [htcm] at HMEM
      have HP2 := HO
      clear HM HO htcm
      go_wp2_with fail
      refine (VMake_nil base n _).mono ?_
      rintro e w7 ⟨rfl, rfl⟩
      go_wp2_with fail
      refine (VSize_any n _).mono ?_
      rintro e w7 ⟨rfl, rfl⟩
      rw [HGS.out]
      go_wp2_with fail
      go_loopg [15, 16] k (fun q iv wv wr => ∃ (j : Nat), q = k - j ∧ j ≤ k ∧ iv = .int .i64 j ∧ MemAt wr bm bc (mk k (firsts k)) tcm ∧ Only S0 w wr)
      case atStart => exact ⟨0, rfl, Nat.zero_le _, rfl, HMEM.out, HP2.out⟩
      case round =>
      clear HMEM HP2
      obtain ⟨j, rfl, hk, rfl, hm, ho⟩ := hrel
      have HM := hide hm
      have HP := hide ho
      clear hm ho
      by_cases hlt : j < k
      · go_wp2_with fail
        refine (Len_any HM.out).mono ?_
        rintro e w3 ⟨rfl, rfl⟩
        rw [mk_len]
        go_wp2_with fail
        refine (Peek_in (j : Int) HM.out (by omega) (by rw [mk_len]; omega)).mono ?_
        rintro e w3 ⟨rfl, rfl⟩
        rw [mk_at _ hlt, show firsts k j = 99 by rw [firsts, if_pos hlt]]
        go_wp2_with fail
        go_roundg (k - (j + 1))
        case rel => exact ⟨j + 1, rfl, by omega, by go_num, HM.out, HP.out⟩
        case measure => omega
      obtain rfl : j = k := by omega
      go_wp2_with fail
      refine (Len_any HM.out).mono ?_
      rintro e w3 ⟨rfl, rfl⟩
      rw [mk_len]
      go_wp2_with fail
      go_ret
      exact ⟨rfl, S0.below HP.out⟩
    · have h3 : 16 < n := by omega
      have h4 : 1 ≤ n := by omega
      clear h1 h2 x0
      go_enter Try.func8, Try.ntmps8
      go_wp2_with fail
      refine (alive19_any w).mono ?_
      rintro e w1 ⟨rfl, p1⟩
      have P1 := hide p1
      clear p1
      go_wp2_with fail
      refine (New_any c).mono ?_
      rintro e w2 ⟨bm, bc, rfl, h2, p2, b1, b2⟩
      rw [HC.out, firsts_zero] at h2
      have P2 := hide (P1.out.trans p2)
      have H2 := hide h2
      have b1' : w.heap.size ≤ bm := Nat.le_trans P1.out.size b1
      have b2' : w.heap.size ≤ bc := Nat.le_trans P1.out.size b2
      clear h2 p2 b1 b2
      go_wp2_with fail
      go_loopg [8] m (fun q iv wr => ∃ (k : Nat), q = m - k ∧ k ≤ m ∧ iv = .int .i64 k ∧ MemAt wr bm bc (mk m (firsts k)) k ∧ Only S0 w wr)
      case atStart => exact ⟨0, rfl, Nat.zero_le _, rfl, H2.out, P2.out⟩
      case round =>
      clear H2 P2
      obtain ⟨k, rfl, hk, rfl, hm, ho⟩ := hrel
      have HM := hide hm
      have HO := hide ho
      clear hm ho
      by_cases hlt : k < m
      · go_wp2_with fail
        refine (Len_any HM.out).mono ?_
        rintro e w3 ⟨rfl, rfl⟩
        rw [mk_len]
        go_wp2_with fail
        refine (Store_in k 99 HM.out (few_of _ (by omega)) (by omega) (by rw [mk_len]; omega)).mono ?_
        rintro e w3 ⟨rfl, h3, o3⟩
        rw [Int.toNat_natCast, firsts_succ] at h3
        have H3 := hide h3
        have O3 := hide (S0.then2 HO.out o3 b1' b2')
        clear h3 o3
        go_wp2_with fail
        go_roundg (m - (k + 1))
        case rel => exact ⟨k + 1, rfl, by omega, by go_num, H3.out, O3.out⟩
        case measure => omega
      obtain rfl : k = m := by omega
      go_wp2_with fail
      refine (Len_any HM.out).mono ?_
      rintro e w3 ⟨rfl, rfl⟩
      rw [mk_len]
      go_wp2_with fail
      refine (VMake_bad base n HM.out (by rw [mk_len]; exact HBAD.out)).mono ?_
      rintro e w6 ⟨rfl, rfl⟩
      obtain ⟨tcm, htcm⟩ : ∃ tcm : Int, (k : Int) = tcm := ⟨_, rfl⟩
      have HMEM := HM
      rw [htcm] at HMEM
      have HP2 := HO
      clear HM HO htcm
      go_wp2_with fail
      refine (VMake_nil base n _).mono ?_
      rintro e w7 ⟨rfl, rfl⟩
      go_wp2_with fail
      refine (VSize_any n _).mono ?_
      rintro e w7 ⟨rfl, rfl⟩
      rw [HGS.out]
      go_wp2_with fail
      go_loopg [15, 16] k (fun q iv wv wr => ∃ (j : Nat), q = k - j ∧ j ≤ k ∧ iv = .int .i64 j ∧ MemAt wr bm bc (mk k (firsts k)) tcm ∧ Only S0 w wr)
      case atStart => exact ⟨0, rfl, Nat.zero_le _, rfl, HMEM.out, HP2.out⟩
      case round =>
      clear HMEM HP2
      obtain ⟨j, rfl, hk, rfl, hm, ho⟩ := hrel
      have HM := hide hm
      have HP := hide ho
      clear hm ho
      by_cases hlt : j < k
      · go_wp2_with fail
        refine (Len_any HM.out).mono ?_
        rintro e w3 ⟨rfl, rfl⟩
        rw [mk_len]
        go_wp2_with fail
        refine (Peek_in (j : Int) HM.out (by omega) (by rw [mk_len]; omega)).mono ?_
        rintro e w3 ⟨rfl, rfl⟩
        rw [mk_at _ hlt, show firsts k j = 99 by rw [firsts, if_pos hlt]]
        go_wp2_with fail
        go_roundg (k - (j + 1))
        case rel => exact ⟨j + 1, rfl, by omega, by go_num, HM.out, HP.out⟩
        case measure => omega
      obtain rfl : j = k := by omega
      go_wp2_with fail
      refine (Len_any HM.out).mono ?_
      rintro e w3 ⟨rfl, rfl⟩
      rw [mk_len]
      go_wp2_with fail
      go_ret
      exact ⟨rfl, S0.below HP.out⟩
end Go.Proofs.Ytafnlmkhfonghaa
