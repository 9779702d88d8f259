/-
  The document's orders (trouperef07).
-/
import Derived.Test.YtdoaipjdldknaaaGreatKLot
namespace Go.Proofs.YtdoaipjdldknaaaGreat
open Go.RowKit
set_option linter.unusedVariables false

/-- Who is not gone. -/
def leftN (n : Nat) (gs : List Bool) : List Nat := (List.range n).filter fun v => !gs.getD v true
theorem range_at (n v : Nat) (h : v < n) : List.range n = List.range v ++ v :: (List.range' (v + 1) (n - v - 1)) := by
  rw [List.range_eq_range', List.range_eq_range']
  have h1 : List.range' 0 n = List.range' 0 v ++ List.range' v (n - v) := by
    have := List.range'_append (s := 0) (m := v) (n := n - v) (step := 1)
    rw [show 0 + 1 * v = v by omega, show v + (n - v) = n by omega] at this
    exact this.symm
  rw [h1]
  obtain ⟨m, hm⟩ : ∃ m, n - v = m + 1 := ⟨n - v - 1, by omega⟩
  rw [hm, List.range'_succ, Nat.add_sub_cancel]
theorem left_split (n v : Nat) (gs : List Bool) (h : v < n) (hv : gs.getD v true = false) :
    ∃ R, leftN n gs = leftN v gs ++ v :: R ∧ ∀ hl : v < gs.length, leftN n (gs.set v true) = leftN v gs ++ R := by
  refine ⟨(List.range' (v + 1) (n - v - 1)).filter fun v => !gs.getD v true, ?_, fun hl => ?_⟩
  · unfold leftN
    rw [range_at n v h, List.filter_append, List.filter_cons, if_pos (by simp only [hv]; rfl)]
  · unfold leftN
    rw [range_at n v h, List.filter_append, List.filter_cons, if_neg (by simp [List.getD, hl])]
    congr 1
    · apply List.filter_congr
      intro i hi
      have := List.mem_range.1 hi
      simp [List.getD, show v ≠ i by omega]
    · apply List.filter_congr
      intro i hi
      have := List.mem_range'_1.1 hi
      simp [List.getD, show v ≠ i by omega]
theorem left_zero (gs : List Bool) : leftN 0 gs = [] := rfl
theorem left_succ_gone (v : Nat) (gs : List Bool) (h : gs.getD v true = true) : leftN (v + 1) gs = leftN v gs := by
  unfold leftN
  rw [List.range_succ, List.filter_append, List.filter_cons, if_neg (by simp only [h]; decide)]
  simp
theorem left_succ_there (v : Nat) (gs : List Bool) (h : gs.getD v true = false) : leftN (v + 1) gs = leftN v gs ++ [v] := by
  unfold leftN
  rw [List.range_succ, List.filter_append, List.filter_cons, if_pos (by simp only [h]; rfl)]
  simp
theorem left_first (n s : Nat) (h : s < n) : leftN n ((List.replicate n false).set s true) = othN n s := by
  unfold leftN othN
  apply List.filter_congr
  intro i hi
  have := List.mem_range.1 hi
  by_cases hs : s = i
  · subst hs
    simp [List.getD, this]
  · simp [List.getD, hs, this, Ne.symm hs]

theorem There_yes (n s : Int) (w : World) (h : 1 ≤ n ∧ n ≤ 8 ∧ 0 ≤ s ∧ s < n) :
    Calls Tryz.prog 96 #[.int .i64 n, .int .i64 s] w fun e w' => e = .returned (.bool true) ∧ w = w' := by
  obtain ⟨h1, h2, h3, h4⟩ := h
  go_enter Tryz.func96, Tryz.ntmps96
  go_wp2_with fail
  go_ret
  exact ⟨by simp [*], rfl⟩
theorem There_no (n s : Int) (w : World) (h : ¬ (1 ≤ n ∧ n ≤ 8 ∧ 0 ≤ s ∧ s < n)) :
    Calls Tryz.prog 96 #[.int .i64 n, .int .i64 s] w fun e w' => e = .returned (.bool false) ∧ w = w' := by
  by_cases h1 : 1 ≤ n
  · by_cases h2 : n ≤ 8
    · by_cases h3 : 0 ≤ s
      · have h4 : ¬ s < n := by omega
        clear h
        go_enter Tryz.func96, Tryz.ntmps96
        go_wp2_with fail
        go_ret
        exact ⟨by first | (simp; done) | (simp; omega), rfl⟩
      · clear h
        go_enter Tryz.func96, Tryz.ntmps96
        go_wp2_with fail
        go_ret
        exact ⟨by first | (simp; done) | (simp; omega), rfl⟩
    · clear h
      go_enter Tryz.func96, Tryz.ntmps96
      go_wp2_with fail
      go_ret
      exact ⟨by first | (simp; done) | (simp; omega), rfl⟩
  · clear h
    go_enter Tryz.func96, Tryz.ntmps96
    go_wp2_with fail
    go_ret
    exact ⟨by first | (simp; done) | (simp; omega), rfl⟩

theorem info_bool : (Tryz.prog.info? 4).map (fun i => (i.zero, i.size, i.bytes)) = some (some (.bool false), 1, 1) := by kernel_rfl
theorem gone_cell {w : World} {g : Nat} {gs : List Bool} (h : Blk w g 4 (gs.map Value.bool).toArray) (i : Nat) (hi : i < gs.length) : w.cell? ⟨g, i, none⟩ = some (.bool (gs.getD i true)) := by
  refine h.cellv ?_
  simp [List.getD, hi]

theorem RefOrder_bad (d n s : Int) (w : World) (h : ¬ (1 ≤ n ∧ n ≤ 8 ∧ 0 ≤ s ∧ s < n)) :
    Calls Tryz.prog 79 #[.int .u64 d, .int .i64 n, .int .i64 s] w fun e w' => e = .returned (.slice none 0 0) ∧ w = w' := by
  go_enter Tryz.func79, Tryz.ntmps79
  go_wp2_with fail
  refine (There_no n s w h).mono ?_
  rintro e w1 ⟨rfl, rfl⟩
  go_wp2_with fail
  go_ret
  exact ⟨rfl, rfl⟩

set_option maxHeartbeats 2000000 in
theorem RefOrder_good (d n s : Nat) (w : World) (hd : d < 18446744073709551616) (h0 : n ≤ 8) (h1 : s < n) :
    Calls Tryz.prog 79 #[.int .u64 d, .int .i64 n, .int .i64 s] w fun e w' => ∃ v, e = .returned v ∧ Sl w' w.heap.size 3 v (vN (ordN (othN n s).length d (othN n s))) ∧ Only S0 w w' := by
  have hmk := make_flat 150 4 (.bool false) 1 Tryz.underlying150 info_bool rfl n (by omega) (by omega)
  have HD := hide hd
  have hn0 : 0 < n := by omega
  clear hd
  have hz : (zeros (.bool false) n).setIfInBounds s (.bool true) = (((List.replicate n false).set s true).map Value.bool).toArray := by
    simp only [zeros, List.setIfInBounds_toArray, List.map_set, List.map_replicate]
  have HZ := hide hz
  have hzs : (zeros (.bool false) n)[s]? = some (.bool false) := by simp [zeros, h1]
  clear hz
  go_enter Tryz.func79, Tryz.ntmps79
  go_wp2_with fail
  refine (There_yes n s w (by omega)).mono ?_
  rintro e w1 ⟨rfl, rfl⟩
  go_wp2_with fail
  have B1 := Blk.new w 4 ((zeros (.bool false) n).setIfInBounds s (.bool true))
  have O1 := (Only.refl S0 w).alloc (.cells ((zeros (.bool false) n).setIfInBounds s (.bool true)) 4)
  obtain ⟨gb, hgb⟩ : ∃ gb, w.heap.size = gb := ⟨_, rfl⟩
  generalize hW : w.alloc (.cells ((zeros (.bool false) n).setIfInBounds s (.bool true)) 4) = w2 at B1 O1 ⊢
  rw [HZ.out, hgb] at B1
  rw [hgb]
  have HGB := hide hgb
  have HB1 := hide B1
  have HO1 := hide O1
  clear hW B1 O1 hgb hmk hzs
  obtain ⟨m0, hm0⟩ : ∃ m0, n - 1 = m0 := ⟨_, rfl⟩
  have hnm : ((n : Int) - 1) = (m0 : Int) := by omega
  rw [hnm]
  have hl0 := othN_len n s h1
  rw [hm0] at hl0
  have HL0 := hide hl0
  clear hl0 hnm
  go_loopg [0, 7, 9] m0 (fun q u v7 kv wr => ∃ (gs : List Bool) (o : List Nat) (d' : Nat), q = (leftN n gs).length ∧ (leftN n gs).length ≤ m0 ∧ u = .int .u64 d' ∧ d' < 18446744073709551616 ∧ kv = .int .i64 ((leftN n gs).length : Nat) ∧ gs.length = n ∧ (leftN n gs).length + o.length ≤ 8 ∧ Blk wr gb 4 (gs.map Value.bool).toArray ∧ Sl wr w.heap.size 3 v7 (vN o) ∧
      o ++ ordN (leftN n gs).length d' (leftN n gs) = ordN (othN n s).length d (othN n s) ∧ Only S0 w wr)
  case atStart =>
    have e := left_first n s h1
    refine ⟨(List.replicate n false).set s true, [], d, ?_, ?_, rfl, HD.out, ?_, by simp, ?_, HB1.out, Sl.nil _ _ _, ?_, HO1.out⟩
    · rw [e]; exact HL0.out.symm
    · rw [e]; exact Nat.le_of_eq HL0.out
    · rw [e, HL0.out]
    · rw [e, HL0.out]; simp; omega
    · rw [e]; simp
  case round =>
    obtain ⟨gs, o, d', rfl, hlm, rfl, hd', rfl, hgs, hlo, hb, hv, heq, ho⟩ := hrel
    have HD' := hide hd'
    have HGS := hide hgs
    have HB := hide hb
    have HV := hide hv
    have HEQ := hide heq
    have HO := hide ho
    clear hd' hgs hb hv heq ho
    obtain ⟨l, hl⟩ : ∃ l, leftN n gs = l := ⟨_, rfl⟩
    rw [hl] at hlm hlo ⊢
    obtain ⟨m, hml⟩ : ∃ m, l.length = m := ⟨_, rfl⟩
    rw [hml] at hlm hlo ⊢
    have HL := hide hl
    have HML := hide hml
    clear hl hml
    by_cases hm : m = 0
    · subst hm
      go_wp2_with fail
      go_ret
      refine ⟨_, rfl, ?_, HO.out⟩
      have hln : l = [] := List.eq_nil_of_length_eq_zero HML.out
      have h := HEQ.out
      rw [HL.out, hln, ordN_nil, List.append_nil] at h
      rw [← h]
      exact HV.out
    · obtain ⟨at', hat⟩ : ∃ at', d' % m = at' := ⟨_, rfl⟩
      have hatlt : at' < m := by rw [← hat]; exact Nat.mod_lt _ (by omega)
      have hmod := cast_mod d' m
      rw [hat] at hmod
      obtain ⟨dq, hdq⟩ : ∃ dq, d' / m = dq := ⟨_, rfl⟩
      have hdiv := cast_div d' m
      rw [hdq] at hdiv
      have hwrap : IntKind.u64.wrap (dq : Int) = dq := by
        have h1 := HD'.out
        have h2 := Nat.div_le_self d' m
        rw [hdq] at h2
        rw [IntKind.wrap_u64]; omega
      have HAT := hide hat
      have HDQ := hide hdq
      clear hat hdq
      have hm1 : 1 ≤ m := by omega
      have hm8 : m ≤ 8 := by omega
      obtain ⟨wo, rfl⟩ : ∃ wo : World, wo = wr := ⟨_, rfl⟩
      obtain ⟨vo, rfl⟩ : ∃ vo : Value, vo = u7 := ⟨_, rfl⟩
      go_wp2_with fail
      go_loopg [7, 10, 11] n (fun q v7 av iv wr => ∃ (v a2 : Nat), q = n - v ∧ v ≤ n ∧ a2 + (leftN v gs).length = at' ∧ v7 = vo ∧ av = .int .i64 a2 ∧ iv = .int .i64 v ∧ wo = wr)
      case atStart => exact ⟨0, at', rfl, Nat.zero_le _, by simp [left_zero], rfl, rfl, rfl, rfl⟩
      case round =>
        obtain ⟨v, a2, rfl, hvn, hsum, rfl, rfl, rfl, rfl⟩ := hrel
        have HSUM := hide hsum
        clear hsum
        by_cases hlt : v < n
        · have c1 := gone_cell HB.out v (by rw [HGS.out]; exact hlt)
          cases hgv : gs.getD v true with
          | true =>
            rw [hgv] at c1
            have HGV := hide hgv
            clear hgv
            go_wp2_with fail
            go_roundg (n - (v + 1))
            case rel => exact ⟨v + 1, a2, rfl, by omega, by rw [left_succ_gone v gs HGV.out]; exact HSUM.out, rfl, rfl, by go_num, rfl⟩
            case measure => omega
          | false =>
            rw [hgv] at c1
            have f1 := HB.out.frozen v
            have HGV := hide hgv
            clear hgv
            by_cases ha : a2 = 0
            · have hab : ((a2 : Int) == 0) = true := by simp [ha]
              have HA2 := hide ha
              clear ha
              have hol : o.length + 1 ≤ 8 := by omega
              have hgl : gb < wo.heap.size := HB.out.lt
              have hge : w.heap.size ≤ gb := by have := HGB.out; omega
              go_wp2_with (at_builtin; refine wpList_app1 _ rfl (.tmp 48) (.tmp 50) 116 rfl 3 (.int .i64 0) 8 Tryz.underlying116 info_int rfl w.heap.size _ (vN o) (.int .i64 v) rfl rfl HV.out rfl (by rw [vN_len]; omega) (by rw [vN_len]; unfold maxLen; omega) HO.out.size ?_; intro v8' w6 h8' o6 _; have H8' := hide h8'; have HB6 := hide (HB.out.only o6 (fun h => HV.out.ne_blk HB.out (by decide) h)); have HO6 := hide (HO.out.then o6 (fun i hi e => by have := HV.out.block e; omega)); have d1 := gone_cell HB6.out v (by rw [HGS.out]; exact hlt); have d2 := HB6.out.frozen v; rw [HGV.out] at d1; clear h8' o6 c1 f1)
              go_roundg (m - 1)
              case measure => have e1 := HL.out; have e2 := HML.out; rw [← e1] at e2; omega
              case rel =>
                obtain ⟨R, hR1, hR2⟩ := left_split n v gs hlt HGV.out
                have hlen1 : (leftN v gs).length = at' := by have := HSUM.out; have := HA2.out; omega
                have hl2 : leftN n (gs.set v true) = l.eraseIdx at' := by
                  rw [hR2 (by rw [HGS.out]; exact hlt), ← HL.out, hR1, ← hlen1, List.eraseIdx_append_of_length_le (Nat.le_refl _)]
                  simp
                have hx : l.getD at' 0 = v := by
                  rw [← HL.out, hR1, ← hlen1]
                  simp [List.getD]
                have hel : (l.eraseIdx at').length = m - 1 := by rw [List.length_eraseIdx_of_lt (by rw [HML.out]; exact hatlt), HML.out]
                refine ⟨gs.set v true, o ++ [v], dq, ?_, ?_, rfl, ?_, ?_, ?_, ?_, ?_, ?_, ?_, ?_⟩
                · rw [hl2, hel]
                · rw [hl2, hel]; omega
                · rw [← HDQ.out]; exact Nat.lt_of_le_of_lt (Nat.div_le_self _ _) HD'.out
                · rw [hl2, hel, show ((m - 1 : Nat) : Int) = (m : Int) - 1 by omega]
                · simpa using HGS.out
                · rw [hl2, hel, List.length_append]; simp; omega
                · have := HB6.out.set_ v (.bool true)
                  simpa [List.map_set] using this
                · rw [vN_append]
                  exact H8'.out.only (only_set _ gb v _) (fun g hg e => H8'.out.ne_blk HB6.out (by decide) (by rw [hg, e]))
                · rw [hl2, ← HEQ.out, HL.out, HML.out, hel]
                  obtain ⟨m', hm'⟩ : ∃ m', m = m' + 1 := ⟨m - 1, by omega⟩
                  have hne : l ≠ [] := fun h => by have := HML.out; rw [h] at this; simp at this; omega
                  rw [hm', ordN_succ _ _ _ hne, HML.out, HDQ.out, HAT.out, hx, Nat.add_sub_cancel, List.append_assoc]
                  rfl
                · exact HO6.out.setNew v hge _
            · have hab : ((a2 : Int) == 0) = false := by simp [ha]
              have HA2 := hide ha
              clear ha f1
              have ha1 : 1 ≤ a2 := by have := HA2.out; omega
              have ha8 : a2 ≤ 8 := by have := HSUM.out; omega
              go_wp2_with fail
              go_roundg (n - (v + 1))
              case rel => exact ⟨v + 1, a2 - 1, rfl, by omega, by rw [left_succ_there v gs HGV.out, List.length_append]; have := HSUM.out; simp; omega, rfl, by first | go_num | (congr 1; omega), by go_num, rfl⟩
              case measure => omega
        · exfalso
          obtain rfl : v = n := by omega
          have h1 := HSUM.out
          rw [HL.out, HML.out] at h1
          omega
end Go.Proofs.YtdoaipjdldknaaaGreat
