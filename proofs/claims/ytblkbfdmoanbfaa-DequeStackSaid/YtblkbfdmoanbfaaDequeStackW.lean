/-
  DequeStack, the walk.
-/
import Derived.Test.YtblkbfdmoanbfaaDeqB
import Derived.Test.YtblkbfdmoanbfaaOpen
import Derived.OwnWalk
import Derived.Deep.DeepCutAuto
namespace Go.Proofs.Ytblkbfdmoanbfaa
open Go.RowKit
set_option linter.unusedVariables false

def u64s (l : List Int) : List Value := l.map (Value.int .u64)
theorem u64s_len (l : List Int) : (u64s l).length = l.length := by simp [u64s]
theorem u64s_snoc (l : List Int) (v : Int) : u64s (l ++ [v]) = u64s l ++ [.int .u64 v] := by simp [u64s]
/-- The stack: a slice of the call's own; its block is none of the memory's cells. -/
structure Stk (w : World) (B bc : Nat) (v : Value) (s : List Int) : Prop where
  sl : Sl w B 28 v (u64s s)
  off : v.ownBlock ≠ some bc
theorem Stk.form {w : World} {B bc : Nat} {v : Value} {s : List Int} (h : Stk w B bc v s) : ∃ a c, v = .slice a s.length c := by
  rcases h.sl.form with ⟨rfl, h2⟩ | ⟨g, cap, cur, h2, _⟩
  · have : s = [] := by unfold u64s at h2; simpa using h2
    subst this
    exact ⟨none, 0, rfl⟩
  · rw [u64s_len] at h2
    exact ⟨_, _, h2⟩
/-- The last one. -/
theorem Stk.last {w : World} {B bc : Nat} {a : Option Addr} {c : Nat} {s : List Int} {x : Int} (h : Stk w B bc (.slice a (s.length + 1) c) (s ++ [x])) :
    ∃ g, a = some ⟨g, 0, none⟩ ∧ w.cell? ⟨g, s.length, none⟩ = some (.int .u64 x) ∧ s.length + 1 ≤ c ∧ Stk w B bc (.slice (some ⟨g, 0, none⟩) s.length c) s := by
  rcases h.sl.form with ⟨h1, h2⟩ | ⟨g, cap, cur, h1, hB, hb, hn, hm, hz, ht⟩
  · have := congrArg List.length h2; rw [u64s_len] at this; simp at this
  · injection h1 with h1 h2 h3
    subst h3
    have hl : (u64s (s ++ [x])).length = s.length + 1 := by rw [u64s_len]; simp
    rw [hl] at hn ht
    refine ⟨g, h1, ?_, hn, ⟨.mk_ (by rw [u64s_len]) hB hb (by rw [u64s_len]; omega) hm hz ?_, ?_⟩⟩
    · rw [hb.cell]
      have h5 : (cur.toList.take (s.length + 1))[s.length]? = some (.int .u64 x) := by
        rw [ht, u64s_snoc, List.getElem?_append_right (by rw [u64s_len]; omega), u64s_len, Nat.sub_self]
        rfl
      rw [List.getElem?_take, if_pos (by omega)] at h5
      rw [← h5, ← Array.getElem?_toList]
    · rw [u64s_len]
      have h6 : cur.toList.take s.length = (u64s (s ++ [x])).take s.length := by rw [← ht, List.take_take, Nat.min_eq_left (by omega)]
      rw [h6, u64s_snoc, List.take_append_of_le_length (by rw [u64s_len]; omega)]
      exact List.take_of_length_le (by rw [u64s_len]; omega)
    · have := h.off
      rw [h1] at this
      simpa [Value.ownBlock] using this
theorem Stk.step {w w' : World} {B bc bo bm bd n c : Nat} {v : Value} {s l : List Int} {o : Dop} (h : Stk w B bc v s) (ho : Only (S3 bo bm bc) w w') (hb : DopIs w bo bd o) (hd : DE w bd bm bc n l c) : Stk w' B bc v s := by
  obtain ⟨L, tc, T, Bt, val, h1, -⟩ := hd.ex
  refine ⟨h.sl.only ho fun g hg e => ?_, h.off⟩
  rcases e with e | e | e
  · subst e; exact h.sl.ne_blk hb (by decide) hg
  · subst e; exact h.sl.ne_blk h1.mem.mem (by decide) hg
  · subst e; exact h.off hg
theorem Stk.only0 {w w' : World} {B bc : Nat} {v : Value} {s : List Int} (h : Stk w B bc v s) (ho : Only S0 w w') : Stk w' B bc v s := ⟨h.sl.only0 ho, h.off⟩
theorem DE.grow {w w' : World} {bd bm bc n c B : Nat} {s l : List Int} {v : Value} (h : DE w bd bm bc n l c) (ho : Only (fun k => v.ownBlock = some k) w w') (hs : Stk w B bc v s) : DE w' bd bm bc n l c := by
  obtain ⟨L, tc, T, Bt, val, h1, h2⟩ := h.ex
  exact h.only ho (fun e => hs.sl.ne_blk h1.deq (by decide) e) (fun e => hs.sl.ne_blk h1.mem.mem (by decide) e) hs.off

set_option maxRecDepth 100000 in
set_option maxHeartbeats 8000000 in
theorem dequeStack_walk (a0 : Int) (a1 : Option Addr) (len1 cap1 : Nat) (x1 : List Int) (a2 : Option Addr) (len2 cap2 : Nat) (x2 : List Bool) (w : World) (w0 : (Lit.int .u8 a0).wf = true) (w1 : InInts .u64 w a1 len1 x1) (w2 : InBools w a2 len2 x2) :
    Calls Try.prog 7 #[.int .u8 a0, .slice a1 len1 cap1, .slice a2 len2 cap2] w fun e w' => e = .returned (.bool true) ∧ Below w.heap.size w w' := by
  have hbig := w1.big
  have hbig2 := w2.big
  have k1 := (bounds_u8 w0).1
  have k2 := (bounds_u8 w0).2
  have HC1 := hide w1.cells
  have HC2 := hide w2.cells
  have HX1 := hide fun (i : Nat) (hi : i < len1) => show U64 (elt x1 i) by
    have := bounds_u64 (elt_wf w1.wf (i := i) (by rw [w1.length]; exact hi))
    unfold U64
    omega
  clear w0 w1 w2
  obtain ⟨n, hn⟩ : ∃ n : Nat, 1 + a0 % 8 = (n : Int) := ⟨(1 + a0 % 8).toNat, by omega⟩
  have n1 : 1 ≤ n := by omega
  have n8 : n ≤ 8 := by omega
  go_enter Try.func7, Try.ntmps7
  go_wp2_with fail
  refine (alive4_any w).mono ?_
  rintro e wa ⟨rfl, p1⟩
  have P1 := hide p1
  clear p1
  go_wp2_with fail
  have HN := hide hn
  clear hn k1 k2
  refine (dmade_any n wa n1 (by omega)).mono ?_
  rintro e wb ⟨bd, bm, bc, rfl, h2, p2, b1, b2, b3⟩
  have H2 := hide h2
  have P2 := hide (P1.out.trans p2)
  have c1 : w.heap.size ≤ bd := Nat.le_trans P1.out.size b1
  have c2 : w.heap.size ≤ bm := Nat.le_trans P1.out.size b2
  have c3 : w.heap.size ≤ bc := Nat.le_trans P1.out.size b3
  clear h2 p2 b1 b2 b3 P1
  go_wp2_with fail
  go_loopg [9, 10] 300 (fun q sv iv wr => ∃ (i : Nat) (s : List Int) (sa : Option Addr) (sc : Nat), q = 300 - i ∧ i ≤ 300 ∧ i ≤ len1 ∧ iv = .int .i64 i ∧ Value.slice sa s.length sc = sv ∧ Stk wr w.heap.size bc (.slice sa s.length sc) s ∧ DE wr bd bm bc n s (1000 + 12 * i) ∧ s.length ≤ n ∧ Only S0 w wr)
  case atStart => exact ⟨0, [], none, 0, rfl, by omega, by omega, rfl, rfl, ⟨Sl.nil _ _ _, by simp [Value.ownBlock]⟩, H2.out, by simp, P2.out⟩
  case round =>
  clear H2 P2
  obtain ⟨i, s, sa, sc, rfl, hi3, hil, rfl, rfl, hsk, hde, hsn, ho⟩ := hrel
  have HK := hide hsk
  have HD := hide hde
  have HO := hide ho
  clear hsk hde ho
  by_cases hc9 : i < len1 ∧ i < 300
  · obtain ⟨hlt, hl3⟩ := hc9
    obtain ⟨g, off, rfl, hg, hc⟩ := HC1.out (by omega)
    have ce := (HO.out.cell (p := ⟨g, off + i, none⟩) hg (fun h => h)).trans (hc i hlt)
    have HXU := hide (HX1.out i hlt)
    have HCC := hide hc
    clear hc
    obtain ⟨x, hx⟩ : ∃ x, elt x1 i = x := ⟨_, rfl⟩
    rw [hx] at ce HXU
    have HEQ := hide hx
    clear hx
    go_wp2_with fail
    refine (DE_push HD.out x).mono ?_
    rintro e w3 ⟨bo, rfl, g3, a3, o3, b3⟩
    have A3 := hide a3
    have G3 := hide g3
    have O3 := hide (HO.out.trans o3)
    have S3' := hide (HK.out.only0 o3)
    have c4 : w.heap.size ≤ bo := Nat.le_trans HO.out.size b3
    clear a3 g3 o3 b3 HD HO HK
    go_wp2_with fail
    by_cases hroom : s.length < n
    · refine (DE_push_done A3.out G3.out HXU.out hroom (by omega)).mono ?_
      rintro e w4 ⟨gv, kv, rfl, a4, o4⟩
      have A4 := hide a4
      have S4 := hide (S3'.out.step o4 G3.out A3.out)
      have O4 := hide (S0.then3 O3.out o4 c4 c2 c3)
      have hroomb : decide (s.length < n) = true := by simpa using hroom
      have ce2 := (O4.out.cell (p := ⟨g, off + i, none⟩) hg (fun h => h)).trans (HCC.out i hlt)
      rw [HEQ.out] at ce2
      clear a4 o4 ce
      go_upto_region 16 with (at_builtin; go_loud (refine wpList_app1 _ rfl (.tmp 63) (.tmp 68) 35 rfl 28 (.int .u64 0) 8 Try.underlying35 info_u64 rfl w.heap.size (.slice sa s.length sc) (u64s s) (.int .u64 x) rfl rfl S4.out.sl rfl (by rw [u64s_len]; omega) (by rw [u64s_len]; unfold maxLen; omega) O4.out.size ?_; intro v' w6 hv' o6 hnew; obtain ⟨g6, c6, rfl⟩ := app_form hv'; obtain ⟨k6, hk6⟩ : ∃ k6, (u64s s ++ [Value.int .u64 x]).length = k6 := ⟨_, rfl⟩; rw [hk6] at hv' hnew ⊢; have HK6 := hide hk6; clear hk6; have HV6 := hide hv'; have HO6 := hide o6; have HN6 := hide hnew; clear hv' o6 hnew))
      have hl6 : (u64s s ++ [Value.int .u64 x]).length = (s ++ [x]).length := by rw [← u64s_snoc, u64s_len]
      have hv6 := HV6.out
      have hn6 := HN6.out
      have e6 := HK6.out
      rw [hl6] at e6
      clear HV6 HN6 HK6
      subst e6
      rw [← u64s_snoc] at hv6
      have D6 := hide (A4.out.grow HO6.out S4.out)
      have hbc6 : bc < w4.heap.size := by obtain ⟨L, tc, T, Bt, val, h9, -⟩ := A4.out.ex; exact h9.mem.cells.lt
      have S6 := hide (show Stk w6 w.heap.size bc (.slice (some ⟨g6, 0, none⟩) (s ++ [x]).length c6) (s ++ [x]) from ⟨hv6, by
        rcases hn6 with e | ⟨k, e, hk⟩
        · rw [e]; exact S4.out.off
        · rw [e]; intro e2; injection e2 with e2; omega⟩)
      have hin := S4.out.sl
      have O6 := hide (O4.out.then HO6.out fun b hb hs => by have := (hin.block hs).1; omega)
      have hlen6 : (s ++ [x]).length = s.length + 1 := by simp
      have HLEN6 := hide hlen6
      have HLE6 := hide (show (s ++ [x]).length ≤ n by rw [hlen6]; omega)
      generalize s ++ [x] = s2 at S6 D6 HLEN6 HLE6 ⊢
      clear hl6 hv6 hn6 hlen6 hbc6 hin ce2 hroomb
      have HPUSHED := hide (HLE6.out)
      by_cases hi2 : i < len2
      · obtain ⟨g3, off3, rfl, hg3, hc3⟩ := HC2.out (by omega)
        have cb := (O6.out.cell (p := ⟨g3, off3 + i, none⟩) hg3 (fun h => h)).trans (hc3 i hi2)
        have HCC3 := hide hc3
        clear hc3
        generalize eltB x2 i = pb at cb
        cases pb with
        | false =>
          go_wp2_with fail
          clear cb
          go_roundg (300 - (i + 1))
          case rel => exact ⟨i + 1, s2, _, _, rfl, by omega, by omega, by go_num, rfl, S6.out, D6.out.le (by omega), by exact HPUSHED.out, O6.out⟩
          case measure => omega
        | true =>
          go_wp2_with fail
          refine (DE_pop D6.out).mono ?_
          rintro e w7 ⟨bq, rfl, g7, a7, o7, b7⟩
          have A7 := hide a7
          have G7 := hide g7
          have O7 := hide (O6.out.trans o7)
          have S7 := hide (S6.out.only0 o7)
          have c7 : w.heap.size ≤ bq := Nat.le_trans O6.out.size b7
          clear a7 g7 o7 b7 cb
          go_wp2_with fail
          rcases List.eq_nil_or_concat s2 with hnil | ⟨s', x', hcat⟩
          · subst hnil
            refine (DE_pop_none A7.out G7.out (by omega)).mono ?_
            rintro e w8 ⟨gv8, kv8, rfl, a8, o8⟩
            have A8 := hide a8
            have S8 := hide (S7.out.step o8 G7.out A7.out)
            have O8 := hide (S0.then3 O7.out o8 c7 c2 c3)
            clear a8 o8
            go_wp2_with fail
            go_roundg (300 - (i + 1))
            case rel => exact ⟨i + 1, [], _, _, rfl, by omega, by omega, by go_num, rfl, S8.out, A8.out.le (by omega), by simp, O8.out⟩
            case measure => omega
          · rw [List.concat_eq_append] at hcat
            subst hcat
            have hl9 : (s' ++ [x']).length = s'.length + 1 := by simp
            refine (DE_pop_done (c := 1000 + 12 * i + 6) A7.out G7.out (by omega)).mono ?_
            rintro e w8 ⟨kv8, rfl, a8, o8⟩
            have A8 := hide a8
            have s8 := S7.out.step o8 G7.out A7.out
            have O8 := hide (S0.then3 O7.out o8 c7 c2 c3)
            clear a8 o8
            rw [hl9] at s8 ⊢
            obtain ⟨gs, hsa, cs, hle9, s9⟩ := s8.last
            cases hsa
            have S9 := hide s9
            have HL9 := hide hl9
            clear s8 s9 hl9
            have q0 : (0 : Int) ≤ (s'.length : Int) := by omega
            have q1 : (s'.length : Int) < (s'.length : Int) + 1 := by omega
            have q4 : (s'.length : Int) ≤ 8 := by have := HPUSHED.out; rw [HL9.out] at this; omega
            go_wp2_with fail
            go_roundg (300 - (i + 1))
            case rel => exact ⟨i + 1, s', _, _, rfl, by omega, by omega, by go_num, rfl, S9.out, A8.out.le (by omega), by have := HPUSHED.out; rw [HL9.out] at this; omega, O8.out⟩
            case measure => omega
      · go_wp2_with fail
        go_roundg (300 - (i + 1))
        case rel => exact ⟨i + 1, s2, _, _, rfl, by omega, by omega, by go_num, rfl, S6.out, D6.out.le (by omega), by exact HPUSHED.out, O6.out⟩
        case measure => omega
    · have hfull : s.length = n := by omega
      have HFULL := hide hfull
      clear hfull
      refine (DE_push_full A3.out G3.out HXU.out HFULL.out (by omega)).mono ?_
      rintro e w4 ⟨gv, kv, rfl, a4, o4⟩
      have A4 := hide a4
      have S4 := hide (S3'.out.step o4 G3.out A3.out)
      have O4 := hide (S0.then3 O3.out o4 c4 c2 c3)
      have hroomb : decide (s.length < n) = false := by simp; omega
      have HLE4 := hide hsn
      clear a4 o4 ce
      go_upto_region 16 with fail
      clear hroomb
      have HPUSHED := hide (HLE4.out)
      by_cases hi2 : i < len2
      · obtain ⟨g3, off3, rfl, hg3, hc3⟩ := HC2.out (by omega)
        have cb := (O4.out.cell (p := ⟨g3, off3 + i, none⟩) hg3 (fun h => h)).trans (hc3 i hi2)
        have HCC3 := hide hc3
        clear hc3
        generalize eltB x2 i = pb at cb
        cases pb with
        | false =>
          go_wp2_with fail
          clear cb
          go_roundg (300 - (i + 1))
          case rel => exact ⟨i + 1, s, _, _, rfl, by omega, by omega, by go_num, rfl, S4.out, A4.out.le (by omega), by exact HPUSHED.out, O4.out⟩
          case measure => omega
        | true =>
          go_wp2_with fail
          refine (DE_pop A4.out).mono ?_
          rintro e w7 ⟨bq, rfl, g7, a7, o7, b7⟩
          have A7 := hide a7
          have G7 := hide g7
          have O7 := hide (O4.out.trans o7)
          have S7 := hide (S4.out.only0 o7)
          have c7 : w.heap.size ≤ bq := Nat.le_trans O4.out.size b7
          clear a7 g7 o7 b7 cb
          go_wp2_with fail
          rcases List.eq_nil_or_concat s with hnil | ⟨s', x', hcat⟩
          · subst hnil
            refine (DE_pop_none A7.out G7.out (by omega)).mono ?_
            rintro e w8 ⟨gv8, kv8, rfl, a8, o8⟩
            have A8 := hide a8
            have S8 := hide (S7.out.step o8 G7.out A7.out)
            have O8 := hide (S0.then3 O7.out o8 c7 c2 c3)
            clear a8 o8
            go_wp2_with fail
            go_roundg (300 - (i + 1))
            case rel => exact ⟨i + 1, [], _, _, rfl, by omega, by omega, by go_num, rfl, S8.out, A8.out.le (by omega), by simp, O8.out⟩
            case measure => omega
          · rw [List.concat_eq_append] at hcat
            subst hcat
            have hl9 : (s' ++ [x']).length = s'.length + 1 := by simp
            refine (DE_pop_done (c := 1000 + 12 * i + 6) A7.out G7.out (by omega)).mono ?_
            rintro e w8 ⟨kv8, rfl, a8, o8⟩
            have A8 := hide a8
            have s8 := S7.out.step o8 G7.out A7.out
            have O8 := hide (S0.then3 O7.out o8 c7 c2 c3)
            clear a8 o8
            rw [hl9] at s8 ⊢
            obtain ⟨gs, hsa, cs, hle9, s9⟩ := s8.last
            cases hsa
            have S9 := hide s9
            have HL9 := hide hl9
            clear s8 s9 hl9
            have q0 : (0 : Int) ≤ (s'.length : Int) := by omega
            have q1 : (s'.length : Int) < (s'.length : Int) + 1 := by omega
            have q4 : (s'.length : Int) ≤ 8 := by have := HPUSHED.out; rw [HL9.out] at this; omega
            go_wp2_with fail
            go_roundg (300 - (i + 1))
            case rel => exact ⟨i + 1, s', _, _, rfl, by omega, by omega, by go_num, rfl, S9.out, A8.out.le (by omega), by have := HPUSHED.out; rw [HL9.out] at this; omega, O8.out⟩
            case measure => omega
      · go_wp2_with fail
        go_roundg (300 - (i + 1))
        case rel => exact ⟨i + 1, s, _, _, rfl, by omega, by omega, by go_num, rfl, S4.out, A4.out.le (by omega), by exact HPUSHED.out, O4.out⟩
        case measure => omega
  have hways : (i < len1 ∧ 300 ≤ i) ∨ len1 ≤ i := by omega
  clear hc9
  have HSN := hide hsn
  rcases hways with ⟨hw1, hw2⟩ | hw1
  all_goals
    have hs8 : s.length ≤ 8 := by have := HSN.out; omega
    have hde5 := HD.out.le (show 1000 + 12 * i ≤ 5000 by omega)
    have HD5 := hide hde5
    clear HD hde5 HC1 HC2 HX1
    go_wp2_with fail
    go_loopg [9] s.length (fun q sv wr => ∃ (s : List Int) (sa : Option Addr) (sc : Nat), q = s.length ∧ Value.slice sa s.length sc = sv ∧ Stk wr w.heap.size bc (.slice sa s.length sc) s ∧ DE wr bd bm bc n s (6000 - 6 * s.length) ∧ s.length ≤ 8 ∧ Only S0 w wr)
    case atStart => exact ⟨s, sa, sc, rfl, rfl, HK.out, HD5.out.le (by omega), hs8, HO.out⟩
    case round =>
    clear HD5 HO HK
    clear hs8 HSN hsn s sa sc
    obtain ⟨s, sa, sc, rfl, rfl, hsk, hde, hs8, ho⟩ := hrel
    have HK := hide hsk
    have HD := hide hde
    have HO := hide ho
    clear hsk hde ho
    rcases List.eq_nil_or_concat s with hnil | ⟨s', x', hcat⟩
    · subst hnil
      go_wp2_with fail
      refine (DE_pop HD.out).mono ?_
      rintro e w7 ⟨bq, rfl, g7, a7, o7, b7⟩
      have A7 := hide a7
      have G7 := hide g7
      have O7 := hide (HO.out.trans o7)
      have c7 : w.heap.size ≤ bq := Nat.le_trans HO.out.size b7
      clear a7 g7 o7 b7
      go_wp2_with fail
      refine (DE_pop_none A7.out G7.out (by simp)).mono ?_
      rintro e w8 ⟨gv8, kv8, rfl, a8, o8⟩
      have O8 := hide (S0.then3 O7.out o8 c7 c2 c3)
      clear a8 o8
      go_wp2_with fail
      go_ret
      exact ⟨rfl, S0.below O8.out⟩
    · rw [List.concat_eq_append] at hcat
      subst hcat
      have hl9 : (s' ++ [x']).length = s'.length + 1 := by simp
      rw [hl9] at hs8
      have HL9 := hide hl9
      clear hl9
      have hs9 := HK.out
      rw [HL9.out] at hs9 ⊢
      obtain ⟨gs, hsa, cs0, hle9, s9⟩ := hs9.last
      cases hsa
      clear hs9 s9 cs0
      go_wp2_with fail
      refine (DE_pop HD.out).mono ?_
      rintro e w7 ⟨bq, rfl, g7, a7, o7, b7⟩
      have A7 := hide a7
      have G7 := hide g7
      have O7 := hide (HO.out.trans o7)
      have S7 := hide (HK.out.only0 o7)
      have c7 : w.heap.size ≤ bq := Nat.le_trans HO.out.size b7
      clear a7 g7 o7 b7
      go_wp2_with fail
      refine (DE_pop_done (c := 6000 - 6 * (s' ++ [x']).length) A7.out G7.out (by omega)).mono ?_
      rintro e w8 ⟨kv8, rfl, a8, o8⟩
      have A8 := hide a8
      have s8 := S7.out.step o8 G7.out A7.out
      have O8 := hide (S0.then3 O7.out o8 c7 c2 c3)
      rw [HL9.out] at s8
      obtain ⟨gs2, hsa2, cs, hle92, s9⟩ := s8.last
      cases hsa2
      have S9 := hide s9
      clear s8 s9 a8 o8
      have q0 : (0 : Int) ≤ (s'.length : Int) := by omega
      have q4 : (s'.length : Int) ≤ 8 := by omega
      go_wp2_with fail
      go_roundg s'.length
      case rel => exact ⟨s', _, _, rfl, rfl, S9.out, A8.out.le (by rw [HL9.out]; omega), by omega, O8.out⟩
      case measure => rw [HL9.out]; omega
end Go.Proofs.Ytblkbfdmoanbfaa
