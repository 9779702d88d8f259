/-
  Package lot: what each function answers.
-/
import Derived.Test.YtdoaipjdldknaaaRows
import Derived.Test.YtdoaipjdldknaaaLotP
import Derived.Test.YtdoaipjdldknaaaShelf
import Derived.Deep.LoopGhost
namespace Go.Proofs.Ytdoaipjdldknaaa
open Go.RowKit
set_option linter.unusedVariables false

theorem info_int : (Try.prog.info? 3).map (fun i => (i.zero, i.size, i.bytes)) = some (some (.int .i64 0), 1, 8) := by kernel_rfl

theorem others_bad (n s : Int) (w : World) (h : n < 1 ∨ 8 < n ∨ s < 0 ∨ n ≤ s) :
    Calls Try.prog 62 #[.int .i64 n, .int .i64 s] w fun e w' => e = .returned (.slice none 0 0) ∧ w = w' := by
  by_cases h1 : n < 1
  · go_enter Try.func62, Try.ntmps62
    go_wp2_with fail
    go_ret
    exact ⟨rfl, rfl⟩
  · by_cases h2 : 8 < n
    · go_enter Try.func62, Try.ntmps62
      go_wp2_with fail
      go_ret
      exact ⟨rfl, rfl⟩
    · by_cases h3 : s < 0
      · go_enter Try.func62, Try.ntmps62
        go_wp2_with fail
        go_ret
        exact ⟨rfl, rfl⟩
      · have h4 : n ≤ s := by omega
        clear h
        go_enter Try.func62, Try.ntmps62
        go_wp2_with fail
        go_ret
        exact ⟨rfl, rfl⟩

set_option maxHeartbeats 400000 in
theorem others_good (n s : Nat) (w : World) (h0 : n ≤ 8) (h1 : s < n) :
    Calls Try.prog 62 #[.int .i64 n, .int .i64 s] w fun e w' => ∃ v, e = .returned v ∧ Sl w' w.heap.size 3 v (vN (othN n s)) ∧ Only S0 w w' := by
  have a1 : ¬ (n : Int) < 1 := by omega
  have a2 : ¬ 8 < (n : Int) := by omega
  have a3 : ¬ (s : Int) < 0 := by omega
  have a4 : ¬ (n : Int) ≤ s := by omega
  go_enter Try.func62, Try.ntmps62
  go_wp2_with fail
  go_loopg [5, 23] n (fun q v i wr => ∃ k : Nat, k ≤ n ∧ q = n - k ∧ i = .int .i64 k ∧ Sl wr w.heap.size 3 v (vN (othN k s)) ∧ Only S0 w wr)
  case atStart => exact ⟨0, Nat.zero_le _, rfl, rfl, Sl.nil _ _ _, Only.refl _ _⟩
  case round =>
    obtain ⟨k, hk, rfl, rfl, hv, ho⟩ := hrel
    have HV := hide hv
    have HO := hide ho
    clear hv ho
    by_cases hlt : k < n
    · by_cases hks : k = s
      · have hb : ((k : Int) != (s : Int)) = false := by simp [hks]
        have HK := hide hks
        clear hks
        go_wp2_with fail
        go_roundg (n - (k + 1))
        case rel => exact ⟨k + 1, by omega, rfl, by go_num, by rw [HK.out, othN_succ_eq, ← HK.out]; rw [← HK.out] at HV; exact HV.out, HO.out⟩
        case measure => omega
      · have hb : ((k : Int) != (s : Int)) = true := by simp; omega
        have HK := hide hks
        have hln := hide (othN_len_le k s)
        clear hks
        go_wp2_with (at_builtin; refine wpList_app1 _ rfl (.tmp 29) (.tmp 31) 29 rfl 3 (.int .i64 0) 8 Try.underlying29 info_int rfl w.heap.size _ (vN (othN k s)) (.int .i64 k) rfl rfl HV.out rfl (by rw [vN_len]; have := hln.out; omega) (by rw [vN_len]; have := hln.out; unfold maxLen; omega) HO.out.size ?_; intro v' w6 hv' o6 _; have HV6 := hide hv'; have HO6 := hide (HO.out.then o6 (fun i hi e => by have := HV.out.block e; omega)); clear hv' o6)
        go_roundg (n - (k + 1))
        case rel => exact ⟨k + 1, by omega, rfl, by go_num, by rw [othN_succ_ne k s HK.out, vN_append]; exact HV6.out, HO6.out⟩
        case measure => omega
    · obtain rfl : k = n := by omega
      go_wp2_with fail
      go_ret
      exact ⟨_, rfl, HV.out, HO.out⟩

/-- Two slices that the call has made lie in blocks of their own. -/
def ApartSl (u v : Value) : Prop := ∀ g, u.ownBlock = some g → v.ownBlock ≠ some g
theorem cast_mod (d m : Nat) : ((d : Int) % (m : Int)) = ((d % m : Nat) : Int) := by omega
theorem cast_div (d m : Nat) : ((d : Int) / (m : Int)) = ((d / m : Nat) : Int) := by omega

set_option maxHeartbeats 1000000 in
theorem order_of (d : Nat) (n s : Int) (w : World) (hd : d < 18446744073709551616) (l0 : List Nat) (hl0 : l0.length ≤ 8)
    (hoth : Calls Try.prog 62 #[.int .i64 n, .int .i64 s] w fun e w' => ∃ v, e = .returned v ∧ Sl w' w.heap.size 3 v (vN l0) ∧ Only S0 w w') :
    Calls Try.prog 40 #[.int .u64 d, .int .i64 n, .int .i64 s] w fun e w' => ∃ v, e = .returned v ∧ Sl w' w.heap.size 3 v (vN (ordN l0.length d l0)) ∧ Only S0 w w' := by
  have HOTH := Lib.hid hoth
  have HD := hide hd
  clear hoth hd
  go_enter Try.func40, Try.ntmps40
  go_wp2_with fail
  refine HOTH.out.mono ?_
  rintro e w1 ⟨v0, rfl, hv0, o1⟩
  have HV0 := hide hv0
  have HO1 := hide o1
  clear hv0 o1
  go_wp2_with fail
  have hlen : ∀ (v : Value) (W : World) (xs : List Value), Sl W w.heap.size 3 v xs → ∃ a c, v = .slice a xs.length c := by
    intro v W xs h
    obtain ⟨a, c, h1, _⟩ := h.rd
    exact ⟨a, c, h1⟩
  have HLEN := hide hlen
  clear hlen
  go_loopg [0, 7, 8] l0.length (fun q u v7 v8 wr => ∃ (l o : List Nat) (d' : Nat), q = l.length ∧ u = .int .u64 d' ∧ d' < 18446744073709551616 ∧ l.length + o.length ≤ 8 ∧ Sl wr w.heap.size 3 v7 (vN l) ∧ Sl wr w.heap.size 3 v8 (vN o) ∧ ApartSl v7 v8 ∧ o ++ ordN l.length d' l = ordN l0.length d l0 ∧ Only S0 w wr)
  case atStart => exact ⟨l0, [], d, rfl, rfl, HD.out, by simpa using hl0, HV0.out, Sl.nil _ _ _, fun g _ => by simp [Value.ownBlock], by simp, HO1.out⟩
  case round =>
    obtain ⟨l, o, d', rfl, rfl, hd', hlo, h7, h8, hap, heq, ho⟩ := hrel
    have H7 := hide h7
    have H8 := hide h8
    have HAP := hide hap
    have HEQ := hide heq
    have HO := hide ho
    have HD' := hide hd'
    clear hd' h7 h8 hap heq ho
    by_cases hl : l.length = 0
    · have hl' : l = [] := List.eq_nil_of_length_eq_zero hl
      subst hl'
      obtain ⟨a7, c7, rfl⟩ := HLEN.out _ _ _ H7.out
      go_wp2_with fail
      go_ret
      refine ⟨_, rfl, ?_, HO.out⟩
      rw [← HEQ.out, ordN_nil, List.append_nil]
      exact H8.out
    · rcases H7.out.form with ⟨_, hbad⟩ | ⟨g, cap, cur, hv7, hB, hb, hn, hm, hs, ht⟩
      · exact absurd (by rw [← vN_len l, hbad]; rfl) hl
      · rw [vN_len] at hv7 hn ht
        subst hv7
        obtain ⟨m, hml⟩ : ∃ m, l.length = m := ⟨_, rfl⟩
        obtain ⟨at', hat⟩ : ∃ at', d' % m = at' := ⟨_, rfl⟩
        have hatlt : at' < m := by rw [← hat]; exact Nat.mod_lt _ (by omega)
        rw [hml] at hn ht hlo hl ⊢
        have hmod := cast_mod d' m
        rw [hat] at hmod
        obtain ⟨dq, hdq⟩ : ∃ dq, d' / m = dq := ⟨_, rfl⟩
        have hdiv := cast_div d' m
        rw [hdq] at hdiv
        have hwrap : IntKind.u64.wrap (dq : Int) = dq := by
          have h1 := HD'.out
          have h2 := Nat.div_le_self d' m
          rw [hdq] at h2
          rw [IntKind.wrap_u64]; omega
        have HDQ := hide hdq
        clear hdq
        have hcell : wr.cell? ⟨g, at', none⟩ = some (.int .i64 (l.getD at' 0 : Nat)) := by
          rw [hb.cell, ← Array.getElem?_toList]
          have := congrArg (·[at']?) ht
          simp only [List.getElem?_take, if_pos hatlt] at this
          rw [this, vN_at l at' (by omega)]
        have HML := hide hml
        have HAT := hide hat
        have HB := hide hb
        have HT := hide ht
        have HS := hide hs
        have HM := hide hm
        generalize hx : l.getD at' 0 = x at hcell
        have HX := hide hx
        clear hml hat hb ht hs hm hx
        have hol : o.length + 1 ≤ 8 := by omega
        go_wp2_with (at_builtin; refine wpList_app1 _ rfl (.tmp 27) (.tmp 32) 29 rfl 3 (.int .i64 0) 8 Try.underlying29 info_int rfl w.heap.size _ (vN o) (.int .i64 x) rfl rfl H8.out rfl (by rw [vN_len]; omega) (by rw [vN_len]; unfold maxLen; omega) HO.out.size ?_; intro v8' w6 h8' o6 hnew; have H8' := hide h8'; have HNEW := hide hnew; have HB6 := hide (HB.out.only o6 (HAP.out g rfl)); have HO6 := hide (HO.out.then o6 (fun i hi e => by have := H8.out.block e; omega)); clear h8' o6 hnew)
        rw [show ((at' : Int) + 1) = ((at' + 1 : Nat) : Int) from by omega]
        refine (slices_Delete_int_cells g 0 m cap at' (at' + 1) (l.map fun (i : Nat) => (i : Int)) _ ?_ hn ?_ (by omega) (by omega) ?_ ?_).mono ?_
        · rw [List.length_map]; have := HML.out; omega
        · have := HM.out; unfold maxLen at this; exact this
        · intro j hj
          rw [Nat.zero_add, HB6.out.cell, ← Array.getElem?_toList]
          have hjm : j < m := by rw [List.length_map] at hj; have := HML.out; omega
          have h9 := congrArg (·[j]?) HT.out
          simp only [List.getElem?_take, if_pos hjm] at h9
          rw [h9, vN_at l j (by have := HML.out; omega)]
          simp [List.getD]
          have : j < l.length := by have := HML.out; omega
          simp [this]
        · intro j hj
          exact HB6.out.frozen _
        rintro e w7 ⟨rfl, q, rfl⟩
        have hdel := sl_deleted (HB6.out.drewN q) hB (by rw [HML.out]; exact hn) HM.out HS.out (by rw [HML.out]; exact hatlt) (l.map fun (i : Nat) => (i : Int)) rfl
        rw [HML.out] at hdel
        have hO7 : Only (S1 g) w6 ((w6.drewN q).setCells g 0 (List.map (Value.int IntKind.i64) (List.take at' (List.take m (l.map fun (i : Nat) => (i : Int))) ++ List.drop (at' + 1) (List.take m (l.map fun (i : Nat) => (i : Int))) ++ List.replicate (at' + 1 - at') 0))) := only_setCells (S := S1 g) g rfl _ 0 ((Only.refl (S1 g) w6).drewN q)
        generalize (w6.drewN q).setCells g 0 _ = w7 at hdel hO7 ⊢
        rw [show m - (at' + 1 - at') = m - 1 by omega] at hdel ⊢
        have hne8 : ∀ g', v8'.ownBlock = some g' → ¬ S1 g g' := by
          intro g' hg' e
          unfold S1 at e
          subst e
          rcases HNEW.out with h | ⟨g2, h, h2⟩
          · exact HAP.out g' rfl (h ▸ hg')
          · rw [h] at hg'
            have e2 := Option.some.inj hg'
            have := HB.out.lt
            omega
        have H8'' := hide (H8'.out.only hO7 hne8)
        have HN8 := hide hne8
        have HDEL := hide hdel
        have HO7 := hide (HO6.out.then hO7 (fun i hi e => by unfold S1 at e; omega))
        clear hdel hO7 hne8
        go_wp2_with fail
        go_roundg (m - 1)
        case rel =>
          refine ⟨l.eraseIdx at', o ++ [x], dq, ?_, rfl, ?_, ?_, HDEL.out, ?_, ?_, ?_, HO7.out⟩
          · rw [List.length_eraseIdx_of_lt (by rw [HML.out]; exact hatlt), HML.out]
          · rw [← HDQ.out]; exact Nat.lt_of_le_of_lt (Nat.div_le_self _ _) HD'.out
          · rw [List.length_eraseIdx_of_lt (by rw [HML.out]; exact hatlt), HML.out, List.length_append]; simp; omega
          · rw [vN_append]; exact H8''.out
          · intro g' hg' hg8
            simp [Value.ownBlock] at hg'
            exact HN8.out g' hg8 hg'.symm
          · rw [← HEQ.out, HML.out, List.length_eraseIdx_of_lt (by rw [HML.out]; exact hatlt), HML.out]
            obtain ⟨m', hm'⟩ : ∃ m', m = m' + 1 := ⟨m - 1, by omega⟩
            have hne : l ≠ [] := fun h => by have := HML.out; rw [h] at this; simp at this; omega
            rw [hm', ordN_succ _ _ _ hne, HML.out, HDQ.out, HAT.out, HX.out, Nat.add_sub_cancel, List.append_assoc]
            rfl
        case measure => have := HML.out; omega
end Go.Proofs.Ytdoaipjdldknaaa
