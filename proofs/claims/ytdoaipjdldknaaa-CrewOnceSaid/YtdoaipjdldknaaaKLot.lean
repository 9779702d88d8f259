/-
  Orders of the others, as plain lists. No program in sight.
-/
import Derived.Test.YtdoaipjdldknaaaBase
import Derived.Shelf.Slices.Turned
import Derived.Ground.Names2Prog
import Derived.Shelf.Slices.Delete
import Derived.Shelf.Slices.Cells
import Derived.Test.YtdoaipjdldknaaaProg
import Derived.Test.YtdoaipjdldknaaaRows
import Derived.Deep.LoopGhost
namespace Go.Proofs.Ytdoaipjdldknaaa
open Go.RowKit
set_option linter.unusedVariables false

/-- The numbers below n but s. -/
def othN (n s : Nat) : List Nat := (List.range n).filter (fun i => i != s)
theorem othN_succ_ne (n s : Nat) (h : n ≠ s) : othN (n + 1) s = othN n s ++ [n] := by simp [othN, List.range_succ, h]
theorem othN_succ_eq (n : Nat) : othN (n + 1) n = othN n n := by simp [othN, List.range_succ]
theorem othN_len_le (n s : Nat) : (othN n s).length ≤ n := by
  unfold othN
  have := List.length_filter_le (fun i => i != s) (List.range n)
  simpa using this
theorem othN_len (n s : Nat) (h : s < n) : (othN n s).length = n - 1 := by
  induction n with
  | zero => omega
  | succ n ih =>
    by_cases hs : n = s
    · subst hs
      rw [othN_succ_eq]
      have : othN n n = List.range n := by
        unfold othN
        rw [List.filter_eq_self]
        intro i hi
        have := List.mem_range.1 hi
        simp; omega
      rw [this]; simp
    · rw [othN_succ_ne n s hs, List.length_append, ih (by omega)]
      simp; omega
theorem mem_othN (n s v : Nat) : v ∈ othN n s ↔ v < n ∧ v ≠ s := by simp [othN]

/-- The order of a draw: f: how many are left at most. -/
def ordN : Nat → Nat → List Nat → List Nat
  | 0, _, _ => []
  | f + 1, d, l => if l = [] then [] else l.getD (d % l.length) 0 :: ordN f (d / l.length) (l.eraseIdx (d % l.length))
/-- A list of numbers as values. -/
def vN (l : List Nat) : List Value := l.map fun (i : Nat) => Value.int .i64 (i : Int)
theorem vN_len (l : List Nat) : (vN l).length = l.length := by simp [vN]
theorem vN_append (a b : List Nat) : vN (a ++ b) = vN a ++ vN b := by simp [vN]
theorem vN_at (l : List Nat) (i : Nat) (h : i < l.length) : (vN l)[i]? = some (.int .i64 (l.getD i 0 : Nat)) := by simp [vN, List.getD, h]
theorem ordN_succ (f d : Nat) (l : List Nat) (h : l ≠ []) : ordN (f + 1) d l = l.getD (d % l.length) 0 :: ordN f (d / l.length) (l.eraseIdx (d % l.length)) := by
  rw [ordN, if_neg h]
theorem ordN_nil (f d : Nat) : ordN f d [] = [] := by cases f <;> simp [ordN]

/-- A block whose cells from o on are written anew. -/
theorem Blk.setCells {t : TypeId} {g : Nat} : ∀ (vs : List Value) (o : Nat) {w : World} {cs : Array Value}, Blk w g t cs →
    ∃ cs' : Array Value, Blk (w.setCells g o vs) g t cs' ∧ cs'.size = cs.size ∧ ∀ j, j < cs.size → cs'[j]? = if o ≤ j ∧ j < o + vs.length then vs[j - o]? else cs[j]?
  | [], o, w, cs, h => ⟨cs, h, rfl, fun j _ => by rw [if_neg (by simp)]⟩
  | v :: r, o, w, cs, h => by
    obtain ⟨cs', h1, h2, h3⟩ := Blk.setCells r (o + 1) (h.set_ o v)
    refine ⟨cs', h1, by simpa using h2, fun j hj => ?_⟩
    rw [h3 j (by simpa using hj)]
    by_cases h5 : j = o
    · subst h5
      rw [if_neg (by omega), if_pos (by simp)]
      simp [hj]
    · by_cases h4 : o + 1 ≤ j ∧ j < o + 1 + r.length
      · rw [if_pos h4, if_pos (by simp; omega)]
        obtain ⟨q, hq⟩ : ∃ q, j - o = q + 1 := ⟨j - o - 1, by omega⟩
        rw [hq, show j - (o + 1) = q by omega]
        simp
      · rw [if_neg h4, if_neg (by simp; omega)]
        rw [Array.getElem?_setIfInBounds_ne (by omega)]
theorem only_setCells {S : Nat → Prop} (g : Nat) (hs : S g) : ∀ (vs : List Value) (o : Nat) {a w : World}, Only S a w → Only S a (w.setCells g o vs)
  | [], _, _, _, h => h
  | v :: r, o, a, w, h => only_setCells g hs r (o + 1) (h.set1 o hs v)

/-- A slice cut by one element: the cells behind it are moved up. -/
theorem sl_deleted {w : World} {B g cap at' : Nat} {e : TypeId} {cur : Array Value} {l : List Nat} (hb : Blk w g e cur) (hB : B ≤ g) (hn : l.length ≤ cap) (hm : cap ≤ maxLen) (hs : cur.size = cap)
    (hat : at' < l.length) (zs : List Int) (hz : zs = l.map fun (i : Nat) => (i : Int)) :
    Sl (w.setCells g 0 (((zs.take l.length).take at' ++ (zs.take l.length).drop (at' + 1) ++ List.replicate (at' + 1 - at') 0).map (Value.int .i64))) B e (.slice (some ⟨g, 0, none⟩) (l.length - (at' + 1 - at')) cap) (vN (l.eraseIdx at')) := by
  obtain ⟨cs', h1, h2, h3⟩ := hb.setCells (((zs.take l.length).take at' ++ (zs.take l.length).drop (at' + 1) ++ List.replicate (at' + 1 - at') 0).map (Value.int .i64)) 0
  have hlen : (vN (l.eraseIdx at')).length = l.length - (at' + 1 - at') := by rw [vN_len, List.length_eraseIdx_of_lt hat]; omega
  refine Sl.mk_ (g := g) (cap := cap) (cur := cs') (by rw [hlen]) hB h1 (by rw [hlen]; omega) hm (by rw [h2, hs]) ?_
  rw [hlen]
  subst hz
  apply List.ext_getElem?
  intro i
  by_cases hi : i < l.length - 1
  · have hi2 : i < l.length - (at' + 1 - at') := by omega
    rw [List.getElem?_take, if_pos hi2, Array.getElem?_toList, h3 i (by omega), if_pos (by
      refine ⟨by omega, ?_⟩
      simp only [List.length_map, List.length_append, List.length_take, List.length_drop, List.length_replicate]
      omega)]
    simp only [vN, Nat.sub_zero, List.getElem?_map, List.getElem?_eraseIdx]
    have htk : (l.map fun (i : Nat) => (i : Int)).take l.length = l.map fun (i : Nat) => (i : Int) := List.take_of_length_le (by simp)
    rw [htk]
    by_cases hia : i < at'
    · rw [if_pos hia, List.append_assoc, List.getElem?_append_left (by simp; omega), List.getElem?_take, if_pos hia]
      simp
      rfl
    · rw [if_neg hia, List.append_assoc, List.getElem?_append_right (by simp; omega), List.getElem?_append_left (by simp; omega), List.getElem?_drop]
      simp only [List.length_take, List.length_map]
      rw [show at' + 1 + (i - min at' l.length) = i + 1 by omega]
      simp
      rfl
  · rw [List.getElem?_eq_none (by simp; omega), List.getElem?_eq_none (by rw [hlen]; omega)]
end Go.Proofs.Ytdoaipjdldknaaa
/-
  The shelf's contracts of slices.Index and slices.Delete at []int, at this dump (laid by the kit's tools lay-shelf and lay-plain; the numbers by name).
-/
namespace Go.Proofs.Ytdoaipjdldknaaa
open Go.Shelf
def shDelete_ren : Go.Shelf.Ren := ⟨fun | 23 => 63 | n => n, fun | 22 => 29 | 3 => 3 | 4 => 4 | 0 => 0 | n => n, fun | n => n⟩
theorem shDelete : Go.Proofs.Lays2.n23 Try.prog shDelete_ren := {
  mixed := by kernel_rfl
  f23 := Try.func63.trans (congrArg some (by kernel_rfl))
  t0 := Try.underlying0
  a0 := Try.isAgg0
  z0 := Try.sizeOf0
  v0 := Try.zeroValue0
  t3 := Try.underlying3
  a3 := Try.isAgg3
  z3 := Try.sizeOf3
  v3 := Try.zeroValue3
  t4 := Try.underlying4
  a4 := Try.isAgg4
  z4 := Try.sizeOf4
  v4 := Try.zeroValue4
  t22 := Try.underlying29
  a22 := Try.isAgg29
  z22 := Try.sizeOf29
  v22 := Try.zeroValue29
  i3 := by kernel_rfl }
open Go.RowKit Go.Lib Go.Sort in
theorem slices_Delete_int_cells (b off n c i j : Nat) (zs : List Int) (w : World) (hz : n ≤ zs.length) (hcap : n ≤ c) (hm : c ≤ 9223372036854775807) (hij : i ≤ j) (hj : j ≤ n) (hc : ∀ j, j < zs.length → w.cell? ⟨b, off + j, none⟩ = some (.int .i64 (zs.getD j 0))) (hf : ∀ j, j < n → w.frozen? ⟨b, off + j, none⟩ = false) :
    Calls Try.prog 63 #[.slice (some ⟨b, off, none⟩) n c, .int .i64 i, .int .i64 j] w fun e w' => e = .returned (.slice (some ⟨b, off, none⟩) (n - (j - i)) c) ∧ ∃ q, w' = (w.drewN q).setCells b off (((zs.take n).take i ++ (zs.take n).drop j ++ List.replicate (j - i) 0).map (Value.int .i64)) := Any.slices_Delete_int_cells shDelete b off n c i j zs w hz hcap hm hij hj hc hf
end Go.Proofs.Ytdoaipjdldknaaa
/-
  Package lot: what each function answers.
-/
namespace Go.Proofs.Ytdoaipjdldknaaa
open Go.RowKit
set_option linter.unusedVariables false

theorem info_int : (Try.prog.info? 3).map (fun i => (i.zero, i.size, i.bytes)) = some (some (.int .i64 0), 1, 8) := by kernel_rfl

theorem others_bad (n s : Int) (w : World) (h : n < 1 ∨ 8 < n ∨ s < 0 ∨ n ≤ s) :
    Calls Try.prog 62 #[.int .i64 n, .int .i64 s] w fun e w' => e = .returned (.slice none 0 0) ∧ w = w' := by
  by_cases h1 : n < 1
  · go_enter Try.func62, Try.ntmps62
    go_wp2_with fail
    go_ret
    exact ⟨rfl, rfl⟩
  · by_cases h2 : 8 < n
    · go_enter Try.func62, Try.ntmps62
      go_wp2_with fail
      go_ret
      exact ⟨rfl, rfl⟩
    · by_cases h3 : s < 0
      · go_enter Try.func62, Try.ntmps62
        go_wp2_with fail
        go_ret
        exact ⟨rfl, rfl⟩
      · have h4 : n ≤ s := by omega
        clear h
        go_enter Try.func62, Try.ntmps62
        go_wp2_with fail
        go_ret
        exact ⟨rfl, rfl⟩

set_option maxHeartbeats 400000 in
theorem others_good (n s : Nat) (w : World) (h0 : n ≤ 8) (h1 : s < n) :
    Calls Try.prog 62 #[.int .i64 n, .int .i64 s] w fun e w' => ∃ v, e = .returned v ∧ Sl w' w.heap.size 3 v (vN (othN n s)) ∧ Only S0 w w' := by
  have a1 : ¬ (n : Int) < 1 := by omega
  have a2 : ¬ 8 < (n : Int) := by omega
  have a3 : ¬ (s : Int) < 0 := by omega
  have a4 : ¬ (n : Int) ≤ s := by omega
  go_enter Try.func62, Try.ntmps62
  go_wp2_with fail
  go_loopg [5, 23] n (fun q v i wr => ∃ k : Nat, k ≤ n ∧ q = n - k ∧ i = .int .i64 k ∧ Sl wr w.heap.size 3 v (vN (othN k s)) ∧ Only S0 w wr)
  case atStart => exact ⟨0, Nat.zero_le _, rfl, rfl, Sl.nil _ _ _, Only.refl _ _⟩
  case round =>
    obtain ⟨k, hk, rfl, rfl, hv, ho⟩ := hrel
    have HV := hide hv
    have HO := hide ho
    clear hv ho
    by_cases hlt : k < n
    · by_cases hks : k = s
      · have hb : ((k : Int) != (s : Int)) = false := by simp [hks]
        have HK := hide hks
        clear hks
        go_wp2_with fail
        go_roundg (n - (k + 1))
        case rel => exact ⟨k + 1, by omega, rfl, by go_num, by rw [HK.out, othN_succ_eq, ← HK.out]; rw [← HK.out] at HV; exact HV.out, HO.out⟩
        case measure => omega
      · have hb : ((k : Int) != (s : Int)) = true := by simp; omega
        have HK := hide hks
        have hln := hide (othN_len_le k s)
        clear hks
        go_wp2_with (at_builtin; refine wpList_app1 _ rfl (.tmp 29) (.tmp 31) 29 rfl 3 (.int .i64 0) 8 Try.underlying29 info_int rfl w.heap.size _ (vN (othN k s)) (.int .i64 k) rfl rfl HV.out rfl (by rw [vN_len]; have := hln.out; omega) (by rw [vN_len]; have := hln.out; unfold maxLen; omega) HO.out.size ?_; intro v' w6 hv' o6 _; have HV6 := hide hv'; have HO6 := hide (HO.out.then o6 (fun i hi e => by have := HV.out.block e; omega)); clear hv' o6)
        go_roundg (n - (k + 1))
        case rel => exact ⟨k + 1, by omega, rfl, by go_num, by rw [othN_succ_ne k s HK.out, vN_append]; exact HV6.out, HO6.out⟩
        case measure => omega
    · obtain rfl : k = n := by omega
      go_wp2_with fail
      go_ret
      exact ⟨_, rfl, HV.out, HO.out⟩

/-- Two slices that the call has made lie in blocks of their own. -/
def ApartSl (u v : Value) : Prop := ∀ g, u.ownBlock = some g → v.ownBlock ≠ some g
theorem cast_mod (d m : Nat) : ((d : Int) % (m : Int)) = ((d % m : Nat) : Int) := by omega
theorem cast_div (d m : Nat) : ((d : Int) / (m : Int)) = ((d / m : Nat) : Int) := by omega

set_option maxHeartbeats 1000000 in
theorem order_of (d : Nat) (n s : Int) (w : World) (hd : d < 18446744073709551616) (l0 : List Nat) (hl0 : l0.length ≤ 8)
    (hoth : Calls Try.prog 62 #[.int .i64 n, .int .i64 s] w fun e w' => ∃ v, e = .returned v ∧ Sl w' w.heap.size 3 v (vN l0) ∧ Only S0 w w') :
    Calls Try.prog 40 #[.int .u64 d, .int .i64 n, .int .i64 s] w fun e w' => ∃ v, e = .returned v ∧ Sl w' w.heap.size 3 v (vN (ordN l0.length d l0)) ∧ Only S0 w w' := by
  have HOTH := Lib.hid hoth
  have HD := hide hd
  clear hoth hd
  go_enter Try.func40, Try.ntmps40
  go_wp2_with fail
  refine HOTH.out.mono ?_
  rintro e w1 ⟨v0, rfl, hv0, o1⟩
  have HV0 := hide hv0
  have HO1 := hide o1
  clear hv0 o1
  go_wp2_with fail
  have hlen : ∀ (v : Value) (W : World) (xs : List Value), Sl W w.heap.size 3 v xs → ∃ a c, v = .slice a xs.length c := by
    intro v W xs h
    obtain ⟨a, c, h1, _⟩ := h.rd
    exact ⟨a, c, h1⟩
  have HLEN := hide hlen
  clear hlen
  go_loopg [0, 7, 8] l0.length (fun q u v7 v8 wr => ∃ (l o : List Nat) (d' : Nat), q = l.length ∧ u = .int .u64 d' ∧ d' < 18446744073709551616 ∧ l.length + o.length ≤ 8 ∧ Sl wr w.heap.size 3 v7 (vN l) ∧ Sl wr w.heap.size 3 v8 (vN o) ∧ ApartSl v7 v8 ∧ o ++ ordN l.length d' l = ordN l0.length d l0 ∧ Only S0 w wr)
  case atStart => exact ⟨l0, [], d, rfl, rfl, HD.out, by simpa using hl0, HV0.out, Sl.nil _ _ _, fun g _ => by simp [Value.ownBlock], by simp, HO1.out⟩
  case round =>
    obtain ⟨l, o, d', rfl, rfl, hd', hlo, h7, h8, hap, heq, ho⟩ := hrel
    have H7 := hide h7
    have H8 := hide h8
    have HAP := hide hap
    have HEQ := hide heq
    have HO := hide ho
    have HD' := hide hd'
    clear hd' h7 h8 hap heq ho
    by_cases hl : l.length = 0
    · have hl' : l = [] := List.eq_nil_of_length_eq_zero hl
      subst hl'
      obtain ⟨a7, c7, rfl⟩ := HLEN.out _ _ _ H7.out
      go_wp2_with fail
      go_ret
      refine ⟨_, rfl, ?_, HO.out⟩
      rw [← HEQ.out, ordN_nil, List.append_nil]
      exact H8.out
    · rcases H7.out.form with ⟨_, hbad⟩ | ⟨g, cap, cur, hv7, hB, hb, hn, hm, hs, ht⟩
      · exact absurd (by rw [← vN_len l, hbad]; rfl) hl
      · rw [vN_len] at hv7 hn ht
        subst hv7
        obtain ⟨m, hml⟩ : ∃ m, l.length = m := ⟨_, rfl⟩
        obtain ⟨at', hat⟩ : ∃ at', d' % m = at' := ⟨_, rfl⟩
        have hatlt : at' < m := by rw [← hat]; exact Nat.mod_lt _ (by omega)
        rw [hml] at hn ht hlo hl ⊢
        have hmod := cast_mod d' m
        rw [hat] at hmod
        obtain ⟨dq, hdq⟩ : ∃ dq, d' / m = dq := ⟨_, rfl⟩
        have hdiv := cast_div d' m
        rw [hdq] at hdiv
        have hwrap : IntKind.u64.wrap (dq : Int) = dq := by
          have h1 := HD'.out
          have h2 := Nat.div_le_self d' m
          rw [hdq] at h2
          rw [IntKind.wrap_u64]; omega
        have HDQ := hide hdq
        clear hdq
        have hcell : wr.cell? ⟨g, at', none⟩ = some (.int .i64 (l.getD at' 0 : Nat)) := by
          rw [hb.cell, ← Array.getElem?_toList]
          have := congrArg (·[at']?) ht
          simp only [List.getElem?_take, if_pos hatlt] at this
          rw [this, vN_at l at' (by omega)]
        have HML := hide hml
        have HAT := hide hat
        have HB := hide hb
        have HT := hide ht
        have HS := hide hs
        have HM := hide hm
        generalize hx : l.getD at' 0 = x at hcell
        have HX := hide hx
        clear hml hat hb ht hs hm hx
        have hol : o.length + 1 ≤ 8 := by omega
        go_wp2_with (at_builtin; refine wpList_app1 _ rfl (.tmp 27) (.tmp 32) 29 rfl 3 (.int .i64 0) 8 Try.underlying29 info_int rfl w.heap.size _ (vN o) (.int .i64 x) rfl rfl H8.out rfl (by rw [vN_len]; omega) (by rw [vN_len]; unfold maxLen; omega) HO.out.size ?_; intro v8' w6 h8' o6 hnew; have H8' := hide h8'; have HNEW := hide hnew; have HB6 := hide (HB.out.only o6 (HAP.out g rfl)); have HO6 := hide (HO.out.then o6 (fun i hi e => by have := H8.out.block e; omega)); clear h8' o6 hnew)
        rw [show ((at' : Int) + 1) = ((at' + 1 : Nat) : Int) from by omega]
        refine (slices_Delete_int_cells g 0 m cap at' (at' + 1) (l.map fun (i : Nat) => (i : Int)) _ ?_ hn ?_ (by omega) (by omega) ?_ ?_).mono ?_
        · rw [List.length_map]; have := HML.out; omega
        · have := HM.out; unfold maxLen at this; exact this
        · intro j hj
          rw [Nat.zero_add, HB6.out.cell, ← Array.getElem?_toList]
          have hjm : j < m := by rw [List.length_map] at hj; have := HML.out; omega
          have h9 := congrArg (·[j]?) HT.out
          simp only [List.getElem?_take, if_pos hjm] at h9
          rw [h9, vN_at l j (by have := HML.out; omega)]
          simp [List.getD]
          have : j < l.length := by have := HML.out; omega
          simp [this]
        · intro j hj
          exact HB6.out.frozen _
        rintro e w7 ⟨rfl, q, rfl⟩
        have hdel := sl_deleted (HB6.out.drewN q) hB (by rw [HML.out]; exact hn) HM.out HS.out (by rw [HML.out]; exact hatlt) (l.map fun (i : Nat) => (i : Int)) rfl
        rw [HML.out] at hdel
        have hO7 : Only (S1 g) w6 ((w6.drewN q).setCells g 0 (List.map (Value.int IntKind.i64) (List.take at' (List.take m (l.map fun (i : Nat) => (i : Int))) ++ List.drop (at' + 1) (List.take m (l.map fun (i : Nat) => (i : Int))) ++ List.replicate (at' + 1 - at') 0))) := only_setCells (S := S1 g) g rfl _ 0 ((Only.refl (S1 g) w6).drewN q)
        generalize (w6.drewN q).setCells g 0 _ = w7 at hdel hO7 ⊢
        rw [show m - (at' + 1 - at') = m - 1 by omega] at hdel ⊢
        have hne8 : ∀ g', v8'.ownBlock = some g' → ¬ S1 g g' := by
          intro g' hg' e
          unfold S1 at e
          subst e
          rcases HNEW.out with h | ⟨g2, h, h2⟩
          · exact HAP.out g' rfl (h ▸ hg')
          · rw [h] at hg'
            have e2 := Option.some.inj hg'
            have := HB.out.lt
            omega
        have H8'' := hide (H8'.out.only hO7 hne8)
        have HN8 := hide hne8
        have HDEL := hide hdel
        have HO7 := hide (HO6.out.then hO7 (fun i hi e => by unfold S1 at e; omega))
        clear hdel hO7 hne8
        go_wp2_with fail
        go_roundg (m - 1)
        case rel =>
          refine ⟨l.eraseIdx at', o ++ [x], dq, ?_, rfl, ?_, ?_, HDEL.out, ?_, ?_, ?_, HO7.out⟩
          · rw [List.length_eraseIdx_of_lt (by rw [HML.out]; exact hatlt), HML.out]
          · rw [← HDQ.out]; exact Nat.lt_of_le_of_lt (Nat.div_le_self _ _) HD'.out
          · rw [List.length_eraseIdx_of_lt (by rw [HML.out]; exact hatlt), HML.out, List.length_append]; simp; omega
          · rw [vN_append]; exact H8''.out
          · intro g' hg' hg8
            simp [Value.ownBlock] at hg'
            exact HN8.out g' hg8 hg'.symm
          · rw [← HEQ.out, HML.out, List.length_eraseIdx_of_lt (by rw [HML.out]; exact hatlt), HML.out]
            obtain ⟨m', hm'⟩ : ∃ m', m = m' + 1 := ⟨m - 1, by omega⟩
            have hne : l ≠ [] := fun h => by have := HML.out; rw [h] at this; simp at this; omega
            rw [hm', ordN_succ _ _ _ hne, HML.out, HDQ.out, HAT.out, HX.out, Nat.add_sub_cancel, List.append_assoc]
            rfl
        case measure => have := HML.out; omega
end Go.Proofs.Ytdoaipjdldknaaa
/-
  Ranks of orders, as plain lists and numbers. No program in sight.
-/
namespace Go.Proofs.Ytdoaipjdldknaaa
open Go.RowKit
set_option linter.unusedVariables false

/-- Where a number stands first. -/
def posN : List Nat → Nat → Option Nat
  | [], _ => none
  | x :: xs, v => if x = v then some 0 else (posN xs v).map (· + 1)
theorem posN_some : ∀ (l : List Nat) (v p : Nat), posN l v = some p → p < l.length ∧ l.getD p 0 = v ∧ ∀ j, j < p → l.getD j 0 ≠ v
  | [], v, p, h => by simp [posN] at h
  | x :: xs, v, p, h => by
    by_cases hx : x = v
    · simp [posN, hx] at h
      subst h
      exact ⟨by simp, by simp [hx], fun j hj => by omega⟩
    · simp only [posN, if_neg hx, Option.map_eq_some_iff] at h
      obtain ⟨q, hq, rfl⟩ := h
      obtain ⟨h1, h2, h3⟩ := posN_some xs v q hq
      refine ⟨by simpa using h1, by simpa using h2, fun j hj => ?_⟩
      cases j with
      | zero => simpa using hx
      | succ j => simpa using h3 j (by omega)
theorem posN_none : ∀ (l : List Nat) (v : Nat), posN l v = none → ∀ j, j < l.length → l.getD j 0 ≠ v
  | [], v, h, j, hj => by simp at hj
  | x :: xs, v, h, j, hj => by
    by_cases hx : x = v
    · simp [posN, hx] at h
    · simp only [posN, if_neg hx, Option.map_eq_none_iff] at h
      cases j with
      | zero => simpa using hx
      | succ j => simpa using posN_none xs v h j (by simpa using hj)
theorem posN_at : ∀ (l : List Nat) (p : Nat), l.Nodup → p < l.length → posN l (l.getD p 0) = some p
  | [], p, _, h => by simp at h
  | x :: xs, 0, _, _ => by simp [posN]
  | x :: xs, p + 1, hd, h => by
    have hd' := List.nodup_cons.1 hd
    have hp : p < xs.length := by simpa using h
    have hne : x ≠ xs.getD p 0 := by
      intro e
      apply hd'.1
      rw [e]
      simp [List.getD, hp]
    have e1 : (x :: xs).getD (p + 1) 0 = xs.getD p 0 := by simp
    rw [e1, posN, if_neg hne, posN_at xs p hd'.2 hp]
    rfl

/-- The rank of an order. -/
def rankF : List Nat → List Nat → Option Nat
  | _, [] => some 0
  | l, v :: vs => match posN l v with
    | none => none
    | some p => (rankF (l.eraseIdx p) vs).map fun r => p + l.length * r
/-- How many orders of k - 1 there are. -/
def facN : Nat → Nat
  | 0 => 1
  | k + 1 => facN k * max k 1
theorem facN_pos (k : Nat) : 0 < facN k := by
  induction k with
  | zero => simp [facN]
  | succ k ih => rw [facN]; exact Nat.mul_pos ih (by omega)
theorem facN_le (k : Nat) (h : k ≤ 8) : facN k ≤ 5040 := by
  have : ∀ k, k ≤ 8 → facN k ≤ 5040 := by decide
  exact this k h
/-- A draw below the number of orders is its order's rank. -/
theorem rank_ord : ∀ (m d : Nat) (l : List Nat), l.length = m → l.Nodup → d < facN (m + 1) → rankF l (ordN m d l) = some d
  | 0, d, l, hl, hd, h => by
    have : d = 0 := by simp [facN] at h; exact h
    subst this
    simp [ordN, rankF]
  | m + 1, d, l, hl, hd, h => by
    have hne : l ≠ [] := fun e => by rw [e] at hl; simp at hl
    have hp : d % l.length < l.length := Nat.mod_lt _ (by omega)
    rw [ordN_succ _ _ _ hne, rankF, posN_at l _ hd hp]
    have hl' : (l.eraseIdx (d % l.length)).length = m := by rw [List.length_eraseIdx_of_lt hp]; omega
    have hd' : (l.eraseIdx (d % l.length)).Nodup := hd.eraseIdx _
    have hlt : d / l.length < facN (m + 1) := by
      rw [Nat.div_lt_iff_lt_mul (by omega), hl]
      rw [facN, show max (m + 1) 1 = m + 1 by omega] at h
      exact h
    show Option.map (fun r => d % l.length + l.length * r) (rankF (l.eraseIdx (d % l.length)) (ordN m (d / l.length) (l.eraseIdx (d % l.length)))) = some d
    rw [rank_ord m (d / l.length) _ hl' hd' hlt]
    simp [Nat.mod_add_div]
/-- Of a draw only what is left by the number of orders matters. -/
theorem ord_mod : ∀ (m d : Nat) (l : List Nat), l.length = m → ordN m (d % facN (m + 1)) l = ordN m d l
  | 0, d, l, hl => by simp [ordN]
  | m + 1, d, l, hl => by
    have hne : l ≠ [] := fun e => by rw [e] at hl; simp at hl
    have hf : facN (m + 1 + 1) = facN (m + 1) * l.length := by rw [facN, hl, show max (m + 1) 1 = m + 1 by omega]
    have hdvd : l.length ∣ facN (m + 1 + 1) := by rw [hf]; exact Nat.dvd_mul_left _ _
    have hl' : (l.eraseIdx (d % l.length)).length = m := by rw [List.length_eraseIdx_of_lt (Nat.mod_lt _ (by omega))]; omega
    rw [ordN_succ _ _ _ hne, ordN_succ _ _ _ hne, Nat.mod_mod_of_dvd _ hdvd, hf, Nat.mul_comm, Nat.mod_mul_right_div_self, ord_mod m _ _ hl']
theorem oth_nodup (n s : Nat) : (othN n s).Nodup := List.Nodup.sublist List.filter_sublist List.nodup_range
theorem ord_len : ∀ (m d : Nat) (l : List Nat), l.length = m → (ordN m d l).length = m
  | 0, d, l, hl => by simp [ordN]
  | m + 1, d, l, hl => by
    have hne : l ≠ [] := fun e => by rw [e] at hl; simp at hl
    rw [ordN_succ _ _ _ hne, List.length_cons, ord_len m _ _ (by rw [List.length_eraseIdx_of_lt (Nat.mod_lt _ (by omega))]; omega)]
end Go.Proofs.Ytdoaipjdldknaaa
/-
  Package lot: Order, told for all arguments (the crew's).
-/
namespace Go.Proofs.Ytdoaipjdldknaaa
open Go.RowKit
set_option linter.unusedVariables false

/-- The others, of whatever numbers. -/
def othZ (n s : Int) : List Nat := if 1 ≤ n ∧ n ≤ 8 ∧ 0 ≤ s ∧ s < n then othN n.toNat s.toNat else []
/-- The order of a draw, of whatever numbers. -/
def ordZ (d : Nat) (n s : Int) : List Nat := ordN (othZ n s).length d (othZ n s)
theorem othZ_good (n s : Nat) (h0 : n ≤ 8) (h1 : s < n) : othZ n s = othN n s := by
  unfold othZ
  rw [if_pos (by omega)]
  simp
theorem othZ_len (n s : Int) : (othZ n s).length ≤ 7 := by
  unfold othZ
  split
  · rename_i h
    rw [othN_len _ _ (by omega)]
    omega
  · simp
theorem ordZ_len (d : Nat) (n s : Int) : (ordZ d n s).length = (othZ n s).length := ord_len _ _ _ rfl
theorem others_any (n s : Int) (w : World) :
    Calls Try.prog 62 #[.int .i64 n, .int .i64 s] w fun e w' => ∃ v, e = .returned v ∧ Sl w' w.heap.size 3 v (vN (othZ n s)) ∧ Only S0 w w' := by
  by_cases h : 1 ≤ n ∧ n ≤ 8 ∧ 0 ≤ s ∧ s < n
  · obtain ⟨n', rfl⟩ := Int.eq_ofNat_of_zero_le (show 0 ≤ n by omega)
    obtain ⟨s', rfl⟩ := Int.eq_ofNat_of_zero_le (show 0 ≤ s by omega)
    rw [othZ_good n' s' (by omega) (by omega)]
    exact others_good n' s' w (by omega) (by omega)
  · have e : othZ n s = [] := by unfold othZ; rw [if_neg h]
    rw [e]
    refine (others_bad n s w (by omega)).mono ?_
    rintro e w' ⟨rfl, rfl⟩
    exact ⟨_, rfl, Sl.nil _ _ _, Only.refl _ _⟩
theorem Order_any (d : Int) (n s : Int) (w : World) (h0 : 0 ≤ d) (h1 : d < 18446744073709551616) :
    Calls Try.prog 40 #[.int .u64 d, .int .i64 n, .int .i64 s] w fun e w' => ∃ v, e = .returned v ∧ Sl w' w.heap.size 3 v (vN (ordZ d.toNat n s)) ∧ Only S0 w w' := by
  obtain ⟨d', rfl⟩ := Int.eq_ofNat_of_zero_le h0
  exact order_of d' n s w (by omega) (othZ n s) (by have := othZ_len n s; omega) (others_any n s w)
end Go.Proofs.Ytdoaipjdldknaaa
