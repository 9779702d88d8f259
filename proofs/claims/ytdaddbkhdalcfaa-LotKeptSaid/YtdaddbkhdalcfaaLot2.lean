/-
  Package lot: Ways and Rank.
-/
import Derived.Test.YtdaddbkhdalcfaaLot
import Derived.Test.YtdaddbkhdalcfaaLotQ
namespace Go.Proofs.Ytdaddbkhdalcfaa
open Go.RowKit
set_option linter.unusedVariables false

theorem Ways_bad (n : Int) (w : World) (h : n < 1 ∨ 8 < n) :
    Calls Try.prog 36 #[.int .i64 n] w fun e w' => e = .returned (.int .i64 0) ∧ w = w' := by
  by_cases h1 : n < 1
  · go_enter Try.func36, Try.ntmps36
    go_wp2_with fail
    go_ret
    exact ⟨rfl, rfl⟩
  · have h2 : 8 < n := by omega
    clear h
    go_enter Try.func36, Try.ntmps36
    go_wp2_with fail
    go_ret
    exact ⟨rfl, rfl⟩
theorem fac_wrap (k : Nat) (h : k < 8) : wrap64 ((facN k : Int) * max (k : Int) 1) = (facN (k + 1) : Nat) := by
  have h1 := facN_le (k + 1) (by omega)
  rw [facN] at h1 ⊢
  rw [show max (k : Int) 1 = ((max k 1 : Nat) : Int) by omega]
  rw [← Int.natCast_mul]
  generalize facN k * max k 1 = x at h1 ⊢
  unfold wrap64
  omega
theorem Ways_good (n : Nat) (w : World) (h0 : 1 ≤ n) (h1 : n ≤ 8) :
    Calls Try.prog 36 #[.int .i64 n] w fun e w' => e = .returned (.int .i64 (facN n : Nat)) ∧ w = w' := by
  have a1 : ¬ (n : Int) < 1 := by omega
  have a2 : ¬ 8 < (n : Int) := by omega
  go_enter Try.func36, Try.ntmps36
  go_wp2_with fail
  go_loopg [3, 12] n (fun q v i wr => ∃ k : Nat, k ≤ n ∧ q = n - k ∧ i = .int .i64 k ∧ v = .int .i64 (facN k : Nat) ∧ w = wr)
  case atStart => exact ⟨0, Nat.zero_le _, rfl, rfl, rfl, rfl⟩
  case round =>
    obtain ⟨k, hk, rfl, rfl, rfl, rfl⟩ := hrel
    obtain ⟨f, hf⟩ : ∃ f, facN k = f := ⟨_, rfl⟩
    obtain ⟨f', hf'⟩ : ∃ f', facN (k + 1) = f' := ⟨_, rfl⟩
    by_cases hlt : k < n
    · have hw := fac_wrap k (by omega)
      rw [hf, hf'] at hw
      rw [hf]
      have HF := hide hf
      have HF' := hide hf'
      clear hf hf'
      go_wp2_with fail
      go_roundg (n - (k + 1))
      case rel => exact ⟨k + 1, by omega, rfl, by go_num, by rw [HF'.out, hw], rfl⟩
      case measure => omega
    · obtain rfl : k = n := by omega
      clear hf'
      rw [hf]
      have HF := hide hf
      clear hf
      go_wp2_with fail
      go_ret
      refine ⟨?_, rfl⟩
      rw [HF.out]
      rfl

/-- What Rank answers. -/
def rankV (r : Option Nat) : Value := .tuple #[.int .u64 ((r.getD 0 : Nat) : Int), .bool r.isSome]
theorem idx_of (l : List Nat) (v : Nat) : Lib.idxOf ((l.map fun (i : Nat) => (i : Int)).take l.length) (v : Int) = match posN l v with | some p => (p : Int) | none => -1 := by
  cases h : posN l v with
  | some p =>
    obtain ⟨h1, h2, h3⟩ := posN_some l v p h
    refine Lib.idxOf_hit _ _ p _ h1 (by simp) ?_ fun j hj => ?_
    · rw [← h2]; simp [List.getD, h1]
    · intro e
      apply h3 j hj
      have hj' : j < l.length := by omega
      simp [List.getD, hj'] at e ⊢
      omega
  | none =>
    refine Lib.idxOf_miss _ _ _ fun j hj => ?_
    intro e
    apply posN_none l v h j hj
    simp [List.getD, hj] at e ⊢
    omega
theorem rank_step (un dr p len f m : Nat) (hp : p < len) (hf : un * (f * len) = m) (hm : m ≤ 5040) (hd : dr < un) (hfp : 0 < f) :
    un * p ≤ 5040 ∧ dr + un * p ≤ 5040 ∧ un * len ≤ 5040 ∧ dr + un * p < un * len ∧ un * len * f = m := by
  have h1 : un * p + un ≤ un * len := by rw [← Nat.mul_succ]; exact Nat.mul_le_mul_left _ hp
  have h2 : un * len ≤ un * (f * len) := Nat.mul_le_mul_left _ (Nat.le_mul_of_pos_left _ hfp)
  refine ⟨by omega, by omega, by omega, by omega, ?_⟩
  rw [← hf, Nat.mul_assoc, Nat.mul_comm len f]

set_option maxHeartbeats 2000000 in
theorem rank_of (n s : Int) (l0 order : List Nat) (w : World) (va : Value) (hl0 : l0.length ≤ 7) (hlen : order.length = l0.length) (hva : Rd w va (vN order))
    (hn1 : 1 ≤ n) (hn8 : n ≤ 8) (hs0 : 0 ≤ s) (hsn : s < n)
    (hoth : Calls Try.prog 41 #[.int .i64 n, .int .i64 s] w fun e w' => ∃ v, e = .returned v ∧ Sl w' w.heap.size 3 v (vN l0) ∧ Only S0 w w') :
    Calls Try.prog 38 #[va, .int .i64 n, .int .i64 s] w fun e w' => e = .returned (rankV (rankF l0 order)) ∧ Only S0 w w' := by
  have HOTH := Lib.hid hoth
  have HVA := hide hva
  obtain ⟨av, cv, rfl, hcv⟩ := hva
  rw [vN_len, hlen]
  clear hoth hcv
  obtain ⟨nn, rfl⟩ := Int.eq_ofNat_of_zero_le (show 0 ≤ n by omega)
  have hfn : facN nn ≠ 0 := by have := facN_pos nn; omega
  have hfb : (((facN nn : Nat) : Int) == 0) = false := by simp [hfn]
  have hsn' : ¬ (nn : Int) ≤ s := by omega
  have hlenH := hide hlen
  clear hlen hfn
  have HFB := hide hfb
  clear hfb
  generalize hfx : facN nn = fx at HFB
  have HFX := hide hfx
  clear hfx
  have hfb := HFB.out
  go_enter Try.func38, Try.ntmps38
  go_wp2_with fail
  refine HOTH.out.mono ?_
  rintro e w1 ⟨v0, rfl, hv0, o1⟩
  have HVAL := hide hv0
  have HO1 := hide o1
  obtain ⟨a8, c8, hv8, _⟩ := hv0.rd
  subst hv8
  rw [vN_len]
  clear hv0 o1
  go_wp2_with fail
  refine (Ways_good nn _ (by omega) (by omega)).mono ?_
  rintro e w2 ⟨rfl, rfl⟩
  rw [HFX.out]
  go_wp2_with fail
  go_loopg [8, 9, 10, 38] l0.length (fun q v8 dv uv i wr => ∃ (l : List Nat) (k dr un : Nat), q = l0.length - k ∧ k ≤ l0.length ∧ l.length + k = l0.length ∧ i = .int .i64 k ∧ dv = .int .u64 dr ∧ uv = .int .u64 un ∧ un * facN (l.length + 1) = facN (l0.length + 1) ∧ dr < un ∧
      rankF l0 order = (rankF l (order.drop k)).map (fun r => dr + un * r) ∧ Sl wr w.heap.size 3 v8 (vN l) ∧ Only S0 w wr)
  case atStart => exact ⟨l0, 0, 0, 1, rfl, Nat.zero_le _, rfl, rfl, rfl, rfl, by omega, by omega, by simp, by have h := HVAL.out; rw [vN_len] at h; exact h, HO1.out⟩
  case round =>
    obtain ⟨l, k, dr, un, rfl, hk, hlk, rfl, rfl, rfl, hun, hdr, hrk, hv, ho⟩ := hrel
    have HUN := hide hun
    have HRK := hide hrk
    have HV := hide hv
    have HO := hide ho
    have HLK := hide hlk
    clear hun hrk hv ho hlk
    by_cases hlt : k < l0.length
    · obtain ⟨a, c, hac, hcell⟩ := HVA.out
      rw [vN_len, hlenH.out] at hac hcell
      injection hac with e1 e2 e3
      subst e1
      subst e3
      obtain ⟨ga, oa, rfl, hga, hca⟩ := hcell (by omega)
      obtain ⟨v, hvk⟩ : ∃ v, order.getD k 0 = v := ⟨_, rfl⟩
      have c1 := (HO.out.cell (p := ⟨ga, oa + k, none⟩) hga (fun h => h)).trans (hca k _ (vN_at order k (by rw [hlenH.out]; exact hlt)))
      rw [hvk] at c1
      have hdrop : order.drop k = v :: order.drop (k + 1) := by
        have hk' : k < order.length := by rw [hlenH.out]; exact hlt
        rw [List.drop_eq_getElem_cons hk', ← hvk]
        simp [List.getD, hk']
      have HDROP := hide hdrop
      have HVK := hide hvk
      have HCELL := hide hca
      clear hdrop hvk hca hcell e2
      rcases HV.out.form with ⟨_, hbad⟩ | ⟨g, cap, cur, hv8, hB, hb, hn, hm, hs, ht⟩
      · have h0 : l.length = 0 := by rw [← vN_len l, hbad]; rfl
        have := HLK.out
        omega
      · rw [vN_len] at hv8 hn ht
        subst hv8
        obtain ⟨m, hml⟩ : ∃ m, l.length = m := ⟨_, rfl⟩
        rw [hml] at hn ht ⊢
        have HML := hide hml
        have HB := hide hb
        have HT := hide ht
        have HS := hide hs
        have HM := hide hm
        clear hml hb ht hs hm
        have hcl : ∀ j, j < (l.map fun (i : Nat) => (i : Int)).length → wr.cell? ⟨g, 0 + j, none⟩ = some (.int .i64 ((l.map fun (i : Nat) => (i : Int)).getD j 0)) := by
          intro j hj
          have hjm : j < m := by rw [List.length_map] at hj; have := HML.out; omega
          rw [Nat.zero_add, HB.out.cell, ← Array.getElem?_toList]
          have h9 := congrArg (·[j]?) HT.out
          simp only [List.getElem?_take, if_pos hjm] at h9
          rw [h9, vN_at l j (by have := HML.out; omega)]
          have : j < l.length := by have := HML.out; omega
          simp [List.getD, this]
        have HCL := hide hcl
        clear hcl
        have hmle : m ≤ 7 := by have := HML.out; have := HLK.out; omega
        have hm1 : m + k = l0.length := by rw [← HML.out]; exact HLK.out
        go_wp2_with fail
        refine (slices_Index_int g 0 m cap (l.map fun (i : Nat) => (i : Int)) v wr (by rw [List.length_map]; have := HML.out; omega) (by omega) HCL.out).mono ?_
        rintro e w4 ⟨rfl, hw4⟩
        have hw4' := hw4.symm
        clear hw4
        subst hw4'
        rw [show Lib.idxOf ((l.map fun (i : Nat) => (i : Int)).take m) (v : Int) = match posN l v with | some p => (p : Int) | none => -1 from by rw [← HML.out]; exact idx_of l v]
        cases hp : posN l v with
        | none =>
          have HP := hide hp
          clear hp
          go_wp2_with fail
          go_ret2
          refine ⟨?_, HO.out⟩
          rw [HRK.out, HDROP.out, rankF, HP.out]
          rfl
        | some p =>
          obtain ⟨hplt, _, _⟩ := posN_some l v p hp
          rw [HML.out] at hplt
          have hf1 : facN (m + 1) = facN m * m := by rw [facN, show max m 1 = m by omega]
          have hst := rank_step un dr p m (facN m) (facN (l0.length + 1)) hplt (by rw [← hf1, ← HUN.out, HML.out]) (facN_le _ (by omega)) hdr (facN_pos m)
          obtain ⟨up, hup⟩ : ∃ up, un * p = up := ⟨_, rfl⟩
          obtain ⟨un', hun'⟩ : ∃ un', un * m = un' := ⟨_, rfl⟩
          rw [hup, hun'] at hst
          obtain ⟨s1, s2, s3, s4, s5⟩ := hst
          have hw1 : IntKind.u64.wrap ((un : Int) * (p : Int)) = (up : Int) := by
            rw [← Int.natCast_mul, hup, IntKind.wrap_u64]; omega
          have hw3 : IntKind.u64.wrap ((un : Int) * (m : Int)) = (un' : Int) := by
            rw [← Int.natCast_mul, hun', IntKind.wrap_u64]; omega
          have hw2 : IntKind.u64.wrap ((dr : Int) + (up : Int)) = ((dr + up : Nat) : Int) := by
            rw [IntKind.wrap_u64]; omega
          have HP := hide hp
          have HUP := hide hup
          have HUN' := hide hun'
          have S5 := hide s5
          have HF1 := hide hf1
          clear hp hup hun' s5 hf1
          go_wp2_with fail
          rw [show ((p : Int) + 1) = ((p + 1 : Nat) : Int) from by omega]
          refine (slices_Delete_int_cells g 0 m cap p (p + 1) (l.map fun (i : Nat) => (i : Int)) wr ?_ hn ?_ (by omega) (by omega) HCL.out ?_).mono ?_
          · rw [List.length_map]; have := HML.out; omega
          · have := HM.out; unfold maxLen at this; exact this
          · intro j hj
            exact HB.out.frozen _
          rintro e w7 ⟨rfl, q, rfl⟩
          have hdel := sl_deleted (HB.out.drewN q) hB (by rw [HML.out]; exact hn) HM.out HS.out (by rw [HML.out]; exact hplt) (l.map fun (i : Nat) => (i : Int)) rfl
          rw [HML.out] at hdel
          have hO7 : Only (S1 g) wr ((wr.drewN q).setCells g 0 (List.map (Value.int IntKind.i64) (List.take p (List.take m (l.map fun (i : Nat) => (i : Int))) ++ List.drop (p + 1) (List.take m (l.map fun (i : Nat) => (i : Int))) ++ List.replicate (p + 1 - p) 0))) := only_setCells (S := S1 g) g rfl _ 0 ((Only.refl (S1 g) wr).drewN q)
          generalize (wr.drewN q).setCells g 0 _ = w7 at hdel hO7 ⊢
          rw [show m - (p + 1 - p) = m - 1 by omega] at hdel ⊢
          have HDEL := hide hdel
          have HO7 := hide (HO.out.then hO7 (fun i hi e => by unfold S1 at e; omega))
          clear hdel hO7
          go_wp2_with fail
          go_roundg (l0.length - (k + 1))
          case rel =>
            refine ⟨l.eraseIdx p, k + 1, dr + up, un', rfl, by omega, ?_, by go_num, ?_, ?_, ?_, s4, ?_, HDEL.out, HO7.out⟩
            · rw [List.length_eraseIdx_of_lt (by rw [HML.out]; exact hplt), HML.out]; omega
            · first | rfl | rw [hw2] | go_num
            · first | rfl | rw [hw3] | go_num
            · rw [List.length_eraseIdx_of_lt (by rw [HML.out]; exact hplt), HML.out, show m - 1 + 1 = m by omega]
              exact S5.out
            · rw [HRK.out, HDROP.out, rankF, HP.out, HML.out, ← HUN'.out, ← HUP.out]
              show Option.map _ (Option.map _ _) = _
              rw [Option.map_map]
              congr 1
              funext r
              show dr + un * (p + m * r) = dr + un * p + un * m * r
              rw [Nat.mul_add, Nat.mul_assoc, Nat.add_assoc]
          case measure => omega
    · obtain rfl : k = l0.length := by omega
      go_wp2_with fail
      go_ret2
      refine ⟨?_, HO.out⟩
      have hd : order.drop l0.length = [] := by rw [← hlenH.out]; simp
      rw [HRK.out, hd]
      simp [rankF, rankV]
end Go.Proofs.Ytdaddbkhdalcfaa
