/-
  Parts of the cells: a step of a part sees its own cells alone, and turns no other (plain lists; no program).
-/
import Derived.Test.YtdoaipjdldknaaaKC18
import Derived.Test.YtdoaipjdldknaaaKDeqA
import Derived.Test.YtdoaipjdldknaaaKGateA
namespace Go.Proofs.Ytdoaipjdldknaaa
open Go.RowKit
set_option linter.unusedVariables false
/-- k cells from b on. -/
def sub (L : List Int) (b k : Nat) : List Int := (L.drop b).take k
theorem sub_len {L : List Int} {b k : Nat} (h : b + k ≤ L.length) : (sub L b k).length = k := by simp [sub]; omega
theorem sub_get (L : List Int) (b k i : Nat) (h : i < k) : (sub L b k)[i]? = L[b + i]? := by simp [sub, h]
theorem sub_out (L : List Int) (b k j : Nat) (h : k ≤ j) : (sub L b k)[j]? = none := List.getElem?_eq_none (by simp [sub]; omega)
theorem at_get (L : List Int) (i : Nat) : at_ L (i : Int) = (L[i]?).getD 0 := by unfold at_; simp [List.getD]
theorem at_sub (L : List Int) (b k i : Nat) (h : i < k) : at_ (sub L b k) (i : Int) = at_ L ((b + i : Nat) : Int) := by rw [at_get, at_get, sub_get L b k i h]
theorem sub_set (L : List Int) (b k i : Nat) (v : Int) (h : i < k) : sub (L.set (b + i) v) b k = (sub L b k).set i v := by
  refine List.ext_getElem? fun j => ?_
  rw [List.getElem?_set]
  by_cases hj : j < k
  · rw [sub_get _ _ _ _ hj, List.getElem?_set]
    by_cases e : i = j
    · subst e
      simp [sub]
      by_cases hl : b + i < L.length
      · rw [if_pos hl, if_pos (by omega)]
      · rw [if_neg hl, if_neg (by omega)]
    · rw [if_neg (by omega), if_neg e, sub_get _ _ _ _ hj]
  · rw [if_neg (by omega), sub_out _ _ _ _ (by omega), sub_out _ _ _ _ (by omega)]
/-- As it was, outside of k cells from b on. -/
structure Agr (L L' : List Int) (b k : Nat) : Prop where
  len : L'.length = L.length
  get : ∀ j, j < b ∨ b + k ≤ j → L'[j]? = L[j]?
theorem Agr.refl (L : List Int) (b k : Nat) : Agr L L b k := ⟨rfl, fun _ _ => rfl⟩
theorem Agr.trans {L L' L'' : List Int} {b k : Nat} (h : Agr L L' b k) (h' : Agr L' L'' b k) : Agr L L'' b k := ⟨h'.len.trans h.len, fun j hj => (h'.get j hj).trans (h.get j hj)⟩
theorem Agr.set {L L' : List Int} {b k i : Nat} (h : Agr L L' b k) (v : Int) (h1 : b ≤ i) (h2 : i < b + k) : Agr L (L'.set i v) b k :=
  ⟨by simpa using h.len, fun j hj => by rw [List.getElem?_set, if_neg (by omega)]; exact h.get j hj⟩
theorem Agr.sub {L L' : List Int} {b k b' k' : Nat} (h : Agr L L' b k) (hd : b' + k' ≤ b ∨ b + k ≤ b') : sub L' b' k' = sub L b' k' := by
  refine List.ext_getElem? fun j => ?_
  by_cases hj : j < k'
  · rw [sub_get _ _ _ _ hj, sub_get _ _ _ _ hj, h.get _ (by omega)]
  · rw [sub_out _ _ _ _ (by omega), sub_out _ _ _ _ (by omega)]
theorem AllU.sub {L : List Int} (h : AllU L) (b k : Nat) : AllU (sub L b k) := fun x hx => h x (List.mem_of_mem_drop (List.mem_of_mem_take hx))
/-- A bell's step. -/
theorem bstep_sub (b n : Nat) (L : List Int) (o : Bop) (ho : BopOk n o) :
    (bstep b n L o).2 = (bstep 0 n (sub L b n) o).2 ∧ sub (bstep b n L o).1 b n = (bstep 0 n (sub L b n) o).1 ∧ Agr L (bstep b n L o).1 b n := by
  obtain ⟨k, who, out⟩ := o
  by_cases h0 : out = 0
  · subst h0
    obtain ⟨q, rfl⟩ := Int.eq_ofNat_of_zero_le (ho.w0 rfl)
    have hq : q < n := by have := ho.w1 rfl; simp at this; omega
    have e1 : at_ (sub L b n) (0 + (q : Int)) = at_ L ((b : Int) + (q : Int)) := by
      rw [Int.zero_add, at_sub L b n q hq]; rfl
    have e2 : ∀ v, sub (L.set ((b : Int) + (q : Int)).toNat v) b n = (sub L b n).set (0 + (q : Int)).toNat v := fun v => by
      rw [show ((b : Int) + (q : Int)).toNat = b + q by omega, show (0 + (q : Int)).toNat = q by omega, sub_set L b n q v hq]
    have e3 : ∀ v, Agr L (L.set ((b : Int) + (q : Int)).toNat v) b n := fun v => (Agr.refl L b n).set v (by omega) (by omega)
    have hk := ho.k
    simp only at hk
    unfold bstep
    simp only [e1, ne_eq, not_true_eq_false, if_false]
    (repeat' split) <;> first | exact ⟨rfl, rfl, Agr.refl _ _ _⟩ | exact ⟨rfl, e2 _, e3 _⟩
  · simp [bstep, h0]
    exact Agr.refl _ _ _
/-- A deque's step. -/
theorem dslot_sub {b n : Nat} {t : Int} (ht : U64 t) (hn : 1 ≤ n) : ∃ i, i < 2 + n ∧ dslotOf 0 n t = (i : Nat) ∧ dslotOf b n t = ((b + i : Nat) : Int) := by
  obtain ⟨-, m1, m2⟩ := u64_mod ht (show (1 : Int) ≤ n by omega)
  refine ⟨2 + (t % n).toNat, by omega, ?_, ?_⟩
  · unfold dslotOf; omega
  · unfold dslotOf; omega
theorem dstep_sub (b n : Nat) (hn : 1 ≤ n) (L : List Int) (o : Dop) (ho : DopOk o) :
    (dstep b n L o).2 = (dstep 0 n (sub L b (2 + n)) o).2 ∧ sub (dstep b n L o).1 b (2 + n) = (dstep 0 n (sub L b (2 + n)) o).1 ∧ Agr L (dstep b n L o).1 b (2 + n) := by
  have a0 : at_ (sub L b (2 + n)) (0 : Int) = at_ L (b : Int) := at_sub L b (2 + n) 0 (by omega)
  have a1 : at_ (sub L b (2 + n)) ((0 : Int) + 1) = at_ L ((b : Int) + 1) := by
    have := at_sub L b (2 + n) 1 (by omega)
    rw [show ((b + 1 : Nat) : Int) = (b : Int) + 1 by omega] at this
    exact this
  have s0 : ∀ v, sub (L.set (b : Int).toNat v) b (2 + n) = (sub L b (2 + n)).set (0 : Int).toNat v := fun v => by
    have := sub_set L b (2 + n) 0 v (by omega)
    simpa using this
  have s1 : ∀ v, sub (L.set ((b : Int) + 1).toNat v) b (2 + n) = (sub L b (2 + n)).set ((0 : Int) + 1).toNat v := fun v => by
    have := sub_set L b (2 + n) 1 v (by omega)
    rw [show ((b : Int) + 1).toNat = b + 1 by omega]
    exact this
  have g0 : ∀ v, Agr L (L.set (b : Int).toNat v) b (2 + n) := fun v => (Agr.refl L b (2 + n)).set v (by omega) (by omega)
  have g1 : ∀ v, Agr L (L.set ((b : Int) + 1).toNat v) b (2 + n) := fun v => (Agr.refl L b (2 + n)).set v (by omega) (by omega)
  have sl : ∀ {t : Int}, U64 t → at_ (sub L b (2 + n)) (dslotOf 0 n t) = at_ L (dslotOf b n t) ∧ (∀ v, sub (L.set (dslotOf b n t).toNat v) b (2 + n) = (sub L b (2 + n)).set (dslotOf 0 n t).toNat v) ∧ ∀ v, Agr L (L.set (dslotOf b n t).toNat v) b (2 + n) := fun ht => by
    obtain ⟨i, hi, e1, e2⟩ := dslot_sub (b := b) ht hn
    refine ⟨by rw [e1, e2]; exact at_sub L b (2 + n) i hi, fun v => by rw [e1, e2, Int.toNat_natCast, Int.toNat_natCast]; exact sub_set L b (2 + n) i v hi, fun v => by rw [e2, Int.toNat_natCast]; exact (Agr.refl L b (2 + n)).set v (by omega) (by omega)⟩
  obtain ⟨k, out, v, t, bb, won⟩ := o
  by_cases h0 : out = 0
  · subst h0
    have hk := ho.k
    simp only at hk
    have hk' : k = 1 ∨ k = 2 ∨ k = 3 ∨ k = 4 ∨ k = 5 ∨ k = 6 ∨ k = 7 ∨ k = 8 ∨ k = 9 ∨ k = 10 ∨ k = 11 ∨ k = 12 ∨ k = 13 ∨ k = 14 := by omega
    obtain ⟨x1, x2, x3⟩ := sl ho.b
    obtain ⟨y1, y2, y3⟩ := sl ho.t
    obtain ⟨z1, z2, z3⟩ := sl (u64_wrap (bb - 1))
    clear hk
    rcases hk' with rfl | rfl | rfl | rfl | rfl | rfl | rfl | rfl | rfl | rfl | rfl | rfl | rfl | rfl
    · rw [ds1, ds1]; exact ⟨by rw [a1], rfl, Agr.refl _ _ _⟩
    · rw [ds2, ds2]; exact ⟨by rw [a0], rfl, Agr.refl _ _ _⟩
    · rw [ds3, ds3]; exact ⟨rfl, x2 v, x3 v⟩
    · rw [ds4, ds4]; exact ⟨rfl, s1 _, g1 _⟩
    · rw [ds5, ds5]; exact ⟨by rw [a1], rfl, Agr.refl _ _ _⟩
    · rw [ds6, ds6]; exact ⟨rfl, s1 _, g1 _⟩
    · rw [ds7, ds7]; exact ⟨by rw [a0], rfl, Agr.refl _ _ _⟩
    · rw [ds8, ds8]; exact ⟨by rw [z1], rfl, Agr.refl _ _ _⟩
    · rw [ds9, ds9]
      unfold dswapL dswapB
      rw [a0]
      by_cases hs : at_ L (b : Int) = t
      · rw [if_pos hs, if_pos hs]; exact ⟨rfl, s0 _, g0 _⟩
      · rw [if_neg hs, if_neg hs]; exact ⟨rfl, rfl, Agr.refl _ _ _⟩
    · rw [ds10, ds10]; exact ⟨rfl, s1 _, g1 _⟩
    · rw [ds11, ds11]; exact ⟨by rw [a0], rfl, Agr.refl _ _ _⟩
    · rw [ds12, ds12]; exact ⟨by rw [a1], rfl, Agr.refl _ _ _⟩
    · rw [ds13, ds13]; exact ⟨by rw [y1], rfl, Agr.refl _ _ _⟩
    · rw [ds14, ds14]
      unfold dswapL dswapB
      rw [a0]
      by_cases hs : at_ L (b : Int) = t
      · rw [if_pos hs, if_pos hs]; exact ⟨rfl, s0 _, g0 _⟩
      · rw [if_neg hs, if_neg hs]; exact ⟨rfl, rfl, Agr.refl _ _ _⟩
  · simp [dstep, h0]
    exact Agr.refl _ _ _
/-- A gate's operation, told from its own beginning. -/
def gsh (b : Int) (o : Gop) : Gop := { o with cell := o.cell - b }
theorem gslot_sub {b n : Nat} {t : Int} (ht : U64 t) (hn : 1 ≤ n) : ∃ i, i + 1 < 2 + 2 * n ∧ slotOf 0 n t = (i : Nat) ∧ slotOf b n t = ((b + i : Nat) : Int) := by
  obtain ⟨-, m1, m2⟩ := u64_mod ht (show (1 : Int) ≤ n by omega)
  refine ⟨2 + 2 * (t % n).toNat, by omega, ?_, ?_⟩
  · unfold slotOf; omega
  · unfold slotOf; omega
theorem gstep_sub (b n : Nat) (hn : 1 ≤ n) (L : List Int) (o : Gop) (len : Nat) (ho : GopOk b len o) (hc : o.cell = b ∨ o.cell = (b : Int) + 1) :
    gsh b (gstep b n L o).2 = (gstep 0 n (sub L b (2 + 2 * n)) (gsh b o)).2 ∧ sub (gstep b n L o).1 b (2 + 2 * n) = (gstep 0 n (sub L b (2 + 2 * n)) (gsh b o)).1 ∧ Agr L (gstep b n L o).1 b (2 + 2 * n) := by
  obtain ⟨ph, cell, ahead, t, v, out⟩ := o
  by_cases h0 : out = 0
  · subst h0
    obtain ⟨c, hc2, hc3⟩ : ∃ c : Nat, c < 2 ∧ cell = ((b + c : Nat) : Int) := by
      rcases hc with hc | hc
      · exact ⟨0, by omega, by simpa using hc⟩
      · exact ⟨1, by omega, by simpa using hc⟩
    subst hc3
    have ec : ((b + c : Nat) : Int) - (b : Int) = ((c : Nat) : Int) := by omega
    obtain ⟨i, hi, e1, e2⟩ := gslot_sub (b := b) ho.t hn
    have q1 := at_sub L b (2 + 2 * n) c (by omega)
    have q2 := at_sub L b (2 + 2 * n) i (by omega)
    have q3 := at_sub L b (2 + 2 * n) (i + 1) (by omega)
    have w1 : ∀ x, sub (L.set (b + c) x) b (2 + 2 * n) = (sub L b (2 + 2 * n)).set c x := fun x => sub_set _ _ _ _ _ (by omega)
    have w2 : ∀ x, sub (L.set (b + i) x) b (2 + 2 * n) = (sub L b (2 + 2 * n)).set i x := fun x => sub_set _ _ _ _ _ (by omega)
    have w3 : ∀ x, sub (L.set (b + i + 1) x) b (2 + 2 * n) = (sub L b (2 + 2 * n)).set (i + 1) x := fun x => sub_set L b (2 + 2 * n) (i + 1) x (by omega)
    have v1 : ∀ x, Agr L (L.set (b + c) x) b (2 + 2 * n) := fun x => (Agr.refl _ _ _).set x (by omega) (by omega)
    have v2 : ∀ x, Agr L (L.set (b + i) x) b (2 + 2 * n) := fun x => (Agr.refl _ _ _).set x (by omega) (by omega)
    have v3 : ∀ x, Agr L (L.set (b + i + 1) x) b (2 + 2 * n) := fun x => (Agr.refl _ _ _).set x (by omega) (by omega)
    have t1 : (((b + c : Nat) : Int)).toNat = b + c := by omega
    have t2 : (((b + i : Nat) : Int)).toNat = b + i := by omega
    have t3 : (((b + i : Nat) : Int) + 1).toNat = b + i + 1 := by omega
    have t4 : ((i : Int) + 1).toNat = i + 1 := by omega
    have p3 : at_ (sub L b (2 + 2 * n)) ((i : Int) + 1) = at_ L (((b + i : Nat) : Int) + 1) := by
      have := q3
      rw [show ((i + 1 : Nat) : Int) = (i : Int) + 1 by omega, show ((b + (i + 1) : Nat) : Int) = ((b + i : Nat) : Int) + 1 by omega] at this
      exact this
    have hp := ho.ph
    simp only at hp e1 e2
    have hg : gsh b ⟨ph, ((b + c : Nat) : Int), ahead, t, v, 0⟩ = ⟨ph, ((c : Nat) : Int), ahead, t, v, 0⟩ := by unfold gsh; simp only [ec]
    rw [hg]
    rcases hp with rfl | rfl | rfl | rfl | rfl
    · rw [gstep0 rfl rfl, gstep0 rfl rfl]
      refine ⟨?_, rfl, Agr.refl _ _ _⟩
      show (⟨1, ((b + c : Nat) : Int) - b, ahead, at_ L ((b + c : Nat) : Int), v, 0⟩ : Gop) = ⟨1, ((c : Nat) : Int), ahead, at_ (sub L b (2 + 2 * n)) ((c : Nat) : Int), v, 0⟩
      rw [ec, q1]
    · rw [gstep1 rfl rfl, gstep1 rfl rfl]
      refine ⟨?_, rfl, Agr.refl _ _ _⟩
      unfold gsh
      simp only [ec, e1, e2, q2]
    · rw [gstep2 rfl rfl, gstep2 rfl rfl]
      unfold gsh swapPh swapL
      simp only [ec, q1, t1, Int.toNat_natCast]
      by_cases hs : at_ L (((b + c : Nat) : Int)) = t
      · simp only [if_pos hs]
        exact ⟨trivial, w1 _, v1 _⟩
      · simp only [if_neg hs]
        exact ⟨trivial, trivial, Agr.refl _ _ _⟩
    · rw [gstep3 rfl rfl, gstep3 rfl rfl]
      unfold gsh valV valL
      simp only [ec, e1, e2, p3, t3, t4]
      by_cases hs : ahead = 0
      · simp only [if_pos hs]
        exact ⟨trivial, w3 _, v3 _⟩
      · simp only [if_neg hs]
        exact ⟨trivial, trivial, Agr.refl _ _ _⟩
    · rw [gstep4 rfl rfl, gstep4 rfl rfl]
      unfold gsh
      simp only [ec, e1, e2, t2, Int.toNat_natCast]
      exact ⟨trivial, w2 _, v2 _⟩
  · simp [gstep, gsh, h0]
    exact Agr.refl _ _ _
end Go.Proofs.Ytdoaipjdldknaaa
