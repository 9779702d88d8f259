/-
  troupelaw06.made: a bell of so many workers, of whom those sleep that are named.
-/
import Derived.Test.YtdoaipjdldknaaaGreatKBell3
import Derived.Test.YtdoaipjdldknaaaGreatOpen
import Derived.Test.YtdoaipjdldknaaaGreatWant
import Derived.Handy
namespace Go.Proofs.YtdoaipjdldknaaaGreat
open Go.RowKit
set_option linter.unusedVariables false

theorem bout0_in {n x : Int} (h0 : 0 ≤ x) (h1 : x < n) : bout0 n x = 0 := by unfold bout0; rw [if_pos ⟨h0, h1⟩]
/-- One Sleep, done at once. -/
theorem bdone_sleep (base n x : Int) (L : List Int) (h0 : 0 ≤ x) (h1 : x < n) : bdone base n 100 L ⟨0, x, bout0 n x⟩ = (L.set (base + x).toNat 1, ⟨0, x, 1⟩, 1) := by
  rw [bout0_in h0 h1]
  exact bdone_cons rfl (by simp [bstep]) (bdone_over _ _ _ _ _ (by simp))
theorem bdone_up (base n x : Int) (L : List Int) (h0 : 0 ≤ x) (h1 : x < n) : bdone base n 100 L ⟨1, x, bout0 n x⟩ = (L.set (base + x).toNat 0, ⟨1, x, 1⟩, 1) := by
  rw [bout0_in h0 h1]
  exact bdone_cons rfl (by simp [bstep]) (bdone_over _ _ _ _ _ (by simp))
theorem pollOut_ne (v : Int) : pollOut v ≠ 0 := by unfold pollOut; split <;> decide
theorem bdone_poll (base n x : Int) (L : List Int) (h0 : 0 ≤ x) (h1 : x < n) : bdone base n 100 L ⟨2, x, bout0 n x⟩ = (L, ⟨2, x, pollOut (at_ L (base + x))⟩, 1) := by
  rw [bout0_in h0 h1]
  exact bdone_cons rfl (by simp [bstep]) (bdone_over _ _ _ _ _ (pollOut_ne _))
theorem bout0_out {n x : Int} (h : ¬ (0 ≤ x ∧ x < n)) : bout0 n x = 4 := by unfold bout0; rw [if_neg h]
theorem bdone_none (base n x : Int) (k : Nat) (L : List Int) (h : ¬ (0 ≤ x ∧ x < n)) : bdone base n 100 L ⟨k, x, bout0 n x⟩ = (L, ⟨k, x, 4⟩, 0) := by
  rw [bout0_out h]
  exact bdone_over _ _ _ _ _ (by simp)

end Go.Proofs.YtdoaipjdldknaaaGreat
/-
  The document's operation of a bell: what it asks for next, told from its log; the walks of Next, Step and like.
-/
namespace Go.Proofs.YtdoaipjdldknaaaGreat
open Go.RowKit
set_option linter.unusedVariables false

/-- A ring, from worker v on (d workers are left). -/
def ringL (base : Int) : Nat → Int → List Int → GW
  | 0, _, _ => wOver 4 0
  | d + 1, v, [] => wLoad (base + v)
  | d + 1, v, [x] => if x = 1 then wSwap (base + v) 1 0 else ringL base d (v + 1) []
  | d + 1, v, x :: y :: l => if x = 1 then (if y = 1 then wOver 7 v else ringL base d (v + 1) l) else ringL base d (v + 1) (y :: l)
def bnext (base : Int) (n : Nat) (kind V : Int) (l : List Int) : GW :=
  if kind = 4 then ringL base n 0 l
  else if (n : Int) ≤ V then wOver 4 0
  else match l with
    | [] => if kind = 1 then wStore (base + V) 1 else if kind = 2 then wStore (base + V) 0 else wLoad (base + V)
    | x :: _ => if kind = 3 ∧ x ≠ 0 then wOver 4 0 else wOver 1 0
/-- What an operation asks for; what an answer makes of it. -/
def baskOf (base : Int) (o : Bop) : GW :=
  if o.out ≠ 0 then wOver o.out (if o.out = 7 then o.who else 0)
  else if o.k = 0 then wStore (base + o.who) 1
  else if o.k = 1 then wStore (base + o.who) 0
  else if o.k = 2 then wLoad (base + o.who)
  else if o.k = 3 then wLoad (base + o.who)
  else wSwap (base + o.who) 1 0
def bans (n : Int) (o : Bop) (x : Int) : Bop :=
  if o.out ≠ 0 then o
  else if o.k = 0 then { o with out := 1 }
  else if o.k = 1 then { o with out := 1 }
  else if o.k = 2 then { o with out := pollOut x }
  else if o.k = 3 then (if x = 1 then { o with k := 4 } else { o with who := o.who + 1, out := onOut n (o.who + 1) })
  else if x = 1 then { o with out := 7 } else { k := 3, who := o.who + 1, out := onOut n (o.who + 1) }
theorem bstep_ask (base n : Int) (L : List Int) (o : Bop) (h : o.out = 0) (hk : o.k = 0 ∨ o.k = 1 ∨ o.k = 2 ∨ o.k = 3 ∨ o.k = 4) :
    bstep base n L o = ((gdo L (baskOf base o)).1, bans n o (gdo L (baskOf base o)).2) := by
  rcases hk with hp | hp | hp | hp | hp
  · simp [bstep, gdo, baskOf, bans, h, hp, wStore]
  · simp [bstep, gdo, baskOf, bans, h, hp, wStore]
  · simp [bstep, gdo, baskOf, bans, h, hp, wLoad]
  · by_cases hv : at_ L (base + o.who) = 1
    · simp [bstep, gdo, baskOf, bans, h, hp, wLoad, hv]
    · simp [bstep, gdo, baskOf, bans, h, hp, wLoad, hv]
  · by_cases hv : at_ L (base + o.who) = 1
    · simp [bstep, gdo, baskOf, bans, h, hp, wSwap, hv]
    · simp [bstep, gdo, baskOf, bans, h, hp, wSwap, hv]
/-- A log that ends where the operation is over. -/
def BProper (n : Int) (o : Bop) : List Int → Prop
  | [] => True
  | x :: l => o.out = 0 ∧ BProper n (bans n o x) l
theorem BProper.snoc {n : Int} : ∀ {l : List Int} {o : Bop} {x : Int}, BProper n o l → (l.foldl (bans n) o).out = 0 → BProper n o (l ++ [x])
  | [], o, x, _, h => ⟨h, trivial⟩
  | y :: l, o, x, h, hx => ⟨h.1, BProper.snoc (l := l) h.2 hx⟩
theorem BProper.over {n : Int} {l : List Int} {o : Bop} (h : BProper n o l) (ho : o.out ≠ 0) : l = [] := by
  cases l with
  | nil => rfl
  | cons x l => exact absurd h.1 ho
theorem onOut_eq (n : Nat) (v : Int) (d : Nat) (h : v + (d + 1 : Nat) = n) : onOut n (v + 1) = if d = 0 then 4 else 0 := by
  unfold onOut
  by_cases hd : d = 0
  · rw [if_pos (by omega), if_pos hd]
  · rw [if_neg (by omega), if_neg hd]
theorem ringL_over (base : Int) (d : Nat) (v : Int) (n : Nat) (h : v + (d + 1 : Nat) = n) : ringL base d (v + 1) [] = baskOf base ⟨3, v + 1, onOut n (v + 1)⟩ := by
  rw [onOut_eq n v d h]
  cases d with
  | zero => simp [ringL, baskOf]
  | succ d => simp [ringL, baskOf]
theorem ringL_ask (base : Int) (n : Nat) : ∀ (d : Nat) (v : Int) (l : List Int), v + d = n → 0 < d → BProper n ⟨3, v, 0⟩ l → ringL base d v l = baskOf base (l.foldl (bans n) ⟨3, v, 0⟩)
  | 0, v, l, _, hd, _ => by omega
  | d + 1, v, [], hv, _, _ => by simp [ringL, baskOf]
  | d + 1, v, [x], hv, _, hp => by
    simp only [ringL, List.foldl]
    by_cases hx : x = 1
    · simp [bans, baskOf, hx]
    · rw [if_neg hx]
      have e : bans n ⟨3, v, 0⟩ x = ⟨3, v + 1, onOut n (v + 1)⟩ := by simp [bans, hx]
      rw [e]
      exact ringL_over base d v n hv
  | d + 1, v, x :: y :: l, hv, _, hp => by
    simp only [ringL]
    by_cases hx : x = 1
    · rw [if_pos hx]
      have e : bans n ⟨3, v, 0⟩ x = ⟨4, v, 0⟩ := by simp [bans, hx]
      have hp2 := hp.2
      rw [e] at hp2
      simp only [List.foldl]
      rw [e]
      by_cases hy : y = 1
      · rw [if_pos hy]
        have e2 : bans n ⟨4, v, 0⟩ y = ⟨4, v, 7⟩ := by simp [bans, hy]
        have hp3 := hp2.2
        rw [e2] at hp3 ⊢
        have := hp3.over (by simp)
        subst this
        simp [baskOf]
      · rw [if_neg hy]
        have e2 : bans n ⟨4, v, 0⟩ y = ⟨3, v + 1, onOut n (v + 1)⟩ := by simp [bans, hy]
        have hp3 := hp2.2
        rw [e2] at hp3 ⊢
        rw [onOut_eq n v d hv] at hp3 ⊢
        by_cases hd : d = 0
        · subst hd
          have := hp3.over (by simp)
          subst this
          simp [ringL, baskOf]
        · rw [if_neg hd] at hp3 ⊢
          exact ringL_ask base n d (v + 1) l (by omega) (by omega) hp3
    · rw [if_neg hx]
      have e : bans n ⟨3, v, 0⟩ x = ⟨3, v + 1, onOut n (v + 1)⟩ := by simp [bans, hx]
      have hp2 := hp.2
      rw [e] at hp2
      have e3 : (x :: y :: l).foldl (bans n) ⟨3, v, 0⟩ = (y :: l).foldl (bans n) ⟨3, v + 1, onOut n (v + 1)⟩ := by
        rw [List.foldl_cons, e]
      rw [e3]
      rw [onOut_eq n v d hv] at hp2 ⊢
      by_cases hd : d = 0
      · subst hd
        have := hp2.over (by simp)
        cases this
      · rw [if_neg hd] at hp2 ⊢
        exact ringL_ask base n d (v + 1) (y :: l) (by omega) (by omega) hp2
/-- What the document's operation begins as. -/
def bstart (n : Nat) (kind V : Int) : Bop :=
  if kind = 4 then ⟨3, 0, 0⟩ else ⟨if kind = 1 then 0 else if kind = 2 then 1 else 2, V, if (n : Int) ≤ V then 4 else 0⟩
theorem bnext_ask (base : Int) (n : Nat) (kind V : Int) (l : List Int) (h1 : 1 ≤ n) (hk : 1 ≤ kind ∧ kind ≤ 4) (hp : BProper n (bstart n kind V) l) :
    bnext base n kind V l = baskOf base (l.foldl (bans n) (bstart n kind V)) := by
  unfold bnext bstart at *
  by_cases h4 : kind = 4
  · rw [if_pos h4] at hp ⊢
    rw [if_pos h4]
    exact ringL_ask base n n 0 l (by omega) (by omega) hp
  · rw [if_neg h4] at hp ⊢
    rw [if_neg h4]
    by_cases hV : (n : Int) ≤ V
    · rw [if_pos hV] at hp ⊢
      rw [if_pos hV]
      have := hp.over (by simp)
      subst this
      simp [baskOf]
    · rw [if_neg hV] at hp ⊢
      rw [if_neg hV]
      have hk3 : kind = 1 ∨ kind = 2 ∨ kind = 3 := by omega
      cases l with
      | nil =>
        rcases hk3 with rfl | rfl | rfl <;> simp [baskOf]
      | cons x l =>
        have hp2 := hp.2
        rcases hk3 with rfl | rfl | rfl
        · simp [bans] at hp2
          have := hp2.over (by simp)
          subst this
          simp [bans, baskOf]
        · simp [bans] at hp2
          have := hp2.over (by simp)
          subst this
          simp [bans, baskOf]
        · simp [bans] at hp2
          have := hp2.over (by simp; exact pollOut_ne x)
          subst this
          by_cases hx : x = 0
          · simp [bans, baskOf, pollOut, hx]
          · simp [bans, baskOf, pollOut, hx]

section
variable {w : World} {base n V : Int} {lv : Value} {l : List Int}
theorem ring_nil (base : Int) (d : Nat) (v : Int) (l : List Int) {k : Nat} (h : k = l.length) : ringL base (d + 1) v (l.drop k) = wLoad (base + v) := by
  rw [h, List.drop_length]; rfl
theorem drop_get {k : Nat} (h : k < l.length) : l.drop k = l.getD k 0 :: l.drop (k + 1) := by
  rw [List.drop_eq_getElem_cons h]
  congr 1
  simp [List.getD, h]
theorem ring_no (base : Int) (d : Nat) (v : Int) (l : List Int) {k : Nat} (h : k < l.length) (hx : l.getD k 0 ≠ 1) : ringL base (d + 1) v (l.drop k) = ringL base d (v + 1) (l.drop (k + 1)) := by
  rw [drop_get h]
  by_cases h2 : k + 1 = l.length
  · rw [h2, List.drop_length]
    simp only [ringL, if_neg hx]
  · rw [drop_get (show k + 1 < l.length by omega)]
    simp only [ringL, if_neg hx]
theorem ring_swap (base : Int) (d : Nat) (v : Int) (l : List Int) {k : Nat} (h : k + 1 = l.length) (hx : l.getD k 0 = 1) : ringL base (d + 1) v (l.drop k) = wSwap (base + v) 1 0 := by
  rw [drop_get (by omega), h, List.drop_length]
  simp only [ringL, if_pos hx]
theorem ring_won (base : Int) (d : Nat) (v : Int) (l : List Int) {k : Nat} (h : k + 2 ≤ l.length) (hx : l.getD k 0 = 1) (hy : l.getD (k + 1) 0 = 1) : ringL base (d + 1) v (l.drop k) = wOver 7 v := by
  rw [drop_get (by omega), drop_get (show k + 1 < l.length by omega)]
  simp only [ringL, if_pos hx, if_pos hy]
theorem ring_lost (base : Int) (d : Nat) (v : Int) (l : List Int) {k : Nat} (h : k + 2 ≤ l.length) (hx : l.getD k 0 = 1) (hy : l.getD (k + 1) 0 ≠ 1) : ringL base (d + 1) v (l.drop k) = ringL base d (v + 1) (l.drop (k + 2)) := by
  rw [drop_get (by omega), drop_get (show k + 1 < l.length by omega)]
  simp only [ringL, if_pos hx, if_neg hy]

theorem Rd.cells {w : World} {a : Option Addr} {m cap : Nat} (h : Rd w (.slice a m cap) (l.map (.int .u64))) (hm : m = l.length) (hne : m ≠ 0) : ∃ g off, a = some ⟨g, off, none⟩ ∧ g < w.heap.size ∧ ∀ i, i < l.length → w.cell? ⟨g, off + i, none⟩ = some (.int .u64 (l.getD i 0)) := by
  obtain ⟨a', cap', hv, hc⟩ := h
  injection hv with h1 h2 h3
  subst h1
  rw [List.length_map] at hc
  obtain ⟨g, off, rfl, hg, hx⟩ := hc (by omega)
  exact ⟨g, off, rfl, hg, fun i hi => hx i _ (map_u64_get hi)⟩

set_option maxRecDepth 100000 in
set_option maxHeartbeats 4000000 in
theorem ref_ring_any (n : Nat) (hl : Rd w lv (l.map (.int .u64))) (hlen : l.length ≤ 1000000) (b0 : 0 ≤ base) (b1 : base ≤ 70000) (n8 : n ≤ 8) :
    Calls Tryz.prog 111 #[.agg #[.int .i64 base, .int .i64 n], lv] w fun e w' => e = .returned (gwV (ringL base n 0 l)) ∧ Only S0 w w' := by
  obtain ⟨W, hw⟩ : ∃ W, ringL base n 0 l = W := ⟨_, rfl⟩
  rw [hw]
  have HRD := hide hl
  obtain ⟨a, ca, rfl, ha⟩ := hl
  rw [List.length_map] at HRD
  clear ha
  rw [List.length_map]
  have HW0 := hide hw
  clear hw
  go_enter Tryz.func111, Tryz.ntmps111
  go_wp2_with fail
  go_loopg [5, 6] n (fun q kv vv wr => ∃ (k v : Nat), q = n - v ∧ v ≤ n ∧ k ≤ l.length ∧ kv = .int .i64 k ∧ vv = .int .i64 v ∧ ringL base (n - v) v (l.drop k) = W ∧
    wr = (w.alloc (.cells #[.int .i64 base, .int .i64 n] 155)).alloc (.cells #[.bool false, .int .i64 0, .int .i64 0, .int .u64 0, .int .u64 0, .int .i64 0, .int .u64 0, .int .u64 0] 62))
  case atStart => exact ⟨0, 0, rfl, by omega, by omega, rfl, rfl, by simpa using HW0.out, rfl⟩
  case round =>
  clear HW0
  obtain ⟨k, v, rfl, hv, hk, rfl, rfl, hw, rfl⟩ := hrel
  have HW := hide hw
  clear hw
  have HO := hide (((Only.refl S0 w).alloc (.cells #[.int .i64 base, .int .i64 n] 155)).alloc (.cells #[.bool false, .int .i64 0, .int .i64 0, .int .u64 0, .int .u64 0, .int .i64 0, .int .u64 0, .int .u64 0] 62))
  by_cases hvn : v < n
  · have hd : n - v = (n - (v + 1)) + 1 := by omega
    have HD := hide hd
    clear hd
    by_cases hkl : k = l.length
    · have HKL := hide hkl
      have hkb : (l.length == k) = true := by simp [hkl]
      have hkb2 : ((l.length : Int) == (k : Int)) = true := by simp [hkl]
      clear hkl
      go_wp2_with fail
      go_returns
      refine ⟨?_, ((Only.refl _ _).alloc _).alloc _⟩
      rw [← HW.out, HD.out, ring_nil _ _ _ _ HKL.out]
      rfl
    · have hk1 : k < l.length := by omega
      have hkb : (l.length == k) = false := by simp; omega
      have hkb2 : ((l.length : Int) == (k : Int)) = false := by rw [beq_eq_false_iff_ne]; omega
      obtain ⟨g, off, rfl, hg, hc⟩ := HRD.out.cells rfl (by omega)
      have HC := hide fun (i : Nat) (hi : i < l.length) => (HO.out.cell (p := ⟨g, off + i, none⟩) hg (fun h => h)).trans (hc i hi)
      clear hc
      have ck := HC.out k hk1
      obtain ⟨x, hx⟩ : ∃ x, l.getD k 0 = x := ⟨_, rfl⟩
      rw [hx] at ck
      have HX := hide hx
      clear hx hkl
      by_cases hx1 : x = 1
      · have hxb : (x != 1) = false := by simp [hx1]
        by_cases hkl2 : k + 1 = l.length
        · have hkb3 : (l.length == k + 1) = true := by simp [hkl2]
          have hkb4 : ((l.length : Int) == (k : Int) + 1) = true := by rw [beq_iff_eq]; omega
          have HX1 := hide hx1
          have HKL := hide hkl2
          clear hx1 hkl2
          go_wp2_with fail
          go_returns
          refine ⟨?_, ((Only.refl _ _).alloc _).alloc _⟩
          rw [← HW.out, HD.out, ring_swap _ _ _ _ HKL.out (by rw [HX.out]; exact HX1.out)]
          rfl
        · have hk2 : k + 1 < l.length := by omega
          have hkb3 : (l.length == k + 1) = false := by simp; omega
          have hkb4 : ((l.length : Int) == (k : Int) + 1) = false := by rw [beq_eq_false_iff_ne]; omega
          have ck2 := HC.out (k + 1) hk2
          obtain ⟨y, hy⟩ : ∃ y, l.getD (k + 1) 0 = y := ⟨_, rfl⟩
          rw [hy] at ck2
          have HY := hide hy
          have HX1 := hide hx1
          clear hx1 hkl2 hy
          by_cases hy1 : y = 1
          · have hyb : (y == 1) = true := by simp [hy1]
            have HY1 := hide hy1
            clear hy1
            go_wp2_with fail
            go_returns
            refine ⟨?_, ((Only.refl _ _).alloc _).alloc _⟩
            rw [← HW.out, HD.out, ring_won _ _ _ _ (by omega) (by rw [HX.out]; exact HX1.out) (by rw [HY.out]; exact HY1.out)]
            rfl
          · have hyb : (y == 1) = false := by simp [hy1]
            have HY1 := hide hy1
            clear hy1
            go_wp2_with fail
            go_roundg (n - (v + 1))
            case rel => exact ⟨k + 2, v + 1, rfl, by omega, by omega, by go_num, by go_num, by rw [← HW.out, HD.out, ring_lost _ _ _ _ (by omega) (by rw [HX.out]; exact HX1.out) (by rw [HY.out]; exact HY1.out)]; rfl, rfl⟩
            case measure => omega
      · have hxb : (x != 1) = true := by simp [hx1]
        have HX1 := hide hx1
        clear hx1
        go_wp2_with fail
        go_roundg (n - (v + 1))
        case rel => exact ⟨k + 1, v + 1, rfl, by omega, by omega, by go_num, by go_num, by rw [← HW.out, HD.out, ring_no _ _ _ _ hk1 (by rw [HX.out]; exact HX1.out)]; rfl, rfl⟩
        case measure => omega
  · obtain rfl : v = n := by omega
    go_wp2_with fail
    go_returns
    refine ⟨?_, ((Only.refl _ _).alloc _).alloc _⟩
    rw [← HW.out, Nat.sub_self]
    rfl
end
end Go.Proofs.YtdoaipjdldknaaaGreat
