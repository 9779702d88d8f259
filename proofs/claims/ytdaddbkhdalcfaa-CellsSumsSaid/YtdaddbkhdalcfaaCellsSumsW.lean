/-
  CellsSums, the walk.
-/
import Derived.Test.YtdaddbkhdalcfaaAlive1
import Derived.Test.YtdaddbkhdalcfaaOpen
namespace Go.Proofs.Ytdaddbkhdalcfaa
open Go.RowKit
set_option linter.unusedVariables false

/-- The sum of the first k, and of the last k, modulo 2 to the 64th. -/
def sumTo (xs : List Int) : Nat → Int
  | 0 => 0
  | k + 1 => add64 (sumTo xs k) (elt xs k)
def backTo (xs : List Int) (n : Nat) : Nat → Int
  | 0 => 0
  | k + 1 => add64 (backTo xs n k) (elt xs (n - 1 - k))
def plainTo (f : Nat → Int) : Nat → Int
  | 0 => 0
  | k + 1 => plainTo f k + f k
theorem add64_eq (a b : Int) : add64 a b = (a + b) % 18446744073709551616 := by unfold add64; rw [IntKind.wrap_u64]
theorem sumTo_plain (xs : List Int) (k : Nat) : sumTo xs k = plainTo (elt xs) k % 18446744073709551616 := by
  induction k with
  | zero => rfl
  | succ k ih => simp only [sumTo, plainTo, add64_eq, ih]; omega
theorem backTo_plain (xs : List Int) (n k : Nat) : backTo xs n k = plainTo (fun i => elt xs (n - 1 - i)) k % 18446744073709551616 := by
  induction k with
  | zero => rfl
  | succ k ih => simp only [backTo, plainTo, add64_eq, ih]; omega
theorem plain_front (f : Nat → Int) (k : Nat) : plainTo f (k + 1) = f 0 + plainTo (fun i => f (i + 1)) k := by
  induction k with
  | zero => simp [plainTo]
  | succ k ih => rw [plainTo, ih, plainTo]; omega
theorem plain_congr (f g : Nat → Int) (k : Nat) (h : ∀ i, i < k → f i = g i) : plainTo f k = plainTo g k := by
  induction k with
  | zero => rfl
  | succ k ih => rw [plainTo, plainTo, ih (fun i hi => h i (by omega)), h k (by omega)]
theorem plain_back (f : Nat → Int) (n : Nat) : plainTo (fun i => f (n - 1 - i)) n = plainTo f n := by
  induction n with
  | zero => rfl
  | succ n ih =>
    rw [plain_front, plainTo, ← ih]
    have : plainTo (fun i => f (n + 1 - 1 - (i + 1))) n = plainTo (fun i => f (n - 1 - i)) n := plain_congr _ _ _ fun i hi => by congr 1; omega
    rw [this]
    simp
    omega
theorem sums_meet (xs : List Int) (n : Nat) : backTo xs n n = sumTo xs n := by rw [sumTo_plain, backTo_plain, plain_back]
/-- A sum and ones. -/
def onesTo (s : Int) (j : Nat) : Int := (s + j) % 18446744073709551616
theorem onesTo_zero (xs : List Int) (k : Nat) : onesTo (sumTo xs k) 0 = sumTo xs k := by unfold onesTo; rw [sumTo_plain]; omega
theorem onesTo_succ (s : Int) (j : Nat) : add64 (onesTo s j) 1 = onesTo s (j + 1) := by unfold onesTo; rw [add64_eq]; omega
theorem onesTo_sum (s : Int) (j : Nat) : IntKind.u64.wrap (s + (j : Int)) = onesTo s j := by rw [IntKind.wrap_u64]; rfl
theorem onesTo_sum1 (s : Int) (j : Nat) : IntKind.u64.wrap (onesTo s j + 1) = onesTo s (j + 1) := onesTo_succ s j

theorem cellsSums_walk (a : Option Addr) (len cap : Nat) (xs : List Int) (ones : Int) (w : World) (w0 : InInts .u64 w a len xs) (w1 : (Lit.int .u8 ones).wf = true) :
    Calls Try.prog 4 #[.slice a len cap, .int .u8 ones] w fun e w' => e = .returned (.bool true) ∧ Below w.heap.size w w' := by
  have hbig := w0.big
  have hcell := hide w0.cells
  have ho0 : 0 ≤ ones ∧ ones < 256 := by have := bounds_u8 w1; omega
  clear w0 w1
  obtain ⟨o0, o1⟩ := ho0
  obtain ⟨q, rfl⟩ := Int.eq_ofNat_of_zero_le o0
  go_enter Try.func4, Try.ntmps4
  go_wp2_with fail
  refine (alive1_any w).mono ?_
  rintro e w1 ⟨rfl, p1⟩
  go_wp2_with fail
  refine (New_any 2).mono ?_
  rintro e w2 ⟨bm, bc, rfl, h2, p2, b1, b2⟩
  change MemAt w2 bm bc [0, 0] 0 at h2
  have b1' : w.heap.size ≤ bm := Nat.le_trans p1.size b1
  have b2' : w.heap.size ≤ bc := Nat.le_trans p1.size b2
  have H3 := hide h2
  have P3 := hide (p1.trans p2)
  clear h2 p1 p2 b1 b2
  go_wp2_with fail
  go_loopw [6, 7] (fun sum i wr => ∃ (k : Nat), k ≤ len ∧ i = .int .i64 k ∧ sum = .int .u64 (sumTo xs k) ∧ MemAt wr bm bc [sumTo xs k, backTo xs len k] (2 * k) ∧ Only S0 w wr) (fun _ i _ => len - (intOf i).toNat)
  case atStart => exact ⟨0, Nat.zero_le _, rfl, rfl, H3.out, P3.out⟩
  case round =>
    obtain ⟨k, hk, rfl, rfl, hm, ho⟩ := hrel
    have hf : Few (2 * k) := few_of _ (by omega)
    have HM := hide hm
    have HO := hide ho
    have HF := hide hf
    clear hm ho hf
    by_cases hlt : k < len
    · obtain ⟨g, off, rfl, hg, hc⟩ := hcell.out (by omega)
      have c1 := (HO.out.cell (p := ⟨g, off + k, none⟩) hg (fun h => h)).trans (hc k hlt)
      have c2 := (HO.out.cell (p := ⟨g, off + (len - 1 - k), none⟩) hg (fun h => h)).trans (hc (len - 1 - k) (by omega))
      have HC := hide hc
      clear hc
      obtain ⟨s', hs'⟩ : ∃ s', sumTo xs (k + 1) = s' := ⟨_, rfl⟩
      obtain ⟨t', ht'⟩ : ∃ t', backTo xs len (k + 1) = t' := ⟨_, rfl⟩
      have hsum : IntKind.u64.wrap (sumTo xs k + elt xs k) = s' := hs'
      have HS := hide hs'
      have HT := hide ht'
      clear hs' ht'
      by_cases hl : k + 1 = len
      · have hlb : ((k : Int) == (len : Int) - 1) = true := by simp; omega
        have HL := hide hl
        clear hl
        go_wp2_with fail
        refine (Add_in 0 (elt xs k) HM.out HF.out (by omega) (by simp)).mono ?_
        rintro e w4 ⟨rfl, h4, o4⟩
        change MemAt w4 bm bc [sumTo xs (k + 1), backTo xs len k] _ at h4
        rw [HS.out] at h4
        rw [show add64 (at_ [sumTo xs k, backTo xs len k] 0) (elt xs k) = s' from HS.out]
        have p4 := S0.then2 HO.out o4 b1' b2'
        have c3 := (p4.cell (p := ⟨g, off + (len - 1 - k), none⟩) hg (fun h => h)).trans (HC.out (len - 1 - k) (by omega))
        have H4 := hide h4
        clear h4 o4 c1 c2
        go_wp2_with fail
        refine (Add_in 1 (elt xs (len - 1 - k)) H4.out (few_of _ (by omega)) (by omega) (by simp)).mono ?_
        rintro e w5 ⟨rfl, h5, o5⟩
        change MemAt w5 bm bc [s', backTo xs len (k + 1)] _ at h5
        rw [show add64 (at_ [s', backTo xs len k] 1) (elt xs (len - 1 - k)) = backTo xs len (k + 1) from rfl]
        have hbs : backTo xs len (k + 1) = s' := by rw [HL.out, sums_meet, ← HL.out, HS.out]
        rw [hbs] at h5 ⊢
        have p5 := S0.then2 p4 o5 b1' b2'
        have H5 := hide h5
        have P5 := hide p5
        have HBS := hide hbs
        clear h5 o5 p4 p5 hbs
        go_wp2_with fail
        go_roundw
        case rel => exact ⟨k + 1, by omega, by go_num, by rw [HS.out], by rw [HS.out, HBS.out, show (2 : Int) * ((k + 1 : Nat) : Int) = 2 * k + 1 + 1 by omega]; exact H5.out, P5.out⟩
        case measure => simp [intOf]; omega
      · have hlb : ((k : Int) == (len : Int) - 1) = false := by simp; omega
        have HL := hide hl
        clear hl
        go_wp2_with fail
        refine (Add_in 0 (elt xs k) HM.out HF.out (by omega) (by simp)).mono ?_
        rintro e w4 ⟨rfl, h4, o4⟩
        change MemAt w4 bm bc [sumTo xs (k + 1), backTo xs len k] _ at h4
        rw [HS.out] at h4
        rw [show add64 (at_ [sumTo xs k, backTo xs len k] 0) (elt xs k) = s' from HS.out]
        have p4 := S0.then2 HO.out o4 b1' b2'
        have c3 := (p4.cell (p := ⟨g, off + (len - 1 - k), none⟩) hg (fun h => h)).trans (HC.out (len - 1 - k) (by omega))
        have H4 := hide h4
        clear h4 o4 c1 c2
        go_wp2_with fail
        refine (Add_in 1 (elt xs (len - 1 - k)) H4.out (few_of _ (by omega)) (by omega) (by simp)).mono ?_
        rintro e w5 ⟨rfl, h5, o5⟩
        change MemAt w5 bm bc [s', backTo xs len (k + 1)] _ at h5
        rw [show add64 (at_ [s', backTo xs len k] 1) (elt xs (len - 1 - k)) = backTo xs len (k + 1) from rfl]
        rw [HT.out] at h5 ⊢
        have p5 := S0.then2 p4 o5 b1' b2'
        have H5 := hide h5
        have P5 := hide p5
        clear h5 o5 p4 p5
        go_wp2_with fail
        go_roundw
        case rel => exact ⟨k + 1, by omega, by go_num, by rw [HS.out], by rw [HS.out, HT.out, show (2 : Int) * ((k + 1 : Nat) : Int) = 2 * k + 1 + 1 by omega]; exact H5.out, P5.out⟩
        case measure => simp [intOf]; omega
    · obtain rfl : k = len := by omega
      have hz := hide (onesTo_zero xs k)
      obtain ⟨s0, hs0⟩ : ∃ s0, sumTo xs k = s0 := ⟨_, rfl⟩
      obtain ⟨t0, ht0⟩ : ∃ t0, backTo xs k k = t0 := ⟨_, rfl⟩
      rw [hs0] at hz ⊢
      have HM1 := HM.out
      rw [hs0, ht0] at HM1
      have HM2 := hide HM1
      clear HM1 HM hs0 ht0
      go_wp2_with fail
      go_loopw [12] (fun i wr => ∃ (j : Nat), j ≤ q ∧ i = .int .i64 j ∧ MemAt wr bm bc [onesTo s0 j, t0] (2 * k + j) ∧ Only S0 w wr) (fun i _ => q - (intOf i).toNat)
      case atStart => exact ⟨0, Nat.zero_le _, rfl, by rw [hz.out]; simpa using HM2.out, HO.out⟩
      case round =>
        obtain ⟨j, hj, rfl, hm, ho⟩ := hrel
        have HM := hide hm
        have HO := hide ho
        clear hm ho
        by_cases hlt : j < q
        · obtain ⟨s', hs'⟩ : ∃ s', onesTo s0 (j + 1) = s' := ⟨_, rfl⟩
          have e1 := onesTo_sum s0 j
          have e2 := (onesTo_sum1 s0 j).trans hs'
          have HS := hide hs'
          clear hs'
          go_wp2_with fail
          refine (Add_in 0 1 HM.out (few_of _ (by omega)) (by omega) (by simp)).mono ?_
          rintro e w4 ⟨rfl, h4, o4⟩
          rw [show add64 (at_ [onesTo s0 j, t0] 0) 1 = s' from (onesTo_succ s0 j).trans HS.out] at h4 ⊢
          change MemAt w4 bm bc [s', t0] _ at h4
          have P4 := hide (S0.then2 HO.out o4 b1' b2')
          have H4 := hide h4
          clear h4 o4
          go_wp2_with fail
          refine ⟨⟨j + 1, by omega, by go_num, by rw [HS.out, show (2 : Int) * k + ((j + 1 : Nat) : Int) = 2 * k + j + 1 by omega]; exact H4.out, P4.out⟩, by simp [intOf]; omega⟩
        · obtain rfl : j = q := by omega
          go_wp2_with fail
          refine (Touched_any HM.out).mono ?_
          rintro e w4 ⟨rfl, rfl⟩
          go_wp2_with fail
          go_ret
          exact ⟨rfl, S0.below HO.out⟩
end Go.Proofs.Ytdaddbkhdalcfaa
