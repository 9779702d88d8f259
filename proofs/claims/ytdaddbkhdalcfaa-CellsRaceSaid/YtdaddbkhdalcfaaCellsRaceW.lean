/-
  CellsRace, the walk.
-/
import Derived.Test.YtdaddbkhdalcfaaAlive1
import Derived.Test.YtdaddbkhdalcfaaOpen
namespace Go.Proofs.Ytdaddbkhdalcfaa
open Go.RowKit
set_option linter.unusedVariables false

/-- How it stands: nobody has won, and the cell is as it was; or the first one has. -/
def RaceAt (old won want : Int) : Prop := (won = 0 ∧ want = old) ∨ (won = 1 ∧ want ≠ old)

theorem cellsRace_walk (old : Int) (a : Option Addr) (len cap : Nat) (xs : List Int) (w : World) (w0 : (Lit.int .u64 old).wf = true) (w1 : InInts .u64 w a len xs) :
    Calls Try.prog 3 #[.int .u64 old, .slice a len cap] w fun e w' => e = .returned (.bool true) ∧ Below w.heap.size w w' := by
  have hbig := w1.big
  have hcell := hide w1.cells
  clear w0 w1
  go_enter Try.func3, Try.ntmps3
  go_wp2_with fail
  refine (alive1_any w).mono ?_
  rintro e w1 ⟨rfl, o1⟩
  go_wp2_with fail
  refine (New_any 1).mono ?_
  rintro e w2 ⟨bm, bc, rfl, h2, o2, b1, b2⟩
  change MemAt w2 bm bc [0] 0 at h2
  go_wp2_with fail
  refine (Store_in 0 old h2 (few_of _ (by omega)) (by omega) (by decide)).mono ?_
  rintro e w3 ⟨rfl, h3, o3⟩
  change MemAt w3 bm bc [old] 1 at h3
  have b1' : w.heap.size ≤ bm := Nat.le_trans o1.size b1
  have b2' : w.heap.size ≤ bc := Nat.le_trans o1.size b2
  have p3 := S0.then2 (o1.trans o2) o3 b1' b2'
  have H3 := hide h3
  have P3 := hide p3
  clear h2 h3 o1 o2 o3 p3 b1 b2
  go_wp2_with fail
  go_loopw [6, 7, 8] (fun won want i wr => ∃ (k : Nat) (n m : Int) (tc : Int), k ≤ len ∧ i = .int .i64 k ∧ won = .int .i64 n ∧ want = .int .u64 m ∧ RaceAt old n m ∧ MemAt wr bm bc [m] tc ∧ tc ≤ 1 + k ∧ Only S0 w wr) (fun _ _ i _ => len - (intOf i).toNat)
  case atStart => exact ⟨0, 0, old, 1, Nat.zero_le _, rfl, rfl, rfl, .inl ⟨rfl, rfl⟩, H3.out, by omega, P3.out⟩
  case round =>
    obtain ⟨k, n, m, tc, hk, rfl, rfl, rfl, hr, hm, htc, ho⟩ := hrel
    have hf : Few tc := few_of _ (by omega)
    by_cases hlt : k < len
    · obtain ⟨g, off, rfl, hg, hc⟩ := hcell.out (by omega)
      have c1 := (ho.cell (p := ⟨g, off + k, none⟩) hg (fun h => h)).trans (hc k hlt)
      have HC := hide hc
      clear hc
      obtain ⟨x, hx⟩ : ∃ x, elt xs k = x := ⟨_, rfl⟩
      rw [hx] at c1
      clear hx
      have HM := hide hm
      have HO := hide ho
      have HR := hide hr
      have HF := hide hf
      clear hm ho hr hf
      by_cases he : x = old
      · have hb : (x == old) = true := by simpa using he
        have HE := hide he
        clear he
        go_wp2_with fail
        go_roundw
        case rel => exact ⟨k + 1, n, m, tc, by omega, by go_num, rfl, rfl, HR.out, HM.out, by omega, HO.out⟩
        case measure => simp [intOf]; omega
      · have hb : (x == old) = false := by simpa using he
        have HE := hide he
        clear he
        rcases HR.out with ⟨rfl, rfl⟩ | ⟨rfl, hmo⟩
        · go_wp2_with fail
          refine (Swap_yes 0 m x HM.out HF.out (by omega) (by simp) rfl).mono ?_
          rintro e w4 ⟨rfl, h4, o4⟩
          change MemAt w4 bm bc [x] _ at h4
          have c4 := (Only.cell (o4) (p := ⟨g, off + k, none⟩) (by have := HO.out.size; show g < _; omega) (fun h => by unfold S2 at h; dsimp only at h; omega)).trans c1
          have p4 := hide (S0.then2 HO.out o4 b1' b2')
          have H4 := hide h4
          clear h4 o4
          go_wp2_with fail
          go_roundw
          case rel => exact ⟨k + 1, 1, x, _, by omega, by go_num, by go_num, rfl, .inr ⟨rfl, HE.out⟩, H4.out, by omega, p4.out⟩
          case measure => simp [intOf]; omega
        · have HMO := hide hmo
          clear hmo
          go_wp2_with fail
          refine (Swap_no 0 old x HM.out HF.out (by omega) (by simp) (by rw [at0]; exact HMO.out)).mono ?_
          rintro e w4 ⟨rfl, h4, o4⟩
          have p4 := hide (S0.then1 HO.out o4 b1')
          have H4 := hide h4
          clear h4 o4
          go_wp2_with fail
          go_roundw
          case rel => exact ⟨k + 1, 1, m, _, by omega, by go_num, rfl, rfl, .inr ⟨rfl, HMO.out⟩, H4.out, by omega, p4.out⟩
          case measure => simp [intOf]; omega
    · have HM := hide hm
      have HO := hide ho
      clear hm ho hr hf
      go_wp2_with fail
      refine (Peek_in 0 HM.out (by omega) (by simp)).mono ?_
      rintro e w4 ⟨rfl, rfl⟩
      rw [at0]
      go_wp2_with fail
      go_ret
      exact ⟨rfl, S0.below HO.out⟩
end Go.Proofs.Ytdaddbkhdalcfaa
