/-
  Two lists of ints that are the same (trouperef01.Ints).
-/
import Derived.Test.YtdaddbkhdalcfaaRows
import Derived.Test.YtdaddbkhdalcfaaLotP
namespace Go.Proofs.Ytdaddbkhdalcfaa
open Go.RowKit
set_option linter.unusedVariables false

theorem Ints_yes {w : World} {va vb : Value} {A : List Nat} (hn : A.length ≤ 1000000) (ha : Rd w va (vN A)) (hb : Rd w vb (vN A)) :
    Calls Try.prog 33 #[va, vb] w fun e w' => e = .returned (.bool true) ∧ Only S0 w w' := by
  obtain ⟨a, ca, rfl, ha⟩ := ha
  obtain ⟨b, cb, rfl, hb⟩ := hb
  rw [vN_len] at ha hb ⊢
  have HA := hide ha
  have HB := hide hb
  clear ha hb
  go_enter Try.func33, Try.ntmps33
  go_wp2_with fail
  go_loopw [5] (fun i wr => ∃ k : Nat, k ≤ A.length ∧ i = .int .i64 k ∧ Only S0 w wr) (fun i _ => A.length - (intOf i).toNat)
  case atStart => exact ⟨0, Nat.zero_le _, rfl, Only.refl _ _⟩
  case round =>
    obtain ⟨k, hk, rfl, ho⟩ := hrel
    have HO := hide ho
    clear ho
    by_cases hlt : k < A.length
    · obtain ⟨g, off, rfl, hg, hc⟩ := HA.out (by omega)
      obtain ⟨g', off', rfl, hg', hc'⟩ := HB.out (by omega)
      have c1 := (HO.out.cell (p := ⟨g, off + k, none⟩) hg (fun h => h)).trans (hc k _ (vN_at A k hlt))
      have c2 := (HO.out.cell (p := ⟨g', off' + k, none⟩) hg' (fun h => h)).trans (hc' k _ (vN_at A k hlt))
      generalize A.getD k 0 = x at c1 c2
      clear hc hc'
      go_wp2_with fail
      go_quiet (fail)
      go_wp2_with fail
      exact ⟨⟨k + 1, by omega, by go_num, HO.out.drewN _⟩, by simp [intOf]; omega⟩
    · go_wp2_with fail
      go_ret
      exact ⟨rfl, HO.out⟩
end Go.Proofs.Ytdaddbkhdalcfaa
