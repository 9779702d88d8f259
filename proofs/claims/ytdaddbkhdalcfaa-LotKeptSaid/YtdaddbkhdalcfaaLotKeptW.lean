/-
  LotKept, the walk.
-/
import Derived.Test.YtdaddbkhdalcfaaOpen
import Derived.Test.YtdaddbkhdalcfaaAlive7
namespace Go.Proofs.Ytdaddbkhdalcfaa
open Go.RowKit
set_option linter.unusedVariables false

set_option maxHeartbeats 2000000 in
theorem lotKept_walk (d n s : Int) (w : World) (w0 : (Lit.int .u64 d).wf = true) (w1 : (Lit.int .i64 n).wf = true) (w2 : (Lit.int .i64 s).wf = true) :
    Calls Try.prog 13 #[.int .u64 d, .int .i64 n, .int .i64 s] w fun e w' => e = .returned (.bool true) ∧ Below w.heap.size w w' := by
  have hd := bounds_u64 w0
  have HD0 := hide hd.1
  have HD1 := hide hd.2
  clear w0 w1 w2 hd
  obtain ⟨i0, hi, hz0, hz1, hz2⟩ := info_parts info_int
  go_enter Try.func13, Try.ntmps13
  go_wp2_with fail
  refine (alive7_any w).mono ?_
  rintro e w1 ⟨rfl, p1⟩
  have P1 := hide p1
  clear p1
  go_wp2_with fail
  refine (Order_any d n s _ HD0.out (by have := HD1.out; omega)).mono ?_
  rintro e w2 ⟨va, rfl, hva, p2⟩
  have HA := hide hva
  have P2 := hide (P1.out.trans p2)
  clear hva p2
  go_wp2_with fail
  refine (Order_any d n s _ HD0.out (by have := HD1.out; omega)).mono ?_
  rintro e w3 ⟨vb, rfl, hvb, p3⟩
  have HB := hide hvb
  have HA3 := hide (HA.out.only p3 (fun _ _ h => h))
  have hap : ∀ g, va.ownBlock = some g → g < w2.heap.size := fun g hg => (HA.out.block hg).2
  have hbp : ∀ g, vb.ownBlock = some g → w2.heap.size ≤ g := fun g hg => (HB.out.block hg).1
  have P3 := hide (P2.out.trans p3)
  have hol : (ordZ d.toNat n s).length ≤ 7 := by rw [ordZ_len]; exact othZ_len n s
  generalize ordZ d.toNat n s = o at HA HB HA3 hol
  have HAP := hide hap
  have HBP := hide hbp
  have OB : ∀ g, va.ownBlock = some g → w.heap.size ≤ g := fun g hg => Nat.le_trans P1.out.size (HA.out.block hg).1
  have HOB := hide OB
  clear hvb p3 P2 HA hap hbp OB
  rcases HA3.out.form with ⟨hnil, ho⟩ | ⟨g, cap, cur, hv, hB, hb, hn, hm, hsz, ht⟩
  · subst hnil
    have ho' : o = [] := List.eq_nil_of_length_eq_zero (by rw [← vN_len o, ho]; rfl)
    subst ho'
    go_wp2_with fail
    refine (Rank_any n s [] _ _ (Sl.nil w3 0 3).rd (by decide)).mono ?_
    rintro e w5 ⟨rfl, p5⟩
    obtain ⟨rk, hrk⟩ : ∃ rk, rankZ n s [] = rk := ⟨_, rfl⟩
    have HRK := hide hrk
    rw [hrk]
    have HB5 := hide (HB.out.only p5 (fun _ _ h => h))
    have P5 := hide (P3.out.trans p5)
    clear p5 hrk P3
    rw [show rankV rk = .tuple #[.int .u64 ((rk.getD 0 : Nat) : Int), .bool rk.isSome] from rfl]
    generalize hr1 : ((rk.getD 0 : Nat) : Int) = r1
    generalize hr2 : rk.isSome = r2
    have HR1 := hide hr1
    have HR2 := hide hr2
    clear hr1 hr2
    go_wp2_with fail
    refine wp_loop_rounds 1 ?_
    rw [rounds_succ]
    go_wp2_with fail
    refine (Rank_any n s [] _ _ HB5.out.rd (by decide)).mono ?_
    rintro e w6 ⟨rfl, p6⟩
    rw [HRK.out, show rankV rk = .tuple #[.int .u64 ((rk.getD 0 : Nat) : Int), .bool rk.isSome] from rfl, HR1.out, HR2.out]
    have HB6 := hide (HB5.out.only p6 (fun _ _ h => h))
    have P6 := hide (P5.out.trans p6)
    clear p6
    go_wp2_with fail
    refine (Ints_yes (A := []) (by decide) (Sl.nil w6 0 3).rd HB6.out.rd).mono ?_
    rintro e w7 ⟨rfl, p7⟩
    have P7 := hide (P6.out.trans p7)
    clear p7
    go_wp2_with fail
    go_ret
    exact ⟨rfl, S0.below P7.out⟩
  · rw [vN_len] at hv hn ht
    subst hv
    have hsrc : ∀ j u, (vN o)[j]? = some u → w3.cell? ((⟨g, 0, none⟩ : Addr).add j) = some u := by
      intro j u hu
      rw [add_addr, Nat.zero_add, hb.cell, ← Array.getElem?_toList]
      have hj : j < o.length := by
        rw [← vN_len o]
        rcases Nat.lt_or_ge j (vN o).length with h | h
        · exact h
        · rw [List.getElem?_eq_none h] at hu; cases hu
      have h9 := congrArg (·[j]?) ht
      simp only [List.getElem?_take, if_pos hj] at h9
      rw [h9]; exact hu
    have HSRC := hide hsrc
    have hone : ∀ u ∈ vN o, u.oneCell' = true := by
      intro u hu
      simp only [vN, List.mem_map] at hu
      obtain ⟨x, _, rfl⟩ := hu
      rfl
    have HONE := hide hone
    have HBK := hide hb
    have HSZ := hide hsz
    have HM := hide hm
    clear hsrc hone hb hsz hm ht
    go_wp2_with (at_builtin; (refine wpList_append_own_at _ rfl (.tmp 25) (.tmp 26) 56 rfl w3.heap.size 3 i0 _ 1 8 Try.underlying56 hi hz0 hz1 hz2 rfl (by decide) (.slice none 0 0) 0 [] rfl ⟨rfl, .inl ⟨rfl, rfl⟩⟩ ⟨g, 0, none⟩ o.length cap (vN o) rfl (by rw [vN_len]; omega) HSRC.out HONE.out (by unfold maxLen; omega) (by omega) (Nat.le_refl _) ?_); intro v' w4 own' grown' _ _)
    have hS : Sl w4 w3.heap.size 3 v' (vN o) := by unfold Sl; rw [vN_len]; simpa using own'
    have hO : Only S0 w3 w4 := Only.of_grown grown' fun k hk _ => by simp [Value.ownBlock] at hk
    have HS := hide hS
    have HB4 := hide (HB.out.only hO (fun _ _ h => h))
    have P4 := hide (P3.out.trans hO)
    have HA4 := hide (HBK.out.only hO (fun h => h))
    have hgin : ∀ g', v'.ownBlock = some g' → g' ≠ g := fun g' hg' e => by have h1 := (hS.block hg').1; have h2 := HBK.out.lt; omega
    have HGIN := hide hgin
    clear hgin
    clear hS hO
    refine (Rank_any n s o _ _ HS.out.rd (by omega)).mono ?_
    rintro e w5 ⟨rfl, p5⟩
    obtain ⟨rk, hrk⟩ : ∃ rk, rankZ n s o = rk := ⟨_, rfl⟩
    have HRK := hide hrk
    rw [hrk]
    have HS5 := hide (HS.out.only p5 (fun _ _ h => h))
    have HB5 := hide (HB4.out.only p5 (fun _ _ h => h))
    have P5 := hide (P4.out.trans p5)
    have HA5 := hide (HA4.out.only p5 (fun h => h))
    clear p5 hrk HB4 P4 P3
    rw [show rankV rk = .tuple #[.int .u64 ((rk.getD 0 : Nat) : Int), .bool rk.isSome] from rfl]
    generalize hr1 : ((rk.getD 0 : Nat) : Int) = r1
    generalize hr2 : rk.isSome = r2
    have HR1 := hide hr1
    have HR2 := hide hr2
    clear hr1 hr2
    obtain ⟨av, cv, hv', _⟩ := HS5.out.rd
    rw [vN_len] at hv'
    subst hv'
    have hcur0 : ∀ j, j < o.length → cur[j]? = some (.int .i64 (o.getD j 0 : Nat)) := by
      intro j hj
      have h1 := HSRC.out j _ (vN_at o j hj)
      rw [add_addr, Nat.zero_add, HBK.out.cell] at h1
      exact h1
    have HCUR0 := hide hcur0
    have hgb : w.heap.size ≤ g := HOB.out g rfl
    have hgv : ∀ g', vb.ownBlock = some g' → g' ≠ g := fun g' hg' e => by have := HBP.out g' hg'; have := HAP.out g rfl; omega
    have HGV := hide hgv
    clear hcur0 hgv
    go_wp2_with fail
    go_loopg [12] o.length (fun q iv wr => ∃ (k : Nat) (cu : Array Value), q = o.length - k ∧ k ≤ o.length ∧ iv = .int .i64 k ∧ Blk wr g 3 cu ∧ cu.size = cap ∧ (∀ j, k ≤ j → j < o.length → cu[j]? = some (.int .i64 (o.getD j 0 : Nat))) ∧ Sl wr w3.heap.size 3 (.slice av o.length cv) (vN o) ∧ Sl wr w2.heap.size 3 vb (vN o) ∧ Only S0 w wr)
    case atStart => exact ⟨0, cur, rfl, Nat.zero_le _, rfl, HA5.out, HSZ.out, fun j _ hj => HCUR0.out j hj, HS5.out, HB5.out, P5.out⟩
    case round =>
      obtain ⟨k, cu, rfl, hk, rfl, hA, hz, hcu, hS, hB', ho⟩ := hrel
      have HA := hide hA
      have HZ := hide hz
      have HCU := hide hcu
      have HS := hide hS
      have HBb := hide hB'
      have HO := hide ho
      clear hA hz hcu hS hB' ho
      by_cases hlt : k < o.length
      · obtain ⟨a9, c9, hv9, hcell⟩ := HS.out.rd
        rw [vN_len] at hv9 hcell
        injection hv9 with e1 _ e3
        subst e1
        obtain ⟨g', off, rfl, hg', hc⟩ := hcell (by omega)
        have c1 := hc k _ (vN_at o k hlt)
        have c2 := HA.out.cellv (HCU.out k (Nat.le_refl _) hlt)
        have f2 := HA.out.frozen k
        have hne : g' ≠ g := HGIN.out g' rfl
        generalize o.getD k 0 = x at c1 c2
        clear hc hcell e3
        go_wp2_with fail
        go_quiet (fail)
        go_wp2_with fail
        go_roundg (o.length - (k + 1))
        case rel =>
          refine ⟨k + 1, cu.setIfInBounds k (.int .i64 99), rfl, by omega, by go_num, ?_, by simpa using HZ.out, ?_, ?_, ?_, ?_⟩
          · exact (HA.out.drewN _).set_ k _
          · intro j hj hjo
            rw [Array.getElem?_setIfInBounds_ne (by omega)]
            exact HCU.out j (by omega) hjo
          · exact HS.out.only (((Only.refl (S1 g) wr).drewN _).set1 k rfl _) (fun q hq e => HGIN.out q hq e)
          · exact HBb.out.only (((Only.refl (S1 g) wr).drewN _).set1 k rfl _) (fun q hq e => HGV.out q hq e)
          · exact (HO.out.drewN _).setNew k hgb _
        case measure => omega
      · obtain rfl : k = o.length := by omega
        go_wp2_with fail
        refine (Rank_any n s o _ _ HBb.out.rd (by omega)).mono ?_
        rintro e w6 ⟨rfl, p6⟩
        rw [HRK.out, show rankV rk = .tuple #[.int .u64 ((rk.getD 0 : Nat) : Int), .bool rk.isSome] from rfl, HR1.out, HR2.out]
        have HS6 := hide (HS.out.only p6 (fun _ _ h => h))
        have HB6 := hide (HBb.out.only p6 (fun _ _ h => h))
        have P6 := hide (HO.out.trans p6)
        clear p6
        go_wp2_with fail
        refine (Ints_yes (A := o) (by omega) HS6.out.rd HB6.out.rd).mono ?_
        rintro e w7 ⟨rfl, p7⟩
        have P7 := hide (P6.out.trans p7)
        clear p7
        go_wp2_with fail
        go_ret
        exact ⟨rfl, S0.below P7.out⟩
end Go.Proofs.Ytdaddbkhdalcfaa
