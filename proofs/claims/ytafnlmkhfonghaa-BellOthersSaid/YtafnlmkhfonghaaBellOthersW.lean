/-
  BellOthers, the walk, and what an operation of one worker leaves.
-/
import Derived.Test.YtafnlmkhfonghaaBellM
import Derived.Test.YtafnlmkhfonghaaFam
namespace Go.Proofs.Ytafnlmkhfonghaa
open Go.RowKit
set_option linter.unusedVariables false

def othOp (n kk x : Int) : Bop := if kk = 1 then ⟨0, x, bout0 n x⟩ else if kk = 2 then ⟨1, x, bout0 n x⟩ else if kk = 3 then ⟨2, x, bout0 n x⟩ else ⟨3, 0, bout0 n 0⟩
theorem bdone_count (base n : Int) : ∀ (k : Nat) (L : List Int) (o : Bop), (bdone base n k L o).2.2 ≤ k
  | 0, L, o => Nat.le_refl _
  | k + 1, L, o => by
    by_cases h : o.out = 0
    · rw [bdone_succ _ _ _ _ _ h]
      have := bdone_count base n k (bstep base n L o).1 (bstep base n L o).2
      exact Nat.succ_le_succ this
    · rw [bdone_over _ _ _ _ _ h]
      exact Nat.zero_le _
theorem othOp_ok (n kk x : Int) : BopOk n (othOp n kk x) := by
  unfold othOp
  split
  · exact bok_new 0 (by decide) _ _
  split
  · exact bok_new 1 (by decide) _ _
  split
  · exact bok_new 2 (by decide) _ _
  · exact bok_new 3 (by decide) _ _
structure OthIs (n : Nat) (L : List Int) (kk x : Int) (L' : List Int) (out : Int) : Prop where
  len : L'.length = L.length
  same : ∀ i : Nat, i < n → (i : Int) ≠ x → at_ L' (i : Int) = at_ L (i : Int)
  none_ : ¬ (0 ≤ x ∧ x < n) → out = 4
  poll : 0 ≤ x ∧ x < n → kk = 3 → out = pollOut (at_ L' x)
  said : 0 ≤ x ∧ x < n → kk ≠ 3 → out = 1
theorem oth_set {n : Nat} {L : List Int} {x v : Int} (hl : L.length = n + 1) (hx : 0 ≤ x ∧ x < n) : ∀ i : Nat, i < n → (i : Int) ≠ x → at_ (L.set (0 + x).toNat v) (i : Int) = at_ L (i : Int) := by
  intro i hi hne
  rw [at_set _ _ _ _ (by omega), if_neg (by omega)]
theorem oth_is (n : Nat) (L : List Int) (kk x : Int) (hl : L.length = n + 1) (hk : 1 ≤ kk ∧ kk ≤ 3) : OthIs n L kk x (bdone 0 n 100 L (othOp n kk x)).1 (bdone 0 n 100 L (othOp n kk x)).2.1.out := by
  by_cases hx : 0 ≤ x ∧ x < (n : Int)
  · have e0 : (0 : Int) + x = x := by omega
    by_cases h1 : kk = 1
    · subst h1
      rw [show othOp n 1 x = ⟨0, x, bout0 n x⟩ from rfl, bdone_sleep _ _ _ _ hx.1 hx.2]
      exact ⟨by simp, oth_set hl hx, fun h => absurd hx h, fun _ h => absurd h (by decide), fun _ _ => rfl⟩
    · by_cases h2 : kk = 2
      · subst h2
        rw [show othOp n 2 x = ⟨1, x, bout0 n x⟩ from rfl, bdone_up _ _ _ _ hx.1 hx.2]
        exact ⟨by simp, oth_set hl hx, fun h => absurd hx h, fun _ h => absurd h (by decide), fun _ _ => rfl⟩
      · obtain rfl : kk = 3 := by omega
        rw [show othOp n 3 x = ⟨2, x, bout0 n x⟩ from rfl, bdone_poll _ _ _ _ hx.1 hx.2, e0]
        exact ⟨rfl, fun i _ _ => rfl, fun h => absurd hx h, fun _ _ => rfl, fun _ h => absurd rfl h⟩
  · have hb : bdone 0 n 100 L (othOp n kk x) = (L, (othOp n kk x), 0) ∧ (othOp n kk x).out = 4 := by
      have ho : (othOp n kk x).out = 4 := by
        unfold othOp
        rw [bout0_out hx]
        split
        · rfl
        split
        · rfl
        split
        · rfl
        · omega
      exact ⟨bdone_over _ _ _ _ _ (by rw [ho]; decide), ho⟩
    rw [hb.1]
    exact ⟨rfl, fun _ _ _ => rfl, fun _ => hb.2, fun h => absurd h hx, fun h => absurd h hx⟩

set_option maxRecDepth 100000 in
set_option maxHeartbeats 4000000 in
theorem bellOthers_walk (a0 : Int) (a1 : Option Addr) (len1 cap1 : Nat) (x1 : List Bool) (a2 : Int) (x : Int) (w : World) (w0 : (Lit.int .u8 a0).wf = true) (w1 : InBools w a1 len1 x1) (w2 : (Lit.int .u8 a2).wf = true) (w3 : (Lit.int .i64 x).wf = true) :
    Calls Try.prog 12 #[.int .u8 a0, .slice a1 len1 cap1, .int .u8 a2, .int .i64 x] w fun e w' => e = .returned (.bool true) ∧ Below w.heap.size w w' := by
  have k1 := (bounds_u8 w0).1
  have k2 := (bounds_u8 w0).2
  have k3 := (bounds_u8 w2).1
  have k4 := (bounds_u8 w2).2
  have HW1 := hide w1
  clear w0 w1 w2 w3
  obtain ⟨n, hn⟩ : ∃ n : Nat, 1 + a0 % 8 = (n : Int) := ⟨(1 + a0 % 8).toNat, by omega⟩
  have n1 : 1 ≤ n := by omega
  have n8 : n ≤ 8 := by omega
  obtain ⟨kk, hk⟩ : ∃ kk : Int, 1 + a2 % 3 = kk := ⟨_, rfl⟩
  have kk1 : 1 ≤ kk := by omega
  have kk3 : kk ≤ 3 := by omega
  go_enter Try.func12, Try.ntmps12
  go_wp2_with fail
  refine (alive6_any w).mono ?_
  rintro e wa ⟨rfl, p1⟩
  have P1 := hide p1
  clear p1
  go_wp2_with fail
  have HN := hide hn
  clear hn k1 k2
  refine (made6_any n (w := wa) (a := a1) (len := len1) (cap := cap1) (xs := x1) n1 n8 ⟨HW1.out.length, HW1.out.big, fun hne => by obtain ⟨g, off, ha, hg, hc⟩ := HW1.out.cells hne; exact ⟨g, off, ha, Nat.lt_of_lt_of_le hg P1.out.size, fun i hi => (P1.out.cell (p := ⟨g, off + i, none⟩) hg (fun h => h)).trans (hc i hi)⟩⟩).mono ?_
  rintro e wb ⟨bb, bm, bc, L, tc, rfl, he, htc, hm, p2, b1, b2, b3⟩
  have HE := hide he
  have HLL := hide hm.lenL
  have PP := hide (P1.out.trans p2)
  have c2 : w.heap.size ≤ bm := Nat.le_trans P1.out.size b2
  have c3 : w.heap.size ≤ bc := Nat.le_trans P1.out.size b3
  clear he hm p2 b1 b2 b3 P1
  go_wp2_with fail
  refine (All_any HE.out.mem).mono ?_
  rintro e wc ⟨v, rfl, hv, p3⟩
  obtain ⟨g, cap, hvv⟩ : ∃ g cap, v = .slice (some ⟨g, 0, none⟩) (n + 1) cap := by
    rcases hv.form with ⟨_, h2⟩ | ⟨g, cap, _, h2, _⟩
    · have := congrArg List.length h2; simp [HLL.out] at this
    · rw [List.length_map, HLL.out] at h2; exact ⟨g, cap, h2⟩
  subst hvv
  have HV := hide hv
  have hg1 := (hv.block (g := g) rfl).1
  have hg2 := (hv.block (g := g) rfl).2
  have hm1 := Blk.lt HE.out.mem.mem
  have hm2 := Blk.lt HE.out.mem.cells
  have HE2 := hide (HE.out.only0 p3)
  have P3 := hide (PP.out.trans p3)
  clear hv p3 HE PP
  go_wp2_with fail
  refine (begun6_any kk x HE2.out).mono ?_
  rintro e wd ⟨bo, rfl, h4, he4, p4, b4⟩
  have H4 := hide (show BopIs wd bo bb (othOp n kk x) from h4)
  have HE4 := hide he4
  have HV4 := hide (HV.out.only0 p4)
  have P4 := hide (P3.out.trans p4)
  have c4 : w.heap.size ≤ bo := Nat.le_trans P3.out.size b4
  clear h4 he4 p4 HE2 P3 HV
  go_wp2_with fail
  refine (bdone_any HE4.out (othOp_ok _ _ _) H4.out (few_of _ (by omega))).mono ?_
  rintro e w5 ⟨rfl, -, -, he5, p5, hl5⟩
  have hoth := oth_is n L kk x HLL.out ⟨kk1, kk3⟩
  unfold bdoneV
  have HE5 := hide he5
  have P5 := hide (S0.then3 P4.out p5 c4 c2 c3)
  have HV5 := hide (HV4.out.only p5 fun g' e h => by (have e2 : g = g' := by simpa [Value.ownBlock] using e); unfold S3 at h; omega)
  have HOTH := hide hoth
  have hcnt : (bdone 0 n 100 L (othOp n kk x)).2.2 ≤ 100 := bdone_count _ _ _ _ _
  have HCNT := hide hcnt
  clear he5 p5 hl5 hoth hcnt HE4 P4 HV4 H4
  generalize bdone 0 n 100 L (othOp n kk x) = r at HE5 HOTH HCNT ⊢
  obtain ⟨L', o', q⟩ := r
  obtain ⟨kd, wh, out⟩ := o'
  generalize bwho wh out = who
  simp only [] at HE5 HOTH HCNT ⊢
  have HK := hide hk
  have HL' := hide (show L'.length = n + 1 by rw [HOTH.out.len, HLL.out])
  clear hk
  go_wp2_with fail
  go_loopg [16] n (fun q iv wr => ∃ (i : Nat), q = n - i ∧ i ≤ n ∧ iv = .int .i64 i ∧ Only S0 w5 wr)
  case atStart => exact ⟨0, rfl, by omega, rfl, Only.refl _ _⟩
  case round =>
  obtain ⟨i, rfl, hi, rfl, ho⟩ := hrel
  have HO := hide ho
  clear ho
  by_cases hin : i < n
  · by_cases hix : (i : Int) = x
    · have hb : ((i : Int) != x) = false := by rw [hix]; simp
      have HIX := hide hix
      clear hix
      go_wp2_with fail
      go_quiet (fail)
      go_wp2_with fail
      go_roundg (n - (i + 1))
      case rel => exact ⟨i + 1, rfl, by omega, by go_num, HO.out.drewN _⟩
      case measure => omega
    · have hb : ((i : Int) != x) = true := by simp [hix]
      have hsame := HOTH.out.same i hin hix
      have cv := (HV5.out.only0 HO.out).get (i := i) (u := .int .u64 (at_ L (i : Int))) (by
        rw [List.getElem?_map, List.getElem?_eq_getElem (by rw [HLL.out]; omega)]
        simp [at_, List.getD, HLL.out, show i < n + 1 by omega])
      have QP := hide fun (m : Nat) => Peek_in (w := wr.drewN m) (i : Int) ((HE5.out.mem.only HO.out (fun h => h) (fun h => h)).drewN m) (by omega) (by rw [HL'.out]; omega)
      rw [hsame] at QP
      clear hix hsame
      generalize at_ L (i : Int) = y at cv QP
      go_wp2_with fail
      go_quiet ((go_at_call 24; exact quiet_eq (QP.out _)))
      go_wp2_with fail
      go_roundg (n - (i + 1))
      case rel => exact ⟨i + 1, rfl, by omega, by go_num, HO.out.drewN _⟩
      case measure => omega
  · obtain rfl : i = n := by omega
    have P6 := hide (P5.out.trans HO.out)
    have HE6 := hide (HE5.out.only0 HO.out)
    by_cases hx0 : x < 0
    · obtain rfl := HOTH.out.none_ (by omega)
      go_wp2_with fail
      go_ret
      exact ⟨rfl, S0.below P6.out⟩
    · replace hx0 : 0 ≤ x := by omega
      by_cases hx1 : (i : Int) ≤ x
      · obtain rfl := HOTH.out.none_ (by omega)
        go_wp2_with fail
        go_ret
        exact ⟨rfl, S0.below P6.out⟩
      · replace hx1 : x < (i : Int) := by omega
        go_wp2_with fail
        refine (BPoll_all x HE6.out).mono ?_
        rintro e w7 ⟨pb, rfl, h7, he7, p7, b7⟩
        have H7 := hide h7
        have HE7 := hide he7
        have P7 := hide (P6.out.trans p7)
        have c7 : w.heap.size ≤ pb := Nat.le_trans P6.out.size b7
        clear h7 he7 p7 b7
        go_wp2_with fail
        refine (bdone_any HE7.out (bok_new _ (by decide) _ _) H7.out (few_of _ (by have := HCNT.out; omega))).mono ?_
        rintro e w8 ⟨rfl, -, -, -, p8, -⟩
        rw [bdone_poll _ _ _ _ hx0 hx1, show (0 : Int) + x = x by omega]
        unfold bdoneV
        have P8 := hide (S0.then3 P7.out p8 c7 c2 c3)
        clear p8
        by_cases hk3 : kk = 3
        · have := HOTH.out.poll ⟨hx0, hx1⟩ hk3
          rw [← this]
          have e3 : 1 + a2 % 3 = 3 := by rw [HK.out, hk3]
          by_cases ho1 : out = 1
          · subst ho1
            clear this hk3 e3
            go_wp2_with fail
            go_ret
            exact ⟨rfl, S0.below P8.out⟩
          · have hob : (out == 1) = false := by simp [ho1]
            clear this hk3 ho1
            go_wp2_with fail
            go_ret
            exact ⟨rfl, S0.below P8.out⟩
        · obtain rfl := HOTH.out.said ⟨hx0, hx1⟩ hk3
          clear hk3
          generalize pollOut (at_ L' x) = pv
          go_wp2_with fail
          go_ret
          exact ⟨rfl, S0.below P8.out⟩
end Go.Proofs.Ytafnlmkhfonghaa
