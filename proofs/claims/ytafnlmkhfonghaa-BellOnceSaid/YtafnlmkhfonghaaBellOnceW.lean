/-
  BellOnce, the walk.
-/
import Derived.Test.YtafnlmkhfonghaaBellOnceP
namespace Go.Proofs.Ytafnlmkhfonghaa
open Go.RowKit
set_option linter.unusedVariables false

theorem info_bop : (Try.prog.info? 28).map (fun i => (i.zero, i.size, i.bytes)) = some (some (.pointer none), 1, 8) := by kernel_rfl
theorem info_bool : (Try.prog.info? 4).map (fun i => (i.zero, i.size, i.bytes)) = some (some (.bool false), 1, 1) := by kernel_rfl
theorem bop_stays (bb : Nat) : Stays (fun w b o => BopIs w b bb o) := fun w w' S b x h ho hs => BopIs.only h ho hs

set_option maxRecDepth 100000 in
set_option maxHeartbeats 4000000 in
theorem bellOnce_walk (a0 : Int) (a1 : Option Addr) (len1 cap1 : Nat) (x1 : List Bool) (a2 : Int) (a3 : Option Addr) (len3 cap3 : Nat) (x3 : List Int) (w : World) (w0 : (Lit.int .u8 a0).wf = true) (w1 : InBools w a1 len1 x1) (w2 : (Lit.int .u8 a2).wf = true) (w3 : InInts .u8 w a3 len3 x3) :
    Calls Try.prog 4 #[.int .u8 a0, .slice a1 len1 cap1, .int .u8 a2, .slice a3 len3 cap3] w fun e w' => e = .returned (.bool true) ∧ Below w.heap.size w w' := by
  have hbig := w3.big
  have hbig1 := w1.big
  have k1 := (bounds_u8 w0).1
  have k2 := (bounds_u8 w0).2
  have k3 := (bounds_u8 w2).1
  have k4 := (bounds_u8 w2).2
  have HW1 := hide w1
  have HC1 := hide w1.cells
  have HC3 := hide w3.cells
  have HX3 := hide fun (i : Nat) (hi : i < len3) => show 0 ≤ elt x3 i ∧ elt x3 i ≤ 255 by
    have := bounds_u8 (elt_wf w3.wf (i := i) (by rw [w3.length]; exact hi))
    omega
  clear w0 w1 w2 w3
  obtain ⟨n, hn⟩ : ∃ n : Nat, 1 + a0 % 8 = (n : Int) := ⟨(1 + a0 % 8).toNat, by omega⟩
  have n1 : 1 ≤ n := by omega
  have n8 : n ≤ 8 := by omega
  obtain ⟨k, hk⟩ : ∃ k : Nat, 1 + a2 % 5 = (k : Int) := ⟨(1 + a2 % 5).toNat, by omega⟩
  have kk1 : 1 ≤ k := by omega
  have kk5 : k ≤ 5 := by omega
  go_enter Try.func4, Try.ntmps4
  go_wp2_with fail
  refine (alive6_any w).mono ?_
  rintro e wa ⟨rfl, p1⟩
  have P1 := hide p1
  clear p1
  go_wp2_with fail
  have HN := hide hn
  have HK := hide hk
  clear hn hk k1 k2 k3 k4
  refine (made6_any n (w := wa) (a := a1) (len := len1) (cap := cap1) (xs := x1) n1 n8 ⟨HW1.out.length, HW1.out.big, fun hne => by obtain ⟨g, off, ha, hg, hc⟩ := HC1.out hne; exact ⟨g, off, ha, Nat.lt_of_lt_of_le hg P1.out.size, fun i hi => (P1.out.cell (p := ⟨g, off + i, none⟩) hg (fun h => h)).trans (hc i hi)⟩⟩).mono ?_
  rintro e wb ⟨bb, bm, bc, L0, tc0, rfl, he, htc, hm, p2, b1, b2, b3⟩
  have HE := hide he
  have HM := hide hm
  have PP := hide (P1.out.trans p2)
  have c1 : w.heap.size ≤ bb := Nat.le_trans P1.out.size b1
  have c2 : w.heap.size ≤ bm := Nat.le_trans P1.out.size b2
  have c3 : w.heap.size ≤ bc := Nat.le_trans P1.out.size b3
  clear he hm p2 b1 b2 b3 P1
  obtain ⟨A, hA⟩ : ∃ A : Nat → Int, A = slept len1 x1 := ⟨_, rfl⟩
  have hA01 : ∀ q, q < n → A q = 0 ∨ A q = 1 := by
    intro q _
    rw [hA]
    unfold slept
    split
    · exact .inr rfl
    · exact .inl rfl
  have HA01 := hide hA01
  have HA := hide hA
  have HL0 := hide (show ∀ q : Nat, q < n → at_ L0 (q : Int) = A q from fun q hq => by rw [hA]; exact HM.out.done q hq)
  have HLL := hide HM.out.lenL
  clear hA hA01
  go_wp2_with fail
  go_loopg [13, 14] n (fun q cnt iv wr => ∃ (i : Nat), q = n - i ∧ i ≤ n ∧ iv = .int .i64 i ∧ cnt = .int .i64 (sumTo i A) ∧ BellEnv wr bb bm bc 0 n tc0 L0 ∧ Only S0 w wr)
  case atStart => exact ⟨0, rfl, by omega, rfl, rfl, HE.out, PP.out⟩
  case round =>
  clear HE PP
  obtain ⟨i, rfl, hi, rfl, rfl, he, ho⟩ := hrel
  have HE := hide he
  have PP := hide ho
  clear he ho
  by_cases hin : i < n
  · obtain ⟨sb1, sb2⟩ := sumTo_bound (n := i) (f := A) fun q hq => by rcases HA01.out q (by omega) with e | e <;> rw [e] <;> decide
    obtain ⟨s, hs⟩ : ∃ s, sumTo i A = s := ⟨_, rfl⟩
    obtain ⟨x, hx⟩ : ∃ x, A i = x := ⟨_, rfl⟩
    have hx0 : 0 ≤ x := by rcases HA01.out i hin with e | e <;> omega
    have hx1 : x ≤ 1 := by rcases HA01.out i hin with e | e <;> omega
    have hsx := hide (show sumTo (i + 1) A = s + x by simp only [sumTo, hs, hx])
    rw [hs] at sb1 sb2
    have HSS := hide hs
    have HXX := hide hx
    rw [hs]
    clear hs hx
    go_wp2_with fail
    refine (Peek_in (i : Int) HE.out.mem (by omega) (by rw [HLL.out]; omega)).mono ?_
    rintro e w5 ⟨rfl, rfl⟩
    rw [HL0.out i hin, HXX.out]
    go_wp2_with fail
    go_roundg (n - (i + 1))
    case rel => exact ⟨i + 1, rfl, by omega, by go_num, by rw [hsx.out], HE.out, PP.out⟩
    case measure => omega
  obtain rfl : i = n := by omega
  obtain ⟨cb1, cb2⟩ := sumTo_bound (n := i) (f := A) fun q hq => by rcases HA01.out q hq with e | e <;> rw [e] <;> decide
  obtain ⟨cnt, hcnt⟩ : ∃ cnt, sumTo i A = cnt := ⟨_, rfl⟩
  rw [hcnt] at cb1 cb2 ⊢
  have HCNT := hide hcnt
  clear hcnt
  go_wp2_with fail
  go_loopg [15, 16] k (fun q v iv wr => ∃ (j : Nat) (bo : Nat → Nat) (o : Nat → Bop) (vs : Value), q = k - j ∧ j ≤ k ∧ iv = .int .i64 j ∧ vs = v ∧ (∀ t, t < j → o t = ⟨3, 0, 0⟩) ∧ Fam (fun w b o => BopIs w b bb o) wr w.heap.size j bo o ∧ Sl wr w.heap.size 28 vs (ptrs j bo) ∧ BellEnv wr bb bm bc 0 i tc0 L0 ∧ Only S0 w wr)
  case atStart => exact ⟨0, fun _ => 0, fun _ => ⟨3, 0, 0⟩, _, rfl, by omega, rfl, rfl, fun _ _ => rfl, Fam.empty _ _ _ _ _, Sl.nil _ _ _, HE.out, PP.out⟩
  case round =>
  clear HE PP
  obtain ⟨j, bo, o, v, rfl, hj, rfl, rfl, hst, hf, hsl, he, ho⟩ := hrel
  have HE := hide he
  have PP := hide ho
  have HF := hide hf
  have HSL := hide hsl
  have HST := hide hst
  clear he ho hf hsl hst
  by_cases hjk : j < k
  · go_wp2_with fail
    refine (BRing_all HE.out).mono ?_
    rintro e w5 ⟨rb, rfl, h5, he5, o5, b5⟩
    rw [bout0_in (by omega) (by omega)] at h5
    have HE5 := hide he5
    have P5 := hide (PP.out.trans o5)
    have HF5 := hide (HF.out.snoc (bop_stays bb) o5 PP.out.size h5 b5 (Blk.lt h5))
    have HSL5 := hide (HSL.out.only0 o5)
    clear he5 o5 h5 b5
    go_wp2_with (at_builtin; refine wpList_app1 _ rfl (.tmp 57) (.tmp 60) 42 rfl 28 (.pointer none) 8 Try.underlying42 info_bop rfl w.heap.size v (ptrs j bo) (.pointer (some ⟨rb, 0, none⟩)) rfl rfl HSL5.out rfl (by rw [ptrs_len]; omega) (by rw [ptrs_len]; unfold maxLen; omega) P5.out.size ?_; intro v' w6 hv' o6 hnew; have HSL6 := hide hv'; have HO6 := hide o6; clear hv' o6 hnew)
    have hown : ∀ b, v.ownBlock = some b → ∀ t cs, Blk w5 b t cs → t = 28 := by
      intro b hb t cs hbk
      refine Classical.byContradiction fun hne => ?_
      exact HSL5.out.ne_blk hbk (fun e => hne e.symm) hb
    have HOWN := hide hown
    clear hown
    have HE6 := hide (HE5.out.only HO6.out (fun h => by have := HOWN.out _ h _ _ HE5.out.bell; exact absurd this (by decide)) (fun h => by have := HOWN.out _ h _ _ HE5.out.mem.mem; exact absurd this (by decide)) (fun h => by have := HOWN.out _ h _ _ HE5.out.mem.cells; exact absurd this (by decide)))
    have HF6 := hide (HF5.out.only (bop_stays bb) HO6.out (fun t ht h => by have := HOWN.out _ h _ _ (HF5.out.at_ t ht); exact absurd this (by decide)))
    have P6 := hide (P5.out.then HO6.out fun b hb hs => by have := (HSL5.out.block hs).1; omega)
    go_wp2_with fail
    go_roundg (k - (j + 1))
    case rel =>
      refine ⟨j + 1, upd bo j rb, upd o j ⟨3, 0, 0⟩, _, rfl, by omega, by go_num, rfl, fun t ht => ?_, HF6.out, by rw [ptrs_snoc]; exact HSL6.out, HE6.out, P6.out⟩
      by_cases e : t = j
      · rw [e, upd_same]
      · rw [upd_ne _ _ e]; exact HST.out t (by omega)
    case measure => omega
  obtain rfl : j = k := by omega
  have hon0 := once_start (n := i) (k := j) (A := A) (L := L0) (o := o) HLL.out HL0.out HA01.out n1 HST.out
  have HON0 := hide hon0
  clear hon0
  obtain ⟨g, cap, rfl⟩ : ∃ g cap, v = .slice (some ⟨g, 0, none⟩) j cap := by
    rcases HSL.out.form with ⟨_, h2⟩ | ⟨g, cap, _, h2, _⟩
    · have := ptrs_len j bo; rw [h2] at this; simp at this; omega
    · rw [ptrs_len] at h2; exact ⟨g, cap, h2⟩
  go_wp2_with fail
  go_loopg [17, 18] (len3 + 20 * j) (fun q iv pv wr => ∃ (t : Nat) (L : List Int) (o' : Nat → Bop) (tc : Int), q = len3 + 20 * j - t ∧ t ≤ len3 + 20 * j ∧ iv = .int .i64 t ∧ Fam (fun w b o => BopIs w b bb o) wr w.heap.size j bo o' ∧ Sl wr w.heap.size 28 (.slice (some ⟨g, 0, none⟩) j cap) (ptrs j bo) ∧
    BellEnv wr bb bm bc 0 i tc L ∧ tc ≤ 1000 + t ∧ Once i j A L o' ∧ (∀ p, p < j → rho i (o' p) ≤ if t < len3 then 16 else vis j p t (len3 + 20 * j - t)) ∧ Only S0 w wr)
  case atStart =>
    refine ⟨0, L0, o, tc0, rfl, by omega, rfl, HF.out, HSL.out, HE.out, by omega, HON0.out, fun p hp => ?_, PP.out⟩
    have h1 : rho i (o p) ≤ 16 := by rw [HST.out p hp]; simp [rho]; omega
    split
    · exact h1
    · rename_i h0
      have h2 := vis_rounds hp 20 0
      have : len3 = 0 := by omega
      subst this
      rw [show 0 + 20 * j - 0 = 20 * j by omega]
      omega
  case round =>
  clear HE PP HF HSL HON0 HST
  obtain ⟨t, L, o', tc, rfl, ht, rfl, hf, hsl, he, htc', hon, hrho, ho⟩ := hrel
  have HE := hide he
  have PP := hide ho
  have HF := hide hf
  have HSL := hide hsl
  have HON := hide hon
  have HRHO := hide hrho
  clear he ho hf hsl hon hrho
  by_cases htl : t < len3 + 20 * j
  · have hjz : ((j : Int) == 0) = false := by rw [beq_eq_false_iff_ne]; omega
    by_cases hlt : t < len3
    · obtain ⟨g3, off3, rfl, hg3, hc3⟩ := HC3.out (by omega)
      have ce := (PP.out.cell (p := ⟨g3, off3 + t, none⟩) hg3 (fun h => h)).trans (hc3 t hlt)
      obtain ⟨x0, x1'⟩ := HX3.out t hlt
      have HCC := hide hc3
      clear hc3
      generalize elt x3 t = x at ce x0 x1'
      obtain ⟨p, hp⟩ : ∃ p : Nat, x % (j : Int) = (p : Int) := ⟨(x % (j : Int)).toNat, by have := Int.emod_nonneg x (show (j : Int) ≠ 0 by omega); omega⟩
      have hpj : p < j := by have := Int.emod_lt_of_pos x (show (0 : Int) < (j : Int) by omega); omega
      have cp := HSL.out.get (ptrs_get bo hpj)
      go_wp2_with fail
      refine (BStep_all HE.out (HON.out.op p hpj).ok (HF.out.at_ p hpj) (few_of _ (by omega))).mono ?_
      rintro e w6 ⟨rfl, h1, h2, o1⟩
      have HE6 := hide h2
      have HF6 := hide (HF.out.step (bop_stays bb) hpj o1 (fun s hs hsp h => by
        rcases h with h | h | h
        · exact HF.out.ne s p hs hpj hsp h
        · exact Blk.ne_ (HF.out.at_ s hs) HE.out.mem.mem (by decide) h
        · exact Blk.ne_ (HF.out.at_ s hs) HE.out.mem.cells (by decide) h) h1)
      have HSL6 := hide (HSL.out.only3 o1 (HF.out.at_ p hpj) HE.out.mem.mem HE.out.mem.cells (by decide) (by decide) (by decide))
      have hge := HF.out.ge p hpj
      have P6 := hide (S0.then3 PP.out o1 hge c2 c3)
      obtain ⟨hs1, hs2⟩ := HON.out.step hpj
      have HON6 := hide hs1
      have HR6 := hide hs2
      have htk : btick (o' p) ≤ 1 := by unfold btick; split <;> omega
      have HTK := hide htk
      clear h1 h2 o1 hs1 hs2 cp ce htk hp
      generalize ((bstep 0 i L (o' p)).2.out != 0) = gb
      go_wp2_with fail
      go_roundg (len3 + 20 * j - (t + 1))
      case rel =>
        refine ⟨t + 1, _, _, _, rfl, by omega, by go_num, HF6.out, HSL6.out, HE6.out, by have := HTK.out; omega, HON6.out, fun s hs => ?_, P6.out⟩
        have h1 : rho i (upd o' p (bstep 0 i L (o' p)).2 s) ≤ 16 := by
          by_cases e : s = p
          · subst e
            rw [upd_same]
            have := HRHO.out s hs
            rw [if_pos hlt] at this
            have := HR6.out
            omega
          · rw [upd_ne _ _ e]
            have := HRHO.out s hs
            rw [if_pos hlt] at this
            exact this
        split
        · exact h1
        · have h2 := vis_rounds hs 20 (t + 1)
          rw [show len3 + 20 * j - (t + 1) = 20 * j by omega]
          omega
      case measure => omega
    · obtain ⟨p, hpn⟩ : ∃ p : Nat, t % j = p := ⟨_, rfl⟩
      have hp : (t : Int) % (j : Int) = (p : Int) := by rw [← hpn]; exact (Int.natCast_emod t j).symm
      have hpj : p < j := by rw [← hpn]; exact Nat.mod_lt _ (by omega)
      have cp := HSL.out.get (ptrs_get bo hpj)
      have HPN := hide hpn
      clear hpn
      go_wp2_with fail
      refine (BStep_all HE.out (HON.out.op p hpj).ok (HF.out.at_ p hpj) (few_of _ (by omega))).mono ?_
      rintro e w6 ⟨rfl, h1, h2, o1⟩
      have HE6 := hide h2
      have HF6 := hide (HF.out.step (bop_stays bb) hpj o1 (fun s hs hsp h => by
        rcases h with h | h | h
        · exact HF.out.ne s p hs hpj hsp h
        · exact Blk.ne_ (HF.out.at_ s hs) HE.out.mem.mem (by decide) h
        · exact Blk.ne_ (HF.out.at_ s hs) HE.out.mem.cells (by decide) h) h1)
      have HSL6 := hide (HSL.out.only3 o1 (HF.out.at_ p hpj) HE.out.mem.mem HE.out.mem.cells (by decide) (by decide) (by decide))
      have hge := HF.out.ge p hpj
      have P6 := hide (S0.then3 PP.out o1 hge c2 c3)
      obtain ⟨hs1, hs2⟩ := HON.out.step hpj
      have HON6 := hide hs1
      have HR6 := hide hs2
      have htk : btick (o' p) ≤ 1 := by unfold btick; split <;> omega
      have HTK := hide htk
      clear h1 h2 o1 hs1 hs2 cp htk hp
      generalize ((bstep 0 i L (o' p)).2.out != 0) = gb
      go_wp2_with fail
      go_roundg (len3 + 20 * j - (t + 1))
      case rel =>
        refine ⟨t + 1, _, _, _, rfl, by omega, by go_num, HF6.out, HSL6.out, HE6.out, by have := HTK.out; omega, HON6.out, fun s hs => ?_, P6.out⟩
        rw [if_neg (by omega)]
        have h3 := HRHO.out s hs
        rw [if_neg hlt, show len3 + 20 * j - t = (len3 + 20 * j - (t + 1)) + 1 by omega] at h3
        simp only [vis, HPN.out] at h3
        by_cases e : s = p
        · subst e
          rw [upd_same]
          rw [if_pos rfl] at h3
          have := HR6.out
          omega
        · rw [upd_ne _ _ e]
          rw [if_neg (fun h => e h.symm)] at h3
          omega
      case measure => omega
  obtain rfl : t = len3 + 20 * j := by omega
  have hr0 : ∀ p, p < j → rho i (o' p) = 0 := by
    intro p hp
    have := HRHO.out p hp
    rw [if_neg (by omega), Nat.sub_self] at this
    simp only [vis] at this
    omega
  have hgot := HON.out.got hr0 HA01.out
  have hov := HON.out.over hr0
  rw [HCNT.out] at hgot
  have HGOT := hide hgot
  have HOV := hide hov
  clear hr0 hgot hov htl
  have hmk := make_flat 22 4 (.bool false) 1 Try.underlying22 info_bool rfl i (by omega) (by omega)
  have hgr1 : bm < wr.heap.size := Blk.lt HE.out.mem.mem
  have hgr2 : bc < wr.heap.size := Blk.lt HE.out.mem.cells
  have hgr3 : bb < wr.heap.size := Blk.lt HE.out.bell
  have hgr4 := HF.out.lt
  have o7 := (Only.refl S0 wr).alloc (.cells (zeros (.bool false) i) 4)
  have HE7 := hide (HE.out.only0 o7)
  have HF7 := hide (HF.out.only0 (bop_stays bb) o7)
  have HSL7 := hide (HSL.out.only0 o7)
  have P7 := hide (PP.out.trans o7)
  have HB7 := hide (show Blk (wr.alloc (.cells (zeros (.bool false) i) 4)) wr.heap.size 4 (bools i fun _ => false) by rw [← bools_zeros]; exact Blk.new wr _ _)
  have hgsz : w.heap.size ≤ wr.heap.size := PP.out.size
  have HGR4 := hide hgr4
  clear o7 hgr4
  obtain ⟨gr, hgr⟩ : ∃ gr, wr.heap.size = gr := ⟨_, rfl⟩
  go_wp2_with fail
  clear hmk HE HF HSL PP
  rw [hgr] at hgr1 hgr2 hgr3 HGR4 HB7 hgsz
  generalize wr.alloc (.cells (zeros (.bool false) i) 4) = w7 at HE7 HF7 HSL7 P7 HB7 ⊢
  clear hgr
  go_loopg [20, 21, 22] j (fun q gv iv wv wx => ∃ (s : Nat) (rs : Nat → Bool), q = j - s ∧ s ≤ j ∧ gv = .int .i64 (cntTo s (isWon o') : Nat) ∧ iv = .int .i64 s ∧ Fam (fun w b o => BopIs w b bb o) wx w.heap.size j bo o' ∧ Sl wx w.heap.size 28 (.slice (some ⟨g, 0, none⟩) j cap) (ptrs j bo) ∧
    BellEnv wx bb bm bc 0 i tc L ∧ Blk wx gr 4 (bools i rs) ∧ (∀ q, q < i → rs q = true → ∃ u, u < s ∧ (o' u).out = 7 ∧ (o' u).who = (q : Int)) ∧ Only S0 w wx)
  case atStart => exact ⟨0, fun _ => false, rfl, by omega, rfl, rfl, HF7.out, HSL7.out, HE7.out, HB7.out, fun q _ h => (by cases h), P7.out⟩
  case round =>
  clear HE7 HF7 HSL7 P7 HB7
  obtain ⟨s, rs, rfl, hsj, rfl, rfl, hf, hsl, he, hb, hrs, ho⟩ := hrel
  have HE := hide he
  have PP := hide ho
  have HF := hide hf
  have HSL := hide hsl
  have HB := hide hb
  have HRS := hide hrs
  clear he ho hf hsl hb hrs
  by_cases hlt : s < j
  · have cp := HSL.out.get (ptrs_get bo hlt)
    have hbo := HF.out.at_ s hlt
    rcases HOV.out s hlt with hs4 | ⟨q, hq, hs7, hA1, hz⟩
    · have hw : isWon o' s = false := by unfold isWon; rw [hs4]; rfl
      have hcs : cntTo (s + 1) (isWon o') = cntTo s (isWon o') := by simp [cntTo, hw]
      have HCS := hide hcs
      rw [hs4] at hbo
      have Q1 := hide fun (m : Nat) => BOver_over (w := wr.drewN m) (show BopAt (wr.drewN m) (bo s) bb (nxF 3) i 4 from hbo) (by decide)
      have Q2 := hide fun (m : Nat) => BOutcome_any (w := wr.drewN m) (show BopAt (wr.drewN m) (bo s) bb (nxF 3) i 4 from hbo)
      have Q3 := hide fun (m : Nat) => BWho_any (w := wr.drewN m) (show BopAt (wr.drewN m) (bo s) bb (nxF 3) i 4 from hbo)
      rw [show bwho (i : Int) 4 = -1 from by simp [bwho]] at Q3
      generalize cntTo s (isWon o') = cs at HCS ⊢
      clear hbo hw hcs hs4
      go_wp2_with fail
      go_quiet ((first | (go_at_call 17; exact quiet_eq (Q1.out _)) | (go_at_call 25; exact quiet_eq (Q2.out _)) | (go_at_call 23; exact quiet_eq (Q3.out _))))
      go_wp2_with fail
      refine (Q3.out _).mono ?_
      rintro e w9 ⟨rfl, rfl⟩
      go_wp2_with fail
      go_roundg (j - (s + 1))
      case rel => exact ⟨s + 1, rs, rfl, by omega, by rw [HCS.out], by go_num, HF.out.only0 (bop_stays bb) ((Only.refl S0 wr).drewN _), HSL.out.only0 ((Only.refl S0 wr).drewN _), HE.out.only0 ((Only.refl S0 wr).drewN _), HB.out, fun q hq h => by obtain ⟨u, hu, h7⟩ := HRS.out q hq h; exact ⟨u, by omega, h7⟩, PP.out.drewN _⟩
      case measure => omega
    · have hw : isWon o' s = true := by unfold isWon; rw [hs7]; rfl
      have hcs : cntTo (s + 1) (isWon o') = cntTo s (isWon o') + 1 := by simp [cntTo, hw]
      have hcl := cntTo_le s (isWon o')
      have HCS := hide hcs
      have hrq : rs q = false := by
        cases hr : rs q with
        | false => rfl
        | true =>
          obtain ⟨u, hu, h7, hwq⟩ := HRS.out q hq hr
          exact absurd (by rw [hwq, hs7]) (HON.out.dis u s (by omega) hlt (by omega) h7 (by rw [hs7]))
      have hsl1 : q < len1 ∧ eltB x1 q = true := by
        rw [HA.out] at hA1
        unfold slept at hA1
        split at hA1
        · assumption
        · cases hA1
      obtain ⟨hq1, hq2⟩ := hsl1
      obtain ⟨g1, off1, rfl, hg1, hc1⟩ := HC1.out (by omega)
      have ca := (PP.out.cell (p := ⟨g1, off1 + q, none⟩) hg1 (fun h => h)).trans (hc1 q hq1)
      rw [hq2] at ca
      have HCC := hide hc1
      clear hc1
      have cb := HB.out.cellv (bools_get rs hq)
      have fb := HB.out.frozen q
      rw [hrq] at cb
      rw [hs7] at hbo
      have Q1 := hide fun (m : Nat) => BOver_over (w := wr.drewN m) (show BopAt (wr.drewN m) (bo s) bb (nxF 4) q 7 from hbo) (by decide)
      have Q2 := hide fun (m : Nat) => BOutcome_any (w := wr.drewN m) (show BopAt (wr.drewN m) (bo s) bb (nxF 4) q 7 from hbo)
      have Q3 := hide fun (m : Nat) => BWho_any (w := wr.drewN m) (show BopAt (wr.drewN m) (bo s) bb (nxF 4) q 7 from hbo)
      rw [show bwho (q : Int) 7 = q from by simp [bwho]] at Q3
      have HS7 := hide hs7
      generalize cntTo s (isWon o') = cs at HCS hcl ⊢
      clear hbo hw hcs hs7 hrq hq2
      have HZ := hide hz
      clear hz hA1
      have e0 : (0 : Int) ≤ q := by omega
      go_wp2_with fail
      go_quiet ((first | (go_at_call 17; exact quiet_eq (Q1.out _)) | (go_at_call 25; exact quiet_eq (Q2.out _)) | (go_at_call 23; exact quiet_eq (Q3.out _))))
      go_wp2_with fail
      refine (Q3.out _).mono ?_
      rintro e w9 ⟨rfl, rfl⟩
      go_wp2_with fail
      refine (Peek_in (q : Int) (HE.out.mem.drewN _) (by omega) (by rw [HON.out.lenL]; omega)).mono ?_
      rintro e w9 ⟨rfl, rfl⟩
      rw [HZ.out]
      go_wp2_with fail
      go_roundg (j - (s + 1))
      case rel =>
        have o9 := fun (m : Nat) => (((Only.refl (S1 gr) wr).drewN m)).set1 q rfl (.bool true)
        refine ⟨s + 1, upd rs q true, rfl, by omega, by rw [HCS.out]; go_num, by go_num, HF.out.only (bop_stays bb) (o9 _) (fun u hu h => by have := HGR4.out u hu; unfold S1 at h; omega), ?_, HE.out.only (o9 _) (fun h => by unfold S1 at h; omega) (fun h => by unfold S1 at h; omega) (fun h => by unfold S1 at h; omega), ?_, ?_, ?_⟩
        · obtain ⟨cs', hg'⟩ := HSL.out.blk
          refine HSL.out.only (o9 _) fun g' hg2 h => ?_
          have e2 : g = g' := by simpa [Value.ownBlock] using hg2
          subst e2
          unfold S1 at h
          subst h
          exact hg'.ne_ HB.out (by decide) rfl
        · rw [← bools_set]
          exact (HB.out.drewN _).set_ q (.bool true)
        · intro q' hq' h
          by_cases e3 : q' = q
          · subst e3
            exact ⟨s, by omega, by rw [HS7.out], by rw [HS7.out]⟩
          · rw [upd_ne _ _ e3] at h
            obtain ⟨u, hu, h7⟩ := HRS.out q' hq' h
            exact ⟨u, by omega, h7⟩
        · exact (PP.out.drewN _).setNew q hgsz _
      case measure => omega
  · obtain rfl : s = j := by omega
    have hg := HGOT.out
    obtain ⟨cs, hcs⟩ : ∃ cs, cntTo s (isWon o') = cs := ⟨_, rfl⟩
    rw [hcs] at hg ⊢
    have hg1 : (if (s : Int) < cnt then (s : Int) else cnt) = cs := hg.symm
    have hg2 : (if cnt < (s : Int) then cnt else (s : Int)) = cs := by rw [hg]; split <;> split <;> omega
    clear hg hcs
    go_wp2_with fail
    go_ret
    exact ⟨rfl, S0.below PP.out⟩
end Go.Proofs.Ytafnlmkhfonghaa
