/-
  GateFree, the walk.
-/
import Derived.Test.YtjjjjbfblhadnaaGateFreeP
import Derived.Test.YtjjjjbfblhadnaaGateB
import Derived.Test.YtjjjjbfblhadnaaOpen
namespace Go.Proofs.Ytjjjjbfblhadnaa
open Go.RowKit
set_option linter.unusedVariables false

theorem info_gop : (Try.prog.info? 56).map (fun i => (i.zero, i.size, i.bytes)) = some (some (.pointer none), 1, 8) := by kernel_rfl
theorem info_int : (Try.prog.info? 3).map (fun i => (i.zero, i.size, i.bytes)) = some (some (.int .i64 0), 1, 8) := by kernel_rfl
theorem gop_stays (bg : Nat) : Stays (fun w b o => GopIs w b bg o) := fun w w' S b x h ho hs => GopAt.only h ho hs
theorem gop_ok_of {n T H k i : Nat} {L : List Int} {o : Nat → Gop} (h : GI n T H L k o) (hi : i < k) (hs : T ≤ 1000000) : GopOk 0 L.length (o i) := (h.ok i hi).okk h.c hs

set_option maxRecDepth 100000 in
set_option maxHeartbeats 4000000 in
theorem gateFree_walk (a0 : Int) (a1 : Option Addr) (len1 cap1 : Nat) (x1 : List Bool) (a2 : Option Addr) (len2 cap2 : Nat) (x2 : List Int) (w : World) (w0 : (Lit.int .u8 a0).wf = true) (w1 : InBools w a1 len1 x1) (w2 : InInts .u8 w a2 len2 x2) :
    Calls Try.prog 7 #[.int .u8 a0, .slice a1 len1 cap1, .slice a2 len2 cap2] w fun e w' => e = .returned (.bool true) ∧ Below w.heap.size w w' := by
  have hbig := w2.big
  have hbig1 := w1.big
  have k1 := (bounds_u8 w0).1
  have k2 := (bounds_u8 w0).2
  have HC1 := hide w1.cells
  have HC2 := hide w2.cells
  have HX2 := hide fun (i : Nat) (hi : i < len2) => show 0 ≤ elt x2 i ∧ elt x2 i ≤ 255 by
    have := bounds_u8 (elt_wf w2.wf (i := i) (by rw [w2.length]; exact hi))
    omega
  clear w0 w1 w2
  obtain ⟨fl, hfl⟩ : ∃ fl : Nat, a0 % 9 = (fl : Int) := ⟨(a0 % 9).toNat, by omega⟩
  have fl8 : fl ≤ 8 := by omega
  obtain ⟨n, hn⟩ : ∃ n : Nat, (if (len1 : Int) < 8 then (len1 : Int) else 8) = (n : Int) := ⟨(if (len1 : Int) < 8 then (len1 : Int) else 8).toNat, by split <;> omega⟩
  have n8 : n ≤ 8 := by split at hn <;> omega
  have nl : n ≤ len1 := by split at hn <;> omega
  have hn' : (if (8 : Int) < (len1 : Int) then (8 : Int) else (len1 : Int)) = (n : Int) := by split at hn <;> split <;> omega
  go_enter Try.func7, Try.ntmps7
  go_wp2_with fail
  refine (alive5_any w).mono ?_
  rintro e wa ⟨rfl, p1⟩
  have P1 := hide p1
  clear p1
  have HFL := hide hfl
  clear hfl
  go_wp2_with fail
  refine (made_any 8 wa (by omega) (by omega) (fun _ => 0)).mono ?_
  rintro e wb ⟨bg, bm, bc, rfl, h2, p2, b1, b2, b3⟩
  clear hn hn'
  have hfl := HFL.out
  have H2 := hide h2
  have P2 := hide (P1.out.trans p2)
  have c1 : w.heap.size ≤ bg := Nat.le_trans P1.out.size b1
  have c2 : w.heap.size ≤ bm := Nat.le_trans P1.out.size b2
  have c3 : w.heap.size ≤ bc := Nat.le_trans P1.out.size b3
  clear h2 p2 b1 b2 b3 P1
  by_cases hn0 : n = 0
  · subst hn0
    go_wp2_with fail
    go_ret
    exact ⟨rfl, S0.below P2.out⟩
  have n1 : 1 ≤ n := by omega
  have hnz : ((n : Int) == 0) = false := by rw [beq_eq_false_iff_ne]; omega
  clear hn0
  go_wp2_with fail
  go_loopg [9] fl (fun q iv wr => ∃ (i : Nat) (val : Nat → Int), q = fl - i ∧ i ≤ fl ∧ iv = .int .i64 i ∧ AE wr bg bm bc 8 i 0 val (1000 + 5 * i) ∧ Only S0 w wr)
  case atStart => exact ⟨0, _, rfl, by omega, rfl, H2.out, P2.out⟩
  case round =>
  clear H2 P2
  obtain ⟨i, val, rfl, hi, rfl, ha, ho⟩ := hrel
  have HA := hide ha
  have HO := hide ho
  clear ha ho
  by_cases hif : i < fl
  · go_wp2_with fail
    refine (AE_put HA.out (i : Int)).mono ?_
    rintro e w3 ⟨bo, rfl, g3, a3, o3, b3⟩
    have A3 := hide a3
    have G3 := hide g3
    have O3 := hide (HO.out.trans o3)
    have c4 : w.heap.size ≤ bo := Nat.le_trans HO.out.size b3
    clear a3 g3 o3 b3
    go_wp2_with fail
    refine (AE_put_done A3.out G3.out ⟨by omega, by omega⟩ (by omega) (by omega) (by omega)).mono ?_
    rintro e w4 ⟨gv, kv, rfl, a4, o4⟩
    have A4 := hide a4
    have O4 := hide (S0.then3 O3.out o4 c4 c2 c3)
    clear a4 o4
    go_wp2_with fail
    go_roundg (fl - (i + 1))
    case rel => exact ⟨i + 1, _, rfl, by omega, by go_num, A4.out.le (by omega), O4.out⟩
    case measure => omega
  obtain rfl : i = fl := by omega
  have HIF := hide hif
  clear hif
  obtain ⟨L0, tc0, he0, hal, htc⟩ := HA.out.ex
  have HE := hide he0
  have HGC := hide hal.gc
  clear he0 hal HA
  have hmk := make_flat 61 3 (.int .i64 0) 8 Try.underlying61 info_int rfl n (by omega) (by omega)
  have hgr1 : bm < wr.heap.size := Blk.lt HE.out.mem.mem
  have hgr2 : bc < wr.heap.size := Blk.lt HE.out.mem.cells
  have hgr3 : bg < wr.heap.size := Blk.lt HE.out.gate
  have o7 := (Only.refl S0 wr).alloc (.cells (zeros (.int .i64 0) n) 3)
  have HE7 := hide (HE.out.only0 o7)
  have P7 := hide (HO.out.trans o7)
  have HB7 := hide (show Blk (wr.alloc (.cells (zeros (.int .i64 0) n) 3)) wr.heap.size 3 (intsA n fun _ => 0) by rw [← intsA_zeros]; exact Blk.new wr _ _)
  have hgsz : w.heap.size ≤ wr.heap.size := HO.out.size
  clear o7
  obtain ⟨gr, hgr⟩ : ∃ gr, wr.heap.size = gr := ⟨_, rfl⟩
  go_wp2_with fail
  clear hmk HE HO
  rw [hgr] at hgr1 hgr2 hgr3 HB7 hgsz
  generalize wr.alloc (.cells (zeros (.int .i64 0) n) 3) = w7 at HE7 P7 HB7 ⊢
  clear hgr hfl
  go_loopg [10, 12] n (fun q v iv wr => ∃ (j : Nat) (bo : Nat → Nat) (o : Nat → Gop) (vs : Value), q = n - j ∧ j ≤ n ∧ iv = .int .i64 j ∧ vs = v ∧ (∀ t, t < j → freshOp (o t)) ∧ Fam (fun w b o => GopIs w b bg o) wr w.heap.size j bo o ∧ (∀ t, t < j → bo t ≠ gr) ∧ Sl wr w.heap.size 56 vs (ptrs j bo) ∧ GateEnv wr bg bm bc 0 8 tc0 L0 ∧ Blk wr gr 3 (intsA n fun _ => 0) ∧ Only S0 w wr)
  case atStart => exact ⟨0, fun _ => 0, fun _ => takeOp 0, _, rfl, by omega, rfl, rfl, fun _ h => by omega, Fam.empty _ _ _ _ _, fun _ h => by omega, Sl.nil _ _ _, HE7.out, HB7.out, P7.out⟩
  case round =>
  clear HE7 P7 HB7
  obtain ⟨j, bo, o, v, rfl, hj, rfl, rfl, hst, hf, hbo, hsl, he, hb, ho⟩ := hrel
  have HE := hide he
  have PP := hide ho
  have HF := hide hf
  have HSL := hide hsl
  have HST := hide hst
  have HB := hide hb
  have HBO := hide hbo
  clear he ho hf hsl hst hb hbo
  by_cases hjk : j < n
  · obtain ⟨g1, off1, rfl, hg1, hc1⟩ := HC1.out (by omega)
    have ca := (PP.out.cell (p := ⟨g1, off1 + j, none⟩) hg1 (fun h => h)).trans (hc1 j (by omega))
    have HCC := hide hc1
    clear hc1
    generalize eltB x1 j = tk at ca
    cases tk
    · go_wp2_with fail
      refine (GPut_all HE.out (100 + (j : Int))).mono ?_
      rintro e w5 ⟨rb, rfl, h5, he5, o5, b5⟩
      have HE5 := hide he5
      have P5 := hide (PP.out.trans o5)
      have HF5 := hide (HF.out.snoc (gop_stays bg) o5 PP.out.size h5 b5 (Blk.lt h5))
      have HSL5 := hide (HSL.out.only0 o5)
      have HB5 := hide (HB.out.only o5 (fun h => h))
      have hrb : rb ≠ gr := by have := Blk.lt HB.out; omega
      clear he5 o5 h5 b5 ca
      go_wp2_with (at_builtin; refine wpList_app1 _ rfl (.tmp 58) (.tmp 64) 47 rfl 56 (.pointer none) 8 Try.underlying47 info_gop rfl w.heap.size v (ptrs j bo) (.pointer (some ⟨rb, 0, none⟩)) rfl rfl HSL5.out rfl (by rw [ptrs_len]; omega) (by rw [ptrs_len]; unfold maxLen; omega) P5.out.size ?_; intro v' w6 hv' o6 hnew; have HSL6 := hide hv'; have HO6 := hide o6; clear hv' o6 hnew)
      have hown : ∀ b, v.ownBlock = some b → ∀ t cs, Blk w5 b t cs → t = 56 := by
        intro b hb t cs hbk
        refine Classical.byContradiction fun hne => ?_
        exact HSL5.out.ne_blk hbk (fun e => hne e.symm) hb
      have HOWN := hide hown
      clear hown
      have HE6 := hide (HE5.out.only HO6.out (fun h => by have := HOWN.out _ h _ _ HE5.out.gate; exact absurd this (by decide)) (fun h => by have := HOWN.out _ h _ _ HE5.out.mem.mem; exact absurd this (by decide)) (fun h => by have := HOWN.out _ h _ _ HE5.out.mem.cells; exact absurd this (by decide)))
      have HF6 := hide (HF5.out.only (gop_stays bg) HO6.out (fun t ht h => by have := HOWN.out _ h _ _ (HF5.out.at_ t ht); exact absurd this (by decide)))
      have HB6 := hide (HB5.out.only HO6.out (fun h => by have := HOWN.out _ h _ _ HB5.out; exact absurd this (by decide)))
      have P6 := hide (P5.out.then HO6.out fun b hb hs => by have := (HSL5.out.block hs).1; omega)
      go_wp2_with fail
      go_roundg (n - (j + 1))
      case rel =>
        refine ⟨j + 1, upd bo j rb, upd o j (putOp 0 (100 + (j : Int))), _, rfl, by omega, by go_num, rfl, fun t ht => ?_, HF6.out, fun t ht => ?_, by rw [ptrs_snoc]; exact HSL6.out, HE6.out, HB6.out, P6.out⟩
        · by_cases e : t = j
          · rw [e, upd_same]
            exact .inl ⟨_, ⟨by omega, by omega⟩, rfl⟩
          · rw [upd_ne _ _ e]; exact HST.out t (by omega)
        · by_cases e : t = j
          · rw [e, upd_same]
            exact hrb
          · rw [upd_ne _ _ e]; exact HBO.out t (by omega)
      case measure => omega
    · go_wp2_with fail
      refine (GTake_all HE.out).mono ?_
      rintro e w5 ⟨rb, rfl, h5, he5, o5, b5⟩
      have HE5 := hide he5
      have P5 := hide (PP.out.trans o5)
      have HF5 := hide (HF.out.snoc (gop_stays bg) o5 PP.out.size h5 b5 (Blk.lt h5))
      have HSL5 := hide (HSL.out.only0 o5)
      have HB5 := hide (HB.out.only o5 (fun h => h))
      have hrb : rb ≠ gr := by have := Blk.lt HB.out; omega
      clear he5 o5 h5 b5 ca
      go_wp2_with (at_builtin; refine wpList_app1 _ rfl (.tmp 53) (.tmp 56) 47 rfl 56 (.pointer none) 8 Try.underlying47 info_gop rfl w.heap.size v (ptrs j bo) (.pointer (some ⟨rb, 0, none⟩)) rfl rfl HSL5.out rfl (by rw [ptrs_len]; omega) (by rw [ptrs_len]; unfold maxLen; omega) P5.out.size ?_; intro v' w6 hv' o6 hnew; have HSL6 := hide hv'; have HO6 := hide o6; clear hv' o6 hnew)
      have hown : ∀ b, v.ownBlock = some b → ∀ t cs, Blk w5 b t cs → t = 56 := by
        intro b hb t cs hbk
        refine Classical.byContradiction fun hne => ?_
        exact HSL5.out.ne_blk hbk (fun e => hne e.symm) hb
      have HOWN := hide hown
      clear hown
      have HE6 := hide (HE5.out.only HO6.out (fun h => by have := HOWN.out _ h _ _ HE5.out.gate; exact absurd this (by decide)) (fun h => by have := HOWN.out _ h _ _ HE5.out.mem.mem; exact absurd this (by decide)) (fun h => by have := HOWN.out _ h _ _ HE5.out.mem.cells; exact absurd this (by decide)))
      have HF6 := hide (HF5.out.only (gop_stays bg) HO6.out (fun t ht h => by have := HOWN.out _ h _ _ (HF5.out.at_ t ht); exact absurd this (by decide)))
      have HB6 := hide (HB5.out.only HO6.out (fun h => by have := HOWN.out _ h _ _ HB5.out; exact absurd this (by decide)))
      have P6 := hide (P5.out.then HO6.out fun b hb hs => by have := (HSL5.out.block hs).1; omega)
      go_wp2_with fail
      go_roundg (n - (j + 1))
      case rel =>
        refine ⟨j + 1, upd bo j rb, upd o j (takeOp 0), _, rfl, by omega, by go_num, rfl, fun t ht => ?_, HF6.out, fun t ht => ?_, by rw [ptrs_snoc]; exact HSL6.out, HE6.out, HB6.out, P6.out⟩
        · by_cases e : t = j
          · rw [e, upd_same]
            exact .inr rfl
          · rw [upd_ne _ _ e]; exact HST.out t (by omega)
        · by_cases e : t = j
          · rw [e, upd_same]
            exact hrb
          · rw [upd_ne _ _ e]; exact HBO.out t (by omega)
      case measure => omega
  obtain rfl : j = n := by omega
  obtain ⟨g, cap, rfl⟩ : ∃ g cap, v = .slice (some ⟨g, 0, none⟩) j cap := by
    rcases HSL.out.form with ⟨_, h2⟩ | ⟨g, cap, _, h2, _⟩
    · have := ptrs_len j bo; rw [h2] at this; simp at this; omega
    · rw [ptrs_len] at h2; exact ⟨g, cap, h2⟩
  have hgi := GI.fresh HGC.out HST.out
  have HGI := hide hgi
  have HPL := hide (show ∀ t, t < j → o t ∈ [o t] from fun _ _ => by simp)
  clear hgi
  go_wp2_with fail
  go_loopg [13, 14] (len2 + 40 * j) (fun q iv pv wr => ∃ (t : Nat) (L : List Int) (o' : Nat → Gop) (st : Nat → Int) (tc : Int) (T H : Nat), q = len2 + 40 * j - t ∧ t ≤ len2 + 40 * j ∧ iv = .int .i64 t ∧ Fam (fun w b o => GopIs w b bg o) wr w.heap.size j bo o' ∧ Sl wr w.heap.size 56 (.slice (some ⟨g, 0, none⟩) j cap) (ptrs j bo) ∧
    GateEnv wr bg bm bc 0 8 tc L ∧ Blk wr gr 3 (intsA j st) ∧ GI 8 T H L j o' ∧ tc ≤ 2000 + sumTo j st ∧ (T : Int) ≤ 8 + sumTo j st ∧ (∀ p, p < j → 0 ≤ st p ∧ st p + cost j L o' p ≤ 3 * j + 2) ∧ (∀ p, p < j → cost j L o' p ≤ if t < len2 then 40 else vis j p t (len2 + 40 * j - t)) ∧ Only S0 w wr)
  case atStart =>
    refine ⟨0, L0, o, fun _ => 0, tc0, i, 0, rfl, by omega, rfl, HF.out, HSL.out, HE.out, HB.out, HGI.out, ?_, ?_, fun p hp => ?_, fun p hp => ?_, PP.out⟩
    · rw [sumTo_zero fun _ _ => rfl]; omega
    · rw [sumTo_zero fun _ _ => rfl]; omega
    · have := cost_fresh (k := j) (L := L0) (HST.out p hp)
      refine ⟨Int.le_refl _, ?_⟩
      show (0 : Int) + _ ≤ _
      omega
    · have h1 := cost_fresh (k := j) (L := L0) (HST.out p hp)
      split
      · omega
      · rename_i h0
        have h2 := vis_rounds hp 40 0
        have : len2 = 0 := by omega
        subst this
        rw [show 0 + 40 * j - 0 = 40 * j by omega]
        omega
  case round =>
  clear HE PP HF HSL HGI HST HB
  obtain ⟨t, L, o', st, tc, T, H, rfl, ht, rfl, hf, hsl, he, hb, hgi, htc', hT, hst, hrho, ho⟩ := hrel
  have HE := hide he
  have PP := hide ho
  have HF := hide hf
  have HSL := hide hsl
  have HGI := hide hgi
  have HST := hide hst
  have HRHO := hide hrho
  have HB := hide hb
  have hsum : sumTo j st ≤ j * 26 := sumTo_le fun p hp => by have := (HST.out p hp).2; omega
  have hsum2 : sumTo j st ≤ 208 := by omega
  have HSU := hide (show tc ≤ 2000 + sumTo j st ∧ (T : Int) ≤ 8 + sumTo j st from ⟨htc', hT⟩)
  have htc2 : tc ≤ 3000 := by omega
  have hT2 : T ≤ 1000 := by omega
  clear he ho hf hsl hgi hst hrho hb hsum hsum2 htc' hT
  by_cases htl : t < len2 + 40 * j
  · by_cases hlt : t < len2
    · obtain ⟨g3, off3, rfl, hg3, hc3⟩ := HC2.out (by omega)
      have ce := (PP.out.cell (p := ⟨g3, off3 + t, none⟩) hg3 (fun h => h)).trans (hc3 t hlt)
      obtain ⟨x0, x1'⟩ := HX2.out t hlt
      have HCC := hide hc3
      clear hc3
      generalize elt x2 t = x at ce x0 x1'
      obtain ⟨p, hp⟩ : ∃ p : Nat, x % (j : Int) = (p : Int) := ⟨(x % (j : Int)).toNat, by have := Int.emod_nonneg x (show (j : Int) ≠ 0 by omega); omega⟩
      have hpj : p < j := by have := Int.emod_lt_of_pos x (show (0 : Int) < (j : Int) by omega); omega
      have cp := HSL.out.get (ptrs_get bo hpj)
      have hbo := HF.out.at_ p hpj
      have hgp := HGI.out.ok p hpj
      have HGP := hide hgp
      have HBP := hide hbo
      clear hbo hgp
      by_cases hov : (o' p).out = 0
      · have HOV := hide hov
        clear hov
        go_wp2_with fail
        refine (HBP.out.over0 HOV.out).mono ?_
        rintro e w5 ⟨rfl, rfl⟩
        go_wp2_with fail
        refine (GStep_all HE.out (gop_ok_of HGI.out hpj (by omega)) HBP.out (few_of _ (by omega))).mono ?_
        rintro e w6 ⟨rfl, h1, h2, o1⟩
        have HE6 := hide h2
        have HF6 := hide (HF.out.step (gop_stays bg) hpj o1 (fun s hs hsp h => by
          rcases h with h | h | h
          · exact HF.out.ne s p hs hpj hsp h
          · exact Blk.ne_ (HF.out.at_ s hs) HE.out.mem.mem (by decide) h
          · exact Blk.ne_ (HF.out.at_ s hs) HE.out.mem.cells (by decide) h) h1)
        have HSL6 := hide (HSL.out.only3 o1 HBP.out HE.out.mem.mem HE.out.mem.cells (by decide) (by decide) (by decide))
        have HB6 := hide (HB.out.only o1 (fun h => by
          rcases h with h | h | h
          · exact Blk.ne_ HB.out HBP.out (by decide) h
          · exact Blk.ne_ HB.out HE.out.mem.mem (by decide) h
          · exact Blk.ne_ HB.out HE.out.mem.cells (by decide) h))
        have hge := HF.out.ge p hpj
        have P6 := hide (S0.then3 PP.out o1 hge c2 c3)
        obtain ⟨T', H', gi1, gi2, gi3, gi4⟩ := HGI.out.step HE.out.u hpj (by omega) HOV.out
        have HG6 := hide gi1
        have HG7 := hide (And.intro gi2 (And.intro gi3 gi4))
        have htk : gtick (o' p) = 1 := by simp [gtick, HOV.out]
        have HTK := hide htk
        clear h1 h2 o1 gi1 gi2 gi3 gi4 ce htk hp
        have cs := HB6.out.cellv (intsA_get st hpj)
        have fs := HB6.out.frozen p
        obtain ⟨sp, hsp⟩ : ∃ sp, st p = sp := ⟨_, rfl⟩
        have hsp0 : 0 ≤ sp := by rw [← hsp]; exact (HST.out p hpj).1
        have hsp1 : sp ≤ 100 := by have := (HST.out p hpj).2; omega
        rw [hsp] at cs
        have HSP := hide hsp
        clear hsp
        go_wp2_with fail
        go_roundg (len2 + 40 * j - (t + 1))
        case rel =>
          have o8 := only_set w6 gr p (.int .i64 (sp + 1))
          have n1 : bg ≠ gr := by have := Blk.lt HE.out.gate; omega
          have hs1 := HSU.out
          have hs2 := HG7.out
          have hs3 : upd st p (st p + 1) = upd st p (sp + 1) := by rw [HSP.out]
          have hs4 := sumTo_upd (f := st) hpj
          rw [hs3] at hs4
          obtain ⟨L1, hL1⟩ : ∃ L1, (gstep 0 8 L (o' p)).1 = L1 := ⟨_, rfl⟩
          obtain ⟨o1, ho1⟩ : ∃ o1, upd o' p (gstep 0 8 L (o' p)).2 = o1 := ⟨_, rfl⟩
          have hg6 := HG6.out
          have he6 := HE6.out
          have hf6 := HF6.out
          rw [show ((8 : Nat) : Int) = 8 from rfl] at hs2 hg6
          rw [hL1, ho1] at hs2 hg6
          rw [hL1] at he6
          rw [ho1] at hf6
          rw [HTK.out] at he6
          clear hL1 ho1
          refine ⟨t + 1, L1, o1, upd st p (sp + 1), tc + 1, T', H', rfl, by omega, by go_num, hf6.only (gop_stays bg) o8 (fun s hs h => HBO.out s hs h), ?_, he6.only o8 (fun h => n1 h) (fun h => by unfold S1 at h; omega) (fun h => by unfold S1 at h; omega), ?_, hg6, by omega, by omega, fun s hs => ?_, fun s hs => ?_, P6.out.setNew p hgsz _⟩
          · obtain ⟨cs', hg'⟩ := HSL6.out.blk
            refine HSL6.out.only o8 fun g' hg2 h => ?_
            have e2 : g = g' := by simpa [Value.ownBlock] using hg2
            subst e2
            unfold S1 at h
            subst h
            exact hg'.ne_ HB6.out (by decide) rfl
          · rw [← intsA_set]
            exact HB6.out.set_ p (.int .i64 (sp + 1))
          · have h1 := HST.out s hs
            by_cases e : s = p
            · subst e
              rw [upd_same]
              have := hs2.2.1
              rw [HSP.out] at h1
              omega
            · rw [upd_ne _ _ e]
              have := hs2.2.2 s hs e
              omega
          · have h9 : cost j L1 o1 s + (if s = p then 1 else 0) ≤ cost j L o' s := by
              by_cases e : s = p
              · subst e
                rw [if_pos rfl]
                exact hs2.2.1
              · rw [if_neg e]
                exact hs2.2.2 s hs e
            have h3 := HRHO.out s hs
            rw [if_pos hlt] at h3
            split
            · omega
            · have h2 := vis_rounds hs 40 (t + 1)
              have h4 := cost_le j L1 o1 s
              rw [show len2 + 40 * j - (t + 1) = 40 * j by omega]
              omega
        case measure => omega
      · have HOV := hide hov
        clear hov
        go_wp2_with fail
        refine (HBP.out.over1 HOV.out).mono ?_
        rintro e w5 ⟨rfl, rfl⟩
        go_wp2_with fail
        go_roundg (len2 + 40 * j - (t + 1))
        case rel =>
          refine ⟨t + 1, L, o', st, tc, T, H, rfl, by omega, by go_num, HF.out, HSL.out, HE.out, HB.out, HGI.out, HSU.out.1, HSU.out.2, HST.out, fun s hs => ?_, PP.out⟩
          have h9 : cost j L o' s + (if s = p then 1 else 0) ≤ cost j L o' s + (if s = p then 1 else 0) ∧ (s = p → cost j L o' s = 0) := ⟨Nat.le_refl _, fun e => by rw [e]; exact cost_over HOV.out⟩
          have h3 := HRHO.out s hs
          rw [if_pos hlt] at h3
          split
          · omega
          · have h2 := vis_rounds hs 40 (t + 1)
            have h4 := cost_le j L o' s
            rw [show len2 + 40 * j - (t + 1) = 40 * j by omega]
            omega
        case measure => omega
    · obtain ⟨p, hpn⟩ : ∃ p : Nat, t % j = p := ⟨_, rfl⟩
      have hp : (t : Int) % (j : Int) = (p : Int) := by rw [← hpn]; exact (Int.natCast_emod t j).symm
      have hpj : p < j := by rw [← hpn]; exact Nat.mod_lt _ (by omega)
      have cp := HSL.out.get (ptrs_get bo hpj)
      have HPN := hide hpn
      clear hpn
      have hbo := HF.out.at_ p hpj
      have hgp := HGI.out.ok p hpj
      have HGP := hide hgp
      have HBP := hide hbo
      clear hbo hgp
      by_cases hov : (o' p).out = 0
      · have HOV := hide hov
        clear hov
        go_wp2_with fail
        refine (HBP.out.over0 HOV.out).mono ?_
        rintro e w5 ⟨rfl, rfl⟩
        go_wp2_with fail
        refine (GStep_all HE.out (gop_ok_of HGI.out hpj (by omega)) HBP.out (few_of _ (by omega))).mono ?_
        rintro e w6 ⟨rfl, h1, h2, o1⟩
        have HE6 := hide h2
        have HF6 := hide (HF.out.step (gop_stays bg) hpj o1 (fun s hs hsp h => by
          rcases h with h | h | h
          · exact HF.out.ne s p hs hpj hsp h
          · exact Blk.ne_ (HF.out.at_ s hs) HE.out.mem.mem (by decide) h
          · exact Blk.ne_ (HF.out.at_ s hs) HE.out.mem.cells (by decide) h) h1)
        have HSL6 := hide (HSL.out.only3 o1 HBP.out HE.out.mem.mem HE.out.mem.cells (by decide) (by decide) (by decide))
        have HB6 := hide (HB.out.only o1 (fun h => by
          rcases h with h | h | h
          · exact Blk.ne_ HB.out HBP.out (by decide) h
          · exact Blk.ne_ HB.out HE.out.mem.mem (by decide) h
          · exact Blk.ne_ HB.out HE.out.mem.cells (by decide) h))
        have hge := HF.out.ge p hpj
        have P6 := hide (S0.then3 PP.out o1 hge c2 c3)
        obtain ⟨T', H', gi1, gi2, gi3, gi4⟩ := HGI.out.step HE.out.u hpj (by omega) HOV.out
        have HG6 := hide gi1
        have HG7 := hide (And.intro gi2 (And.intro gi3 gi4))
        have htk : gtick (o' p) = 1 := by simp [gtick, HOV.out]
        have HTK := hide htk
        clear h1 h2 o1 gi1 gi2 gi3 gi4  htk hp
        have cs := HB6.out.cellv (intsA_get st hpj)
        have fs := HB6.out.frozen p
        obtain ⟨sp, hsp⟩ : ∃ sp, st p = sp := ⟨_, rfl⟩
        have hsp0 : 0 ≤ sp := by rw [← hsp]; exact (HST.out p hpj).1
        have hsp1 : sp ≤ 100 := by have := (HST.out p hpj).2; omega
        rw [hsp] at cs
        have HSP := hide hsp
        clear hsp
        go_wp2_with fail
        go_roundg (len2 + 40 * j - (t + 1))
        case rel =>
          have o8 := only_set w6 gr p (.int .i64 (sp + 1))
          have n1 : bg ≠ gr := by have := Blk.lt HE.out.gate; omega
          have hs1 := HSU.out
          have hs2 := HG7.out
          have hs3 : upd st p (st p + 1) = upd st p (sp + 1) := by rw [HSP.out]
          have hs4 := sumTo_upd (f := st) hpj
          rw [hs3] at hs4
          obtain ⟨L1, hL1⟩ : ∃ L1, (gstep 0 8 L (o' p)).1 = L1 := ⟨_, rfl⟩
          obtain ⟨o1, ho1⟩ : ∃ o1, upd o' p (gstep 0 8 L (o' p)).2 = o1 := ⟨_, rfl⟩
          have hg6 := HG6.out
          have he6 := HE6.out
          have hf6 := HF6.out
          rw [show ((8 : Nat) : Int) = 8 from rfl] at hs2 hg6
          rw [hL1, ho1] at hs2 hg6
          rw [hL1] at he6
          rw [ho1] at hf6
          rw [HTK.out] at he6
          clear hL1 ho1
          refine ⟨t + 1, L1, o1, upd st p (sp + 1), tc + 1, T', H', rfl, by omega, by go_num, hf6.only (gop_stays bg) o8 (fun s hs h => HBO.out s hs h), ?_, he6.only o8 (fun h => n1 h) (fun h => by unfold S1 at h; omega) (fun h => by unfold S1 at h; omega), ?_, hg6, by omega, by omega, fun s hs => ?_, fun s hs => ?_, P6.out.setNew p hgsz _⟩
          · obtain ⟨cs', hg'⟩ := HSL6.out.blk
            refine HSL6.out.only o8 fun g' hg2 h => ?_
            have e2 : g = g' := by simpa [Value.ownBlock] using hg2
            subst e2
            unfold S1 at h
            subst h
            exact hg'.ne_ HB6.out (by decide) rfl
          · rw [← intsA_set]
            exact HB6.out.set_ p (.int .i64 (sp + 1))
          · have h1 := HST.out s hs
            by_cases e : s = p
            · subst e
              rw [upd_same]
              have := hs2.2.1
              rw [HSP.out] at h1
              omega
            · rw [upd_ne _ _ e]
              have := hs2.2.2 s hs e
              omega
          · have h9 : cost j L1 o1 s + (if s = p then 1 else 0) ≤ cost j L o' s := by
              by_cases e : s = p
              · subst e
                rw [if_pos rfl]
                exact hs2.2.1
              · rw [if_neg e]
                exact hs2.2.2 s hs e
            have h3 := HRHO.out s hs
            rw [if_neg hlt, show len2 + 40 * j - t = (len2 + 40 * j - (t + 1)) + 1 by omega] at h3
            simp only [vis, HPN.out] at h3
            rw [if_neg (by omega)]
            by_cases e : s = p
            · subst e
              rw [if_pos rfl] at h3
              omega
            · rw [if_neg (fun h => e h.symm)] at h3
              omega
        case measure => omega
      · have HOV := hide hov
        clear hov
        go_wp2_with fail
        refine (HBP.out.over1 HOV.out).mono ?_
        rintro e w5 ⟨rfl, rfl⟩
        go_wp2_with fail
        go_roundg (len2 + 40 * j - (t + 1))
        case rel =>
          refine ⟨t + 1, L, o', st, tc, T, H, rfl, by omega, by go_num, HF.out, HSL.out, HE.out, HB.out, HGI.out, HSU.out.1, HSU.out.2, HST.out, fun s hs => ?_, PP.out⟩
          have h9 : cost j L o' s + (if s = p then 1 else 0) ≤ cost j L o' s + (if s = p then 1 else 0) ∧ (s = p → cost j L o' s = 0) := ⟨Nat.le_refl _, fun e => by rw [e]; exact cost_over HOV.out⟩
          have h3 := HRHO.out s hs
          rw [if_neg hlt, show len2 + 40 * j - t = (len2 + 40 * j - (t + 1)) + 1 by omega] at h3
          simp only [vis, HPN.out] at h3
          rw [if_neg (by omega)]
          by_cases e : s = p
          · have := h9.2 e
            omega
          · rw [if_neg (fun h => e h.symm)] at h3
            omega
        case measure => omega
  obtain rfl : t = len2 + 40 * j := by omega
  have hr0 : ∀ p, p < j → (o' p).out ≠ 0 := by
    intro p hp
    have := HRHO.out p hp
    rw [if_neg (by omega), Nat.sub_self] at this
    simp only [vis] at this
    exact cost_pos (L := L) hp (HGI.out.ok p hp).ph (by omega)
  have HR0 := hide hr0
  clear hr0 htl
  go_wp2_with fail
  go_loopg [15] j (fun q iv wx => ∃ (s : Nat), q = j - s ∧ s ≤ j ∧ iv = .int .i64 s ∧ Fam (fun w b o => GopIs w b bg o) wx w.heap.size j bo o' ∧ Sl wx w.heap.size 56 (.slice (some ⟨g, 0, none⟩) j cap) (ptrs j bo) ∧ Blk wx gr 3 (intsA j st) ∧ Only S0 w wx)
  case atStart => exact ⟨0, rfl, by omega, rfl, HF.out, HSL.out, HB.out, PP.out⟩
  case round =>
  clear HE PP HF HSL HB
  obtain ⟨s, rfl, hsj, rfl, hf, hsl, hb, ho⟩ := hrel
  have PP := hide ho
  have HF := hide hf
  have HSL := hide hsl
  have HB := hide hb
  clear ho hf hsl hb
  by_cases hlt : s < j
  · have cp := HSL.out.get (ptrs_get bo hlt)
    have cs := HB.out.cellv (intsA_get st hlt)
    obtain ⟨sp, hsp⟩ : ∃ sp, st s = sp := ⟨_, rfl⟩
    have hsp0 : 0 ≤ sp := by rw [← hsp]; exact (HST.out s hlt).1
    have hsp1 : sp ≤ 3 * (j : Int) + 2 := by have := (HST.out s hlt).2; omega
    rw [hsp] at cs
    clear hsp
    have HBS := hide (HF.out.at_ s hlt)
    go_wp2_with fail
    refine (HBS.out.over1 (HR0.out s hlt)).mono ?_
    rintro e w5 ⟨rfl, rfl⟩
    go_wp2_with fail
    go_roundg (j - (s + 1))
    case rel => exact ⟨s + 1, rfl, by omega, by go_num, HF.out, HSL.out, HB.out, PP.out⟩
    case measure => omega
  · go_wp2_with fail
    go_ret
    exact ⟨rfl, S0.below PP.out⟩
end Go.Proofs.Ytjjjjbfblhadnaa
