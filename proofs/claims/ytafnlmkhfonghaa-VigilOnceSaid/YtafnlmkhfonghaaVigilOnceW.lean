/-
  VigilOnce, the walk.
-/
import Derived.Test.YtafnlmkhfonghaaVigilOnceP
import Derived.Test.YtafnlmkhfonghaaOpen
import Derived.Deep.DeepCutAuto
namespace Go.Proofs.Ytafnlmkhfonghaa
open Go.RowKit
set_option linter.unusedVariables false

theorem vc0_in {n x y : Int} (h : vin n x y) : ∃ c : Nat, vc0 0 n x y = (c : Int) ∧ (c : Int) < n * n := by
  have := vcell_in (base := 0) h (by decide)
  refine ⟨(vcell 0 n x y).toNat, ?_, ?_⟩
  · rw [vc0, if_pos h]; omega
  · omega
theorem vo0_in {n x y : Int} (h : vin n x y) : vo0 n x y = 0 := by rw [vo0, if_pos h]

section
variable {c : Nat} {L : List Int} {v : Int}
theorem vd_watch (hv : at_ L (c : Int) = v) (h1 : v ≠ 1) : vdone 100 L ⟨0, c, 0, 0⟩ = (L.set c 1, ⟨0, c, v, 1⟩, 2) :=
  vdone_cons rfl (show vstep L ⟨0, c, 0, 0⟩ = (L, ⟨1, c, v, 0⟩) by simp [vstep, hv, h1]) (vdone_cons rfl (by simp [vstep, hv]) (vdone_over _ _ _ (by simp)))
theorem vd_watch1 (hv : at_ L (c : Int) = 1) : vdone 100 L ⟨0, c, 0, 0⟩ = (L, ⟨1, c, 1, 4⟩, 1) :=
  vdone_cons rfl (by simp [vstep, hv]) (vdone_over _ _ _ (by simp))
theorem vd_unwatch (hv : at_ L (c : Int) = 1) : vdone 100 L ⟨2, c, 0, 0⟩ = (L.set c 0, ⟨2, c, 1, 1⟩, 2) :=
  vdone_cons rfl (show vstep L ⟨2, c, 0, 0⟩ = (L, ⟨3, c, 1, 0⟩) by simp [vstep, hv]) (vdone_cons rfl (by simp [vstep, hv]) (vdone_over _ _ _ (by simp)))
theorem vd_unwatch0 (hv : at_ L (c : Int) = v) (h1 : v ≠ 1) : vdone 100 L ⟨2, c, 0, 0⟩ = (L, ⟨3, c, v, 4⟩, 1) :=
  vdone_cons rfl (by simp [vstep, hv, h1]) (vdone_over _ _ _ (by simp))
theorem vd_claim (hv : at_ L (c : Int) = 1) : vdone 100 L ⟨4, c, 0, 0⟩ = (L.set c 2, ⟨4, c, 0, 1⟩, 1) :=
  vdone_cons rfl (by simp [vstep, hv]) (vdone_over _ _ _ (by simp))
theorem vd_claim0 (hv : at_ L (c : Int) ≠ 1) : vdone 100 L ⟨4, c, 0, 0⟩ = (L, ⟨4, c, 0, 4⟩, 1) :=
  vdone_cons rfl (by simp [vstep, hv]) (vdone_over _ _ _ (by simp))
theorem at_rep0 (m i : Nat) : at_ (List.replicate m 0) (i : Int) = 0 := by
  unfold at_
  simp only [List.getD, Int.toNat_natCast, List.getElem?_replicate]
  split <;> rfl
theorem at_same (hc : c < L.length) (x : Int) : at_ (L.set c x) (c : Int) = x := by rw [at_set _ _ _ _ hc, if_pos rfl]
end

theorem info_vop : (Try.prog.info? 47).map (fun i => (i.zero, i.size, i.bytes)) = some (some (.pointer none), 1, 8) := by kernel_rfl
theorem vop_stays (bm : Nat) : Stays (fun w b o => VopIs w b bm o) := fun w w' S b x h ho hs => VopIs.only h ho hs

set_option maxRecDepth 100000 in
set_option maxHeartbeats 8000000 in
theorem vigilOnce_walk (a0 a1 a2 a3 : Int) (off : Bool) (a5 : Option Addr) (len cap : Nat) (xs : List Int) (w : World) (w0 : (Lit.int .u8 a0).wf = true) (w1 : (Lit.int .u8 a1).wf = true) (w2 : (Lit.int .u8 a2).wf = true) (w3 : (Lit.int .u8 a3).wf = true) (w5 : InInts .u8 w a5 len xs) :
    Calls Try.prog 10 #[.int .u8 a0, .int .u8 a1, .int .u8 a2, .int .u8 a3, .bool off, .slice a5 len cap] w fun e w' => e = .returned (.bool true) ∧ Below w.heap.size w w' := by
  have hbig := w5.big
  have k1 := (bounds_u8 w0).1
  have k2 := (bounds_u8 w0).2
  have k3 := (bounds_u8 w1).1
  have k4 := (bounds_u8 w1).2
  have k5 := (bounds_u8 w2).1
  have k6 := (bounds_u8 w2).2
  have q1 := (bounds_u8 w3).1
  have q2 := (bounds_u8 w3).2
  have HC5 := hide w5.cells
  have HX5 := hide fun (i : Nat) (hi : i < len) => show 0 ≤ elt xs i ∧ elt xs i ≤ 255 by
    have := bounds_u8 (elt_wf w5.wf (i := i) (by rw [w5.length]; exact hi))
    omega
  clear w0 w1 w2 w3 w5
  obtain ⟨n, hn⟩ : ∃ n : Nat, 1 + a0 % 6 = (n : Int) := ⟨(1 + a0 % 6).toNat, by omega⟩
  have n1 : 1 ≤ n := by omega
  have n6 : n ≤ 6 := by omega
  obtain ⟨kc, hk⟩ : ∃ kc : Nat, 1 + a3 % 5 = (kc : Int) := ⟨(1 + a3 % 5).toNat, by omega⟩
  have kc1 : 1 ≤ kc := by omega
  have kc5 : kc ≤ 5 := by omega
  obtain ⟨x, hx⟩ : ∃ x : Int, 1 + a1 % (n : Int) = x := ⟨_, rfl⟩
  obtain ⟨y, hy⟩ : ∃ y : Int, 1 + a2 % (n : Int) = y := ⟨_, rfl⟩
  have hx1 : 1 ≤ x := by have := Int.emod_nonneg a1 (show (n : Int) ≠ 0 by omega); omega
  have hx2 : x ≤ n := by have := Int.emod_lt_of_pos a1 (show (0 : Int) < n by omega); omega
  have hy1 : 1 ≤ y := by have := Int.emod_nonneg a2 (show (n : Int) ≠ 0 by omega); omega
  have hy2 : y ≤ n := by have := Int.emod_lt_of_pos a2 (show (0 : Int) < n by omega); omega
  have HV := hide (show vin n x y from ⟨hx1, hx2, hy1, hy2⟩)
  obtain ⟨sz, hz⟩ : ∃ sz : Nat, n * n = sz := ⟨_, rfl⟩
  have hzz : (n : Int) * (n : Int) = (sz : Int) := by rw [← hz]; exact (Int.natCast_mul n n).symm
  have hsb := sq_bound (n := (n : Int)) (by omega) (by omega)
  rw [hzz] at hsb
  obtain ⟨hsb1, hsb2⟩ := hsb
  obtain ⟨c, hc1, hc2⟩ := vc0_in HV.out
  rw [hzz] at hc2
  have hcs : c < sz := by omega
  have HC1 := hide hc1
  have HZ := hide hz
  have k7 : 0 ≤ a1 % (n : Int) := by omega
  have k8 : a1 % (n : Int) < n := by omega
  have k9 : 0 ≤ a2 % (n : Int) := by omega
  have k10 : a2 % (n : Int) < n := by omega
  have k11 : ((n : Int) == 0) = false := by rw [beq_eq_false_iff_ne]; omega
  clear hc1 hz hc2
  go_enter Try.func10, Try.ntmps10
  go_wp2_with fail
  refine (alive19_any w).mono ?_
  rintro e wa ⟨rfl, p1⟩
  have P1 := hide p1
  clear p1
  have ht1 : a1.tmod (n : Int) = x - 1 := by rw [Int.tmod_eq_emod_of_nonneg k3]; omega
  have ht2 : a2.tmod (n : Int) = y - 1 := by rw [Int.tmod_eq_emod_of_nonneg k5]; omega
  have ht3 : IntKind.i64.wrap (1 + (x - 1)) = x := by rw [IntWalk.i64_in _ (by omega)]; omega
  have ht4 : IntKind.i64.wrap (1 + (y - 1)) = y := by rw [IntWalk.i64_in _ (by omega)]; omega
  clear hx hy k7 k8 k9 k10
  go_wp2_with fail
  go_quiet (fail)
  go_wp2_with fail
  refine (made19_any n sz n1 (by omega) HZ.out).mono ?_
  rintro e wb ⟨vb, bm, bc, rfl, he, p2, b1, b2, b3⟩
  have HE := hide he
  have PP := hide ((P1.out.drewN _).trans p2)
  have c2 : w.heap.size ≤ bm := Nat.le_trans P1.out.size b2
  have c3 : w.heap.size ≤ bc := Nat.le_trans P1.out.size b3
  clear he p2 b1 b2 b3 P1
  have hok := vok_new HE.out 0 (by decide) x y
  rw [HC1.out, vo0_in HV.out] at hok
  have HOK := hide hok
  have HN := hide hn
  have HZZ := hide hzz
  clear hok hn hzz k1 k2 k3 k4 k5 k6 k11 ht1 ht2 ht3 ht4
  go_wp2_with fail
  refine (VWatch_all x y HE.out).mono ?_
  rintro e w5 ⟨bo0, rfl, h5, he5, p5, b5⟩
  rw [HC1.out, vo0_in HV.out] at h5
  have H5 := hide h5
  have HE5 := hide he5
  have P5 := hide (PP.out.trans p5)
  have b5' : w.heap.size ≤ bo0 := Nat.le_trans PP.out.size b5
  clear h5 he5 p5 PP HE b5
  go_wp2_with fail
  refine (vdone_any HE5.out.env HOK.out H5.out (few_of _ (by omega))).mono ?_
  rintro e w6 ⟨rfl, _, he6, p6, hl6⟩
  have he7 := HE5.out.step p6 H5.out he6 hl6
  rw [vd_watch (at_rep0 _ _) (by decide)] at he7 ⊢
  unfold vdoneV
  have HE := hide he7
  have PP := hide (S0.then3 P5.out p6 b5' c2 c3)
  clear he6 he7 hl6 p6 P5 HE5 H5 HOK b5'
  have hl0 : ((List.replicate (sz + 1) (0 : Int)).set c 1).length = sz + 1 := by simp
  have hat0 : ∀ j : Nat, at_ ((List.replicate (sz + 1) (0 : Int)).set c 1) (j : Int) = if j = c then 1 else 0 := fun j => by rw [at_set _ _ _ _ (by simp; omega), at_rep0]
  obtain ⟨tc0, htc0⟩ : ∃ tc0 : Int, (sz : Int) + ((2 : Nat) : Int) = tc0 := ⟨_, rfl⟩
  have htc1 : tc0 ≤ 1000 := by omega
  simp only [] at HE
  rw [htc0] at HE
  clear htc0
  generalize (List.replicate (sz + 1) (0 : Int)).set c 1 = L0 at HE hl0 hat0
  have HL0 := hide hl0
  have HA0 := hide hat0
  clear hl0 hat0
  go_wp2_with fail
  refine (All_any HE.out.mem).mono ?_
  rintro e w7 ⟨va, rfl, hva, p7⟩
  obtain ⟨ga, capa, rfl⟩ : ∃ ga capa, va = .slice (some ⟨ga, 0, none⟩) (sz + 1) capa := by
    rcases hva.form with ⟨_, h2⟩ | ⟨g, cap, _, h2, _⟩
    · have := congrArg List.length h2; simp [HL0.out] at this
    · rw [List.length_map, HL0.out] at h2; exact ⟨g, cap, h2⟩
  have HVA := hide hva
  have hga1 := (hva.block (g := ga) rfl).1
  have hga2 := (hva.block (g := ga) rfl).2
  have hm1 := Blk.lt HE.out.mem.mem
  have hm2 := Blk.lt HE.out.mem.cells
  have hga3 : w.heap.size ≤ ga := Nat.le_trans PP.out.size hga1
  have hgm : ga ≠ bm := by omega
  have hgc : ga ≠ bc := by omega
  have HE7 := hide (HE.out.only0 p7)
  have P7 := hide (PP.out.trans p7)
  have PW7 := hide P7.out
  clear hva p7 HE PP
  go_wp2_with fail
  go_loopg [21, 22] kc (fun q v iv wr => ∃ (j : Nat) (bo : Nat → Nat) (o : Nat → Vop) (vs : Value), q = kc - j ∧ j ≤ kc ∧ iv = .int .i64 j ∧ vs = v ∧ (∀ t, t < j → o t = ⟨4, c, 0, 0⟩) ∧ Fam (fun w b o => VopIs w b bm o) wr w7.heap.size j bo o ∧ Sl wr w7.heap.size 47 vs (ptrs j bo) ∧ VE wr vb bm bc 0 n tc0 L0 ∧ Sl wr w6.heap.size 31 (.slice (some ⟨ga, 0, none⟩) (sz + 1) capa) (L0.map (.int .u64)) ∧ Only S0 w wr ∧ w7.heap.size ≤ wr.heap.size)
  case atStart => exact ⟨0, fun _ => 0, fun _ => ⟨4, c, 0, 0⟩, _, rfl, by omega, rfl, rfl, fun _ _ => rfl, Fam.empty _ _ _ _ _, Sl.nil _ _ _, HE7.out, by exact HVA.out, P7.out, Nat.le_refl _⟩
  case round =>
  clear HE7 P7 HVA
  obtain ⟨j, bo, o, v, rfl, hj, rfl, rfl, hst, hf, hsl, he, hva, ho, hsz⟩ := hrel
  have HE := hide he
  have PP := hide ho
  have HF := hide hf
  have HSL := hide hsl
  have HST := hide hst
  have HVA := hide hva
  clear he ho hf hsl hst hva
  by_cases hjk : j < kc
  · go_wp2_with fail
    refine (VClaim_all x y HE.out).mono ?_
    rintro e w5 ⟨rb, rfl, h5, he5, o5, b5⟩
    rw [HC1.out, vo0_in HV.out] at h5
    have HE5 := hide he5
    have P5 := hide (PP.out.trans o5)
    have HF5 := hide (HF.out.snoc (vop_stays bm) o5 hsz h5 b5 (Blk.lt h5))
    have HSL5 := hide (HSL.out.only0 o5)
    have HVA5 := hide (HVA.out.only0 o5)
    have o5s := o5.size
    clear he5 o5 h5 b5
    go_wp2_with (at_builtin; refine wpList_app1 _ rfl (.tmp 73) (.tmp 78) 81 rfl 47 (.pointer none) 8 Try.underlying81 info_vop rfl w7.heap.size v (ptrs j bo) (.pointer (some ⟨rb, 0, none⟩)) rfl rfl HSL5.out rfl (by rw [ptrs_len]; omega) (by rw [ptrs_len]; unfold maxLen; omega) (Nat.le_trans hsz o5s) ?_; intro v' w6' hv' o6 hnew; have HSL6 := hide hv'; have HO6 := hide o6; clear hv' o6 hnew)
    have HOWN := hide (show ∀ b, v.ownBlock = some b → ∀ t cs, Blk w5 b t cs → t = 47 from by
      intro b hb t cs hbk
      refine Classical.byContradiction fun hne => ?_
      exact HSL5.out.ne_blk hbk (fun e => hne e.symm) hb)
    obtain ⟨csa, hbka⟩ := HVA5.out.blk
    have HE6 := hide (HE5.out.only HO6.out (fun h => by have := HOWN.out _ h _ _ HE5.out.vig; exact absurd this (by decide)) (fun h => by have := HOWN.out _ h _ _ HE5.out.mem.mem; exact absurd this (by decide)) (fun h => by have := HOWN.out _ h _ _ HE5.out.mem.cells; exact absurd this (by decide)))
    have HF6 := hide (HF5.out.only (vop_stays bm) HO6.out (fun t ht h => by have := HOWN.out _ h _ _ (HF5.out.at_ t ht); exact absurd this (by decide)))
    have HVA6 := hide (HVA5.out.only HO6.out (fun g' e h => by (have e2 : ga = g' := by simpa [Value.ownBlock] using e); subst e2; have := HOWN.out _ h _ _ hbka; exact absurd this (by decide)))
    have P6 := hide (P5.out.then HO6.out fun b hb hs => by have := (HSL5.out.block hs).1; have := PW7.out.size; omega)
    have hsz6 : w7.heap.size ≤ w6'.heap.size := Nat.le_trans (Nat.le_trans hsz o5s) HO6.out.size
    go_wp2_with fail
    go_roundg (kc - (j + 1))
    case rel =>
      refine ⟨j + 1, upd bo j rb, upd o j ⟨4, c, 0, 0⟩, _, rfl, by omega, by go_num, rfl, fun t ht => ?_, HF6.out, by rw [ptrs_snoc]; exact HSL6.out, HE6.out, HVA6.out, P6.out, hsz6⟩
      by_cases e : t = j
      · rw [e, upd_same]
      · rw [upd_ne _ _ e]; exact HST.out t (by omega)
    case measure => omega
  obtain rfl : j = kc := by omega
  go_upto_if 80 with fail
  go_cut [21] (fun s21 wx => ∃ (K : Nat) (bo : Nat → Nat) (o : Nat → Vop) (vs : Value), vs = s21 ∧ 1 ≤ K ∧ K ≤ 6 ∧ (∀ t, t < K → o t = ⟨4, c, 0, 0⟩ ∨ o t = ⟨2, c, 0, 0⟩) ∧ Fam (fun w b o => VopIs w b bm o) wx w7.heap.size K bo o ∧ Sl wx w7.heap.size 47 vs (ptrs K bo) ∧ VE wx vb bm bc 0 n tc0 L0 ∧ Sl wx w6.heap.size 31 (.slice (some ⟨ga, 0, none⟩) (sz + 1) capa) (L0.map (.int .u64)) ∧ Only S0 w wx)
  case first =>
    cases off with
    | false =>
      go_wp2_with fail
      go_meet
      exact ⟨j, bo, o, _, rfl, by omega, by omega, fun t ht => .inl (HST.out t ht), HF.out, HSL.out, HE.out, HVA.out, PP.out⟩
    | true =>
      go_wp2_with fail
      refine (VUnwatch_all x y HE.out).mono ?_
      rintro e w5 ⟨rb, rfl, h5, he5, o5, b5⟩
      rw [HC1.out, vo0_in HV.out] at h5
      have HE5 := hide he5
      have P5 := hide (PP.out.trans o5)
      have HF5 := hide (HF.out.snoc (vop_stays bm) o5 hsz h5 b5 (Blk.lt h5))
      have HSL5 := hide (HSL.out.only0 o5)
      have HVA5 := hide (HVA.out.only0 o5)
      have o5s := o5.size
      clear he5 o5 h5 b5
      go_wp2_with (at_builtin; refine wpList_app1 _ rfl (.tmp 81) (.tmp 86) 81 rfl 47 (.pointer none) 8 Try.underlying81 info_vop rfl w7.heap.size v (ptrs j bo) (.pointer (some ⟨rb, 0, none⟩)) rfl rfl HSL5.out rfl (by rw [ptrs_len]; omega) (by rw [ptrs_len]; unfold maxLen; omega) (Nat.le_trans hsz o5s) ?_; intro v' w6' hv' o6 hnew; have HSL6 := hide hv'; have HO6 := hide o6; clear hv' o6 hnew)
      have HOWN := hide (show ∀ b, v.ownBlock = some b → ∀ t cs, Blk w5 b t cs → t = 47 from by
        intro b hb t cs hbk
        refine Classical.byContradiction fun hne => ?_
        exact HSL5.out.ne_blk hbk (fun e => hne e.symm) hb)
      obtain ⟨csa, hbka⟩ := HVA5.out.blk
      have HE6 := hide (HE5.out.only HO6.out (fun h => by have := HOWN.out _ h _ _ HE5.out.vig; exact absurd this (by decide)) (fun h => by have := HOWN.out _ h _ _ HE5.out.mem.mem; exact absurd this (by decide)) (fun h => by have := HOWN.out _ h _ _ HE5.out.mem.cells; exact absurd this (by decide)))
      have HF6 := hide (HF5.out.only (vop_stays bm) HO6.out (fun t ht h => by have := HOWN.out _ h _ _ (HF5.out.at_ t ht); exact absurd this (by decide)))
      have HVA6 := hide (HVA5.out.only HO6.out (fun g' e h => by (have e2 : ga = g' := by simpa [Value.ownBlock] using e); subst e2; have := HOWN.out _ h _ _ hbka; exact absurd this (by decide)))
      have P6 := hide (P5.out.then HO6.out fun b hb hs => by have := (HSL5.out.block hs).1; have := PW7.out.size; omega)
      have hsz6 : w7.heap.size ≤ w6'.heap.size := Nat.le_trans (Nat.le_trans hsz o5s) HO6.out.size
      go_wp2_with fail
      go_meet
      refine ⟨j + 1, upd bo j rb, upd o j ⟨2, c, 0, 0⟩, _, rfl, by omega, by omega, fun t ht => ?_, HF6.out, by rw [ptrs_snoc]; exact HSL6.out, HE6.out, HVA6.out, P6.out⟩
      by_cases e : t = j
      · rw [e, upd_same]; exact .inr rfl
      · rw [upd_ne _ _ e]; exact .inl (HST.out t (by omega))
  case rest =>
  clear HE PP HF HSL HST HVA
  obtain ⟨K, bo, o, v, rfl, hK1, hK6, hst, hf, hsl, he, hva, ho⟩ := hcut
  have hon0 : VOnce sz c K L0 o := by
    refine ⟨HL0.out, hcs, fun i hi hne => by rw [HA0.out, if_neg hne], fun i hi => ?_, ?_⟩
    · rcases hst i hi with e | e
      · exact .inl e
      · exact .inr (.inr (.inr (.inl ⟨0, e⟩)))
    · rw [HA0.out, if_pos rfl, cntTo_congr (g := fun _ => false) fun i hi => by unfold vWon; rcases hst i hi with e | e <;> rw [e] <;> rfl]
      have : ∀ k, cntTo k (fun _ => false) = 0 := fun k => by
        induction k with
        | zero => rfl
        | succ k ih => simp [cntTo, ih]
      rw [this]; rfl
  have hrho0 : ∀ p, p < K → vrho c L0 (o p) ≤ 3 := by
    intro p hp
    rcases hst p hp with e | e <;> rw [e] <;> simp [vrho]
    split <;> omega
  have HE := hide he
  have PP := hide ho
  have HF := hide hf
  have HSL := hide hsl
  have HVA := hide hva
  have HON0 := hide hon0
  have HRHO0 := hide hrho0
  obtain ⟨g, cap, rfl⟩ : ∃ g cap, v = .slice (some ⟨g, 0, none⟩) K cap := by
    rcases hsl.form with ⟨_, h2⟩ | ⟨g, cap, _, h2, _⟩
    · have := ptrs_len K bo; rw [h2] at this; simp at this; omega
    · rw [ptrs_len] at h2; exact ⟨g, cap, h2⟩
  clear he ho hf hsl hst hva hon0 hrho0
  go_wp2_with fail
  go_loopg [23, 24] (len + 5 * K) (fun q iv pv wr => ∃ (t : Nat) (L : List Int) (o' : Nat → Vop) (tc : Int), q = len + 5 * K - t ∧ t ≤ len + 5 * K ∧ iv = .int .i64 t ∧ Fam (fun w b o => VopIs w b bm o) wr w7.heap.size K bo o' ∧ Sl wr w7.heap.size 47 (.slice (some ⟨g, 0, none⟩) K cap) (ptrs K bo) ∧
    VE wr vb bm bc 0 n tc L ∧ Sl wr w6.heap.size 31 (.slice (some ⟨ga, 0, none⟩) (sz + 1) capa) (L0.map (.int .u64)) ∧ tc ≤ 1000 + t ∧ VOnce sz c K L o' ∧ (∀ p, p < K → vrho c L (o' p) ≤ if t < len then 3 else vis K p t (len + 5 * K - t)) ∧ Only S0 w wr)
  case atStart =>
    refine ⟨0, L0, o, tc0, rfl, by omega, rfl, HF.out, HSL.out, HE.out, HVA.out, by omega, HON0.out, fun p hp => ?_, PP.out⟩
    have h1 := HRHO0.out p hp
    split
    · exact h1
    · have h2 := vis_rounds hp 5 0
      have : len = 0 := by omega
      subst this
      rw [show 0 + 5 * K - 0 = 5 * K by omega]
      omega
  case round =>
  clear HE PP HF HSL HVA HON0 HRHO0
  obtain ⟨t, L, o', tc, rfl, ht, rfl, hf, hsl, he, hva, htc', hon, hrho, ho⟩ := hrel
  have HE := hide he
  have PP := hide ho
  have HF := hide hf
  have HSL := hide hsl
  have HVA := hide hva
  have HON := hide hon
  have HRHO := hide hrho
  clear he ho hf hsl hva hon hrho
  by_cases htl : t < len + 5 * K
  · have hjz : ((K : Int) == 0) = false := by rw [beq_eq_false_iff_ne]; omega
    by_cases hlt : t < len
    · obtain ⟨g3, off3, rfl, hg3, hc3⟩ := HC5.out (by omega)
      have ce := (PP.out.cell (p := ⟨g3, off3 + t, none⟩) hg3 (fun h => h)).trans (hc3 t hlt)
      obtain ⟨x0, x1'⟩ := HX5.out t hlt
      have HCC := hide hc3
      clear hc3
      generalize elt xs t = xv at ce x0 x1'
      obtain ⟨p, hp⟩ : ∃ p : Nat, xv % (K : Int) = (p : Int) := ⟨(xv % (K : Int)).toNat, by have := Int.emod_nonneg xv (show (K : Int) ≠ 0 by omega); omega⟩
      have hpK : p < K := by have := Int.emod_lt_of_pos xv (show (0 : Int) < (K : Int) by omega); omega
      have cp := HSL.out.get (ptrs_get bo hpK)
      go_wp2_with fail
      refine (VStep_all HE.out.env ((HON.out.op p hpK).ok (by rw [HON.out.lenL]; have := HON.out.hc; omega)) (HF.out.at_ p hpK) (few_of _ (by omega))).mono ?_
      rintro e w8 ⟨rfl, h1, h2, o1⟩
      have HE8 := hide (HE.out.step o1 (HF.out.at_ p hpK) h2 (vstep_len _ _))
      have HF8 := hide (HF.out.step (vop_stays bm) hpK o1 (fun s hs hsp h => by
        rcases h with h | h | h
        · exact HF.out.ne s p hs hpK hsp h
        · exact Blk.ne_ (HF.out.at_ s hs) HE.out.mem.mem (by decide) h
        · exact Blk.ne_ (HF.out.at_ s hs) HE.out.mem.cells (by decide) h) h1)
      have HSL8 := hide (HSL.out.only3 o1 (HF.out.at_ p hpK) HE.out.mem.mem HE.out.mem.cells (by decide) (by decide) (by decide))
      have hge := HF.out.ge p hpK
      have hgesz := PW7.out.size
      have P8 := hide (S0.then3 PP.out o1 (by omega) c2 c3)
      have hbka2 := HVA.out.blk
      have HVA8 := hide (HVA.out.only o1 (fun g' e h => by (have e2 : ga = g' := by simpa [Value.ownBlock] using e); unfold S3 at h; omega))
      obtain ⟨hs1, hs2, hs3⟩ := HON.out.step hpK
      have HON8 := hide hs1
      have HR8 := hide hs2
      have HR9 := hide hs3
      have htk : vtick (o' p) ≤ 1 := by unfold vtick; split <;> omega
      have HTK := hide htk
      clear h1 h2 o1 hs1 hs2 hs3 cp hp htk hbka2
      generalize ((vstep L (o' p)).2.out != 0) = gb
      go_wp2_with fail
      go_roundg (len + 5 * K - (t + 1))
      case rel =>
        refine ⟨t + 1, _, _, _, rfl, by omega, by go_num, HF8.out, HSL8.out, HE8.out, HVA8.out, by have := HTK.out; omega, HON8.out, fun s hs => ?_, P8.out⟩
        have h1 : vrho c (vstep L (o' p)).1 (upd o' p (vstep L (o' p)).2 s) ≤ 3 := by
          by_cases e : s = p
          · subst e
            rw [upd_same]
            have := HRHO.out s hs
            rw [if_pos hlt] at this
            have := HR8.out
            omega
          · rw [upd_ne _ _ e]
            have := HRHO.out s hs
            rw [if_pos hlt] at this
            exact Nat.le_trans (HR9.out _ (HON.out.op s hs)) this
        split
        · exact h1
        · have h2 := vis_rounds hs 5 (t + 1)
          rw [show len + 5 * K - (t + 1) = 5 * K by omega]
          omega
      case measure => omega
    · obtain ⟨p, hpn⟩ : ∃ p : Nat, t % K = p := ⟨_, rfl⟩
      have hp : (t : Int) % (K : Int) = (p : Int) := by rw [← hpn]; exact (Int.natCast_emod t K).symm
      have hpK : p < K := by rw [← hpn]; exact Nat.mod_lt _ (by omega)
      have HPN := hide hpn
      clear hpn
      have cp := HSL.out.get (ptrs_get bo hpK)
      go_wp2_with fail
      refine (VStep_all HE.out.env ((HON.out.op p hpK).ok (by rw [HON.out.lenL]; have := HON.out.hc; omega)) (HF.out.at_ p hpK) (few_of _ (by omega))).mono ?_
      rintro e w8 ⟨rfl, h1, h2, o1⟩
      have HE8 := hide (HE.out.step o1 (HF.out.at_ p hpK) h2 (vstep_len _ _))
      have HF8 := hide (HF.out.step (vop_stays bm) hpK o1 (fun s hs hsp h => by
        rcases h with h | h | h
        · exact HF.out.ne s p hs hpK hsp h
        · exact Blk.ne_ (HF.out.at_ s hs) HE.out.mem.mem (by decide) h
        · exact Blk.ne_ (HF.out.at_ s hs) HE.out.mem.cells (by decide) h) h1)
      have HSL8 := hide (HSL.out.only3 o1 (HF.out.at_ p hpK) HE.out.mem.mem HE.out.mem.cells (by decide) (by decide) (by decide))
      have hge := HF.out.ge p hpK
      have hgesz := PW7.out.size
      have P8 := hide (S0.then3 PP.out o1 (by omega) c2 c3)
      have hbka2 := HVA.out.blk
      have HVA8 := hide (HVA.out.only o1 (fun g' e h => by (have e2 : ga = g' := by simpa [Value.ownBlock] using e); unfold S3 at h; omega))
      obtain ⟨hs1, hs2, hs3⟩ := HON.out.step hpK
      have HON8 := hide hs1
      have HR8 := hide hs2
      have HR9 := hide hs3
      have htk : vtick (o' p) ≤ 1 := by unfold vtick; split <;> omega
      have HTK := hide htk
      clear h1 h2 o1 hs1 hs2 hs3 cp hp htk hbka2
      generalize ((vstep L (o' p)).2.out != 0) = gb
      go_wp2_with fail
      go_roundg (len + 5 * K - (t + 1))
      case rel =>
        refine ⟨t + 1, _, _, _, rfl, by omega, by go_num, HF8.out, HSL8.out, HE8.out, HVA8.out, by have := HTK.out; omega, HON8.out, fun s hs => ?_, P8.out⟩
        rw [if_neg (by omega)]
        have h3 := HRHO.out s hs
        rw [if_neg hlt, show len + 5 * K - t = (len + 5 * K - (t + 1)) + 1 by omega] at h3
        simp only [vis, HPN.out] at h3
        by_cases e : s = p
        · subst e
          rw [upd_same]
          rw [if_pos rfl] at h3
          have := HR8.out
          omega
        · rw [upd_ne _ _ e]
          rw [if_neg (fun h => e h.symm)] at h3
          have := HR9.out _ (HON.out.op s hs)
          omega
      case measure => omega
  obtain rfl : t = len + 5 * K := by omega
  have hr0 : ∀ p, p < K → vrho c L (o' p) = 0 := by
    intro p hp
    have := HRHO.out p hp
    rw [if_neg (by omega), Nat.sub_self] at this
    simp only [vis] at this
    omega
  obtain ⟨hw1, hw2, hw3⟩ := HON.out.over (by omega) hr0
  have HW1 := hide hw1
  have HW2 := hide hw2
  have HW3 := hide hw3
  clear hr0 hw1 hw2 hw3 htl
  go_wp2_with fail
  go_loopg [25, 26] K (fun q wv iv wr => ∃ (t : Nat), q = K - t ∧ t ≤ K ∧ iv = .int .i64 t ∧ wv = .int .i64 (cntTo t (vWon o') : Nat) ∧ Fam (fun w b o => VopIs w b bm o) wr w7.heap.size K bo o' ∧ Sl wr w7.heap.size 47 (.slice (some ⟨g, 0, none⟩) K cap) (ptrs K bo) ∧
    VE wr vb bm bc 0 n tc L ∧ Sl wr w6.heap.size 31 (.slice (some ⟨ga, 0, none⟩) (sz + 1) capa) (L0.map (.int .u64)) ∧ Only S0 w wr)
  case atStart => exact ⟨0, rfl, by omega, rfl, rfl, HF.out, HSL.out, HE.out, HVA.out, PP.out⟩
  case round =>
  clear HE PP HF HSL HVA
  obtain ⟨t, rfl, ht, rfl, rfl, hf, hsl, he, hva, ho⟩ := hrel
  have HE := hide he
  have PP := hide ho
  have HF := hide hf
  have HSL := hide hsl
  have HVA := hide hva
  clear he ho hf hsl hva
  by_cases hlt : t < K
  · have cp := HSL.out.get (ptrs_get bo hlt)
    have hcl := cntTo_le t (vWon o')
    by_cases hwn : (o' t).out = 1
    · have hcs := hide (show cntTo (t + 1) (vWon o') = cntTo t (vWon o') + 1 by simp [cntTo, vWon, hwn])
      generalize cntTo t (vWon o') = cs at hcs hcl ⊢
      have HWN := hide hwn
      clear hwn
      go_wp2_with fail
      refine ((HF.out.at_ t hlt).over1 (HW3.out t hlt)).mono ?_
      rintro e w8 ⟨rfl, rfl⟩
      go_wp2_with fail
      refine (HF.out.at_ t hlt).outcome.mono ?_
      rintro e w8 ⟨rfl, rfl⟩
      rw [HWN.out]
      go_wp2_with fail
      go_roundg (K - (t + 1))
      case rel => exact ⟨t + 1, rfl, by omega, by go_num, by rw [hcs.out]; go_num, HF.out, HSL.out, HE.out, HVA.out, PP.out⟩
      case measure => omega
    · have hcs := hide (show cntTo (t + 1) (vWon o') = cntTo t (vWon o') by simp [cntTo, vWon, hwn])
      generalize cntTo t (vWon o') = cs at hcs hcl ⊢
      have hnb : ((o' t).out == 1) = false := by simp [hwn]
      have HOT := hide (HF.out.at_ t hlt).outcome
      generalize (o' t).out = ov at hnb HOT
      clear hwn
      go_wp2_with fail
      refine ((HF.out.at_ t hlt).over1 (HW3.out t hlt)).mono ?_
      rintro e w8 ⟨rfl, rfl⟩
      go_wp2_with fail
      refine HOT.out.mono ?_
      rintro e w8 ⟨rfl, rfl⟩
      go_wp2_with fail
      go_roundg (K - (t + 1))
      case rel => exact ⟨t + 1, rfl, by omega, by go_num, by rw [hcs.out], HF.out, HSL.out, HE.out, HVA.out, PP.out⟩
      case measure => omega
  obtain rfl : t = K := by omega
  rw [HW1.out]
  go_wp2_with fail
  refine (All_any HE.out.mem).mono ?_
  rintro e w8 ⟨vb2, rfl, hvb, p8⟩
  obtain ⟨gb, capb, rfl⟩ : ∃ gb capb, vb2 = .slice (some ⟨gb, 0, none⟩) (sz + 1) capb := by
    rcases hvb.form with ⟨_, h2⟩ | ⟨g, cap, _, h2, _⟩
    · have := congrArg List.length h2; simp [HON.out.lenL] at this
    · rw [List.length_map, HON.out.lenL] at h2; exact ⟨g, cap, h2⟩
  have HVB := hide hvb
  have HVA8 := hide (HVA.out.only0 p8)
  have P8 := hide (PP.out.trans p8)
  have hget : ∀ (M : List Int) (j : Nat), M.length = sz + 1 → j < sz + 1 → (M.map (Value.int .u64))[j]? = some (.int .u64 (at_ M (j : Int))) := by
    intro M j hM hj
    rw [List.getElem?_map, List.getElem?_eq_getElem (by rw [hM]; exact hj)]
    simp [at_, List.getD, hM, hj]
  have HGET := hide hget
  clear hvb p8 hget
  go_wp2_with fail
  go_loopg [28, 29] (sz + 1) (fun q cv iv wr => ∃ (j : Nat), q = sz + 1 - j ∧ j ≤ sz + 1 ∧ iv = .int .i64 j ∧ cv = .int .i64 (if c < j then 1 else 0) ∧ Only S0 w8 wr)
  case atStart => exact ⟨0, rfl, by omega, rfl, by rw [if_neg (by omega)], Only.refl _ _⟩
  case round =>
  obtain ⟨j, rfl, hj, rfl, rfl, ho⟩ := hrel
  have HO := hide ho
  clear ho
  by_cases hlt : j < sz + 1
  · have ca := (HVA8.out.only0 HO.out).get (HGET.out L0 j HL0.out hlt)
    have cb := (HVB.out.only0 HO.out).get (HGET.out L j HON.out.lenL hlt)
    by_cases hjc : j = c
    · have hne : (at_ L (j : Int) != at_ L0 (j : Int)) = true := by
        have := HW2.out
        rw [hjc, HA0.out, if_pos rfl]
        simpa using this
      generalize at_ L (j : Int) = y1 at cb hne
      generalize at_ L0 (j : Int) = y0 at ca hne
      rw [if_neg (by omega)]
      have hjc1 : c < j + 1 := by omega
      clear hjc
      go_wp2_with fail
      go_quiet (fail)
      go_wp2_with fail
      go_roundg (sz + 1 - (j + 1))
      case rel => exact ⟨j + 1, rfl, by omega, by go_num, by rw [if_pos hjc1], HO.out.drewN _⟩
      case measure => omega
    · have hne : (at_ L (j : Int) != at_ L0 (j : Int)) = false := by
        rw [HON.out.rest j (by omega) hjc, HA0.out, if_neg hjc]; rfl
      generalize at_ L (j : Int) = y1 at cb hne
      generalize at_ L0 (j : Int) = y0 at ca hne
      have hif := hide (show (if c < j + 1 then (1 : Int) else 0) = if c < j then 1 else 0 by split <;> split <;> omega)
      generalize (if c < j then (1 : Int) else 0) = cc at hif ⊢
      go_wp2_with fail
      go_quiet (fail)
      go_wp2_with fail
      go_roundg (sz + 1 - (j + 1))
      case rel => exact ⟨j + 1, rfl, by omega, by go_num, by rw [hif.out], HO.out.drewN _⟩
      case measure => omega
  · obtain rfl : j = sz + 1 := by omega
    rw [if_pos (by omega)]
    go_wp2_with fail
    go_ret
    exact ⟨rfl, S0.below (P8.out.trans HO.out)⟩
end Go.Proofs.Ytafnlmkhfonghaa
