/-
  The document's crew (trouperef20): over, has, rest.
-/
import Derived.Test.YtdoaipjdldknaaaGreatKRN2
namespace Go.Proofs.YtdoaipjdldknaaaGreat
open Go.RowKit
set_option linter.unusedVariables false
section
variable {w : World} {F : CLay}
theorem crover_any (out v : Int) : Calls Tryz.prog 45 #[.int .i64 out, .int .u64 v] w fun e w' => e = .returned (gwV (wOver out v)) ∧ Only S0 w w' := by
  have o1 := (Only.refl S0 w).alloc (.cells #[.bool true, .int .i64 0, .int .i64 0, .int .u64 0, .int .u64 0, .int .i64 out, .int .u64 v, .int .u64 0] 62)
  have HO := hide o1
  clear o1
  go_enter Tryz.func45, Tryz.ntmps45
  go_wp2_with fail
  refine bodyPost_ret (by simp [results, Tryz.results45, go_sem]; try rfl) rfl ?_
  exact ⟨rfl, HO.out⟩
theorem rhas_any (hF : F.Ok) (wk : Int) : Calls Tryz.prog 44 #[crewV F, .int .i64 wk] w fun e w' => e = .returned (.bool (decide (0 ≤ wk ∧ wk < F.n))) ∧ Only S0 w w' := by
  have o1 := (Only.refl S0 w).alloc (.cells #[.int .i64 F.base, .int .i64 F.n, .int .i64 F.slots, .int .i64 F.actors] 34)
  have HO := hide o1
  unfold crewV
  clear o1
  go_enter Tryz.func44, Tryz.ntmps44
  by_cases h0 : 0 ≤ wk
  · have d0 : decide (wk ≥ 0) = true := decide_eq_true h0
    go_wp2_with fail
    refine bodyPost_ret (v := .bool (decide (wk < F.n))) (by simp [results, Tryz.results44, go_sem]) rfl ⟨?_, HO.out⟩
    simp [h0]
  · have d0 : decide (wk ≥ 0) = false := decide_eq_false h0
    go_wp2_with fail
    refine bodyPost_ret (v := .bool false) (by simp [results, Tryz.results44, go_sem]) rfl ⟨?_, HO.out⟩
    simp
/-- The boxes of a call: the crew, the operation, the answer. -/
structure NX4 (w0 w : World) (b1 b2 b3 : Nat) (F : CLay) (kind wk V : Int) (lv : Value) : Prop where
  crew : Blk w b1 34 #[.int .i64 F.base, .int .i64 F.n, .int .i64 F.slots, .int .i64 F.actors]
  op : Blk w b2 59 #[.int .i64 kind, .int .i64 wk, .int .u64 V, lv]
  res : Blk w b3 62 #[.bool false, .int .i64 0, .int .i64 0, .int .u64 0, .int .u64 0, .int .i64 0, .int .u64 0, .int .u64 0]
  only : Only S0 w0 w
  ge : w0.heap.size ≤ b3
theorem nx4_new (w : World) (F : CLay) (kind wk V : Int) (lv : Value) : NX4 w (((w.alloc (.cells #[.int .i64 F.base, .int .i64 F.n, .int .i64 F.slots, .int .i64 F.actors] 34)).alloc (.cells #[.int .i64 kind, .int .i64 wk, .int .u64 V, lv] 59)).alloc (.cells #[.bool false, .int .i64 0, .int .i64 0, .int .u64 0, .int .u64 0, .int .i64 0, .int .u64 0, .int .u64 0] 62))
    w.heap.size (w.heap.size + 1) (w.heap.size + 1 + 1) F kind wk V lv := by
  refine ⟨((Blk.new w _ _).alloc _).alloc _, ?_, ?_, (((Only.refl S0 w).alloc _).alloc _).alloc _, by omega⟩
  · have := (Blk.new (w.alloc (.cells #[.int .i64 F.base, .int .i64 F.n, .int .i64 F.slots, .int .i64 F.actors] 34)) 59 #[.int .i64 kind, .int .i64 wk, .int .u64 V, lv]).alloc (.cells #[.bool false, .int .i64 0, .int .i64 0, .int .u64 0, .int .u64 0, .int .i64 0, .int .u64 0, .int .u64 0] 62)
    simpa using this
  · have := Blk.new ((w.alloc (.cells #[.int .i64 F.base, .int .i64 F.n, .int .i64 F.slots, .int .i64 F.actors] 34)).alloc (.cells #[.int .i64 kind, .int .i64 wk, .int .u64 V, lv] 59)) 62 #[.bool false, .int .i64 0, .int .i64 0, .int .u64 0, .int .u64 0, .int .i64 0, .int .u64 0, .int .u64 0]
    simpa using this
theorem NX4.only0 {w0 w w' : World} {b1 b2 b3 : Nat} {kind wk V : Int} {lv : Value} (h : NX4 w0 w b1 b2 b3 F kind wk V lv) (ho : Only S0 w w') : NX4 w0 w' b1 b2 b3 F kind wk V lv :=
  ⟨h.crew.only ho (fun h => h), h.op.only ho (fun h => h), h.res.only ho (fun h => h), h.only.trans ho, h.ge⟩
theorem nx5_of {w : World} {b1 b2 : Nat} {kind wk V : Int} {lv : Value} (h1 : Blk w b1 34 #[.int .i64 F.base, .int .i64 F.n, .int .i64 F.slots, .int .i64 F.actors]) (h2 : Blk w b2 59 #[.int .i64 kind, .int .i64 wk, .int .u64 V, lv]) :
    (w.cell? ⟨b1, 0, none⟩ = some (.int .i64 F.base) ∧ w.cell? ⟨b1, 1, none⟩ = some (.int .i64 F.n) ∧ w.cell? ⟨b1, 2, none⟩ = some (.int .i64 F.slots) ∧ w.cell? ⟨b1, 3, none⟩ = some (.int .i64 F.actors)) ∧ w.cell? ⟨b2, 1, none⟩ = some (.int .i64 wk) :=
  ⟨⟨h1.cellv rfl, h1.cellv rfl, h1.cellv rfl, h1.cellv rfl⟩, h2.cellv rfl⟩
theorem NX4.set {w0 w : World} {b1 b2 b3 x : Nat} {kind wk V : Int} {lv : Value} (h : NX4 w0 w b1 b2 b3 F kind wk V lv) (h1 : b1 ≠ x) (h2 : b2 ≠ x) (h3 : b3 ≠ x) (h0 : w0.heap.size ≤ x) (ov : Bool) (what cell aa bb out value : Int) :
    NX4 w0 ((((((((w.setCell ⟨x, 0, none⟩ (.bool ov)).setCell ⟨x, 1, none⟩ (.int .i64 what)).setCell ⟨x, 2, none⟩ (.int .i64 cell)).setCell ⟨x, 3, none⟩ (.int .u64 aa)).setCell ⟨x, 4, none⟩ (.int .u64 bb)).setCell ⟨x, 5, none⟩ (.int .i64 out)).setCell ⟨x, 6, none⟩ (.int .u64 value)).setCell ⟨x, 7, none⟩ (.int .u64 0)) b1 b2 b3 F kind wk V lv :=
  ⟨h.crew.only (want_only w x ov what cell aa bb out value) h1, h.op.only (want_only w x ov what cell aa bb out value) h2, h.res.only (want_only w x ov what cell aa bb out value) h3, h.only.then (want_only w x ov what cell aa bb out value) (fun j hj h => by have h' : j = x := h; exfalso; omega), h.ge⟩
/-- An answer in a block of its own. -/
structure AnsAt (w0 w : World) (v : Value) (W : GW) : Prop where
  ex : ∃ xq, v = .pointer (some ⟨xq, 0, none⟩) ∧ w0.heap.size ≤ xq ∧ Blk w xq 62 #[.bool W.over, .int .i64 W.what, .int .i64 W.cell, .int .u64 W.a, .int .u64 W.b, .int .i64 W.out, .int .u64 W.value, .int .u64 0]
set_option maxRecDepth 100000 in
set_option maxHeartbeats 4000000 in
theorem rrest_any (hF : F.Ok) (hb : F.base ≤ 60000) {i : Nat} (hi : i < F.n) {kind V : Int} {a : Option Addr} {len cap : Nat} {l : List Int} (hl : LogS w a len cap l) (hlen : len ≤ 1000000) (hu : AllU l) (hc : CProper F (.sleep i ⟨0, i, 0⟩) l) :
    Calls Tryz.prog 47 #[crewV F, .agg #[.int .i64 kind, .int .i64 i, .int .u64 V, .slice a len cap]] w fun e w' => e = .returned (gwV (cask F (l.foldl (cans F) (.sleep i ⟨0, i, 0⟩)))) ∧ Only S0 w w' := by
  have hwk : ∃ wk : Int, (i : Int) = wk := ⟨_, rfl⟩
  obtain ⟨wk, hwk⟩ := hwk
  have hP1 := fun (wx : World) (hx : Only S0 w wx) => rpart_any (w := wx) hF hb (PBeg.sleep i hi) (hl.only0 hx) hlen hu
  obtain ⟨hk1, hph⟩ := (phase_sleep F i).fold l (.b ⟨0, i, 0⟩) ⟨_, rfl⟩ rfl hc
  obtain ⟨p1, e1⟩ : ∃ p1, (prun F (.b ⟨0, i, 0⟩) l).1 = p1 := ⟨_, rfl⟩
  obtain ⟨n1, e2⟩ : ∃ n1, (prun F (.b ⟨0, i, 0⟩) l).2 = n1 := ⟨_, rfl⟩
  have hn1 := prun_le F l (.b ⟨0, i, 0⟩)
  rw [e2] at hn1
  rw [e1, e2] at hP1
  rw [e1, e2] at hph
  rw [e1] at hk1
  obtain ⟨W, hW⟩ : ∃ W, pask F p1 = W := ⟨_, rfl⟩
  rw [hW] at hP1
  have hw8 : 0 ≤ wk ∧ wk ≤ 8 := by have := hF.n8; omega
  have h0k := hw8.1
  have h8k := hw8.2
  rw [hwk] at hP1 ⊢
  rw [show (PSt.b ⟨0, i, 0⟩).bop = ⟨0, i, 0⟩ from rfl] at hph
  rw [hwk] at hph
  rw [hwk] at hc
  have HP1 := hide hP1
  have HPH := hide hph
  have HK1 := hide hk1
  have HW := hide hW
  have HL := hide hl
  have HU := hide hu
  have HF := hide hF
  have HN1 := hide hn1
  have hcl := hl.cap_
  have hcb := hl.big
  clear hP1 hph hk1 hW hl hu hF hc e1 e2 hn1
  have nd := nx4_new w F kind wk V (.slice a len cap)
  unfold crewV at *
  go_enter Tryz.func47, Tryz.ntmps47
  go_upto_region 1 with fail
  generalize (((w.alloc (.cells #[.int .i64 F.base, .int .i64 F.n, .int .i64 F.slots, .int .i64 F.actors] 34)).alloc (.cells #[.int .i64 kind, .int .i64 wk, .int .u64 V, .slice a len cap] 59)).alloc (.cells #[.bool false, .int .i64 0, .int .i64 0, .int .u64 0, .int .u64 0, .int .i64 0, .int .u64 0, .int .u64 0] 62)) = w0 at *
  generalize w.heap.size + 1 + 1 = b3 at *
  generalize w.heap.size + 1 = b2 at *
  generalize w.heap.size = b1 at *
  have HND := hide nd
  clear nd
  go_cut [5, 6] (fun v5 v6 wx => NX4 w wx b1 b2 b3 F kind wk V (.slice a len cap) ∧ AnsAt w0 wx v5 W ∧ v6 = .int .i64 n1)
  case first =>
    obtain ⟨ov, what, cell, aa, bb, out, value⟩ := W
    have c0 := HND.out.crew.cellv (i := 0) rfl; have c1 := HND.out.crew.cellv (i := 1) rfl; have c2 := HND.out.crew.cellv (i := 2) rfl; have c3 := HND.out.crew.cellv (i := 3) rfl
    have m0 := HND.out.op.cellv (i := 0) rfl; have m1 := HND.out.op.cellv (i := 1) rfl; have m2 := HND.out.op.cellv (i := 2) rfl; have m3 := HND.out.op.cellv (i := 3) rfl
    have HNX := hide (HP1.out w0 HND.out.only)
    unfold crewV at HNX
    go_wp2_with (go_at_call 48; (with_reducible refine HNX.out.mono ?_); rintro e w2 ⟨rfl, o1⟩; unfold gwV; have O1 := hide o1; have N2 := hide (HND.out.only0 o1); clear o1)
    go_meet
    refine ⟨?_, ⟨⟨w2.heap.size, rfl, ?_, ?_⟩⟩, rfl⟩
    · with_reducible exact N2.out.only0 ((Only.refl S0 w2).alloc _)
    · have := N2.out.only.size; have := O1.out.size; omega
    · with_reducible exact Blk.new w2 _ _
  case rest =>
    obtain ⟨hnd, ⟨xq, rfl, hxq, hx⟩, rfl⟩ := hcut
    have HND2 := hide hnd
    have HXQ := hide hxq
    clear hnd hxq
    obtain ⟨ov, what, cell, aa, bb, out, value⟩ := W
    have HX := hide hx
    clear hx
    have z0 := HX.out.cellv (i := 0) rfl
    have z1 := HX.out.cellv (i := 1) rfl
    have z2 := HX.out.cellv (i := 2) rfl
    have z3 := HX.out.cellv (i := 3) rfl
    have z4 := HX.out.cellv (i := 4) rfl
    have z5 := HX.out.cellv (i := 5) rfl
    have z6 := HX.out.cellv (i := 6) rfl
    have z7 := HX.out.cellv (i := 7) rfl
    have c0 := HND2.out.crew.cellv (i := 0) rfl; have c1 := HND2.out.crew.cellv (i := 1) rfl; have c2 := HND2.out.crew.cellv (i := 2) rfl; have c3 := HND2.out.crew.cellv (i := 3) rfl
    have m0 := HND2.out.op.cellv (i := 0) rfl; have m1 := HND2.out.op.cellv (i := 1) rfl; have m2 := HND2.out.op.cellv (i := 2) rfl; have m3 := HND2.out.op.cellv (i := 3) rfl
    by_cases h0 : p1.out = 0
    · obtain rfl : ov = false := by have := pask_go (F := F) h0; rw [HW.out] at this; exact this
      have HPE : p1.out = 0 := h0
      clear h0
      have r0 := HND2.out.res.cellv (i := 0) rfl; have r1 := HND2.out.res.cellv (i := 1) rfl; have r2 := HND2.out.res.cellv (i := 2) rfl; have r3 := HND2.out.res.cellv (i := 3) rfl; have r4 := HND2.out.res.cellv (i := 4) rfl; have r5 := HND2.out.res.cellv (i := 5) rfl; have r6 := HND2.out.res.cellv (i := 6) rfl; have r7 := HND2.out.res.cellv (i := 7) rfl
      have y0 := HND2.out.res.frozen 0; have y1 := HND2.out.res.frozen 1; have y2 := HND2.out.res.frozen 2; have y3 := HND2.out.res.frozen 3; have y4 := HND2.out.res.frozen 4; have y5 := HND2.out.res.frozen 5; have y6 := HND2.out.res.frozen 6; have y7 := HND2.out.res.frozen 7
      go_wp2_with fail
      (try simp only [Exit.inBlock, Exit.then])
      refine bodyPost_ret (by simp [results, Tryz.results47, go_sem, r0, r1, r2, r3, r4, r5, r6, r7]; try rfl) rfl ?_
      obtain ⟨o, rfl⟩ := HK1.out
      rcases HPH.out with ⟨_, h⟩ | ⟨h, _⟩
      · rw [h]
        refine ⟨?_, ?_⟩
        · rw [show cask F (CSt.sleep i (PSt.b o).bop) = pask F (PSt.b o) from rfl, HW.out]; rfl
        · have hge := HND2.out.ge
          exact HND2.out.only.then (want_only _ b3 false what cell aa bb out value) (fun j hj h => by have h' : j = b3 := h; exfalso; omega)
      · exact absurd HPE h
    · obtain rfl : ov = true := by have := (pask_over (F := F) h0).1; rw [HW.out] at this; exact this
      have HPE := hide h0
      clear h0
      have hn1 := HN1.out
      have hn2 : n1 ≤ len := by have := HL.out.len_; omega
      clear hn1
      go_upto_region 4 with fail
      go_cut [7] (fun v7 wx => ∃ a', v7 = .slice a' (len - n1) (cap - n1) ∧ (∀ g off, a = some ⟨g, off, none⟩ → n1 < cap → a' = some ⟨g, off + n1, none⟩) ∧ wc = wx)
      case first =>
        rcases Nat.lt_or_ge n1 cap with hcn | hcn
        · have hcn2 : ¬ cap = n1 := by omega
          go_wp2_with fail
          go_meet
          exact ⟨_, rfl, fun g off e _ => by rw [e]; simp [Addr.add], rfl⟩
        · obtain rfl : cap = n1 := by omega
          go_wp2_with fail
          go_meet
          exact ⟨a, by congr 1 <;> omega, fun g off _ h => by omega, rfl⟩
      case rest =>
        obtain ⟨a', rfl, ha', rfl⟩ := hcut
        have HL2 := hide (HL.out.drop hn2 ha')
        have hl2 := HL2.out
        have hcl2 := hl2.cap_
        have hcb2 := hl2.big
        have hlen2 : len - n1 ≤ 1000000 := by omega
        have hu2 : AllU (l.drop n1) := fun x hx => HU.out x (List.mem_of_mem_drop hx)
        obtain ⟨-, hf, hc2⟩ : 1 ≤ n1 ∧ l.foldl (cans F) (.sleep i ⟨0, wk, 0⟩) = (l.drop n1).foldl (cans F) (.take i (takeOp F.gb)) ∧ CProper F (.take i (takeOp F.gb)) (l.drop n1) := by
          rcases HPH.out with ⟨h, _⟩ | ⟨_, h⟩
          · exact absurd h HPE.out
          · exact h
        have HFD := hide hf
        have hP2 := fun (wx : World) (hx : Only S0 w wx) => rpart_any (w := wx) HF.out hb (PBeg.take (F := F) 0) (hl2.only0 hx) hlen2 hu2
        obtain ⟨hk2, hph2⟩ := (phase_take F i).fold (l.drop n1) (.g (takeOp F.gb)) ⟨_, rfl⟩ rfl hc2
        obtain ⟨p2, e1⟩ : ∃ p2, (prun F (.g (takeOp F.gb)) (l.drop n1)).1 = p2 := ⟨_, rfl⟩
        obtain ⟨n2, e2⟩ : ∃ n2, (prun F (.g (takeOp F.gb)) (l.drop n1)).2 = n2 := ⟨_, rfl⟩
        have hn3 := prun_le F (l.drop n1) (.g (takeOp F.gb))
        rw [e2] at hn3
        rw [← hl2.len_] at hn3
        rw [e1, e2] at hP2
        rw [e1, e2] at hph2
        rw [e1] at hk2
        obtain ⟨W2, hW2⟩ : ∃ W, pask F p2 = W := ⟨_, rfl⟩
        rw [hW2] at hP2
        rw [show (PSt.g (takeOp F.gb)).gop = takeOp F.gb from rfl] at hph2
        have HP2 := hide hP2
        have HPH2 := hide hph2
        have HK2 := hide hk2
        have HW2 := hide hW2
        have HU2 := hide hu2
        clear hP2 hph2 hk2 hW2 e1 e2 hf hc2 hl2 hu2 ha' hn2
        go_upto_region 5 with fail
        go_cut [8, 9] (fun v8 v9 wx => NX4 w wx b1 b2 b3 F kind wk V (.slice a len cap) ∧ AnsAt wc wx v8 W2 ∧ v9 = .int .i64 n2 ∧ Blk wx xq 62 #[.bool true, .int .i64 what, .int .i64 cell, .int .u64 aa, .int .u64 bb, .int .i64 out, .int .u64 value, .int .u64 0])
        case first =>
          obtain ⟨ov, what', cell', aa', bb', out', value'⟩ := W2
          have HNX := hide (HP2.out wc HND2.out.only)
          unfold crewV at HNX
          go_wp2_with (go_at_call 48; (with_reducible refine HNX.out.mono ?_); rintro e w2 ⟨rfl, o1⟩; unfold gwV; have O1 := hide o1; have N2 := hide (HND2.out.only0 o1); have X2 := hide (HX.out.only o1 (fun h => h)); clear o1)
          go_meet
          refine ⟨?_, ⟨⟨w2.heap.size, rfl, ?_, ?_⟩⟩, rfl, ?_⟩
          · with_reducible exact N2.out.only0 ((Only.refl S0 w2).alloc _)
          · have := O1.out.size; omega
          · with_reducible exact Blk.new w2 _ _
          · with_reducible exact X2.out.alloc _
        case rest =>
          have HXO := hide HX.out
          clear HX
          obtain ⟨hnd, ⟨xq2, rfl, hxq2, hx2⟩, rfl, hx⟩ := hcut
          have HND3 := hide hnd
          have HXQ2 := hide (show xq < xq2 from by have := Blk.lt HXO.out; omega)
          have HX := hide hx
          clear hnd hxq2 hx
          obtain ⟨ov, what', cell', aa', bb', out', value'⟩ := W2
          have HX2 := hide hx2
          clear hx2 z0 z1 z2 z3 z4 z5 z6 z7 c0 c1 c2 c3 m0 m1 m2 m3
          have z0 := HX2.out.cellv (i := 0) rfl
          have z1 := HX2.out.cellv (i := 1) rfl
          have z2 := HX2.out.cellv (i := 2) rfl
          have z3 := HX2.out.cellv (i := 3) rfl
          have z4 := HX2.out.cellv (i := 4) rfl
          have z5 := HX2.out.cellv (i := 5) rfl
          have z6 := HX2.out.cellv (i := 6) rfl
          have z7 := HX2.out.cellv (i := 7) rfl
          have c0 := HND3.out.crew.cellv (i := 0) rfl; have c1 := HND3.out.crew.cellv (i := 1) rfl; have c2 := HND3.out.crew.cellv (i := 2) rfl; have c3 := HND3.out.crew.cellv (i := 3) rfl
          have m0 := HND3.out.op.cellv (i := 0) rfl; have m1 := HND3.out.op.cellv (i := 1) rfl; have m2 := HND3.out.op.cellv (i := 2) rfl; have m3 := HND3.out.op.cellv (i := 3) rfl
          by_cases h0 : p2.out = 0
          · obtain rfl : ov = false := by have := pask_go (F := F) h0; rw [HW2.out] at this; exact this
            have HPE2 : p2.out = 0 := h0
            clear h0
            have r0 := HND3.out.res.cellv (i := 0) rfl; have r1 := HND3.out.res.cellv (i := 1) rfl; have r2 := HND3.out.res.cellv (i := 2) rfl; have r3 := HND3.out.res.cellv (i := 3) rfl; have r4 := HND3.out.res.cellv (i := 4) rfl; have r5 := HND3.out.res.cellv (i := 5) rfl; have r6 := HND3.out.res.cellv (i := 6) rfl; have r7 := HND3.out.res.cellv (i := 7) rfl
            have y0 := HND3.out.res.frozen 0; have y1 := HND3.out.res.frozen 1; have y2 := HND3.out.res.frozen 2; have y3 := HND3.out.res.frozen 3; have y4 := HND3.out.res.frozen 4; have y5 := HND3.out.res.frozen 5; have y6 := HND3.out.res.frozen 6; have y7 := HND3.out.res.frozen 7
            go_wp2_with fail
            (try simp only [Exit.inBlock, Exit.then])
            refine bodyPost_ret (by simp [results, Tryz.results47, go_sem, r0, r1, r2, r3, r4, r5, r6, r7]; try rfl) rfl ?_
            obtain ⟨o, rfl⟩ := HK2.out
            rcases HPH2.out with ⟨_, h⟩ | ⟨h, _⟩
            · rw [HFD.out, h]
              refine ⟨?_, ?_⟩
              · rw [show cask F (CSt.take i (PSt.g o).gop) = pask F (PSt.g o) from rfl, HW2.out]; rfl
              · have hge := HND3.out.ge
                exact HND3.out.only.then (want_only _ b3 false what' cell' aa' bb' out' value') (fun j hj h => by have h' : j = b3 := h; exfalso; omega)
            · exact absurd HPE2 h
          · obtain ⟨rfl, rfl⟩ : ov = true ∧ out' = p2.out := by have := pask_over (F := F) h0; rw [HW2.out] at this; exact this
            have HPE2 := hide h0
            clear h0
            by_cases h1 : p2.out = 1
            · have d1 : (p2.out == 1) = true := by simp [h1]
              rw [h1] at z5 d1
              have hx2' := HX2.out
              rw [h1] at hx2'
              clear HX2
              have HX2 := hide hx2'
              clear hx2'
              obtain ⟨g, rfl⟩ := HK2.out
              have hval : value' = gvalue g.ahead g.v 1 := by
                have e := HW2.out
                have hg0 : g.out ≠ 0 := HPE2.out
                have hg1 : g.out = 1 := h1
                rw [show pask F (PSt.g g) = wOver g.out (gvalue g.ahead g.v g.out) from by show askOf F.gb F.actors g = _; unfold askOf; rw [if_pos hg0]] at e
                injection e with _ _ _ _ _ _ e7
                rw [← e7, hg1]
              obtain ⟨-, hf, hc3⟩ : 1 ≤ n2 ∧ (l.drop n1).foldl (cans F) (.take i (takeOp F.gb)) = ((l.drop n1).drop n2).foldl (cans F) (.up i value' ⟨1, i, 0⟩) ∧ CProper F (.up i value' ⟨1, i, 0⟩) ((l.drop n1).drop n2) := by
                rcases HPH2.out with ⟨h, _⟩ | ⟨_, h⟩
                · exact absurd h HPE2.out
                · have h1' : g.out = 1 := h1
                  rw [show aftTake i (PSt.g g).gop = .up i value' ⟨1, i, 0⟩ from by show aftTake i g = _; unfold aftTake; rw [if_pos h1', hval]] at h
                  exact h
              have HFD2 := hide hf
              have hn4 : n2 ≤ len - n1 := hn3
              have hnx := fun (wx : World) (hx : Only S0 w wx) (a2 : Option Addr) (ha2 : ∀ g off, a' = some ⟨g, off, none⟩ → n2 < cap - n1 → a2 = some ⟨g, off + n2, none⟩) => rpart_any (w := wx) HF.out hb (PBeg.up (F := F) i hi) ((HL2.out.drop hn4 ha2).only0 hx) (by omega) (fun x hx => HU2.out x (List.mem_of_mem_drop hx))
              have hl4 := HL2.out.drop (k := n2) hn4 (a' := none.or (a'.map (fun x => x.add n2))) (by intro g off e _; rw [e]; simp [Addr.add])
              obtain ⟨hk3, hph3⟩ := (phase_up F i value').fold ((l.drop n1).drop n2) (.b ⟨1, i, 0⟩) ⟨_, rfl⟩ rfl hc3
              obtain ⟨p3, e1⟩ : ∃ p3, (prun F (.b ⟨1, i, 0⟩) ((l.drop n1).drop n2)).1 = p3 := ⟨_, rfl⟩
              obtain ⟨n3, e2⟩ : ∃ n3, (prun F (.b ⟨1, i, 0⟩) ((l.drop n1).drop n2)).2 = n3 := ⟨_, rfl⟩
              rw [e1, e2] at hnx
              rw [e1, e2] at hph3
              rw [e1] at hk3
              rw [show (PSt.b ⟨1, i, 0⟩).bop = ⟨1, i, 0⟩ from rfl] at hph3
              obtain ⟨W3, hW3⟩ : ∃ W, pask F p3 = W := ⟨_, rfl⟩
              rw [hW3, hwk] at hnx
              have HNX := hide hnx
              have HPH3 := hide hph3
              have HK3 := hide hk3
              have HW3 := hide hW3
              have HA2 := hide HL2.out.cap_
              clear hnx hph3 hk3 hW3 hl4 e1 e2 hf hc3 hn3 hval
              go_upto_region 10 with fail
              go_cut [] (fun wx => NX4 w wx b1 b2 b3 F kind wk V (.slice a len cap) ∧ Blk wx xq 62 #[.bool W3.over, .int .i64 W3.what, .int .i64 W3.cell, .int .u64 W3.a, .int .u64 W3.b, .int .i64 W3.out, .int .u64 W3.value, .int .u64 0] ∧ Blk wx xq2 62 #[.bool true, .int .i64 what', .int .i64 cell', .int .u64 aa', .int .u64 bb', .int .i64 1, .int .u64 value', .int .u64 0])
              case first =>
                have hwr : IntKind.u64.wrap wk = wk := IntWalk.u64_in _ (by omega)
                have z := nx5_of HND3.out.crew.drew HND3.out.op.drew
                have hl1 := Blk.lt HND.out.crew
                have hl2 := Blk.lt HND.out.op
                have hl3 := Blk.lt HND.out.res
                have hge := HND.out.only.size
                have hxq := HXQ.out
                have n1x : b1 ≠ xq := by omega
                have n2x : b2 ≠ xq := by omega
                have n1s : ¬ S1 xq b1 := n1x
                have n2s : ¬ S1 xq b2 := n2x
                have nxs : ¬ S1 xq xq2 := by have := HXQ2.out; intro h; have h' : xq2 = xq := h; omega
                have n3x : b3 ≠ xq := by omega
                have n0x : w.heap.size ≤ xq := by omega
                clear hl1 hl2 hl3 hge hxq
                obtain ⟨ov3, what3, cell3, aa3, bb3, out3, value3⟩ := W3
                rcases Nat.lt_or_ge n2 (cap - n1) with hcn | hcn
                · have hcn2 : ¬ cap - n1 = n2 := by omega
                  have hcall := HNX.out wc.drew HND3.out.only.drew (a'.map (fun x => x.add n2)) (by intro g off e _; rw [e]; simp [Addr.add])
                  have HC := hide hcall
                  unfold crewV at HC
                  clear hcall hcn
                  go_region_held3 (fun w' : World => (w'.cell? ⟨b1, 0, none⟩ = some (.int .i64 F.base) ∧ w'.cell? ⟨b1, 1, none⟩ = some (.int .i64 F.n) ∧ w'.cell? ⟨b1, 2, none⟩ = some (.int .i64 F.slots) ∧ w'.cell? ⟨b1, 3, none⟩ = some (.int .i64 F.actors)) ∧ w'.cell? ⟨b2, 1, none⟩ = some (.int .i64 wk)) (first | with_reducible exact z | with_reducible exact y | with_reducible exact nx5_of (N2.out.crew.only (want_only w2 xq ov3 what3 cell3 aa3 bb3 out3 value3) n1s) (N2.out.op.only (want_only w2 xq ov3 what3 cell3 aa3 bb3 out3 value3) n2s)) (first | (go_at_call 48; (try rw [hwr]); (with_reducible refine HC.out.mono ?_); rintro e w2 ⟨rfl, o1⟩; unfold gwV; have N2 := hide ((HND3.out.only0 ((Only.refl S0 _).drew)).only0 o1); have X2 := hide (HX.out.drew.only o1 (fun h => h)); have Y2 := hide (HX2.out.drew.only o1 (fun h => h)); have y := nx5_of N2.out.crew N2.out.op; have t0 := X2.out.cellv (i := 0) rfl; have t1 := X2.out.cellv (i := 1) rfl; have t2 := X2.out.cellv (i := 2) rfl; have t3 := X2.out.cellv (i := 3) rfl; have t4 := X2.out.cellv (i := 4) rfl; have t5 := X2.out.cellv (i := 5) rfl; have t6 := X2.out.cellv (i := 6) rfl; have t7 := X2.out.cellv (i := 7) rfl; have x0 := X2.out.frozen 0; have x1 := X2.out.frozen 1; have x2 := X2.out.frozen 2; have x3 := X2.out.frozen 3; have x4 := X2.out.frozen 4; have x5 := X2.out.frozen 5; have x6 := X2.out.frozen 6; have x7 := X2.out.frozen 7; clear o1))
                  all_goals (go_wp2_with fail; go_meet)
                  all_goals (refine ⟨?_, ?_, ?_⟩)
                  all_goals first
                    | with_reducible exact N2.out.set n1x n2x n3x n0x ov3 what3 cell3 aa3 bb3 out3 value3
                    | with_reducible exact want_set X2.out ov3 what3 cell3 aa3 bb3 out3 value3
                    | with_reducible exact Y2.out.only (want_only w2 xq ov3 what3 cell3 aa3 bb3 out3 value3) nxs
                · have hcall := HNX.out wc.drew HND3.out.only.drew a' (by intro g off _ h; omega)
                  clear HNX
                  generalize cap - n1 = c at *
                  obtain rfl : c = n2 := by omega
                  rw [Nat.sub_self, show len - n1 - c = 0 by omega] at hcall
                  have HC := hide hcall
                  unfold crewV at HC
                  clear hcall hcn
                  go_region_held3 (fun w' : World => (w'.cell? ⟨b1, 0, none⟩ = some (.int .i64 F.base) ∧ w'.cell? ⟨b1, 1, none⟩ = some (.int .i64 F.n) ∧ w'.cell? ⟨b1, 2, none⟩ = some (.int .i64 F.slots) ∧ w'.cell? ⟨b1, 3, none⟩ = some (.int .i64 F.actors)) ∧ w'.cell? ⟨b2, 1, none⟩ = some (.int .i64 wk)) (first | with_reducible exact z | with_reducible exact y | with_reducible exact nx5_of (N2.out.crew.only (want_only w2 xq ov3 what3 cell3 aa3 bb3 out3 value3) n1s) (N2.out.op.only (want_only w2 xq ov3 what3 cell3 aa3 bb3 out3 value3) n2s)) (first | (go_at_call 48; (try rw [hwr]); (with_reducible refine HC.out.mono ?_); rintro e w2 ⟨rfl, o1⟩; unfold gwV; have N2 := hide ((HND3.out.only0 ((Only.refl S0 _).drew)).only0 o1); have X2 := hide (HX.out.drew.only o1 (fun h => h)); have Y2 := hide (HX2.out.drew.only o1 (fun h => h)); have y := nx5_of N2.out.crew N2.out.op; have t0 := X2.out.cellv (i := 0) rfl; have t1 := X2.out.cellv (i := 1) rfl; have t2 := X2.out.cellv (i := 2) rfl; have t3 := X2.out.cellv (i := 3) rfl; have t4 := X2.out.cellv (i := 4) rfl; have t5 := X2.out.cellv (i := 5) rfl; have t6 := X2.out.cellv (i := 6) rfl; have t7 := X2.out.cellv (i := 7) rfl; have x0 := X2.out.frozen 0; have x1 := X2.out.frozen 1; have x2 := X2.out.frozen 2; have x3 := X2.out.frozen 3; have x4 := X2.out.frozen 4; have x5 := X2.out.frozen 5; have x6 := X2.out.frozen 6; have x7 := X2.out.frozen 7; clear o1))
                  all_goals (go_wp2_with fail; go_meet)
                  all_goals (refine ⟨?_, ?_, ?_⟩)
                  all_goals first
                    | with_reducible exact N2.out.set n1x n2x n3x n0x ov3 what3 cell3 aa3 bb3 out3 value3
                    | with_reducible exact want_set X2.out ov3 what3 cell3 aa3 bb3 out3 value3
                    | with_reducible exact Y2.out.only (want_only w2 xq ov3 what3 cell3 aa3 bb3 out3 value3) nxs
              case rest =>
                obtain ⟨hnd, hx, hx2⟩ := hcut
                clear z0 z1 z2 z3 z4 z5 z6 z7 c0 c1 c2 c3 m0 m1 m2 m3 HX HX2
                have HND4 := hide hnd
                obtain ⟨ov3, what3, cell3, aa3, bb3, out3, value3⟩ := W3
                have HX := hide hx
                have HX2 := hide hx2
                clear hnd hx hx2
                have z0 := HX.out.cellv (i := 0) rfl
                have z1 := HX.out.cellv (i := 1) rfl
                have z2 := HX.out.cellv (i := 2) rfl
                have z3 := HX.out.cellv (i := 3) rfl
                have z4 := HX.out.cellv (i := 4) rfl
                have z5 := HX.out.cellv (i := 5) rfl
                have z6 := HX.out.cellv (i := 6) rfl
                have z7 := HX.out.cellv (i := 7) rfl
                have t0 := HX2.out.cellv (i := 0) rfl
                have t1 := HX2.out.cellv (i := 1) rfl
                have t2 := HX2.out.cellv (i := 2) rfl
                have t3 := HX2.out.cellv (i := 3) rfl
                have t4 := HX2.out.cellv (i := 4) rfl
                have t5 := HX2.out.cellv (i := 5) rfl
                have t6 := HX2.out.cellv (i := 6) rfl
                have t7 := HX2.out.cellv (i := 7) rfl
                by_cases h0 : p3.out = 0
                · obtain rfl : ov3 = false := by have := pask_go (F := F) h0; rw [HW3.out] at this; exact this
                  have HPE3 : p3.out = 0 := h0
                  clear h0
                  have r0 := HND4.out.res.cellv (i := 0) rfl; have r1 := HND4.out.res.cellv (i := 1) rfl; have r2 := HND4.out.res.cellv (i := 2) rfl; have r3 := HND4.out.res.cellv (i := 3) rfl; have r4 := HND4.out.res.cellv (i := 4) rfl; have r5 := HND4.out.res.cellv (i := 5) rfl; have r6 := HND4.out.res.cellv (i := 6) rfl; have r7 := HND4.out.res.cellv (i := 7) rfl
                  have y0 := HND4.out.res.frozen 0; have y1 := HND4.out.res.frozen 1; have y2 := HND4.out.res.frozen 2; have y3 := HND4.out.res.frozen 3; have y4 := HND4.out.res.frozen 4; have y5 := HND4.out.res.frozen 5; have y6 := HND4.out.res.frozen 6; have y7 := HND4.out.res.frozen 7
                  go_wp2_with fail
                  (try simp only [Exit.inBlock, Exit.then])
                  refine bodyPost_ret (by simp [results, Tryz.results47, go_sem, r0, r1, r2, r3, r4, r5, r6, r7]; try rfl) rfl ?_
                  obtain ⟨o, rfl⟩ := HK3.out
                  rcases HPH3.out with ⟨_, h⟩ | ⟨h, _⟩
                  · rw [HFD.out, HFD2.out, h]
                    refine ⟨?_, ?_⟩
                    · rw [show cask F (CSt.up i value' (PSt.b o).bop) = pask F (PSt.b o) from rfl, HW3.out]; rfl
                    · have hge := HND4.out.ge
                      exact HND4.out.only.then (want_only _ b3 false what3 cell3 aa3 bb3 out3 value3) (fun j hj h => by have h' : j = b3 := h; exfalso; omega)
                  · exact absurd HPE3 h
                · obtain rfl : ov3 = true := by have := (pask_over (F := F) h0).1; rw [HW3.out] at this; exact this
                  have hf : ((l.drop n1).drop n2).foldl (cans F) (.up i value' ⟨1, i, 0⟩) = .over 1 value' := by
                    rcases HPH3.out with ⟨h, _⟩ | ⟨_, _, h, hp⟩
                    · exact absurd h h0
                    · rw [h, hp.over (by show (1 : Int) ≠ 0; decide)]
                      rfl
                  have HFD3 := hide hf
                  have OV := hide (fun (wx : World) => crover_any (w := wx) 1 value')
                  clear hf h0
                  go_wp2_with (go_at_call 45; refine (OV.out _).mono ?_; rintro e w2 ⟨rfl, o1⟩; unfold gwV wOver; have N2 := hide (HND4.out.only0 o1); clear o1; have r0 := N2.out.res.cellv (i := 0) rfl; have r1 := N2.out.res.cellv (i := 1) rfl; have r2 := N2.out.res.cellv (i := 2) rfl; have r3 := N2.out.res.cellv (i := 3) rfl; have r4 := N2.out.res.cellv (i := 4) rfl; have r5 := N2.out.res.cellv (i := 5) rfl; have r6 := N2.out.res.cellv (i := 6) rfl; have r7 := N2.out.res.cellv (i := 7) rfl; have y0 := N2.out.res.frozen 0; have y1 := N2.out.res.frozen 1; have y2 := N2.out.res.frozen 2; have y3 := N2.out.res.frozen 3; have y4 := N2.out.res.frozen 4; have y5 := N2.out.res.frozen 5; have y6 := N2.out.res.frozen 6; have y7 := N2.out.res.frozen 7)
                  (try simp only [Exit.inBlock, Exit.then])
                  refine bodyPost_ret (by simp [results, Tryz.results47, go_sem, r0, r1, r2, r3, r4, r5, r6, r7]; try rfl) rfl ?_
                  rw [HFD.out, HFD2.out, HFD3.out]
                  refine ⟨rfl, ?_⟩
                  have hge := N2.out.ge
                  exact N2.out.only.then (want_only _ b3 true 0 0 0 0 1 value') (fun j hj h => by have h' : j = b3 := h; exfalso; omega)
            · have d1 : (p2.out == 1) = false := by simp [h1]
              obtain ⟨g, rfl⟩ := HK2.out
              have hf : (l.drop n1).foldl (cans F) (.take i (takeOp F.gb)) = .over 4 0 := by
                rcases HPH2.out with ⟨h, _⟩ | ⟨_, _, h, hp⟩
                · exact absurd h HPE2.out
                · have h1' : ¬ g.out = 1 := h1
                  rw [show aftTake i (PSt.g g).gop = .over 4 0 from by show aftTake i g = _; unfold aftTake; rw [if_neg h1']] at h hp
                  rw [h, hp.over (by decide)]
                  rfl
              have HFD2 := hide hf
              have OV := hide (fun (wx : World) => crover_any (w := wx) 4 0)
              clear hf h1
              go_wp2_with (go_at_call 45; refine (OV.out _).mono ?_; rintro e w2 ⟨rfl, o1⟩; unfold gwV wOver; have N2 := hide (HND3.out.only0 o1); clear o1; have r0 := N2.out.res.cellv (i := 0) rfl; have r1 := N2.out.res.cellv (i := 1) rfl; have r2 := N2.out.res.cellv (i := 2) rfl; have r3 := N2.out.res.cellv (i := 3) rfl; have r4 := N2.out.res.cellv (i := 4) rfl; have r5 := N2.out.res.cellv (i := 5) rfl; have r6 := N2.out.res.cellv (i := 6) rfl; have r7 := N2.out.res.cellv (i := 7) rfl; have y0 := N2.out.res.frozen 0; have y1 := N2.out.res.frozen 1; have y2 := N2.out.res.frozen 2; have y3 := N2.out.res.frozen 3; have y4 := N2.out.res.frozen 4; have y5 := N2.out.res.frozen 5; have y6 := N2.out.res.frozen 6; have y7 := N2.out.res.frozen 7)
              (try simp only [Exit.inBlock, Exit.then])
              refine bodyPost_ret (by simp [results, Tryz.results47, go_sem, r0, r1, r2, r3, r4, r5, r6, r7]; try rfl) rfl ?_
              rw [HFD.out, HFD2.out]
              refine ⟨rfl, ?_⟩
              have hge := N2.out.ge
              exact N2.out.only.then (want_only _ b3 true 0 0 0 0 4 0) (fun j hj h => by have h' : j = b3 := h; exfalso; omega)
end
end Go.Proofs.YtdoaipjdldknaaaGreat
