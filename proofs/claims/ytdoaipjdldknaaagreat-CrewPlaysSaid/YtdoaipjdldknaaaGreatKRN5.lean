/-
  The document's crew (trouperef20): offer.
-/
import Derived.Test.YtdoaipjdldknaaaGreatKRN3
import Derived.Test.YtdoaipjdldknaaaGreatKRN4
namespace Go.Proofs.YtdoaipjdldknaaaGreat
open Go.RowKit
set_option linter.unusedVariables false
section
variable {w : World} {F : CLay}
set_option maxRecDepth 100000 in
set_option maxHeartbeats 4000000 in
theorem roffer_any (hF : F.Ok) (hb : F.base ≤ 60000) {kind wk V : Int} (hV : U64 V) {a : Option Addr} {len cap : Nat} {l : List Int} (hl : LogS w a len cap l) (hlen : len ≤ 1000000) (hu : AllU l) (hc : CProper F (offerC F wk V) l) :
    Calls Tryz.prog 43 #[crewV F, .agg #[.int .i64 kind, .int .i64 wk, .int .u64 V, .slice a len cap]] w fun e w' => e = .returned (gwV (cask F (l.foldl (cans F) (offerC F wk V)))) ∧ Only S0 w w' := by
  have HL := hide hl
  have HU := hide hu
  have HF := hide hF
  have HV := hide hV
  have HC := hide hc
  have hcl := hl.cap_
  have hcb := hl.big
  have hhas := fun (wx : World) => rhas_any (w := wx) hF wk
  obtain ⟨bh, hbh⟩ : ∃ bh, decide (0 ≤ wk ∧ wk < F.n) = bh := ⟨_, rfl⟩
  rw [hbh] at hhas
  have HHAS := hide hhas
  have HBH := hide hbh
  clear hhas hbh
  clear hl hu hF hV hc
  unfold crewV at HHAS
  have nd := nx4_new w F kind wk V (.slice a len cap)
  unfold crewV at *
  go_enter Tryz.func43, Tryz.ntmps43
  go_upto_region 1 with fail
  generalize (((w.alloc (.cells #[.int .i64 F.base, .int .i64 F.n, .int .i64 F.slots, .int .i64 F.actors] 34)).alloc (.cells #[.int .i64 kind, .int .i64 wk, .int .u64 V, .slice a len cap] 59)).alloc (.cells #[.bool false, .int .i64 0, .int .i64 0, .int .u64 0, .int .u64 0, .int .i64 0, .int .u64 0, .int .u64 0] 62)) = w0 at *
  generalize w.heap.size + 1 + 1 = b3 at *
  generalize w.heap.size + 1 = b2 at *
  generalize w.heap.size = b1 at *
  have HND := hide nd
  clear nd
  have c0 := HND.out.crew.cellv (i := 0) rfl; have c1 := HND.out.crew.cellv (i := 1) rfl; have c2 := HND.out.crew.cellv (i := 2) rfl; have c3 := HND.out.crew.cellv (i := 3) rfl
  have m0 := HND.out.op.cellv (i := 0) rfl; have m1 := HND.out.op.cellv (i := 1) rfl; have m2 := HND.out.op.cellv (i := 2) rfl; have m3 := HND.out.op.cellv (i := 3) rfl
  go_upto_if 18 with (go_at_call 44; (with_reducible refine (HHAS.out _).mono ?_); rintro e w1 ⟨rfl, o1⟩; have HND1 := hide (HND.out.only0 o1); clear o1)
  go_cut [5, 6] (fun v5 v6 wx => ∃ (fin : Bool) (a1 : Option Addr) (len1 cap1 : Nat) (l1 : List Int), v5 = .slice a1 len1 cap1 ∧ v6 = .bool fin ∧ LogS w a1 len1 cap1 l1 ∧ NX4 w wx b1 b2 b3 F kind wk V (.slice a len cap) ∧ len1 ≤ 1000000 ∧ AllU l1 ∧ l.foldl (cans F) (offerC F wk V) = l1.foldl (cans F) (InSt F V fin) ∧ CProper F (InSt F V fin) l1)
  case first =>
    clear c0 c1 c2 c3 m0 m1 m2 m3
    have c0 := HND1.out.crew.cellv (i := 0) rfl; have c1 := HND1.out.crew.cellv (i := 1) rfl; have c2 := HND1.out.crew.cellv (i := 2) rfl; have c3 := HND1.out.crew.cellv (i := 3) rfl
    have m0 := HND1.out.op.cellv (i := 0) rfl; have m1 := HND1.out.op.cellv (i := 1) rfl; have m2 := HND1.out.op.cellv (i := 2) rfl; have m3 := HND1.out.op.cellv (i := 3) rfl
    cases bh with
    | true =>
      have hin : 0 ≤ wk ∧ wk < F.n := of_decide_eq_true HBH.out
      obtain ⟨i, rfl⟩ := Int.eq_ofNat_of_zero_le hin.1
      have hi : i < F.n := by omega
      have hof : offerC F i V = .push i V (pushOp V) := by unfold offerC; rw [if_pos hin]; rfl
      have HOF := hide hof
      have h0k : (0 : Int) ≤ i := by omega
      clear hof
      obtain ⟨q, e1⟩ : ∃ q, (prun F (.d i (pushOp V)) l).1 = q := ⟨_, rfl⟩
      obtain ⟨n1, e2⟩ : ∃ n1, (prun F (.d i (pushOp V)) l).2 = n1 := ⟨_, rfl⟩
      have hn1 := prun_le F l (.d i (pushOp V))
      rw [e2, ← (HL.out).len_] at hn1
      have hph := push_l (by have := HC.out; rw [HOF.out] at this; exact this) e1 e2
      have hP := fun (wx : World) (hx : Only S0 w wx) => rpart_any (w := wx) HF.out hb (PBeg.d i 1 V hi (by omega) (by omega) HV.out) ((HL.out).only0 hx) hlen HU.out
      rw [show dbegin 1 V = pushOp V from rfl] at hP
      rw [e1, e2] at hP
      obtain ⟨W, hW⟩ : ∃ W, pask F q = W := ⟨_, rfl⟩
      rw [hW] at hP
      have HP := hide hP
      have HPH := hide hph
      have HW := hide hW
      clear hP hph hW e1 e2
      go_upto_region 4 with fail
      go_cut [7, 8] (fun v7 v8 wx => NX4 w wx b1 b2 b3 F kind i V (.slice a len cap) ∧ AnsAt w1 wx v7 W ∧ v8 = .int .i64 n1)
      case first =>
        obtain ⟨ov, what, cell, aa, bb, out, value⟩ := W
        have HNX := hide (HP.out w1 HND1.out.only)
        unfold crewV at HNX
        go_wp2_with (go_at_call 48; (with_reducible refine HNX.out.mono ?_); rintro e w2 ⟨rfl, o1⟩; unfold gwV; have O1 := hide o1; have N2 := hide (HND1.out.only0 o1); clear o1)
        go_meet
        refine ⟨?_, ⟨⟨w2.heap.size, rfl, ?_, ?_⟩⟩, rfl⟩
        · with_reducible exact N2.out.only0 ((Only.refl S0 w2).alloc _)
        · exact O1.out.size
        · with_reducible exact Blk.new w2 _ _
      case rest =>
        obtain ⟨hnd, ⟨xq, rfl, hxq, hx⟩, rfl⟩ := hcut
        have HND2 := hide hnd
        clear hnd hxq
        obtain ⟨ov, what, cell, aa, bb, out, value⟩ := W
        have HX := hide hx
        clear hx
        have z0 := HX.out.cellv (i := 0) rfl
        have z1 := HX.out.cellv (i := 1) rfl
        have z2 := HX.out.cellv (i := 2) rfl
        have z3 := HX.out.cellv (i := 3) rfl
        have z4 := HX.out.cellv (i := 4) rfl
        have z5 := HX.out.cellv (i := 5) rfl
        have z6 := HX.out.cellv (i := 6) rfl
        have z7 := HX.out.cellv (i := 7) rfl
        have c0 := HND2.out.crew.cellv (i := 0) rfl; have c1 := HND2.out.crew.cellv (i := 1) rfl; have c2 := HND2.out.crew.cellv (i := 2) rfl; have c3 := HND2.out.crew.cellv (i := 3) rfl
        have m0 := HND2.out.op.cellv (i := 0) rfl; have m1 := HND2.out.op.cellv (i := 1) rfl; have m2 := HND2.out.op.cellv (i := 2) rfl; have m3 := HND2.out.op.cellv (i := 3) rfl
        by_cases h0 : q.out = 0
        · obtain rfl : ov = false := by have := pask_go (F := F) h0; rw [HW.out] at this; exact this
          have HPE : q.out = 0 := h0
          clear h0
          have r0 := HND2.out.res.cellv (i := 0) rfl; have r1 := HND2.out.res.cellv (i := 1) rfl; have r2 := HND2.out.res.cellv (i := 2) rfl; have r3 := HND2.out.res.cellv (i := 3) rfl; have r4 := HND2.out.res.cellv (i := 4) rfl; have r5 := HND2.out.res.cellv (i := 5) rfl; have r6 := HND2.out.res.cellv (i := 6) rfl; have r7 := HND2.out.res.cellv (i := 7) rfl
          have y0 := HND2.out.res.frozen 0; have y1 := HND2.out.res.frozen 1; have y2 := HND2.out.res.frozen 2; have y3 := HND2.out.res.frozen 3; have y4 := HND2.out.res.frozen 4; have y5 := HND2.out.res.frozen 5; have y6 := HND2.out.res.frozen 6; have y7 := HND2.out.res.frozen 7
          go_wp2_with fail
          (try simp only [Exit.inBlock, Exit.then])
          refine bodyPost_ret (by simp [results, Tryz.results43, go_sem, r0, r1, r2, r3, r4, r5, r6, r7]; try rfl) rfl ?_
          rcases HPH.out with ⟨_, h⟩ | ⟨h, _⟩
          · rw [HOF.out, h, HW.out]
            refine ⟨rfl, ?_⟩
            have hge := HND2.out.ge
            exact HND2.out.only.then (want_only _ b3 false what cell aa bb out value) (fun j hj h => by have h' : j = b3 := h; exfalso; omega)
          · exact absurd HPE h
        · obtain ⟨rfl, rfl⟩ : ov = true ∧ out = q.out := by have := pask_over (F := F) h0; rw [HW.out] at this; exact this
          have HPE := hide h0
          have hlen1 : len - n1 ≤ 1000000 := by omega
          have hu1 : AllU (l.drop n1) := fun x hx => HU.out x (List.mem_of_mem_drop hx)
          have hst : l.foldl (cans F) (offerC F i V) = (l.drop n1).foldl (cans F) (InSt F V (q.out == 1)) ∧ CProper F (InSt F V (q.out == 1)) (l.drop n1) := by
            rcases HPH.out with ⟨h, _⟩ | ⟨_, _, _, h1, h2⟩
            · exact absurd h h0
            · rw [HOF.out]; exact ⟨h1, h2⟩
          have HST := hide hst
          have HU1 := hide hu1
          clear hst hu1 h0
          rcases Nat.lt_or_ge n1 cap with hcn | hcn
          · have hcn2 : ¬ cap = n1 := by omega
            go_wp2_with fail
            go_meet
            exact ⟨(q.out == 1), _, _, _, l.drop n1, rfl, rfl, HL.out.drop hn1 (by intro g off e _; rw [e]; simp [Addr.add]), HND2.out, hlen1, HU1.out, HST.out.1, HST.out.2⟩
          · obtain rfl : cap = n1 := by omega
            go_wp2_with fail
            go_meet
            refine ⟨(q.out == 1), a, 0, 0, l.drop cap, rfl, rfl, ?_, HND2.out, by omega, HU1.out, HST.out.1, HST.out.2⟩
            have := HL.out.drop hn1 (a' := a) (by intro g off _ h; omega)
            rw [Nat.sub_self, show len - cap = 0 by omega] at this
            exact this
    | false =>
      have hin : ¬ (0 ≤ wk ∧ wk < F.n) := of_decide_eq_false HBH.out
      have hof : offerC F wk V = .put V (putOp F.gb V) := by unfold offerC; rw [if_neg hin]
      have HOF := hide hof
      clear hof hin
      go_wp2_with fail
      go_meet
      refine ⟨false, a, len, cap, l, rfl, rfl, HL.out, HND1.out, hlen, HU.out, ?_, ?_⟩
      · rw [HOF.out]; rfl
      · have := HC.out; rw [HOF.out] at this; exact this
  case rest =>
    obtain ⟨fin0, a0, len0, cap0, l0, rfl, rfl, hl0, hnd0, hlen0, hu0, hst0, hpr0⟩ := hcut
    obtain ⟨M, hM⟩ : ∃ M, (if fin0 = true then 0 else l0.length + 1) * 1 = M := ⟨_, rfl⟩
    have HI := hide (And.intro hM.symm (And.intro hl0 (And.intro hnd0 (And.intro hlen0 (And.intro hu0 (And.intro hst0 hpr0))))))
    clear hM hl0 hnd0 hlen0 hu0 hst0 hpr0 c0 c1 c2 c3 m0 m1 m2 m3
    go_wp2_with fail
    go_loopg [5, 6] M (fun qq v5 v6 wx => ∃ (fin : Bool) (a1 : Option Addr) (len1 cap1 : Nat) (l1 : List Int), qq = (if fin = true then 0 else l1.length + 1) * 1 ∧ v5 = .slice a1 len1 cap1 ∧ v6 = .bool fin ∧ LogS w a1 len1 cap1 l1 ∧ NX4 w wx b1 b2 b3 F kind wk V (.slice a len cap) ∧ len1 ≤ 1000000 ∧ AllU l1 ∧ l.foldl (cans F) (offerC F wk V) = l1.foldl (cans F) (InSt F V fin) ∧ CProper F (InSt F V fin) l1)
    case atStart => exact ⟨fin0, a0, len0, cap0, l0, HI.out.1, rfl, rfl, HI.out.2.1, HI.out.2.2.1, HI.out.2.2.2.1, HI.out.2.2.2.2.1, HI.out.2.2.2.2.2.1, HI.out.2.2.2.2.2.2⟩
    case round =>
      clear HI
      obtain ⟨fin, a1, len1, cap1, l1, hq, rfl, rfl, hl1, hnd1, hlen1, hu1, hst1, hpr1⟩ := hrel
      have HL1 := hide hl1
      have HND2 := hide hnd1
      have HU1 := hide hu1
      have HST := hide (And.intro hst1 hpr1)
      have HQ := hide hq
      have hcl1 := hl1.cap_
      have hcb1 := hl1.big
      clear hl1 hnd1 hu1 hst1 hpr1 hq
      have c0 := HND2.out.crew.cellv (i := 0) rfl; have c1 := HND2.out.crew.cellv (i := 1) rfl; have c2 := HND2.out.crew.cellv (i := 2) rfl; have c3 := HND2.out.crew.cellv (i := 3) rfl
      have m0 := HND2.out.op.cellv (i := 0) rfl; have m1 := HND2.out.op.cellv (i := 1) rfl; have m2 := HND2.out.op.cellv (i := 2) rfl; have m3 := HND2.out.op.cellv (i := 3) rfl
      cases fin with
      | false =>
        obtain ⟨q, e1⟩ : ∃ q, (prun F (.g (putOp F.gb V)) l1).1 = q := ⟨_, rfl⟩
        obtain ⟨n1, e2⟩ : ∃ n1, (prun F (.g (putOp F.gb V)) l1).2 = n1 := ⟨_, rfl⟩
        have hn1 := prun_le F l1 (.g (putOp F.gb V))
        rw [e2, ← (HL1.out).len_] at hn1
        have hph := put_l HST.out.2 e1 e2
        have hP := fun (wx : World) (hx : Only S0 w wx) => rpart_any (w := wx) HF.out hb (PBeg.put V HV.out) ((HL1.out).only0 hx) hlen1 HU1.out
        rw [e1, e2] at hP
        obtain ⟨W, hW⟩ : ∃ W, pask F q = W := ⟨_, rfl⟩
        rw [hW] at hP
        have HP := hide hP
        have HPH := hide hph
        have HW := hide hW
        clear hP hph hW e1 e2
        go_upto_region 10 with fail
        go_cut [9, 10] (fun v9 v10 wx => NX4 w wx b1 b2 b3 F kind wk V (.slice a len cap) ∧ AnsAt wr wx v9 W ∧ v10 = .int .i64 n1)
        case first =>
          obtain ⟨ov, what, cell, aa, bb, out, value⟩ := W
          have HNX := hide (HP.out wr HND2.out.only)
          unfold crewV at HNX
          go_wp2_with (go_at_call 48; (with_reducible refine HNX.out.mono ?_); rintro e w2 ⟨rfl, o1⟩; unfold gwV; have O1 := hide o1; have N2 := hide (HND2.out.only0 o1); clear o1)
          go_meet
          refine ⟨?_, ⟨⟨w2.heap.size, rfl, ?_, ?_⟩⟩, rfl⟩
          · with_reducible exact N2.out.only0 ((Only.refl S0 w2).alloc _)
          · exact O1.out.size
          · with_reducible exact Blk.new w2 _ _
        case rest =>
          clear c0 c1 c2 c3 m0 m1 m2 m3
          obtain ⟨hnd, ⟨xq, rfl, hxq, hx⟩, rfl⟩ := hcut
          have HND3 := hide hnd
          clear hnd hxq
          obtain ⟨ov, what, cell, aa, bb, out, value⟩ := W
          have HX := hide hx
          clear hx
          have z0 := HX.out.cellv (i := 0) rfl
          have z1 := HX.out.cellv (i := 1) rfl
          have z2 := HX.out.cellv (i := 2) rfl
          have z3 := HX.out.cellv (i := 3) rfl
          have z4 := HX.out.cellv (i := 4) rfl
          have z5 := HX.out.cellv (i := 5) rfl
          have z6 := HX.out.cellv (i := 6) rfl
          have z7 := HX.out.cellv (i := 7) rfl
          have c0 := HND3.out.crew.cellv (i := 0) rfl; have c1 := HND3.out.crew.cellv (i := 1) rfl; have c2 := HND3.out.crew.cellv (i := 2) rfl; have c3 := HND3.out.crew.cellv (i := 3) rfl
          have m0 := HND3.out.op.cellv (i := 0) rfl; have m1 := HND3.out.op.cellv (i := 1) rfl; have m2 := HND3.out.op.cellv (i := 2) rfl; have m3 := HND3.out.op.cellv (i := 3) rfl
          by_cases h0 : q.out = 0
          · obtain rfl : ov = false := by have := pask_go (F := F) h0; rw [HW.out] at this; exact this
            have HPE : q.out = 0 := h0
            clear h0
            have r0 := HND3.out.res.cellv (i := 0) rfl; have r1 := HND3.out.res.cellv (i := 1) rfl; have r2 := HND3.out.res.cellv (i := 2) rfl; have r3 := HND3.out.res.cellv (i := 3) rfl; have r4 := HND3.out.res.cellv (i := 4) rfl; have r5 := HND3.out.res.cellv (i := 5) rfl; have r6 := HND3.out.res.cellv (i := 6) rfl; have r7 := HND3.out.res.cellv (i := 7) rfl
            have y0 := HND3.out.res.frozen 0; have y1 := HND3.out.res.frozen 1; have y2 := HND3.out.res.frozen 2; have y3 := HND3.out.res.frozen 3; have y4 := HND3.out.res.frozen 4; have y5 := HND3.out.res.frozen 5; have y6 := HND3.out.res.frozen 6; have y7 := HND3.out.res.frozen 7
            go_wp2_with fail
            (try simp only [Exit.inBlock, Exit.then])
            refine bodyPost_ret (by simp [results, Tryz.results43, go_sem, r0, r1, r2, r3, r4, r5, r6, r7]; try rfl) rfl ?_
            rcases HPH.out with ⟨_, h⟩ | ⟨h, _⟩
            · rw [HST.out.1, show InSt F V false = .put V (putOp F.gb V) from rfl, h, HW.out]
              refine ⟨rfl, ?_⟩
              have hge := HND3.out.ge
              exact HND3.out.only.then (want_only _ b3 false what cell aa bb out value) (fun j hj h => by have h' : j = b3 := h; exfalso; omega)
            · exact absurd HPE h
          · obtain ⟨rfl, rfl⟩ : ov = true ∧ out = q.out := by have := pask_over (F := F) h0; rw [HW.out] at this; exact this
            have HPE := hide h0
            have hlen2 : len1 - n1 ≤ 1000000 := by omega
            have hu2 : AllU (l1.drop n1) := fun x hx => HU1.out x (List.mem_of_mem_drop hx)
            have hst : 1 ≤ n1 ∧ l.foldl (cans F) (offerC F wk V) = (l1.drop n1).foldl (cans F) (InSt F V (q.out == 1)) ∧ CProper F (InSt F V (q.out == 1)) (l1.drop n1) := by
              rcases HPH.out with ⟨h, _⟩ | ⟨_, _, hn, h1, h2⟩
              · exact absurd h h0
              · exact ⟨hn, HST.out.1.trans h1, h2⟩
            have HST2 := hide hst
            have HU2 := hide hu2
            have hlt : (if (q.out == 1) = true then 0 else (l1.drop n1).length + 1) * 1 < (if false = true then 0 else l1.length + 1) * 1 := by
              have := HL1.out.len_
              have := hst.1
              rw [List.length_drop]
              split <;> simp <;> omega
            have HLT := hide (HQ.out ▸ hlt)
            clear hst hu2 h0 hlt
            rcases Nat.lt_or_ge n1 cap1 with hcn | hcn
            · have hcn2 : ¬ cap1 = n1 := by omega
              go_wp2_with fail
              go_roundg ((if (q.out == 1) = true then 0 else (l1.drop n1).length + 1) * 1)
              case rel => exact ⟨(q.out == 1), _, _, _, l1.drop n1, rfl, rfl, rfl, HL1.out.drop hn1 (by intro g off e _; rw [e]; simp [Addr.add]), HND3.out, hlen2, HU2.out, HST2.out.2.1, HST2.out.2.2⟩
              case measure => exact HLT.out
            · obtain rfl : cap1 = n1 := by omega
              go_wp2_with fail
              go_roundg ((if (q.out == 1) = true then 0 else (l1.drop cap1).length + 1) * 1)
              case rel =>
                refine ⟨(q.out == 1), a1, 0, 0, l1.drop cap1, rfl, rfl, rfl, ?_, HND3.out, by omega, HU2.out, HST2.out.2.1, HST2.out.2.2⟩
                have := HL1.out.drop hn1 (a' := a1) (by intro g off _ h; omega)
                rw [Nat.sub_self, show len1 - cap1 = 0 by omega] at this
                exact this
              case measure => exact HLT.out
      | true =>
        obtain ⟨q, e1⟩ : ∃ q, (prun F (.b ringB) l1).1 = q := ⟨_, rfl⟩
        obtain ⟨n1, e2⟩ : ∃ n1, (prun F (.b ringB) l1).2 = n1 := ⟨_, rfl⟩
        have hn1 := prun_le F l1 (.b ringB)
        rw [e2, ← (HL1.out).len_] at hn1
        have hph := ring_l HST.out.2 e1
        have hP := fun (wx : World) (hx : Only S0 w wx) => rpart_any (w := wx) HF.out hb (PBeg.ring) ((HL1.out).only0 hx) hlen1 HU1.out
        rw [e1, e2] at hP
        obtain ⟨W, hW⟩ : ∃ W, pask F q = W := ⟨_, rfl⟩
        rw [hW] at hP
        have HP := hide hP
        have HPH := hide hph
        have HW := hide hW
        clear hP hph hW e1 e2
        go_upto_region 15 with fail
        go_cut [11, 12] (fun v11 v12 wx => NX4 w wx b1 b2 b3 F kind wk V (.slice a len cap) ∧ AnsAt wr wx v11 W ∧ v12 = .int .i64 n1)
        case first =>
          obtain ⟨ov, what, cell, aa, bb, out, value⟩ := W
          have HNX := hide (HP.out wr HND2.out.only)
          unfold crewV at HNX
          go_wp2_with (go_at_call 48; (with_reducible refine HNX.out.mono ?_); rintro e w2 ⟨rfl, o1⟩; unfold gwV; have O1 := hide o1; have N2 := hide (HND2.out.only0 o1); clear o1)
          go_meet
          refine ⟨?_, ⟨⟨w2.heap.size, rfl, ?_, ?_⟩⟩, rfl⟩
          · with_reducible exact N2.out.only0 ((Only.refl S0 w2).alloc _)
          · exact O1.out.size
          · with_reducible exact Blk.new w2 _ _
        case rest =>
          clear c0 c1 c2 c3 m0 m1 m2 m3
          obtain ⟨hnd, ⟨xq, rfl, hxq, hx⟩, rfl⟩ := hcut
          have HND3 := hide hnd
          clear hnd hxq
          obtain ⟨ov, what, cell, aa, bb, out, value⟩ := W
          have HX := hide hx
          clear hx
          have z0 := HX.out.cellv (i := 0) rfl
          have z1 := HX.out.cellv (i := 1) rfl
          have z2 := HX.out.cellv (i := 2) rfl
          have z3 := HX.out.cellv (i := 3) rfl
          have z4 := HX.out.cellv (i := 4) rfl
          have z5 := HX.out.cellv (i := 5) rfl
          have z6 := HX.out.cellv (i := 6) rfl
          have z7 := HX.out.cellv (i := 7) rfl
          have c0 := HND3.out.crew.cellv (i := 0) rfl; have c1 := HND3.out.crew.cellv (i := 1) rfl; have c2 := HND3.out.crew.cellv (i := 2) rfl; have c3 := HND3.out.crew.cellv (i := 3) rfl
          have m0 := HND3.out.op.cellv (i := 0) rfl; have m1 := HND3.out.op.cellv (i := 1) rfl; have m2 := HND3.out.op.cellv (i := 2) rfl; have m3 := HND3.out.op.cellv (i := 3) rfl
          by_cases h0 : q.out = 0
          · obtain rfl : ov = false := by have := pask_go (F := F) h0; rw [HW.out] at this; exact this
            have HPE : q.out = 0 := h0
            clear h0
            have r0 := HND3.out.res.cellv (i := 0) rfl; have r1 := HND3.out.res.cellv (i := 1) rfl; have r2 := HND3.out.res.cellv (i := 2) rfl; have r3 := HND3.out.res.cellv (i := 3) rfl; have r4 := HND3.out.res.cellv (i := 4) rfl; have r5 := HND3.out.res.cellv (i := 5) rfl; have r6 := HND3.out.res.cellv (i := 6) rfl; have r7 := HND3.out.res.cellv (i := 7) rfl
            have y0 := HND3.out.res.frozen 0; have y1 := HND3.out.res.frozen 1; have y2 := HND3.out.res.frozen 2; have y3 := HND3.out.res.frozen 3; have y4 := HND3.out.res.frozen 4; have y5 := HND3.out.res.frozen 5; have y6 := HND3.out.res.frozen 6; have y7 := HND3.out.res.frozen 7
            go_wp2_with fail
            (try simp only [Exit.inBlock, Exit.then])
            refine bodyPost_ret (by simp [results, Tryz.results43, go_sem, r0, r1, r2, r3, r4, r5, r6, r7]; try rfl) rfl ?_
            rcases HPH.out with ⟨_, h⟩ | ⟨h, _⟩
            · rw [HST.out.1, show InSt F V true = .ring ringB from rfl, h, HW.out]
              refine ⟨rfl, ?_⟩
              have hge := HND3.out.ge
              exact HND3.out.only.then (want_only _ b3 false what cell aa bb out value) (fun j hj h => by have h' : j = b3 := h; exfalso; omega)
            · exact absurd HPE h
          · obtain rfl : ov = true := by have := (pask_over (F := F) h0).1; rw [HW.out] at this; exact this
            have hf : l1.foldl (cans F) (InSt F V true) = .over 1 0 := by
              rcases HPH.out with ⟨h, _⟩ | ⟨_, h⟩
              · exact absurd h h0
              · exact h
            have HFD := hide hf
            have OV := hide (fun (wx : World) => crover_any (w := wx) 1 0)
            clear hf h0
            go_wp2_with (go_at_call 45; refine (OV.out _).mono ?_; rintro e w2 ⟨rfl, o1⟩; unfold gwV wOver; have N2 := hide (HND3.out.only0 o1); clear o1; have r0 := N2.out.res.cellv (i := 0) rfl; have r1 := N2.out.res.cellv (i := 1) rfl; have r2 := N2.out.res.cellv (i := 2) rfl; have r3 := N2.out.res.cellv (i := 3) rfl; have r4 := N2.out.res.cellv (i := 4) rfl; have r5 := N2.out.res.cellv (i := 5) rfl; have r6 := N2.out.res.cellv (i := 6) rfl; have r7 := N2.out.res.cellv (i := 7) rfl; have y0 := N2.out.res.frozen 0; have y1 := N2.out.res.frozen 1; have y2 := N2.out.res.frozen 2; have y3 := N2.out.res.frozen 3; have y4 := N2.out.res.frozen 4; have y5 := N2.out.res.frozen 5; have y6 := N2.out.res.frozen 6; have y7 := N2.out.res.frozen 7)
            (try simp only [Exit.inBlock, Exit.then])
            refine bodyPost_ret (by simp [results, Tryz.results43, go_sem, r0, r1, r2, r3, r4, r5, r6, r7]; try rfl) rfl ?_
            rw [HST.out.1, HFD.out]
            refine ⟨rfl, ?_⟩
            have hge := N2.out.ge
            exact N2.out.only.then (want_only _ b3 true 0 0 0 0 1 0) (fun j hj h => by have h' : j = b3 := h; exfalso; omega)
end
end Go.Proofs.YtdoaipjdldknaaaGreat
