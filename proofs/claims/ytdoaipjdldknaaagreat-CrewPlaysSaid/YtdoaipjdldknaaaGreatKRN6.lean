/-
  The document's crew (trouperef20): find.
-/
import Derived.Test.YtdoaipjdldknaaaGreatKRN3
import Derived.Test.YtdoaipjdldknaaaGreatKRN4
import Derived.Test.YtdoaipjdldknaaaGreatKLotR
namespace Go.Proofs.YtdoaipjdldknaaaGreat
open Go.RowKit
set_option linter.unusedVariables false
/-- The sources of a Find. -/
def srcsOf (i : Nat) (order : List Nat) : List Src := .pop i :: .take :: order.map .steal
theorem srcs_drop {i : Nat} {order : List Nat} {k : Nat} (h : k < 2 + order.length) : ∃ s, (srcsOf i order).drop k = s :: (srcsOf i order).drop (k + 1) ∧ (srcsOf i order)[k]? = some s := by
  have hl : k < (srcsOf i order).length := by simp [srcsOf]; omega
  exact ⟨(srcsOf i order)[k], List.drop_eq_getElem_cons hl, List.getElem?_eq_getElem hl⟩
theorem srcs_end {i : Nat} {order : List Nat} : (srcsOf i order).drop (2 + order.length) = [] := by
  apply List.drop_eq_nil_of_le
  simp [srcsOf]; omega
theorem ordN_le : ∀ (f d : Nat) (l : List Nat), (ordN f d l).length ≤ f
  | 0, d, l => by simp [ordN]
  | f + 1, d, l => by
    by_cases h : l = []
    · subst h; rw [ordN_nil]; simp
    · rw [ordN_succ f d l h, List.length_cons]
      have := ordN_le f (d / l.length) (l.eraseIdx (d % l.length))
      omega
theorem srcs_at {i : Nat} {order : List Nat} {k : Nat} {s : Src} (h : (srcsOf i order)[k]? = some s) : (k = 0 → s = .pop i) ∧ (k = 1 → s = .take) ∧ (2 ≤ k → s = .steal (order.getD (k - 2) 0) ∧ k - 2 < order.length) := by
  refine ⟨fun e => ?_, fun e => ?_, fun e => ?_⟩
  · subst e; simpa [srcsOf] using h.symm
  · subst e; simpa [srcsOf] using h.symm
  · obtain ⟨j, rfl⟩ : ∃ j, k = j + 2 := ⟨k - 2, by omega⟩
    rw [Nat.add_sub_cancel]
    have h' : (order.map Src.steal)[j]? = some s := by simpa [srcsOf] using h
    rw [List.getElem?_map] at h'
    have hj : j < order.length := by
      rcases Nat.lt_or_ge j order.length with hj | hj
      · exact hj
      · rw [List.getElem?_eq_none (by omega)] at h'; cases h'
    rw [List.getElem?_eq_getElem hj] at h'
    refine ⟨?_, hj⟩
    simp only [Option.map_some, Option.some.injEq] at h'
    rw [← h']
    simp [List.getD, hj]
theorem src_beg {F : CLay} {i k : Nat} {wk : Int} {order : List Nat} {s : Src} (hi : i < F.n) (hwk : (i : Int) = wk) (ho : ∀ v, v ∈ order → v < F.n) (h : (srcsOf i order)[k]? = some s) :
    (k ≤ 1 → PBeg F (if k = 1 then 2 else 1) wk 2 0 (s.part F)) ∧ (2 ≤ k → PBeg F (if k = 1 then 2 else 1) (order.getD (k - 2) 0 : Nat) 3 0 (s.part F)) := by
  obtain ⟨h0, h1, h2⟩ := srcs_at h
  refine ⟨fun hk => ?_, fun hk => ?_⟩
  · rcases Nat.lt_or_ge k 1 with hk0 | hk0
    · obtain rfl := h0 (by omega)
      rw [if_neg (by omega), ← hwk]
      exact PBeg.d i 2 0 hi (by decide) (by decide) u64_zero
    · obtain rfl := h1 (by omega)
      rw [if_pos (by omega)]
      exact PBeg.take wk
  · obtain ⟨rfl, hj⟩ := h2 hk
    rw [if_neg (by omega)]
    refine PBeg.d _ 3 0 (ho _ ?_) (by decide) (by decide) u64_zero
    rw [List.getD, List.getElem?_eq_getElem hj]
    exact List.getElem_mem hj
/-- A slice of small numbers. -/
structure OrdS (w : World) (v : Value) (o : List Nat) : Prop where
  ex : ∃ a cap, v = .slice a o.length cap ∧ (o.length ≠ 0 → ∃ g off, a = some ⟨g, off, none⟩ ∧ g < w.heap.size ∧ ∀ i, i < o.length → w.cell? ⟨g, off + i, none⟩ = some (.int .i64 (o.getD i 0 : Nat)))
theorem OrdS.of {w : World} {v : Value} {o : List Nat} (h : Rd w v (vN o)) : OrdS w v o := by
  obtain ⟨a, cap, hv, hc⟩ := h
  have hl : (vN o).length = o.length := by simp [vN]
  rw [hl] at hv hc
  refine ⟨a, cap, hv, fun hn => ?_⟩
  obtain ⟨g, off, ha, hg, hx⟩ := hc hn
  refine ⟨g, off, ha, hg, fun i hi => hx i _ ?_⟩
  unfold vN
  rw [List.getElem?_map, List.getElem?_eq_getElem hi]
  simp [List.getD, hi]
theorem OrdS.only0 {w w' : World} {v : Value} {o : List Nat} (h : OrdS w v o) (ho : Only S0 w w') : OrdS w' v o := by
  obtain ⟨a, cap, hv, hc⟩ := h.ex
  refine ⟨a, cap, hv, fun hn => ?_⟩
  obtain ⟨g, off, ha, hg, hx⟩ := hc hn
  exact ⟨g, off, ha, Nat.lt_of_lt_of_le hg ho.size, fun i hi => (ho.cell (p := ⟨g, off + i, none⟩) hg (fun h => h)).trans (hx i hi)⟩
section
variable {w : World} {F : CLay}
set_option maxRecDepth 100000 in
set_option maxHeartbeats 4000000 in
theorem rfind_any (hF : F.Ok) (hb : F.base ≤ 60000) {i : Nat} (hi : i < F.n) {kind V : Int} (hV : U64 V) {a : Option Addr} {len cap : Nat} {l : List Int} (hl : LogS w a len cap l) (hlen : len ≤ 1000000) (hu : AllU l) (hc : CProper F (ctry F (srcsOf i (ordZ V.toNat F.n i))) l) :
    Calls Tryz.prog 46 #[crewV F, .agg #[.int .i64 kind, .int .i64 i, .int .u64 V, .slice a len cap]] w fun e w' => e = .returned (gwV (cask F (l.foldl (cans F) (ctry F (srcsOf i (ordZ V.toNat F.n i)))))) ∧ Only S0 w w' := by
  obtain ⟨wk, hwk⟩ : ∃ wk : Int, (i : Int) = wk := ⟨_, rfl⟩
  obtain ⟨dN, rfl⟩ := Int.eq_ofNat_of_zero_le hV.1
  have hord := fun (wx : World) => RefOrder_good dN F.n i wx (by have := hV.2; omega) hF.n8 hi
  have hoz : ordZ dN F.n i = ordN (othN F.n i).length dN (othN F.n i) := by unfold ordZ; rw [othZ_good F.n i hF.n8 hi]
  have hot : ∀ v, v ∈ ordZ dN F.n i → v < F.n := fun v hv => ordZ_lt hi hF.n8 hv
  have hol : (ordZ dN F.n i).length ≤ 8 := by rw [hoz]; have := ordN_le (othN F.n i).length dN (othN F.n i); have := othN_len F.n i hi; have := hF.n8; omega
  rw [← hoz] at hord
  rw [Int.toNat_natCast] at hc ⊢
  obtain ⟨ord, ho⟩ : ∃ ord, ordZ dN F.n i = ord := ⟨_, rfl⟩
  rw [ho] at hord hot hol hc ⊢
  obtain ⟨SS, hSS⟩ : ∃ SS, srcsOf i ord = SS := ⟨_, rfl⟩
  rw [hSS] at hc ⊢
  obtain ⟨V, hVe⟩ : ∃ V : Int, (dN : Int) = V := ⟨_, rfl⟩
  rw [hwk, hVe] at hord
  rw [hwk, hVe]
  have HORD := hide hord
  have HOT := hide hot
  have HSS := hide hSS
  have HWK := hide hwk
  have HL := hide hl
  have HU := hide hu
  have HF := hide hF
  have HC := hide hc
  have hcl := hl.cap_
  have hcb := hl.big
  have h0k : 0 ≤ wk ∧ wk ≤ 8 := by have := hF.n8; omega
  have HI := hide hi
  clear hl hu hF hV hc hord hot hSS hwk ho hoz hVe hi
  have nd := nx4_new w F kind wk V (.slice a len cap)
  unfold crewV at *
  go_enter Tryz.func46, Tryz.ntmps46
  go_upto_region 1 with fail
  generalize (((w.alloc (.cells #[.int .i64 F.base, .int .i64 F.n, .int .i64 F.slots, .int .i64 F.actors] 34)).alloc (.cells #[.int .i64 kind, .int .i64 wk, .int .u64 V, .slice a len cap] 59)).alloc (.cells #[.bool false, .int .i64 0, .int .i64 0, .int .u64 0, .int .u64 0, .int .i64 0, .int .u64 0, .int .u64 0] 62)) = w0 at *
  generalize w.heap.size + 1 + 1 = b3 at *
  generalize w.heap.size + 1 = b2 at *
  generalize w.heap.size = b1 at *
  have HND := hide nd
  clear nd
  have c0 := HND.out.crew.cellv (i := 0) rfl; have c1 := HND.out.crew.cellv (i := 1) rfl; have c2 := HND.out.crew.cellv (i := 2) rfl; have c3 := HND.out.crew.cellv (i := 3) rfl
  have m0 := HND.out.op.cellv (i := 0) rfl; have m1 := HND.out.op.cellv (i := 1) rfl; have m2 := HND.out.op.cellv (i := 2) rfl; have m3 := HND.out.op.cellv (i := 3) rfl
  go_wp2_with (go_at_call 79; (with_reducible refine (HORD.out _).mono ?_); rintro e w1 ⟨vo, rfl, hvo, o1⟩; have HND1 := hide (HND.out.only0 o1); have HOS := hide (OrdS.of hvo.rd); clear o1 hvo)
  go_loopg [5, 7] ((2 + ord.length) * 1) (fun qq v5 v7 wx => ∃ (k : Nat) (a1 : Option Addr) (len1 cap1 : Nat) (l1 : List Int), qq = (2 + ord.length - k) * 1 ∧ k ≤ 2 + ord.length ∧ v7 = .int .i64 k ∧ v5 = .slice a1 len1 cap1 ∧ LogS w a1 len1 cap1 l1 ∧ NX4 w wx b1 b2 b3 F kind wk V (.slice a len cap) ∧ OrdS wx vo ord ∧ len1 ≤ 1000000 ∧ AllU l1 ∧ l.foldl (cans F) (ctry F SS) = l1.foldl (cans F) (ctry F (SS.drop k)) ∧ CProper F (ctry F (SS.drop k)) l1)
  case atStart => exact ⟨0, a, len, cap, l, rfl, Nat.zero_le _, rfl, rfl, HL.out, HND1.out, HOS.out, hlen, HU.out, rfl, HC.out⟩
  case round =>
    clear c0 c1 c2 c3 m0 m1 m2 m3 HND1 HOS
    obtain ⟨k, a1, len1, cap1, l1, hq, hk2, rfl, rfl, hl1, hnd1, hos1, hlen1, hu1, hst1, hpr1⟩ := hrel
    have HL1 := hide hl1
    have HND2 := hide hnd1
    have HOS := hide hos1
    have HU1 := hide hu1
    have HST := hide (And.intro hst1 hpr1)
    have HQ := hide hq
    have hcl1 := hl1.cap_
    have hcb1 := hl1.big
    clear hl1 hnd1 hos1 hu1 hst1 hpr1 hq
    have c0 := HND2.out.crew.cellv (i := 0) rfl; have c1 := HND2.out.crew.cellv (i := 1) rfl; have c2 := HND2.out.crew.cellv (i := 2) rfl; have c3 := HND2.out.crew.cellv (i := 3) rfl
    have m0 := HND2.out.op.cellv (i := 0) rfl; have m1 := HND2.out.op.cellv (i := 1) rfl; have m2 := HND2.out.op.cellv (i := 2) rfl; have m3 := HND2.out.op.cellv (i := 3) rfl
    obtain ⟨ao, co, rfl, hoc⟩ := HOS.out.ex
    have HOC := hide hoc
    clear hoc
    by_cases hk : k < 2 + ord.length
    · go_upto_region 6 with fail
      go_cut [8, 9, 10] (fun v8 v9 v10 wx => v8 = .int .i64 1 ∧ v9 = .int .i64 wk ∧ v10 = .int .i64 2 ∧ Only S0 wr wx)
      case first =>
        go_region
        all_goals (go_wp2_with fail; go_meet)
        all_goals exact ⟨rfl, rfl, rfl, (Only.refl S0 wr).drew⟩
      case rest =>
        obtain ⟨rfl, rfl, rfl, ho1⟩ := hcut
        have HND3 := hide (HND2.out.only0 ho1)
        have HO1 := hide ho1
        clear ho1 c0 c1 c2 c3 m0 m1 m2 m3
        have hSk := srcs_drop (i := i) hk
        rw [HSS.out] at hSk
        obtain ⟨s, hs1, hs2⟩ := hSk
        have HS1 := hide hs1
        have hb1 := src_beg HI.out HWK.out HOT.out (s := s) (k := k) (by rw [HSS.out]; exact hs2)
        have HB := hide hb1
        clear hs1 hb1
        obtain ⟨of, hof⟩ : ∃ of : Int, (if k = 1 then 2 else 1) = of := ⟨_, rfl⟩
        have HOF := hide hof
        clear hof
        go_upto_if 32 with fail
        go_cut [8, 10] (fun v8 v10 wx => v8 = .int .i64 of ∧ v10 = .int .i64 2 ∧ Only S0 wr wx)
        case first =>
          by_cases h1 : k = 1
          · obtain rfl : of = 2 := by rw [← HOF.out, if_pos h1]
            subst h1
            go_wp2_with fail
            go_meet
            exact ⟨rfl, rfl, HO1.out⟩
          · obtain rfl : of = 1 := by rw [← HOF.out, if_neg h1]
            have h1b : ((k : Int) == 1) = false := by simp; omega
            go_wp2_with fail
            go_meet
            exact ⟨rfl, rfl, HO1.out⟩
        case rest =>
          obtain ⟨rfl, rfl, ho2⟩ := hcut
          clear HO1
          have HO2 := hide ho2
          clear ho2
          go_upto_if 34 with fail
          go_cut [9, 10] (fun v9 v10 wx => ∃ who kd : Int, v9 = .int .i64 who ∧ v10 = .int .i64 kd ∧ PBeg F of who kd 0 (s.part F) ∧ Only S0 wr wx)
          case first =>
            by_cases h1 : k ≤ 1
            · go_wp2_with fail
              go_meet
              exact ⟨wk, 2, rfl, rfl, by rw [← HOF.out]; exact HB.out.1 h1, HO2.out⟩
            · have hk3 : k - 2 < ord.length := by omega
              obtain ⟨g, off, rfl, hg, hcells⟩ := HOC.out (by omega)
              have hcell := (HO2.out.cell (p := ⟨g, off + (k - 2), none⟩) hg (fun h => h)).trans (hcells (k - 2) hk3)
              have HG := hide (HB.out.2 (by omega))
              obtain ⟨x, hx⟩ : ∃ x, ord.getD (k - 2) 0 = x := ⟨_, rfl⟩
              rw [hx] at hcell HG
              obtain ⟨j, rfl⟩ : ∃ j, k = j + 2 := ⟨k - 2, by omega⟩
              rw [Nat.add_sub_cancel] at hcell hk3
              have hki : ((j + 2 : Nat) : Int) - 2 = (j : Int) := by omega
              clear hcells hx
              go_wp2_with fail
              go_meet
              exact ⟨x, 3, by first | rfl | go_num, rfl, by rw [← HOF.out]; exact HG.out, HO2.out⟩
          case rest =>
            obtain ⟨who, kd, rfl, rfl, hbeg, ho3⟩ := hcut
            clear HO2 HND3
            have HND3 := hide (HND2.out.only0 ho3)
            have HO3 := hide ho3
            have hsr : l1.foldl (cans F) (ctry F (SS.drop k)) = l1.foldl (cans F) (.src (s.begin_ F) (SS.drop (k + 1))) ∧ CProper F (.src (s.begin_ F) (SS.drop (k + 1))) l1 := by
              have := HST.out.2
              rw [HS1.out] at this ⊢
              exact ⟨rfl, this⟩
            have HSR := hide hsr
            clear ho3 hsr
            have c0 := HND3.out.crew.cellv (i := 0) rfl; have c1 := HND3.out.crew.cellv (i := 1) rfl; have c2 := HND3.out.crew.cellv (i := 2) rfl; have c3 := HND3.out.crew.cellv (i := 3) rfl
            have m0 := HND3.out.op.cellv (i := 0) rfl; have m1 := HND3.out.op.cellv (i := 1) rfl; have m2 := HND3.out.op.cellv (i := 2) rfl; have m3 := HND3.out.op.cellv (i := 3) rfl
            obtain ⟨q, e1⟩ : ∃ q, (prun F (s.part F) l1).1 = q := ⟨_, rfl⟩
            obtain ⟨n1, e2⟩ : ∃ n1, (prun F (s.part F) l1).2 = n1 := ⟨_, rfl⟩
            have hn1 := prun_le F l1 (s.part F)
            rw [e2, ← (HL1.out).len_] at hn1
            have hph := src_l HSR.out.2 e1 e2
            have hP := fun (wx : World) (hx : Only S0 w wx) => rpart_any (w := wx) HF.out hb (hbeg) ((HL1.out).only0 hx) hlen1 HU1.out
            rw [e1, e2] at hP
            obtain ⟨W, hW⟩ : ∃ W, pask F q = W := ⟨_, rfl⟩
            rw [hW] at hP
            have HP := hide hP
            have HPH := hide hph
            have HW := hide hW
            clear hP hph hW e1 e2
            clear hbeg
            go_upto_region 11 with fail
            go_cut [11, 12] (fun v11 v12 wx => NX4 w wx b1 b2 b3 F kind wk V (.slice a len cap) ∧ AnsAt wr wx v11 W ∧ v12 = .int .i64 n1 ∧ Only S0 wr wx)
            case first =>
              obtain ⟨ov, what, cell, aa, bb, out, value⟩ := W
              have HNX := hide (HP.out _ HND3.out.only)
              unfold crewV at HNX
              go_wp2_with (go_at_call 48; (with_reducible refine HNX.out.mono ?_); rintro e w2 ⟨rfl, o1⟩; unfold gwV; have O1 := hide (HO3.out.trans o1); have N2 := hide (HND3.out.only0 o1); clear o1)
              go_meet
              refine ⟨?_, ⟨⟨w2.heap.size, rfl, ?_, ?_⟩⟩, rfl, ?_⟩
              · with_reducible exact N2.out.only0 ((Only.refl S0 w2).alloc _)
              · exact O1.out.size
              · with_reducible exact Blk.new w2 _ _
              · with_reducible exact O1.out.alloc _
            case rest =>
              clear c0 c1 c2 c3 m0 m1 m2 m3 HO3
              obtain ⟨hnd, ⟨xq, rfl, hxq, hx⟩, rfl, ho4⟩ := hcut
              have HND4 := hide hnd
              have HO4 := hide ho4
              clear hnd hxq ho4
              obtain ⟨ov, what, cell, aa, bb, out, value⟩ := W
              have HX := hide hx
              clear hx
              have z0 := HX.out.cellv (i := 0) rfl
              have z1 := HX.out.cellv (i := 1) rfl
              have z2 := HX.out.cellv (i := 2) rfl
              have z3 := HX.out.cellv (i := 3) rfl
              have z4 := HX.out.cellv (i := 4) rfl
              have z5 := HX.out.cellv (i := 5) rfl
              have z6 := HX.out.cellv (i := 6) rfl
              have z7 := HX.out.cellv (i := 7) rfl
              have c0 := HND4.out.crew.cellv (i := 0) rfl; have c1 := HND4.out.crew.cellv (i := 1) rfl; have c2 := HND4.out.crew.cellv (i := 2) rfl; have c3 := HND4.out.crew.cellv (i := 3) rfl
              have m0 := HND4.out.op.cellv (i := 0) rfl; have m1 := HND4.out.op.cellv (i := 1) rfl; have m2 := HND4.out.op.cellv (i := 2) rfl; have m3 := HND4.out.op.cellv (i := 3) rfl
              by_cases h0 : q.out = 0
              · obtain rfl : ov = false := by have := pask_go (F := F) h0; rw [HW.out] at this; exact this
                have HPE : q.out = 0 := h0
                clear h0
                have r0 := HND4.out.res.cellv (i := 0) rfl; have r1 := HND4.out.res.cellv (i := 1) rfl; have r2 := HND4.out.res.cellv (i := 2) rfl; have r3 := HND4.out.res.cellv (i := 3) rfl; have r4 := HND4.out.res.cellv (i := 4) rfl; have r5 := HND4.out.res.cellv (i := 5) rfl; have r6 := HND4.out.res.cellv (i := 6) rfl; have r7 := HND4.out.res.cellv (i := 7) rfl
                have y0 := HND4.out.res.frozen 0; have y1 := HND4.out.res.frozen 1; have y2 := HND4.out.res.frozen 2; have y3 := HND4.out.res.frozen 3; have y4 := HND4.out.res.frozen 4; have y5 := HND4.out.res.frozen 5; have y6 := HND4.out.res.frozen 6; have y7 := HND4.out.res.frozen 7
                go_wp2_with fail
                (try simp only [Exit.inBlock, Exit.then])
                refine bodyPost_ret (by simp [results, Tryz.results46, go_sem, r0, r1, r2, r3, r4, r5, r6, r7]; try rfl) rfl ?_
                rcases HPH.out with ⟨_, h⟩ | ⟨h, _⟩ | ⟨h, _⟩
                · rw [HST.out.1, HSR.out.1, h, HW.out]
                  refine ⟨rfl, ?_⟩
                  have hge := HND4.out.ge
                  exact HND4.out.only.then (want_only _ b3 false what cell aa bb out value) (fun j hj h => by have h' : j = b3 := h; exfalso; omega)
                · omega
                · exact absurd HPE h
              · obtain ⟨rfl, rfl⟩ : ov = true ∧ out = q.out := by have := pask_over (F := F) h0; rw [HW.out] at this; exact this
                by_cases h1 : q.out = 1
                · have d1 : (q.out == 1) = true := by simp [h1]
                  rw [h1] at z5 d1
                  have hf : l1.foldl (cans F) (.src (s.begin_ F) (SS.drop (k + 1))) = .over 1 value := by
                    rcases HPH.out with ⟨h, _⟩ | ⟨_, h⟩ | ⟨_, h, _⟩
                    · exact absurd h h0
                    · rw [h, HW.out]
                    · exact absurd h1 h
                  have HFD := hide hf
                  have OV := hide (fun (wx : World) => crover_any (w := wx) 1 value)
                  clear hf h0 h1
                  go_wp2_with (go_at_call 45; refine (OV.out _).mono ?_; rintro e w2 ⟨rfl, o1⟩; unfold gwV wOver; have N2 := hide (HND4.out.only0 o1); clear o1; have r0 := N2.out.res.cellv (i := 0) rfl; have r1 := N2.out.res.cellv (i := 1) rfl; have r2 := N2.out.res.cellv (i := 2) rfl; have r3 := N2.out.res.cellv (i := 3) rfl; have r4 := N2.out.res.cellv (i := 4) rfl; have r5 := N2.out.res.cellv (i := 5) rfl; have r6 := N2.out.res.cellv (i := 6) rfl; have r7 := N2.out.res.cellv (i := 7) rfl; have y0 := N2.out.res.frozen 0; have y1 := N2.out.res.frozen 1; have y2 := N2.out.res.frozen 2; have y3 := N2.out.res.frozen 3; have y4 := N2.out.res.frozen 4; have y5 := N2.out.res.frozen 5; have y6 := N2.out.res.frozen 6; have y7 := N2.out.res.frozen 7)
                  (try simp only [Exit.inBlock, Exit.then])
                  refine bodyPost_ret (by simp [results, Tryz.results46, go_sem, r0, r1, r2, r3, r4, r5, r6, r7]; try rfl) rfl ?_
                  rw [HST.out.1, HSR.out.1, HFD.out]
                  refine ⟨rfl, ?_⟩
                  have hge := N2.out.ge
                  exact N2.out.only.then (want_only _ b3 true 0 0 0 0 1 value) (fun j hj h => by have h' : j = b3 := h; exfalso; omega)
                · have d1 : (q.out == 1) = false := by simp [h1]
                  have hlen2 : len1 - n1 ≤ 1000000 := by omega
                  have hu2 : AllU (l1.drop n1) := fun x hx => HU1.out x (List.mem_of_mem_drop hx)
                  have hst : l.foldl (cans F) (ctry F SS) = (l1.drop n1).foldl (cans F) (ctry F (SS.drop (k + 1))) ∧ CProper F (ctry F (SS.drop (k + 1))) (l1.drop n1) := by
                    rcases HPH.out with ⟨h, _⟩ | ⟨h, _⟩ | ⟨_, _, _, h3, h4⟩
                    · exact absurd h h0
                    · exact absurd h h1
                    · exact ⟨HST.out.1.trans (HSR.out.1.trans h3), h4⟩
                  have HST2 := hide hst
                  have HU2 := hide hu2
                  clear hst hu2 h0 h1
                  rcases Nat.lt_or_ge n1 cap1 with hcn | hcn
                  · have hcn2 : ¬ cap1 = n1 := by omega
                    go_wp2_with fail
                    go_roundg ((2 + ord.length - (k + 1)) * 1)
                    case rel => exact ⟨k + 1, _, _, _, l1.drop n1, rfl, by omega, by go_num, rfl, HL1.out.drop hn1 (by intro g off e _; rw [e]; simp [Addr.add]), HND4.out, HOS.out.only0 HO4.out, hlen2, HU2.out, HST2.out.1, HST2.out.2⟩
                    case measure => have := HQ.out; omega
                  · obtain rfl : cap1 = n1 := by omega
                    go_wp2_with fail
                    go_roundg ((2 + ord.length - (k + 1)) * 1)
                    case rel =>
                      refine ⟨k + 1, a1, 0, 0, l1.drop cap1, rfl, by omega, by go_num, rfl, ?_, HND4.out, HOS.out.only0 HO4.out, by omega, HU2.out, HST2.out.1, HST2.out.2⟩
                      have := HL1.out.drop hn1 (a' := a1) (by intro g off _ h; omega)
                      rw [Nat.sub_self, show len1 - cap1 = 0 by omega] at this
                      exact this
                    case measure => have := HQ.out; omega
    · have hf : l.foldl (cans F) (ctry F SS) = .over 4 0 := by
        have hkk : k = 2 + ord.length := by omega
        have hd : SS.drop k = [] := by rw [← HSS.out, hkk]; exact srcs_end
        have h1 := HST.out.1
        have h2 := HST.out.2
        rw [hd] at h1 h2
        rw [h1, h2.over (by show (4 : Int) ≠ 0; decide)]
        rfl
      have HFD := hide hf
      have OV := hide (fun (wx : World) => crover_any (w := wx) 4 0)
      clear hf
      go_wp2_with (go_at_call 45; refine (OV.out _).mono ?_; rintro e w2 ⟨rfl, o1⟩; unfold gwV wOver; have N2 := hide (HND2.out.only0 o1); clear o1; have r0 := N2.out.res.cellv (i := 0) rfl; have r1 := N2.out.res.cellv (i := 1) rfl; have r2 := N2.out.res.cellv (i := 2) rfl; have r3 := N2.out.res.cellv (i := 3) rfl; have r4 := N2.out.res.cellv (i := 4) rfl; have r5 := N2.out.res.cellv (i := 5) rfl; have r6 := N2.out.res.cellv (i := 6) rfl; have r7 := N2.out.res.cellv (i := 7) rfl; have y0 := N2.out.res.frozen 0; have y1 := N2.out.res.frozen 1; have y2 := N2.out.res.frozen 2; have y3 := N2.out.res.frozen 3; have y4 := N2.out.res.frozen 4; have y5 := N2.out.res.frozen 5; have y6 := N2.out.res.frozen 6; have y7 := N2.out.res.frozen 7)
      (try simp only [Exit.inBlock, Exit.then])
      refine bodyPost_ret (by simp [results, Tryz.results46, go_sem, r0, r1, r2, r3, r4, r5, r6, r7]; try rfl) rfl ?_
      rw [HFD.out]
      refine ⟨rfl, ?_⟩
      have hge := N2.out.ge
      exact N2.out.only.then (want_only _ b3 true 0 0 0 0 4 0) (fun j hj h => by have h' : j = b3 := h; exfalso; omega)
end
end Go.Proofs.YtdoaipjdldknaaaGreat
