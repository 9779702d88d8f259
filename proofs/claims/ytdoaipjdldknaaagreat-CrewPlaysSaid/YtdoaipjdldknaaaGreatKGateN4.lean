/-
  The document's operation of a gate: the walk of Next.
-/
import Derived.Test.YtdoaipjdldknaaaGreatKGateN3
namespace Go.Proofs.YtdoaipjdldknaaaGreat
open Go.RowKit
set_option linter.unusedVariables false
theorem last_put3m {w : World} {base n : Int} {l : List Int} {lv : Value} {V : Int} (hl : Rd w lv (l.map (.int .u64))) (hlen : l.length ≤ 1000000) (t slot : Int) (ht : U64 t) (h1 : 1 ≤ n) (h64 : n ≤ 64) (s0 : 0 ≤ slot) (s1 : slot ≤ 100000) (m : Int) (hm : m = 3) :
    Calls Tryz.prog 110 #[.agg #[.int .i64 base, .int .i64 n], .agg #[.int .i64 1, .int .u64 V, lv], .int .i64 m, .int .u64 t, .int .i64 slot] w fun e w' =>
      e = .returned (gwV (wStore (slot + 1) V)) ∧ Only S0 w w' := by
  subst hm
  exact last_put3 hl hlen t slot ht h1 h64 s0 s1
theorem last_put4m {w : World} {base n : Int} {l : List Int} {lv : Value} {V : Int} (hl : Rd w lv (l.map (.int .u64))) (hlen : l.length ≤ 1000000) (t slot : Int) (ht : U64 t) (h1 : 1 ≤ n) (h64 : n ≤ 64) (s0 : 0 ≤ slot) (s1 : slot ≤ 100000) (m : Int) (hm : m = 4) :
    Calls Tryz.prog 110 #[.agg #[.int .i64 base, .int .i64 n], .agg #[.int .i64 1, .int .u64 V, lv], .int .i64 m, .int .u64 t, .int .i64 slot] w fun e w' =>
      e = .returned (gwV (wStore slot (add64 (gWait n t) 1))) ∧ Only S0 w w' := by
  subst hm
  exact last_put4 hl hlen t slot ht h1 h64 s0 s1
theorem last_take3m {w : World} {base n : Int} {l : List Int} {lv : Value} {V : Int} (hl : Rd w lv (l.map (.int .u64))) (hlen : l.length ≤ 1000000) (t slot : Int) (ht : U64 t) (h1 : 1 ≤ n) (h64 : n ≤ 64) (s0 : 0 ≤ slot) (s1 : slot ≤ 100000) (m : Int) (hm : m = 3) :
    Calls Tryz.prog 110 #[.agg #[.int .i64 base, .int .i64 n], .agg #[.int .i64 2, .int .u64 V, lv], .int .i64 m, .int .u64 t, .int .i64 slot] w fun e w' =>
      e = .returned (gwV (wLoad (slot + 1))) ∧ Only S0 w w' := by
  subst hm
  exact last_take3 hl hlen t slot ht h1 h64 s0 s1
theorem last_take4m {w : World} {base n : Int} {l : List Int} {lv : Value} {V : Int} (hl : Rd w lv (l.map (.int .u64))) (hlen : l.length ≤ 1000000) (t slot : Int) (ht : U64 t) (h1 : 1 ≤ n) (h64 : n ≤ 64) (s0 : 0 ≤ slot) (s1 : slot ≤ 100000) (m : Int) (hm : m = 4) :
    Calls Tryz.prog 110 #[.agg #[.int .i64 base, .int .i64 n], .agg #[.int .i64 2, .int .u64 V, lv], .int .i64 m, .int .u64 t, .int .i64 slot] w fun e w' =>
      e = .returned (gwV (wStore slot (add64 (gWait n t) 2))) ∧ Only S0 w w' := by
  subst hm
  exact last_take4 hl hlen t slot ht h1 h64 s0 s1

set_option maxRecDepth 100000 in
set_option maxHeartbeats 4000000 in
theorem Next_put {w : World} {base n V : Int} {lv : Value} {l : List Int} (hl : Rd w lv (l.map (.int .u64))) (hlen : l.length ≤ 1000000) (hu : ∀ x ∈ l, U64 x) (n1 : 1 ≤ n) (n64 : n ≤ 64) (b0 : 0 ≤ base) (b1 : base ≤ 70000) :
    Calls Tryz.prog 98 #[.agg #[.int .i64 base, .int .i64 n], .agg #[.int .i64 1, .int .u64 V, lv]] w fun e w' =>
      e = .returned (gwV (nextL base n 0 V l)) ∧ Only S0 w w' := by
  obtain ⟨W, hw⟩ : ∃ W, nextL base n 0 V l = W := ⟨_, rfl⟩
  rw [hw]
  have HRD := hide hl
  obtain ⟨a, ca, rfl, ha⟩ := hl
  rw [List.length_map] at ha HRD ⊢
  have HC := hide ha
  have HU := hide hu
  have HW0 := hide hw
  have HB0 := hide (show NB w (((w.alloc (.cells #[.int .i64 base, .int .i64 n] 94)).alloc (.cells #[.int .i64 1, .int .u64 V, .slice a l.length ca] 133)).alloc
    (.cells #[.bool false, .int .i64 0, .int .i64 0, .int .u64 0, .int .u64 0, .int .i64 0, .int .u64 0, .int .u64 0] 62)) w.heap.size (w.heap.size + 1) (w.heap.size + 1 + 1) base n 1 V (.slice a l.length ca) from
    ⟨((Blk.new w _ _).alloc _).alloc _, by simpa using (Blk.new (w.alloc (.cells #[.int .i64 base, .int .i64 n] 94)) 133 #[.int .i64 1, .int .u64 V, .slice a l.length ca]).alloc _,
      by simpa using Blk.new ((w.alloc (.cells #[.int .i64 base, .int .i64 n] 94)).alloc (.cells #[.int .i64 1, .int .u64 V, .slice a l.length ca] 133)) 62 #[.bool false, .int .i64 0, .int .i64 0, .int .u64 0, .int .u64 0, .int .i64 0, .int .u64 0, .int .u64 0],
      (((Only.refl S0 w).alloc _).alloc _).alloc _⟩)
  clear ha hu hw
  have b2l : w.heap.size ≤ w.heap.size + 1 + 1 := by omega
  go_enter Tryz.func98, Tryz.ntmps98
  go_wp2_with fail
  go_loopg [6, 10, 11, 12] l.length (fun q kv a10 a11 a12 wr => ∃ (k : Nat), q = l.length - k ∧ k ≤ l.length ∧ kv = .int .i64 k ∧ nextL base n 0 V (l.drop k) = W ∧ NB w wr w.heap.size (w.heap.size + 1) (w.heap.size + 1 + 1) base n 1 V (.slice a l.length ca))
  case atStart => exact ⟨0, rfl, Nat.zero_le _, rfl, by simpa using HW0.out, HB0.out⟩
  case round =>
    clear HB0 HW0
    obtain ⟨k, rfl, hk, rfl, hwk, hnb⟩ := hrel
    have HW := hide hwk
    have HB := hide hnb
    clear hwk hnb
    generalize w.heap.size + 1 + 1 = b4 at *
    generalize w.heap.size + 1 = b3 at *
    by_cases c1 : k = l.length
    · have z0 := HB.out.res.cellv (i := 0) rfl
      have z1 := HB.out.res.cellv (i := 1) rfl
      have z2 := HB.out.res.cellv (i := 2) rfl
      have z3 := HB.out.res.cellv (i := 3) rfl
      have z4 := HB.out.res.cellv (i := 4) rfl
      have z5 := HB.out.res.cellv (i := 5) rfl
      have z6 := HB.out.res.cellv (i := 6) rfl
      have z7 := HB.out.res.cellv (i := 7) rfl
      have y0 := HB.out.res.frozen 0
      have y1 := HB.out.res.frozen 1
      have y2 := HB.out.res.frozen 2
      have y3 := HB.out.res.frozen 3
      have y4 := HB.out.res.frozen 4
      have y5 := HB.out.res.frozen 5
      have y6 := HB.out.res.frozen 6
      have y7 := HB.out.res.frozen 7
      go_wp2_with fail
      (try simp only [Exit.inBlock, Exit.then])
      refine bodyPost_ret (by simp [results, Tryz.results98, go_sem, z0, z1, z2, z3, z4, z5, z6, z7]; try rfl) rfl ?_
      refine ⟨?_, ?_⟩
      · rw [← HW.out, nx_nil c1]
        simp [gwV, wLoad]
      · iterate 8 (refine Only.setNew ?_ _ b2l _)
        first | exact HB.out.only | exact HB.out.only.drewN _
    · have lt1 : k < l.length := by omega
      obtain ⟨g, off, rfl, hg, hc⟩ := HC.out (by omega)
      have HL := hide fun (wx : World) (hx : Only S0 w wx) (i : Nat) (hi : i < l.length) => (hx.cell (p := ⟨g, off + i, none⟩) hg (fun h => h)).trans (hc i (.int .u64 (elt l i)) (by simp [elt, List.getD, hi]))
      clear hc
      have T64 := elt_u HU.out lt1
      have e0 := HL.out _ HB.out.only k lt1
      obtain ⟨tt, htt⟩ : ∃ tt, elt l k = tt := ⟨_, rfl⟩
      rw [htt] at e0 T64
      have HTT := hide htt
      obtain ⟨m1, m2, m3⟩ := u64_mod T64 n1
      have hn0 : (n == 0) = false := by simp; omega
      have HT64 := hide T64
      clear htt T64
      have r0 := HB.out.ring.cellv (i := 0) rfl
      have r1 := HB.out.ring.cellv (i := 1) rfl
      by_cases c2 : k + 1 = l.length
      · have z0 := HB.out.res.cellv (i := 0) rfl
        have z1 := HB.out.res.cellv (i := 1) rfl
        have z2 := HB.out.res.cellv (i := 2) rfl
        have z3 := HB.out.res.cellv (i := 3) rfl
        have z4 := HB.out.res.cellv (i := 4) rfl
        have z5 := HB.out.res.cellv (i := 5) rfl
        have z6 := HB.out.res.cellv (i := 6) rfl
        have z7 := HB.out.res.cellv (i := 7) rfl
        have y0 := HB.out.res.frozen 0
        have y1 := HB.out.res.frozen 1
        have y2 := HB.out.res.frozen 2
        have y3 := HB.out.res.frozen 3
        have y4 := HB.out.res.frozen 4
        have y5 := HB.out.res.frozen 5
        have y6 := HB.out.res.frozen 6
        have y7 := HB.out.res.frozen 7
        go_wp2_with fail
        go_quiet (fail)
        go_wp2_with fail
        (try simp only [Exit.inBlock, Exit.then])
        refine bodyPost_ret (by simp [results, Tryz.results98, go_sem, z0, z1, z2, z3, z4, z5, z6, z7]; try rfl) rfl ?_
        refine ⟨?_, ?_⟩
        · rw [← HW.out, nx_one c2, HTT.out]
          simp [gwV, wLoad, slotOf]
        · iterate 8 (refine Only.setNew ?_ _ b2l _)
          first | exact HB.out.only | exact HB.out.only.drewN _
      · have lt2 : k + 2 ≤ l.length := by omega
        have S64 := elt_u HU.out (show k + 1 < l.length by omega)
        have e1 := HL.out _ HB.out.only (k + 1) (by omega)
        obtain ⟨ss, hss⟩ : ∃ ss, elt l (k + 1) = ss := ⟨_, rfl⟩
        rw [hss] at e1
        have HSS := hide hss
        clear hss S64
        obtain ⟨wt, hwt⟩ : ∃ wt, gWait n tt = wt := ⟨_, rfl⟩
        obtain ⟨wf1, wf2⟩ := wait_fits n tt
        rw [hwt] at wf1 wf2
        have HWT := hide hwt
        clear hwt
        go_wp2_with fail
        go_quiet (fail)
        go_wp2_with fail
        refine (Wait_o base tt _ HT64.out n1 n64).mono ?_
        rintro e wx ⟨rfl, ox⟩
        rw [HWT.out]
        have HBX := hide ((HB.out.drewN _).only0 ox)
        clear ox HB r0 r1 e0 e1
        have HB := HBX
        clear HBX
        have r0 := HB.out.ring.cellv (i := 0) rfl
        have r1 := HB.out.ring.cellv (i := 1) rfl
        by_cases c3 : wt < ss
        · go_wp2_with fail
          go_roundg (l.length - (k + 2))
          case rel => exact ⟨k + 2, rfl, by omega, by go_num, by rw [← nx_gt (by omega) (by rw [want_put, HTT.out, HWT.out, HSS.out]; exact c3)]; exact HW.out, HB.out⟩
          case measure => omega
        · go_wp2_with fail
          refine (Wait_o base tt _ HT64.out n1 n64).mono ?_
          rintro e wx2 ⟨rfl, ox⟩
          rw [HWT.out]
          have HBX := hide (HB.out.only0 ox)
          clear ox HB r0 r1
          have HB := HBX
          clear HBX
          have r0 := HB.out.ring.cellv (i := 0) rfl
          have r1 := HB.out.ring.cellv (i := 1) rfl
          by_cases c4 : ss < wt
          · have z0 := HB.out.res.cellv (i := 0) rfl
            have z1 := HB.out.res.cellv (i := 1) rfl
            have z2 := HB.out.res.cellv (i := 2) rfl
            have z3 := HB.out.res.cellv (i := 3) rfl
            have z4 := HB.out.res.cellv (i := 4) rfl
            have z5 := HB.out.res.cellv (i := 5) rfl
            have z6 := HB.out.res.cellv (i := 6) rfl
            have z7 := HB.out.res.cellv (i := 7) rfl
            have y0 := HB.out.res.frozen 0
            have y1 := HB.out.res.frozen 1
            have y2 := HB.out.res.frozen 2
            have y3 := HB.out.res.frozen 3
            have y4 := HB.out.res.frozen 4
            have y5 := HB.out.res.frozen 5
            have y6 := HB.out.res.frozen 6
            have y7 := HB.out.res.frozen 7
            go_wp2_with fail
            (try simp only [Exit.inBlock, Exit.then])
            refine bodyPost_ret (by simp [results, Tryz.results98, go_sem, z0, z1, z2, z3, z4, z5, z6, z7]; try rfl) rfl ?_
            refine ⟨?_, ?_⟩
            · rw [← HW.out, nx_lt lt2 (by rw [want_put, HTT.out, HWT.out, HSS.out]; omega)]
              simp [gwV, wOver]
            · iterate 8 (refine Only.setNew ?_ _ b2l _)
              first | exact HB.out.only | exact HB.out.only.drewN _
          · have c5 : ss = wt := by omega
            by_cases c6 : k + 2 = l.length
            · have z0 := HB.out.res.cellv (i := 0) rfl
              have z1 := HB.out.res.cellv (i := 1) rfl
              have z2 := HB.out.res.cellv (i := 2) rfl
              have z3 := HB.out.res.cellv (i := 3) rfl
              have z4 := HB.out.res.cellv (i := 4) rfl
              have z5 := HB.out.res.cellv (i := 5) rfl
              have z6 := HB.out.res.cellv (i := 6) rfl
              have z7 := HB.out.res.cellv (i := 7) rfl
              have y0 := HB.out.res.frozen 0
              have y1 := HB.out.res.frozen 1
              have y2 := HB.out.res.frozen 2
              have y3 := HB.out.res.frozen 3
              have y4 := HB.out.res.frozen 4
              have y5 := HB.out.res.frozen 5
              have y6 := HB.out.res.frozen 6
              have y7 := HB.out.res.frozen 7
              go_wp2_with fail
              (try simp only [Exit.inBlock, Exit.then])
              refine bodyPost_ret (by simp [results, Tryz.results98, go_sem, z0, z1, z2, z3, z4, z5, z6, z7]; try rfl) rfl ?_
              refine ⟨?_, ?_⟩
              · rw [← HW.out, nx_swap c6 (by rw [want_put, HTT.out, HWT.out, HSS.out]; omega), HTT.out]
                simp [gwV, wSwap, add64]
              · iterate 8 (refine Only.setNew ?_ _ b2l _)
                first | exact HB.out.only | exact HB.out.only.drewN _
            · have lt3 : k + 3 ≤ l.length := by omega
              have e2 := HL.out _ HB.out.only (k + 2) (by omega)
              obtain ⟨xx, hxx⟩ : ∃ xx, elt l (k + 2) = xx := ⟨_, rfl⟩
              rw [hxx] at e2
              have HXX := hide hxx
              clear hxx
              by_cases c7 : xx = 0
              · have c7b : (xx == 0) = true := by simp [c7]
                have C7 := hide c7
                clear c7
                go_wp2_with fail
                go_roundg (l.length - (k + 3))
                case rel => exact ⟨k + 3, rfl, by omega, by go_num, by rw [← nx_zero lt3 (by rw [want_put, HTT.out, HWT.out, HSS.out]; omega) (by rw [HXX.out]; exact C7.out)]; exact HW.out, HB.out⟩
                case measure => omega
              · have c7b : (xx == 0) = false := by simp [c7]
                have HLL := hide (show lastL base n 0 V tt (l.drop (k + 3)) = W from by rw [← HTT.out, ← nx_last lt3 (by rw [want_put, HTT.out, HWT.out, HSS.out]; omega) (by rw [HXX.out]; exact c7)]; exact HW.out)
                have HRX := hide (HRD.out.only0 HB.out.only)
                have p0 := HB.out.op.cellv (i := 0) rfl
                have p1 := HB.out.op.cellv (i := 1) rfl
                have p2 := HB.out.op.cellv (i := 2) rfl
                have sl0 : 0 ≤ slotOf base n tt := by unfold slotOf; omega
                have sl1 : slotOf base n tt ≤ 100000 := by unfold slotOf; omega
                clear c7
                by_cases d3 : l.length = k + 3
                · have D3 := hide d3
                  clear d3
                  go_wp2_with fail
                  refine (last_put3m HRX.out hlen tt (slotOf base n tt) HT64.out n1 n64 sl0 sl1 ((l.length : Int) - (k : Int)) (by have := D3.out; omega)).mono ?_
                  rintro e wx3 ⟨rfl, ox⟩
                  have HBX := hide (HB.out.only0 ox)
                  clear ox HB r0 r1 p0 p1 p2 e2
                  have HB := HBX
                  clear HBX
                  have z0 := HB.out.res.cellv (i := 0) rfl
                  have z1 := HB.out.res.cellv (i := 1) rfl
                  have z2 := HB.out.res.cellv (i := 2) rfl
                  have z3 := HB.out.res.cellv (i := 3) rfl
                  have z4 := HB.out.res.cellv (i := 4) rfl
                  have z5 := HB.out.res.cellv (i := 5) rfl
                  have z6 := HB.out.res.cellv (i := 6) rfl
                  have z7 := HB.out.res.cellv (i := 7) rfl
                  have y0 := HB.out.res.frozen 0
                  have y1 := HB.out.res.frozen 1
                  have y2 := HB.out.res.frozen 2
                  have y3 := HB.out.res.frozen 3
                  have y4 := HB.out.res.frozen 4
                  have y5 := HB.out.res.frozen 5
                  have y6 := HB.out.res.frozen 6
                  have y7 := HB.out.res.frozen 7
                  unfold gwV
                  go_wp2_with fail
                  (try simp only [Exit.inBlock, Exit.then])
                  refine bodyPost_ret (by simp [results, Tryz.results98, go_sem, z0, z1, z2, z3, z4, z5, z6, z7]; try rfl) rfl ?_
                  refine ⟨?_, ?_⟩
                  · rw [← HLL.out, ll_3 (by have := D3.out; omega)]
                    simp [gwV, wStore]
                  · iterate 8 (refine Only.setNew ?_ _ b2l _)
                    first | exact HB.out.only | exact HB.out.only.drewN _
                · by_cases d4 : l.length = k + 4
                  · have D4 := hide d4
                    clear d4
                    go_wp2_with fail
                    refine (last_put4m HRX.out hlen tt (slotOf base n tt) HT64.out n1 n64 sl0 sl1 ((l.length : Int) - (k : Int)) (by have := D4.out; omega)).mono ?_
                    rintro e wx3 ⟨rfl, ox⟩
                    have HBX := hide (HB.out.only0 ox)
                    clear ox HB r0 r1 p0 p1 p2 e2
                    have HB := HBX
                    clear HBX
                    have z0 := HB.out.res.cellv (i := 0) rfl
                    have z1 := HB.out.res.cellv (i := 1) rfl
                    have z2 := HB.out.res.cellv (i := 2) rfl
                    have z3 := HB.out.res.cellv (i := 3) rfl
                    have z4 := HB.out.res.cellv (i := 4) rfl
                    have z5 := HB.out.res.cellv (i := 5) rfl
                    have z6 := HB.out.res.cellv (i := 6) rfl
                    have z7 := HB.out.res.cellv (i := 7) rfl
                    have y0 := HB.out.res.frozen 0
                    have y1 := HB.out.res.frozen 1
                    have y2 := HB.out.res.frozen 2
                    have y3 := HB.out.res.frozen 3
                    have y4 := HB.out.res.frozen 4
                    have y5 := HB.out.res.frozen 5
                    have y6 := HB.out.res.frozen 6
                    have y7 := HB.out.res.frozen 7
                    unfold gwV
                    go_wp2_with fail
                    (try simp only [Exit.inBlock, Exit.then])
                    refine bodyPost_ret (by simp [results, Tryz.results98, go_sem, z0, z1, z2, z3, z4, z5, z6, z7]; try rfl) rfl ?_
                    refine ⟨?_, ?_⟩
                    · rw [← HLL.out, ll_4 (by have := D4.out; omega)]
                      simp [gwV, wStore]
                    · iterate 8 (refine Only.setNew ?_ _ b2l _)
                      first | exact HB.out.only | exact HB.out.only.drewN _
                  · skip
                    go_wp2_with fail
                    refine (last_put5 HRX.out hlen tt (slotOf base n tt) HT64.out n1 n64 sl0 sl1 ((l.length : Int) - (k : Int)) (by omega)).mono ?_
                    rintro e wx3 ⟨rfl, ox⟩
                    have HBX := hide (HB.out.only0 ox)
                    clear ox HB r0 r1 p0 p1 p2 e2
                    have HB := HBX
                    clear HBX
                    have z0 := HB.out.res.cellv (i := 0) rfl
                    have z1 := HB.out.res.cellv (i := 1) rfl
                    have z2 := HB.out.res.cellv (i := 2) rfl
                    have z3 := HB.out.res.cellv (i := 3) rfl
                    have z4 := HB.out.res.cellv (i := 4) rfl
                    have z5 := HB.out.res.cellv (i := 5) rfl
                    have z6 := HB.out.res.cellv (i := 6) rfl
                    have z7 := HB.out.res.cellv (i := 7) rfl
                    have y0 := HB.out.res.frozen 0
                    have y1 := HB.out.res.frozen 1
                    have y2 := HB.out.res.frozen 2
                    have y3 := HB.out.res.frozen 3
                    have y4 := HB.out.res.frozen 4
                    have y5 := HB.out.res.frozen 5
                    have y6 := HB.out.res.frozen 6
                    have y7 := HB.out.res.frozen 7
                    unfold gwV
                    go_wp2_with fail
                    (try simp only [Exit.inBlock, Exit.then])
                    refine bodyPost_ret (by simp [results, Tryz.results98, go_sem, z0, z1, z2, z3, z4, z5, z6, z7]; try rfl) rfl ?_
                    refine ⟨?_, ?_⟩
                    · rw [← HLL.out, ll_5 (by omega)]
                      simp [gwV, wOver]
                    · iterate 8 (refine Only.setNew ?_ _ b2l _)
                      first | exact HB.out.only | exact HB.out.only.drewN _

set_option maxRecDepth 100000 in
set_option maxHeartbeats 4000000 in
theorem Next_take {w : World} {base n V : Int} {lv : Value} {l : List Int} (hl : Rd w lv (l.map (.int .u64))) (hlen : l.length ≤ 1000000) (hu : ∀ x ∈ l, U64 x) (n1 : 1 ≤ n) (n64 : n ≤ 64) (b0 : 0 ≤ base) (b1 : base ≤ 70000) :
    Calls Tryz.prog 98 #[.agg #[.int .i64 base, .int .i64 n], .agg #[.int .i64 2, .int .u64 V, lv]] w fun e w' =>
      e = .returned (gwV (nextL base n 1 V l)) ∧ Only S0 w w' := by
  obtain ⟨W, hw⟩ : ∃ W, nextL base n 1 V l = W := ⟨_, rfl⟩
  rw [hw]
  have HRD := hide hl
  obtain ⟨a, ca, rfl, ha⟩ := hl
  rw [List.length_map] at ha HRD ⊢
  have HC := hide ha
  have HU := hide hu
  have HW0 := hide hw
  have HB0 := hide (show NB w (((w.alloc (.cells #[.int .i64 base, .int .i64 n] 94)).alloc (.cells #[.int .i64 2, .int .u64 V, .slice a l.length ca] 133)).alloc
    (.cells #[.bool false, .int .i64 0, .int .i64 0, .int .u64 0, .int .u64 0, .int .i64 0, .int .u64 0, .int .u64 0] 62)) w.heap.size (w.heap.size + 1) (w.heap.size + 1 + 1) base n 2 V (.slice a l.length ca) from
    ⟨((Blk.new w _ _).alloc _).alloc _, by simpa using (Blk.new (w.alloc (.cells #[.int .i64 base, .int .i64 n] 94)) 133 #[.int .i64 2, .int .u64 V, .slice a l.length ca]).alloc _,
      by simpa using Blk.new ((w.alloc (.cells #[.int .i64 base, .int .i64 n] 94)).alloc (.cells #[.int .i64 2, .int .u64 V, .slice a l.length ca] 133)) 62 #[.bool false, .int .i64 0, .int .i64 0, .int .u64 0, .int .u64 0, .int .i64 0, .int .u64 0, .int .u64 0],
      (((Only.refl S0 w).alloc _).alloc _).alloc _⟩)
  clear ha hu hw
  have b2l : w.heap.size ≤ w.heap.size + 1 + 1 := by omega
  go_enter Tryz.func98, Tryz.ntmps98
  go_wp2_with fail
  go_loopg [6, 10, 11, 12] l.length (fun q kv a10 a11 a12 wr => ∃ (k : Nat), q = l.length - k ∧ k ≤ l.length ∧ kv = .int .i64 k ∧ nextL base n 1 V (l.drop k) = W ∧ NB w wr w.heap.size (w.heap.size + 1) (w.heap.size + 1 + 1) base n 2 V (.slice a l.length ca))
  case atStart => exact ⟨0, rfl, Nat.zero_le _, rfl, by simpa using HW0.out, HB0.out⟩
  case round =>
    clear HB0 HW0
    obtain ⟨k, rfl, hk, rfl, hwk, hnb⟩ := hrel
    have HW := hide hwk
    have HB := hide hnb
    clear hwk hnb
    generalize w.heap.size + 1 + 1 = b4 at *
    generalize w.heap.size + 1 = b3 at *
    by_cases c1 : k = l.length
    · have z0 := HB.out.res.cellv (i := 0) rfl
      have z1 := HB.out.res.cellv (i := 1) rfl
      have z2 := HB.out.res.cellv (i := 2) rfl
      have z3 := HB.out.res.cellv (i := 3) rfl
      have z4 := HB.out.res.cellv (i := 4) rfl
      have z5 := HB.out.res.cellv (i := 5) rfl
      have z6 := HB.out.res.cellv (i := 6) rfl
      have z7 := HB.out.res.cellv (i := 7) rfl
      have y0 := HB.out.res.frozen 0
      have y1 := HB.out.res.frozen 1
      have y2 := HB.out.res.frozen 2
      have y3 := HB.out.res.frozen 3
      have y4 := HB.out.res.frozen 4
      have y5 := HB.out.res.frozen 5
      have y6 := HB.out.res.frozen 6
      have y7 := HB.out.res.frozen 7
      go_wp2_with fail
      (try simp only [Exit.inBlock, Exit.then])
      refine bodyPost_ret (by simp [results, Tryz.results98, go_sem, z0, z1, z2, z3, z4, z5, z6, z7]; try rfl) rfl ?_
      refine ⟨?_, ?_⟩
      · rw [← HW.out, nx_nil c1]
        simp [gwV, wLoad]
      · iterate 8 (refine Only.setNew ?_ _ b2l _)
        first | exact HB.out.only | exact HB.out.only.drewN _
    · have lt1 : k < l.length := by omega
      obtain ⟨g, off, rfl, hg, hc⟩ := HC.out (by omega)
      have HL := hide fun (wx : World) (hx : Only S0 w wx) (i : Nat) (hi : i < l.length) => (hx.cell (p := ⟨g, off + i, none⟩) hg (fun h => h)).trans (hc i (.int .u64 (elt l i)) (by simp [elt, List.getD, hi]))
      clear hc
      have T64 := elt_u HU.out lt1
      have e0 := HL.out _ HB.out.only k lt1
      obtain ⟨tt, htt⟩ : ∃ tt, elt l k = tt := ⟨_, rfl⟩
      rw [htt] at e0 T64
      have HTT := hide htt
      obtain ⟨m1, m2, m3⟩ := u64_mod T64 n1
      have hn0 : (n == 0) = false := by simp; omega
      have HT64 := hide T64
      clear htt T64
      have r0 := HB.out.ring.cellv (i := 0) rfl
      have r1 := HB.out.ring.cellv (i := 1) rfl
      by_cases c2 : k + 1 = l.length
      · have z0 := HB.out.res.cellv (i := 0) rfl
        have z1 := HB.out.res.cellv (i := 1) rfl
        have z2 := HB.out.res.cellv (i := 2) rfl
        have z3 := HB.out.res.cellv (i := 3) rfl
        have z4 := HB.out.res.cellv (i := 4) rfl
        have z5 := HB.out.res.cellv (i := 5) rfl
        have z6 := HB.out.res.cellv (i := 6) rfl
        have z7 := HB.out.res.cellv (i := 7) rfl
        have y0 := HB.out.res.frozen 0
        have y1 := HB.out.res.frozen 1
        have y2 := HB.out.res.frozen 2
        have y3 := HB.out.res.frozen 3
        have y4 := HB.out.res.frozen 4
        have y5 := HB.out.res.frozen 5
        have y6 := HB.out.res.frozen 6
        have y7 := HB.out.res.frozen 7
        go_wp2_with fail
        go_quiet (fail)
        go_wp2_with fail
        (try simp only [Exit.inBlock, Exit.then])
        refine bodyPost_ret (by simp [results, Tryz.results98, go_sem, z0, z1, z2, z3, z4, z5, z6, z7]; try rfl) rfl ?_
        refine ⟨?_, ?_⟩
        · rw [← HW.out, nx_one c2, HTT.out]
          simp [gwV, wLoad, slotOf]
        · iterate 8 (refine Only.setNew ?_ _ b2l _)
          first | exact HB.out.only | exact HB.out.only.drewN _
      · have lt2 : k + 2 ≤ l.length := by omega
        have S64 := elt_u HU.out (show k + 1 < l.length by omega)
        have e1 := HL.out _ HB.out.only (k + 1) (by omega)
        obtain ⟨ss, hss⟩ : ∃ ss, elt l (k + 1) = ss := ⟨_, rfl⟩
        rw [hss] at e1
        have HSS := hide hss
        clear hss S64
        obtain ⟨wt, hwt⟩ : ∃ wt, gWait n tt = wt := ⟨_, rfl⟩
        obtain ⟨wf1, wf2⟩ := wait_fits n tt
        rw [hwt] at wf1 wf2
        have HWT := hide hwt
        clear hwt
        go_wp2_with fail
        go_quiet (fail)
        go_wp2_with fail
        refine (Wait_o base tt _ HT64.out n1 n64).mono ?_
        rintro e wx ⟨rfl, ox⟩
        rw [HWT.out]
        have HBX := hide ((HB.out.drewN _).only0 ox)
        clear ox HB r0 r1 e0 e1
        have HB := HBX
        clear HBX
        have r0 := HB.out.ring.cellv (i := 0) rfl
        have r1 := HB.out.ring.cellv (i := 1) rfl
        by_cases c3 : wt + 1 < ss
        · go_wp2_with fail
          go_roundg (l.length - (k + 2))
          case rel => exact ⟨k + 2, rfl, by omega, by go_num, by rw [← nx_gt (by omega) (by rw [want_take, HTT.out, HWT.out, HSS.out]; exact c3)]; exact HW.out, HB.out⟩
          case measure => omega
        · go_wp2_with fail
          refine (Wait_o base tt _ HT64.out n1 n64).mono ?_
          rintro e wx2 ⟨rfl, ox⟩
          rw [HWT.out]
          have HBX := hide (HB.out.only0 ox)
          clear ox HB r0 r1
          have HB := HBX
          clear HBX
          have r0 := HB.out.ring.cellv (i := 0) rfl
          have r1 := HB.out.ring.cellv (i := 1) rfl
          by_cases c4 : ss < wt + 1
          · have z0 := HB.out.res.cellv (i := 0) rfl
            have z1 := HB.out.res.cellv (i := 1) rfl
            have z2 := HB.out.res.cellv (i := 2) rfl
            have z3 := HB.out.res.cellv (i := 3) rfl
            have z4 := HB.out.res.cellv (i := 4) rfl
            have z5 := HB.out.res.cellv (i := 5) rfl
            have z6 := HB.out.res.cellv (i := 6) rfl
            have z7 := HB.out.res.cellv (i := 7) rfl
            have y0 := HB.out.res.frozen 0
            have y1 := HB.out.res.frozen 1
            have y2 := HB.out.res.frozen 2
            have y3 := HB.out.res.frozen 3
            have y4 := HB.out.res.frozen 4
            have y5 := HB.out.res.frozen 5
            have y6 := HB.out.res.frozen 6
            have y7 := HB.out.res.frozen 7
            go_wp2_with fail
            (try simp only [Exit.inBlock, Exit.then])
            refine bodyPost_ret (by simp [results, Tryz.results98, go_sem, z0, z1, z2, z3, z4, z5, z6, z7]; try rfl) rfl ?_
            refine ⟨?_, ?_⟩
            · rw [← HW.out, nx_lt lt2 (by rw [want_take, HTT.out, HWT.out, HSS.out]; omega)]
              simp [gwV, wOver]
            · iterate 8 (refine Only.setNew ?_ _ b2l _)
              first | exact HB.out.only | exact HB.out.only.drewN _
          · have c5 : ss = wt + 1 := by omega
            by_cases c6 : k + 2 = l.length
            · have z0 := HB.out.res.cellv (i := 0) rfl
              have z1 := HB.out.res.cellv (i := 1) rfl
              have z2 := HB.out.res.cellv (i := 2) rfl
              have z3 := HB.out.res.cellv (i := 3) rfl
              have z4 := HB.out.res.cellv (i := 4) rfl
              have z5 := HB.out.res.cellv (i := 5) rfl
              have z6 := HB.out.res.cellv (i := 6) rfl
              have z7 := HB.out.res.cellv (i := 7) rfl
              have y0 := HB.out.res.frozen 0
              have y1 := HB.out.res.frozen 1
              have y2 := HB.out.res.frozen 2
              have y3 := HB.out.res.frozen 3
              have y4 := HB.out.res.frozen 4
              have y5 := HB.out.res.frozen 5
              have y6 := HB.out.res.frozen 6
              have y7 := HB.out.res.frozen 7
              go_wp2_with fail
              (try simp only [Exit.inBlock, Exit.then])
              refine bodyPost_ret (by simp [results, Tryz.results98, go_sem, z0, z1, z2, z3, z4, z5, z6, z7]; try rfl) rfl ?_
              refine ⟨?_, ?_⟩
              · rw [← HW.out, nx_swap c6 (by rw [want_take, HTT.out, HWT.out, HSS.out]; omega), HTT.out]
                simp [gwV, wSwap, add64]
              · iterate 8 (refine Only.setNew ?_ _ b2l _)
                first | exact HB.out.only | exact HB.out.only.drewN _
            · have lt3 : k + 3 ≤ l.length := by omega
              have e2 := HL.out _ HB.out.only (k + 2) (by omega)
              obtain ⟨xx, hxx⟩ : ∃ xx, elt l (k + 2) = xx := ⟨_, rfl⟩
              rw [hxx] at e2
              have HXX := hide hxx
              clear hxx
              by_cases c7 : xx = 0
              · have c7b : (xx == 0) = true := by simp [c7]
                have C7 := hide c7
                clear c7
                go_wp2_with fail
                go_roundg (l.length - (k + 3))
                case rel => exact ⟨k + 3, rfl, by omega, by go_num, by rw [← nx_zero lt3 (by rw [want_take, HTT.out, HWT.out, HSS.out]; omega) (by rw [HXX.out]; exact C7.out)]; exact HW.out, HB.out⟩
                case measure => omega
              · have c7b : (xx == 0) = false := by simp [c7]
                have HLL := hide (show lastL base n 1 V tt (l.drop (k + 3)) = W from by rw [← HTT.out, ← nx_last lt3 (by rw [want_take, HTT.out, HWT.out, HSS.out]; omega) (by rw [HXX.out]; exact c7)]; exact HW.out)
                have HRX := hide (HRD.out.only0 HB.out.only)
                have p0 := HB.out.op.cellv (i := 0) rfl
                have p1 := HB.out.op.cellv (i := 1) rfl
                have p2 := HB.out.op.cellv (i := 2) rfl
                have sl0 : 0 ≤ slotOf base n tt := by unfold slotOf; omega
                have sl1 : slotOf base n tt ≤ 100000 := by unfold slotOf; omega
                clear c7
                by_cases d3 : l.length = k + 3
                · have D3 := hide d3
                  clear d3
                  go_wp2_with fail
                  refine (last_take3m HRX.out hlen tt (slotOf base n tt) HT64.out n1 n64 sl0 sl1 ((l.length : Int) - (k : Int)) (by have := D3.out; omega)).mono ?_
                  rintro e wx3 ⟨rfl, ox⟩
                  have HBX := hide (HB.out.only0 ox)
                  clear ox HB r0 r1 p0 p1 p2 e2
                  have HB := HBX
                  clear HBX
                  have z0 := HB.out.res.cellv (i := 0) rfl
                  have z1 := HB.out.res.cellv (i := 1) rfl
                  have z2 := HB.out.res.cellv (i := 2) rfl
                  have z3 := HB.out.res.cellv (i := 3) rfl
                  have z4 := HB.out.res.cellv (i := 4) rfl
                  have z5 := HB.out.res.cellv (i := 5) rfl
                  have z6 := HB.out.res.cellv (i := 6) rfl
                  have z7 := HB.out.res.cellv (i := 7) rfl
                  have y0 := HB.out.res.frozen 0
                  have y1 := HB.out.res.frozen 1
                  have y2 := HB.out.res.frozen 2
                  have y3 := HB.out.res.frozen 3
                  have y4 := HB.out.res.frozen 4
                  have y5 := HB.out.res.frozen 5
                  have y6 := HB.out.res.frozen 6
                  have y7 := HB.out.res.frozen 7
                  unfold gwV
                  go_wp2_with fail
                  (try simp only [Exit.inBlock, Exit.then])
                  refine bodyPost_ret (by simp [results, Tryz.results98, go_sem, z0, z1, z2, z3, z4, z5, z6, z7]; try rfl) rfl ?_
                  refine ⟨?_, ?_⟩
                  · rw [← HLL.out, ll_3 (by have := D3.out; omega)]
                    simp [gwV, wLoad]
                  · iterate 8 (refine Only.setNew ?_ _ b2l _)
                    first | exact HB.out.only | exact HB.out.only.drewN _
                · by_cases d4 : l.length = k + 4
                  · have D4 := hide d4
                    clear d4
                    go_wp2_with fail
                    refine (last_take4m HRX.out hlen tt (slotOf base n tt) HT64.out n1 n64 sl0 sl1 ((l.length : Int) - (k : Int)) (by have := D4.out; omega)).mono ?_
                    rintro e wx3 ⟨rfl, ox⟩
                    have HBX := hide (HB.out.only0 ox)
                    clear ox HB r0 r1 p0 p1 p2 e2
                    have HB := HBX
                    clear HBX
                    have z0 := HB.out.res.cellv (i := 0) rfl
                    have z1 := HB.out.res.cellv (i := 1) rfl
                    have z2 := HB.out.res.cellv (i := 2) rfl
                    have z3 := HB.out.res.cellv (i := 3) rfl
                    have z4 := HB.out.res.cellv (i := 4) rfl
                    have z5 := HB.out.res.cellv (i := 5) rfl
                    have z6 := HB.out.res.cellv (i := 6) rfl
                    have z7 := HB.out.res.cellv (i := 7) rfl
                    have y0 := HB.out.res.frozen 0
                    have y1 := HB.out.res.frozen 1
                    have y2 := HB.out.res.frozen 2
                    have y3 := HB.out.res.frozen 3
                    have y4 := HB.out.res.frozen 4
                    have y5 := HB.out.res.frozen 5
                    have y6 := HB.out.res.frozen 6
                    have y7 := HB.out.res.frozen 7
                    unfold gwV
                    go_wp2_with fail
                    (try simp only [Exit.inBlock, Exit.then])
                    refine bodyPost_ret (by simp [results, Tryz.results98, go_sem, z0, z1, z2, z3, z4, z5, z6, z7]; try rfl) rfl ?_
                    refine ⟨?_, ?_⟩
                    · rw [← HLL.out, ll_4 (by have := D4.out; omega)]
                      simp [gwV, wStore]
                    · iterate 8 (refine Only.setNew ?_ _ b2l _)
                      first | exact HB.out.only | exact HB.out.only.drewN _
                  · skip
                    go_wp2_with fail
                    refine (last_take5 HRX.out hlen tt (slotOf base n tt) HT64.out n1 n64 sl0 sl1 ((l.length : Int) - (k : Int)) (by omega) (by omega)).mono ?_
                    rintro e wx3 ⟨rfl, ox⟩
                    have HBX := hide (HB.out.only0 ox)
                    clear ox HB r0 r1 p0 p1 p2 e2
                    have HB := HBX
                    clear HBX
                    have z0 := HB.out.res.cellv (i := 0) rfl
                    have z1 := HB.out.res.cellv (i := 1) rfl
                    have z2 := HB.out.res.cellv (i := 2) rfl
                    have z3 := HB.out.res.cellv (i := 3) rfl
                    have z4 := HB.out.res.cellv (i := 4) rfl
                    have z5 := HB.out.res.cellv (i := 5) rfl
                    have z6 := HB.out.res.cellv (i := 6) rfl
                    have z7 := HB.out.res.cellv (i := 7) rfl
                    have y0 := HB.out.res.frozen 0
                    have y1 := HB.out.res.frozen 1
                    have y2 := HB.out.res.frozen 2
                    have y3 := HB.out.res.frozen 3
                    have y4 := HB.out.res.frozen 4
                    have y5 := HB.out.res.frozen 5
                    have y6 := HB.out.res.frozen 6
                    have y7 := HB.out.res.frozen 7
                    unfold gwV
                    go_wp2_with fail
                    (try simp only [Exit.inBlock, Exit.then])
                    refine bodyPost_ret (by simp [results, Tryz.results98, go_sem, z0, z1, z2, z3, z4, z5, z6, z7]; try rfl) rfl ?_
                    refine ⟨?_, ?_⟩
                    · rw [← HLL.out, ll_5 (by omega)]
                      simp [gwV, wOver]
                    · iterate 8 (refine Only.setNew ?_ _ b2l _)
                      first | exact HB.out.only | exact HB.out.only.drewN _

def gnext (base n kind V : Int) (l : List Int) : GW := nextL base n (kind - 1) V l
theorem gNext_any {w : World} {base n : Int} {lv : Value} {l : List Int} (kind V : Int) (hl : Rd w lv (l.map (.int .u64))) (hlen : l.length ≤ 1000000) (hu : ∀ x ∈ l, U64 x) (n1 : 1 ≤ n) (n64 : n ≤ 64) (b0 : 0 ≤ base) (b1 : base ≤ 70000) (hk1 : 1 ≤ kind) (hk2 : kind ≤ 2) :
    Calls Tryz.prog 98 #[.agg #[.int .i64 base, .int .i64 n], .agg #[.int .i64 kind, .int .u64 V, lv]] w fun e w' => e = .returned (gwV (gnext base n kind V l)) ∧ Only S0 w w' := by
  have hk : kind = 1 ∨ kind = 2 := by omega
  rcases hk with rfl | rfl
  · exact Next_put hl hlen hu n1 n64 b0 b1
  · exact Next_take hl hlen hu n1 n64 b0 b1
end Go.Proofs.YtdoaipjdldknaaaGreat
