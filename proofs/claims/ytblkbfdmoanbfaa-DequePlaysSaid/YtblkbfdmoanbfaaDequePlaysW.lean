/-
  DequePlays, the walk.
-/
import Derived.Test.YtblkbfdmoanbfaaDequePlaysP
import Derived.Test.YtblkbfdmoanbfaaDequeMakesW
import Derived.Deep.RegionHeld3
import Derived.Deep.DeepCutAuto
import Derived.StillTailTactics
namespace Go.Proofs.Ytblkbfdmoanbfaa
open Go.RowKit
set_option linter.unusedVariables false

theorem gmake_refs (w : World) : (Instr.makeSlice 64 (.int .i64 5) (.int .i64 5)).run Try.prog w = .ok (.slice (some ⟨w.heap.size, 0, none⟩) 5 5) (w.alloc (.cells (refs3 5 fun _ => ⟨0, 0, .slice none 0 0⟩) 69)) := by kernel_rfl
theorem gmake_ops (w : World) : (Instr.makeSlice 48 (.int .i64 5) (.int .i64 5)).run Try.prog w = .ok (.slice (some ⟨w.heap.size, 0, none⟩) 5 5) (w.alloc (.cells (optrs 5 (fun _ => false) fun _ => 0) 47)) := by kernel_rfl

theorem DSt.seen {F : DFix} {w0 w : World} {act : Nat → Bool} {bo : Nat → Nat} {o : Nat → Dop} {r : Nat → Ref} {l : Nat → List Int} {L : List Int} {tc tcr : Int} {i t : Nat} (h : DSt F w0 w act bo o r l L tc tcr i) (ht : t < 5) (ha : act t = true) :
    ∃ (bx : Nat) (ox : Dop) (kx Vx : Int) (lx : List Int) (ax : Option Addr) (cx : Nat), w.cell? ⟨F.go, t, none⟩ = some (.pointer (some ⟨bx, 0, none⟩)) ∧ w.cell? ⟨F.gr, t * 3, none⟩ = some (.int .i64 kx) ∧ w.cell? ⟨F.gr, t * 3 + 1, none⟩ = some (.int .u64 Vx) ∧
      w.cell? ⟨F.gr, t * 3 + 2, none⟩ = some (.slice ax lx.length cx) ∧ DopIs w bx F.bb ox ∧ DThr F.n ox kx Vx lx ∧ LogIs w F.B0 (.slice ax lx.length cx) lx ∧ lx.length ≤ i ∧ bo t = bx ∧ o t = ox ∧ r t = ⟨kx, Vx, .slice ax lx.length cx⟩ ∧ l t = lx := by
  obtain ⟨hl, hn⟩ := h.logs t ht
  obtain ⟨a, ca, hv, -⟩ := hl.at_.form
  have hb := h.thr t ht ha
  have c0 := h.ops.cellv (optrs_get act bo ht)
  rw [show optr act bo t = .pointer (some ⟨bo t, 0, none⟩) from by unfold optr; rw [ha]; rfl] at c0
  have c1 := h.refs.cellv (refs3_get (j := 0) r ht (by decide))
  have c2 := h.refs.cellv (refs3_get (j := 1) r ht (by decide))
  have c3 := h.refs.cellv (refs3_get (j := 2) r ht (by decide))
  have hr : r t = ⟨(r t).kind, (r t).V, .slice a (l t).length ca⟩ := by rw [← hv]
  rw [hv] at hl
  rw [show rfld (r t) 2 = .slice a (l t).length ca from by simp [rfld, hv]] at c3
  exact ⟨_, _, _, _, _, _, _, c0, c1, c2, c3, h.fam.at_ t ht ha, hb, hl, hn, rfl, rfl, hr, rfl⟩
theorem DopIs.over {w : World} {bo bb : Nat} {o : Dop} (h : DopIs w bo bb o) : Calls Try.prog 27 #[.pointer (some ⟨bo, 0, none⟩)] w fun e w' => e = .returned (.bool (o.out != 0)) ∧ w = w' := by
  by_cases h0 : o.out = 0
  · rw [show (o.out != 0) = false from by simp [h0]]; exact h.over0 h0
  · rw [show (o.out != 0) = true from by simp [h0]]; exact h.over1 h0

set_option maxRecDepth 100000 in
set_option maxHeartbeats 32000000 in
theorem dequePlays_walk (a0 a1 : Int) (a2 : Option Addr) (len cap : Nat) (xs : Nat → Nat → Int) (w : World) (w0 : (Lit.int .u8 a0).wf = true) (w1 : (Lit.int .u8 a1).wf = true) (w2 : InRows [.u8, .u8, .u64] w a2 len xs) :
    Calls Try.prog 9 #[.int .u8 a0, .int .u8 a1, .slice a2 len cap] w fun e w' => e = .returned (.bool true) ∧ Below w.heap.size w w' := by
  have hbig := w2.big
  have k1 := (bounds_u8 w0).1
  have k2 := (bounds_u8 w0).2
  have k3 := (bounds_u8 w1).1
  have k4 := (bounds_u8 w1).2
  have HC := hide w2.cells
  have HK := hide fun (i : Nat) (hi : i < len) => bounds_u8 (w2.wf i 0 hi (by decide))
  have HT := hide fun (i : Nat) (hi : i < len) => bounds_u8 (w2.wf i 1 hi (by decide))
  have HW := hide fun (i : Nat) (hi : i < len) => bounds_u64 (w2.wf i 2 hi (by decide))
  clear w0 w1 w2
  obtain ⟨n, hn⟩ : ∃ n : Nat, 1 + a0 % 9 = (n : Int) := ⟨(1 + a0 % 9).toNat, by omega⟩
  have n1 : 1 ≤ n := by omega
  have n9 : n ≤ 9 := by omega
  obtain ⟨b, hb⟩ : ∃ b : Nat, a1 % 5 = (b : Int) := ⟨(a1 % 5).toNat, by omega⟩
  have b5 : b ≤ 4 := by omega
  go_enter Try.func9, Try.ntmps9
  go_wp2_with fail
  refine (alive4_any w).mono ?_
  rintro e wa ⟨rfl, p1⟩
  have P1 := hide p1
  clear p1
  go_wp2_with fail
  rw [hb]
  have HN := hide hn
  have HB := hide hb
  clear hn hb k1 k2 k3 k4
  refine (New_any _).mono ?_
  rintro e w1 ⟨bm, bc, rfl, q1, p1, b1, b2⟩
  rw [show countOf ((b : Int) + 2 + (n : Int) + 1) = b + 2 + n + 1 by unfold countOf; omega] at q1
  have HQ := hide q1
  have P3 := hide (P1.out.trans p1)
  have c2 : w.heap.size ≤ bm := Nat.le_trans P1.out.size b1
  have c3 : w.heap.size ≤ bc := Nat.le_trans P1.out.size b2
  clear q1 p1
  go_wp2_with fail
  refine (Make_good b n HQ.out (few_of _ (by omega)) n1 (by omega) (by simp; omega)).mono ?_
  rintro e w2 ⟨bb, rfl, g2, q2, p2, b3⟩
  have hE : DeqEnv w2 bb bm bc b n (0 + ((2 + n : Nat) : Int)) (layD (List.replicate (b + 2 + n + 1) 0) b (2 + n)) := ⟨g2, q2, few_of _ (by omega), layD_u _ _ _ (allU_zero _), by omega, by omega, by omega, by omega, by rw [layD_len]; simp; omega⟩
  have HE := hide hE
  have P4 := hide (S0.then2 P3.out p2 c2 c3)
  have c4 : w.heap.size ≤ bb := Nat.le_trans P3.out.size b3
  clear g2 q2 p2 HQ b3 P3 hE
  go_wp2_with fail
  have oat := (Only.refl S0 w2).alloc (.cells #[.int .i64 b, .int .i64 n] 42)
  have HAT := hide (Blk.new w2 42 #[.int .i64 b, .int .i64 n])
  have P4' := hide (P4.out.trans oat)
  have HE' := hide (HE.out.only0 oat)
  have cat : w.heap.size ≤ w2.heap.size := P4.out.size
  clear oat
  refine (RefNew_any _).mono ?_
  rintro e w3 ⟨rm, rc, rfl, q3, p3, b4, b5'⟩
  rw [show countOf ((b : Int) + 2 + (n : Int) + 1) = b + 2 + n + 1 by unfold countOf; omega] at q3
  have HR := hide q3
  have hlt1 := Blk.lt HE'.out.mem.mem
  have hlt2 := Blk.lt HE'.out.mem.cells
  have hlt3 := Blk.lt HE'.out.deq
  have hlt4 := Blk.lt HAT.out
  have HE3 := hide (HE'.out.only0 p3)
  have HAT3 := hide (HAT.out.only p3 (fun h => h))
  have P5 := hide (P4'.out.trans p3)
  have c5 : w.heap.size ≤ rm := Nat.le_trans P4'.out.size b4
  have c6 : w.heap.size ≤ rc := Nat.le_trans P4'.out.size b5'
  have hs3 := p3.size
  have hne : bc ≠ rc := by omega
  have hlt5 := Blk.lt HR.out.mem
  have hlt6 := Blk.lt HR.out.cells
  have z0 := HAT3.out.cellv (i := 0) rfl
  have z1 := HAT3.out.cellv (i := 1) rfl
  clear q3 p3 HE HE' HAT P4 P4'
  go_wp2_with fail
  refine (Lay_any b n HR.out (by omega) (by simp; omega)).mono ?_
  rintro e w4 ⟨rfl, h4, p4⟩
  have HR4 := hide h4
  have hS4 : ∀ g, g < rm → g < rc → ¬ S2 rm rc g := fun g h1 h2 h3 => by unfold S2 at h3; omega
  have HE4 := hide (HE3.out.only p4 (hS4 _ (by omega) (by omega)) (hS4 _ (by omega) (by omega)) (hS4 _ (by omega) (by omega)))
  have HAT4 := hide (HAT3.out.only p4 (hS4 _ (by omega) (by omega)))
  have P6 := hide (S0.then2 P5.out p4 c5 c6)
  have hs4 := p4.size
  clear h4 p4 HE3 HAT3 P5 HR z0 z1 hS4
  have hm1 := gmake_ops
  have hm2 := gmake_refs
  go_wp2_with fail
  clear hm1 hm2
  have o1 := (Only.refl S0 w4).alloc (.cells (optrs 5 (fun _ => false) fun _ => 0) 47)
  have o2 := o1.alloc (.cells (refs3 5 fun _ => ⟨0, 0, .slice none 0 0⟩) 69)
  have HST := hide (show DSt ⟨w4.heap.size + 2, w2.heap.size, bb, bm, bc, rm, rc, w4.heap.size, w4.heap.size + 1, b, n⟩ w ((w4.alloc (.cells (optrs 5 (fun _ => false) fun _ => 0) 47)).alloc (.cells (refs3 5 fun _ => ⟨0, 0, .slice none 0 0⟩) 69))
      (fun _ => false) (fun _ => 0) (fun _ => ⟨0, 0, 0, 0, 0, false⟩) (fun _ => ⟨0, 0, .slice none 0 0⟩) (fun _ => []) (layD (List.replicate (b + 2 + n + 1) 0) b (2 + n)) (0 + ((2 + n : Nat) : Int)) 0 0 from
    ⟨OFam.empty _ _ _ _ _ _, (Blk.new w4 _ _).alloc _, by simpa using Blk.new (w4.alloc (.cells (optrs 5 (fun _ => false) fun _ => 0) 47)) 69 (refs3 5 fun _ => ⟨0, 0, .slice none 0 0⟩),
      HE4.out.only0 o2, HR4.out.only0 o2, HAT4.out.only o2 (fun h => h), fun t ht => ⟨⟨LogAt.nil _ _, fun _ => rfl⟩, Nat.zero_le _⟩, fun t ht h => absurd h (by decide), P6.out.trans o2, by simp, by omega, by omega⟩)
  have HOK := hide (show DFix.Ok ⟨w4.heap.size + 2, w2.heap.size, bb, bm, bc, rm, rc, w4.heap.size, w4.heap.size + 1, b, n⟩ w.heap.size from
    ⟨by show bm < w4.heap.size + 2; omega, by show bc < w4.heap.size + 2; omega, by show rm < w4.heap.size + 2; omega, by show rc < w4.heap.size + 2; omega, by show w4.heap.size < w4.heap.size + 2; omega, by show w4.heap.size + 1 < w4.heap.size + 2; omega, by show bb < w4.heap.size + 2; omega, by show w2.heap.size < w4.heap.size + 2; omega, hne, c2, c3, c5, c6, P6.out.size, by have := P6.out.size; show w.heap.size ≤ w4.heap.size + 1; omega, by have := P6.out.size; show w.heap.size ≤ w4.heap.size + 2; omega, n1, n9, by show b ≤ 5; omega⟩)
  clear o1 o2 HE4 HR4 HAT4 P6
  have HST' := HST
  clear HST
  generalize (w4.alloc (.cells (optrs 5 (fun _ => false) fun _ => 0) 47)).alloc (.cells (refs3 5 fun _ => ⟨0, 0, .slice none 0 0⟩) 69) = wS at HST' ⊢
  generalize w4.heap.size + 2 = B0 at HST' HOK
  generalize hgr : w4.heap.size + 1 = gr at HST' HOK ⊢
  generalize hgo : w4.heap.size = go at HST' HOK ⊢
  generalize hga : w2.heap.size = gat at HST' HOK ⊢
  obtain ⟨F, rfl, rfl, rfl, rfl, rfl, rfl, rfl, rfl, rfl, rfl, hok, hst⟩ : ∃ F : DFix, F.gat = gat ∧ F.bb = bb ∧ F.bm = bm ∧ F.bc = bc ∧ F.rm = rm ∧ F.rc = rc ∧ F.go = go ∧ F.gr = gr ∧ F.b = b ∧ F.n = n ∧ F.Ok w.heap.size ∧
      DSt F w wS (fun _ => false) (fun _ => 0) (fun _ => ⟨0, 0, 0, 0, 0, false⟩) (fun _ => ⟨0, 0, .slice none 0 0⟩) (fun _ => []) (layD (List.replicate (b + 2 + n + 1) 0) b (2 + n)) (0 + ((2 + n : Nat) : Int)) 0 0 :=
    ⟨⟨B0, gat, bb, bm, bc, rm, rc, go, gr, b, n⟩, rfl, rfl, rfl, rfl, rfl, rfl, rfl, rfl, rfl, rfl, HOK.out, HST'.out⟩
  have HF := hide hok
  have HST := hide hst
  clear hok hst HST' HOK hgr hgo hga hs3 hs4 hne hlt1 hlt2 hlt3 hlt4 hlt5 hlt6 b4 b5' c2 c3 c4 c5 c6 b1 b2 cat
  go_loopg [16, 17, 18, 19, 20, 21, 22] 400 (fun q iv v17 v18 v19 v20 v21 v22 wr => ∃ (i : Nat) (act : Nat → Bool) (bo : Nat → Nat) (o : Nat → Dop) (r : Nat → Ref) (l : Nat → List Int) (L : List Int) (tc tcr : Int), q = 400 - i ∧ i ≤ 400 ∧ i ≤ len ∧ iv = .int .i64 i ∧ DSt F w wr act bo o r l L tc tcr i)
  case atStart => exact ⟨0, _, _, _, _, _, _, _, _, rfl, by omega, by omega, rfl, HST.out⟩
  case round =>
  clear HST
  obtain ⟨i, act, bo, o, r, l, L, tc, tcr, rfl, hi, hil, rfl, hst⟩ := hrel
  have HST := hide hst
  clear hst
  by_cases hlt : i < len
  · by_cases hlt4 : i < 400
    · obtain ⟨g, off, rfl, hg, hc⟩ := HC.out (by omega)
      have e0 : wr.cell? ⟨g, off + i * 3, none⟩ = _ := (HST.out.only.cell (p := ⟨g, off + i * 3, none⟩) hg (fun h => h)).trans (hc i 0 hlt (by decide))
      have e1 : wr.cell? ⟨g, off + i * 3 + 1, none⟩ = _ := (HST.out.only.cell (p := ⟨g, off + i * 3 + 1, none⟩) hg (fun h => h)).trans (hc i 1 hlt (by decide))
      have e2 : wr.cell? ⟨g, off + i * 3 + 2, none⟩ = _ := (HST.out.only.cell (p := ⟨g, off + i * 3 + 2, none⟩) hg (fun h => h)).trans (hc i 2 hlt (by decide))
      obtain ⟨u1, u2⟩ := HK.out i hlt
      obtain ⟨u3, u4⟩ := HT.out i hlt
      obtain ⟨u5, u6⟩ := HW.out i hlt
      have HCC := hide hc
      clear hc
      simp only [show [IntKind.u8, IntKind.u8, IntKind.u64].getD 0 .i64 = .u8 from rfl, show [IntKind.u8, IntKind.u8, IntKind.u64].getD 1 .i64 = .u8 from rfl, show [IntKind.u8, IntKind.u8, IntKind.u64].getD 2 .i64 = .u64 from rfl] at e0 e1 e2
      generalize xs i 0 = kd0 at e0 u1 u2
      generalize xs i 1 = th0 at e1 u3 u4
      generalize xs i 2 = xw at e2 u5 u6
      obtain ⟨t, ht⟩ : ∃ t : Nat, th0 % 5 = (t : Int) := ⟨(th0 % 5).toNat, by omega⟩
      have ht5 : t < 5 := by omega
      obtain ⟨kd, hkd⟩ : ∃ kd : Int, kd0 % 5 = kd := ⟨_, rfl⟩
      have hkd0 : 0 ≤ kd := by omega
      have hkd5 : kd < 5 := by omega
      go_upto_region 20 with fail
      rw [ht, hkd]
      clear ht hkd u1 u2 u3 u4
      have hbx := (Only.refl S0 wr).alloc (.cells #[.int .u8 kd0, .int .u8 th0, .int .u64 xw] 66)
      have HST1 := hide (HST.out.only0 hbx)
      have op0 := HST1.out.ops.cellv (optrs_get act bo ht5)
      have HBX := hide (Blk.new wr 66 #[.int .u8 kd0, .int .u8 th0, .int .u64 xw])
      clear hbx e0 e1
      have hB0 := HST.out.le
      obtain ⟨bbx, hbbx⟩ : ∃ bbx, wr.heap.size = bbx := ⟨_, rfl⟩
      obtain ⟨wz, hwz⟩ : ∃ wz, wr.alloc (.cells #[.int .u8 kd0, .int .u8 th0, .int .u64 xw] 66) = wz := ⟨_, rfl⟩
      rw [hbbx] at HBX hB0
      rw [hwz] at HST1 op0 HBX
      rw [hwz, hbbx]
      clear hwz hbbx HST e2
      obtain ⟨idle, hidle⟩ : ∃ idle : Bool, idle = (!act t || ((o t).out != 0)) := ⟨_, rfl⟩
      have HID := hide hidle
      clear hidle
      go_cut [20] (fun v20 wx => v20 = .bool idle ∧ wz = wx)
      case first =>
        cases hact : act t with
        | false =>
          rw [show optr act bo t = .pointer none from by unfold optr; rw [hact]; rfl] at op0
          have hid := HID.out
          rw [hact] at hid
          have HID2 := hide (show idle = true from by rw [hid]; rfl)
          clear hact hid
          go_wp2_with fail
          go_meet
          exact ⟨by rw [HID2.out], rfl⟩
        | true =>
          rw [show optr act bo t = .pointer (some ⟨bo t, 0, none⟩) from by unfold optr; rw [hact]; rfl] at op0
          have hid := HID.out
          rw [hact] at hid
          have HID2 := hide (show idle = ((o t).out != 0) from by rw [hid]; rfl)
          have HBP := hide (HST1.out.fam.at_ t ht5 hact)
          clear hact hid
          go_wp2_with fail
          refine (DopIs.over HBP.out).mono ?_
          rintro e w1 ⟨rfl, rfl⟩
          rw [← HID2.out]
          go_wp2_with fail
          go_meet
          exact ⟨rfl, rfl⟩
      case rest =>
      obtain ⟨rfl, rfl⟩ := hcut
      obtain ⟨kk, hkk⟩ : ∃ kk : Bool, kk = (decide (1 ≤ kd) && decide (kd ≤ 3)) := ⟨_, rfl⟩
      have HKK := hide hkk
      clear hkk
      go_upto_region 21 with fail
      go_cut [104] (fun v104 wx => v104 = .bool kk ∧ wz = wx)
      case first =>
        by_cases h1 : 1 ≤ kd
        · have HK1 := hide (show kk = decide (kd ≤ 3) from by rw [HKK.out, decide_eq_true h1]; rfl)
          go_wp2_with fail
          go_meet
          exact ⟨by rw [HK1.out], rfl⟩
        · have HK1 := hide (show kk = false from by rw [HKK.out, decide_eq_false h1]; rfl)
          go_wp2_with fail
          go_meet
          exact ⟨by rw [HK1.out], rfl⟩
      case rest =>
      obtain ⟨rfl, rfl⟩ := hcut
      go_upto_if 104 with fail
      go_cut [] (fun wx => ∃ (act' : Nat → Bool) (bo' : Nat → Nat) (o' : Nat → Dop) (r' : Nat → Ref) (l' : Nat → List Int) (L' : List Int) (tc' tcr' : Int), DSt F w wx act' bo' o' r' l' L' tc' tcr' (i + 1))
      case first =>
        cases kk with
        | true =>
          cases idle with
          | true =>
            have hkb := HKK.out
            have hk1 : 1 ≤ kd := by simp at hkb; omega
            have hk3 : kd ≤ 3 := by simp at hkb; omega
            clear hkb
            have bx2 := HBX.out.cellv (i := 2) rfl
            go_wp2_with fail
            refine (begun4_any kd xw HST1.out.env).mono ?_
            rintro e w1 ⟨bn, rfl, hx, -, o1, hbn⟩
            have HX := hide (show DopIs w1 bn F.bb (dbegin kd xw) from hx)
            have HSB := hide (DSt.begin_ HF.out HST1.out ht5 o1 HX.out hbn (dthr_new F.n kd xw hk1 hk3 ⟨u5, by omega⟩)).more
            have q0 := (HST1.out.ops.only o1 (fun h => h)).cellv (optrs_get act bo ht5)
            have q1 := (HST1.out.refs.only o1 (fun h => h)).cellv (refs3_get (j := 0) r ht5 (by decide))
            have q2 := (HST1.out.refs.only o1 (fun h => h)).cellv (refs3_get (j := 1) r ht5 (by decide))
            have q3 := (HST1.out.refs.only o1 (fun h => h)).cellv (refs3_get (j := 2) r ht5 (by decide))
            have y0 := (HST1.out.ops.only o1 (fun h => h)).frozen t
            have y1 := (HST1.out.refs.only o1 (fun h => h)).frozen (t * 3)
            have y2 := (HST1.out.refs.only o1 (fun h => h)).frozen (t * 3 + 1)
            have y3 := (HST1.out.refs.only o1 (fun h => h)).frozen (t * 3 + 2)
            have hne : F.go ≠ F.gr := HST1.out.ops.ne_ HST1.out.refs (by decide)
            have hne2 : F.go ≠ bbx := by have := HF.out.go; omega
            have q4 := (HBX.out.only o1 (fun h => h)).cellv (i := 2) rfl
            clear hx o1 hbn HX
            rw [Nat.add_zero] at q1
            go_upto_region 25 with fail
            have op1 := HSB.out.ops.cellv (optrs_get (upd act t true) (upd bo t bn) ht5)
            rw [show optr (upd act t true) (upd bo t bn) t = .pointer (some ⟨bn, 0, none⟩) from by unfold optr; rw [upd_same, upd_same]; rfl] at op1
            go_wp2_with fail
            go_meet
            exact ⟨_, _, _, _, _, _, _, _, HSB.out⟩
          | false =>
            have HSZ := hide HST1.out.more
            go_wp2_with fail
            go_roundg (400 - (i + 1))
            case rel => exact ⟨i + 1, _, _, _, _, _, _, _, _, rfl, by omega, by omega, by go_num, HSZ.out⟩
            case measure => omega
        | false =>
          cases hact : act t with
          | false =>
            rw [show optr act bo t = .pointer none from by unfold optr; rw [hact]; rfl] at op0
            have HSB := hide HST1.out.more
            clear hact
            go_wp2_with fail
            go_meet
            exact ⟨_, _, _, _, _, _, _, _, HSB.out⟩
          | true =>
            rw [show optr act bo t = .pointer (some ⟨bo t, 0, none⟩) from by unfold optr; rw [hact]; rfl] at op0
            have HACT := hide hact
            have HBP := hide (HST1.out.fam.at_ t ht5 hact)
            have hid := HID.out
            rw [hact] at hid
            have HID2 := hide (show idle = ((o t).out != 0) from by rw [hid]; rfl)
            clear hact hid
            by_cases hout : (o t).out = 0
            · have HOUT := hide hout
              obtain rfl : idle = false := by rw [HID2.out, hout]; rfl
              clear hout
              obtain ⟨bx, ox, kx, Vx, lx, ax, cx, d0, d1, d2, d3, hbop, hthr, hlog, hlen, hbo, hox, hrt, hlt'⟩ := HST1.out.seen ht5 HACT.out
              have n1 := HF.out.n1
              have n9 := HF.out.n9
              have b5x := HF.out.b5
              have HLOG := hide hlog
              have HLEN := hide hlen
              have HTHR := hide hthr
              have HBO := hide hbo
              have HOX := hide hox
              rw [hox, hbo] at HBP
              rw [hox] at HOUT
              have HRT := hide hrt
              have HLT := hide hlt'
              clear hbop hthr hlog hlen hbo hox hrt hlt'
              have hgr := HST1.out.refs.lt
              have y1 := HST1.out.refs.frozen (t * 3)
              have y2 := HST1.out.refs.frozen (t * 3 + 1)
              have y3 := HST1.out.refs.frozen (t * 3 + 2)
              rw [HBO.out] at op0
              go_wp2_with fail
              refine (Touched_any HST1.out.env.mem).mono ?_
              rintro e w1 ⟨rfl, rfl⟩
              go_wp2_with fail
              refine (DStep_all HST1.out.env HTHR.out.ok HBP.out (few_of _ (by have := HST1.out.tcb; omega))).mono ?_
              rintro e w1 ⟨rfl, h1, h2, h3⟩
              rw [show dtick ox = 1 from by simp [dtick, HOUT.out]] at h2
              obtain ⟨L', xv, hg⟩ : ∃ L' xv, gdo L (daskOf F.b F.n ox) = (L', xv) := ⟨_, _, rfl⟩
              rw [dstep_ask _ _ _ _ HOUT.out HTHR.out.ok.k, hg] at h1 h2 ⊢
              simp only at h1 h2 ⊢
              have HXU := hide (show U64 xv from by have := dgdo_u HST1.out.env.u (daskOf F.b F.n ox); rw [hg] at this; exact this)
              generalize hov : ((dans F.n ox xv).out != 0) = ov
              have HOV := hide hov
              have H1 := hide h1
              have H2 := hide h2
              rw [← HBO.out] at h3
              have H3 := hide h3
              have HG := hide hg
              obtain ⟨m1, m2, m3, m4, m5, m6, m7⟩ := HST1.out.mid HF.out ht5 HACT.out h3
              have op1 := m1.cellv (optrs_get act bo ht5)
              rw [show optr act bo t = .pointer (some ⟨bx, 0, none⟩) from by unfold optr; rw [HACT.out, HBO.out]; rfl] at op1
              have r1 := m2.cellv (refs3_get (j := 0) r ht5 (by decide))
              have r2 := m2.cellv (refs3_get (j := 1) r ht5 (by decide))
              have r3 := m2.cellv (refs3_get (j := 2) r ht5 (by decide))
              rw [HRT.out] at r1 r2 r3
              rw [Nat.add_zero] at r1
              have at0 := m4.cellv (i := 0) rfl
              have at1 := m4.cellv (i := 1) rfl
              have M2 := hide m2
              have M3 := hide m3
              have ML := hide (m5 t ht5)
              have M7 := hide m7
              clear hov h1 h2 h3 hg m1 m2 m3 m4 m5 m6 m7
              have hcb := HST1.out.tcb
              have hc0 := HST1.out.env.mem.tc0
              go_wp2_with fail
              refine (Touched_any H2.out.mem).mono ?_
              rintro e w1' ⟨rfl, rfl⟩
              go_wp2_with fail
              refine (Touched_any H2.out.mem).mono ?_
              rintro e w1' ⟨rfl, rfl⟩
              go_wp2_with fail
              refine (DopIs.over H1.out).mono ?_
              rintro e w1' ⟨rfl, rfl⟩
              rw [HOV.out]
              go_upto_region 32 with fail
              clear d0 op0 y1 y2 y3
              have HGO := hide (dask_go (len := L.length) (base := (F.b : Int)) (n := F.n) HTHR.out.ok HOUT.out (by omega) (by omega) HST1.out.env.in_)
              have hml := ML.out
              rw [HRT.out, HLT.out] at hml
              have HLD := hide (hml.only0 (Only.refl S0 w1).drew)
              have hgr1 : F.gr ≠ F.rm := M2.out.ne_ M3.out.mem (by decide)
              have hgr2 : F.gr ≠ F.rc := M2.out.ne_ M3.out.cells (by decide)
              clear hml
              go_region_with (first | (go_at_call 32; refine (dStepR_go (w := w1.drew) (base := F.b) (n := F.n) kx (daskOf F.b F.n ox) (HTHR.out.ask F.b) HLD.out M7.out (by have := HLEN.out; omega) (by omega) (by omega) (by omega) (by omega) HTHR.out.k1 HTHR.out.k3 HTHR.out.u M3.out.drew (few_of _ (by have := HST1.out.tcrb; omega)) HF.out.rm HF.out.rc HGO.out.1 HGO.out.2.1 HGO.out.2.2.1 HGO.out.2.2.2).mono ?_; rintro e w2 ⟨lv', rfl, hl', hr', o2⟩; rw [HG.out] at hl' hr'; simp only at hl' hr'; obtain ⟨a2, c2, hlv, -⟩ := hl'.at_.form; obtain ⟨m2, hm2⟩ : ∃ m2, (lx ++ [xv]).length = m2 := ⟨_, rfl⟩; rw [hm2] at hlv; subst hlv; clear hm2; have HSB := hide (DSt.step_ HF.out HST1.out ht5 HACT.out H3.out (show DopIs w1 (bo t) F.bb _ from by rw [HBO.out]; exact H1.out) H2.out (((Only.refl (S2 F.rm F.rc) w1).drew).trans o2) hr' hl' (by rw [List.length_append]; have := HLEN.out; simp; omega) (HTHR.out.step HOUT.out HXU.out) (by omega) (by omega)); have M4 := hide ((show Blk w1.drew F.gr 69 (refs3 5 r) from M2.out).only o2 (fun h => by unfold S2 at h; omega)); have r1 := M4.out.cellv (refs3_get (j := 0) r ht5 (by decide)); have r2 := M4.out.cellv (refs3_get (j := 1) r ht5 (by decide)); have r3 := M4.out.cellv (refs3_get (j := 2) r ht5 (by decide)); have y1 := M4.out.frozen (t * 3); have y2 := M4.out.frozen (t * 3 + 1); have y3 := M4.out.frozen (t * 3 + 2); rw [Nat.add_zero] at r1))
              all_goals (go_wp2_with fail; go_meet; exact ⟨_, _, _, _, _, _, _, _, HSB.out⟩)
            · have HOUT := hide hout
              obtain rfl : idle = true := by rw [HID2.out]; simp [hout]
              clear hout
              obtain ⟨bx, ox, kx, Vx, lx, ax, cx, d0, d1, d2, d3, hbop, hthr, hlog, hlen, hbo, hox, hrt, hlt'⟩ := HST1.out.seen ht5 HACT.out
              have n1 := HF.out.n1
              have n9 := HF.out.n9
              have b5x := HF.out.b5
              have HLOG := hide hlog
              have HLEN := hide hlen
              have HTHR := hide hthr
              have HBO := hide hbo
              have HOX := hide hox
              rw [hox, hbo] at HBP
              rw [hox] at HOUT
              have HRT := hide hrt
              have HLT := hide hlt'
              clear hbop hthr hlog hlen hbo hox hrt hlt'
              have hgr := HST1.out.refs.lt
              have y1 := HST1.out.refs.frozen (t * 3)
              have y2 := HST1.out.refs.frozen (t * 3 + 1)
              have y3 := HST1.out.refs.frozen (t * 3 + 2)
              rw [HBO.out] at op0
              have hcb := HST1.out.tcb
              have hc0 := HST1.out.env.mem.tc0
              have at0 := HST1.out.atb.cellv (i := 0) rfl
              have at1 := HST1.out.atb.cellv (i := 1) rfl
              go_wp2_with fail
              refine (Touched_any HST1.out.env.mem).mono ?_
              rintro e w1 ⟨rfl, rfl⟩
              go_wp2_with fail
              refine (DStep_over HBP.out HOUT.out).mono ?_
              rintro e w1 ⟨rfl, rfl⟩
              go_wp2_with fail
              refine (Touched_any HST1.out.env.mem).mono ?_
              rintro e w1 ⟨rfl, rfl⟩
              go_wp2_with fail
              refine (Touched_any HST1.out.env.mem).mono ?_
              rintro e w1 ⟨rfl, rfl⟩
              go_wp2_with fail
              refine (DopIs.over1 HBP.out HOUT.out).mono ?_
              rintro e w1 ⟨rfl, rfl⟩
              go_upto_region 32 with fail
              have HLD := hide (HLOG.out.only0 (Only.refl S0 wz).drew)
              clear y1 y2 y3
              go_region_with (first | (go_at_call 32; refine (dStepR_over (w := wz.drew) (base := F.b) (n := F.n) kx (daskOf F.b F.n ox) (HTHR.out.ask F.b) HLD.out HST1.out.le (by have := HLEN.out; omega) (by omega) (by omega) (by omega) (by omega) HTHR.out.k1 HTHR.out.k3 HTHR.out.u (by rw [dask_over _ _ HOUT.out]; rfl)).mono ?_; rintro e w2 ⟨rfl, o2⟩; have HSB := hide (DSt.step_ HF.out HST1.out ht5 HACT.out (Only.refl _ wz) (show DopIs wz (bo t) F.bb ox from by rw [HBO.out]; exact HBP.out) HST1.out.env (((Only.refl (S2 F.rm F.rc) wz).drew).trans (o2.mono fun _ h => h.elim)) (HST1.out.ref.drew.only0 o2) (HLD.out.only0 o2) (by have := HLEN.out; omega) HTHR.out (by omega) (by omega)); have M4 := hide ((show Blk wz.drew F.gr 69 (refs3 5 r) from HST1.out.refs).only o2 (fun h => h)); have r1 := M4.out.cellv (refs3_get (j := 0) r ht5 (by decide)); have r2 := M4.out.cellv (refs3_get (j := 1) r ht5 (by decide)); have r3 := M4.out.cellv (refs3_get (j := 2) r ht5 (by decide)); have y1 := M4.out.frozen (t * 3); have y2 := M4.out.frozen (t * 3 + 1); have y3 := M4.out.frozen (t * 3 + 2); rw [Nat.add_zero] at r1))
              all_goals (go_wp2_with fail; go_meet; exact ⟨_, _, _, _, _, _, _, _, HSB.out⟩)
      case rest =>
        obtain ⟨act', bo', o', r', l', L', tc', tcr', hst'⟩ := hcut
        have HSX := hide hst'
        clear hst' HST1 op0 HBX HID HKK
        clear act bo o r l L tc tcr
        cases hact : act' t with
        | false =>
          have op0 := HSX.out.ops.cellv (optrs_get act' bo' ht5)
          rw [show optr act' bo' t = .pointer none from by unfold optr; rw [hact]; rfl] at op0
          clear hact
          go_upto_region 33 with fail
          have ht5a : (t : Int) < 5 := by omega
          have ht5b : (0 : Int) ≤ t := by omega
          have HL := hide (show (L').length ≤ 1000000 from by have := HSX.out.ref.len; omega)
          have HM := hide HSX.out.env.mem
          have HRD := hide HSX.out.ref.rd
          have cr0 := HSX.out.ref.mem.cellv (i := 0) rfl
          have hnm := HSX.out.ref.mem.lt
          have hgo := HSX.out.ops.lt
          have kk0 : (wc.cell? ⟨F.go, t, none⟩ = some (.pointer none) ∧ wc.cell? ⟨F.rm, 0, none⟩ = some (.slice (some ⟨F.rc, 0, none⟩) (L').length (L').length)) := ⟨op0, cr0⟩
          have HD0 := hide (Only.refl S0 wc).drew
          refine wp_region_held_drew (S := fun wq => (wq.cell? ⟨F.go, t, none⟩ = some (.pointer none) ∧ wq.cell? ⟨F.rm, 0, none⟩ = some (.slice (some ⟨F.rc, 0, none⟩) (L').length (L').length))) (by kernel_rfl) kk0 (fun hHeld => ?_)
          refine wpAnyH_take (i := 0) (oi := ⟨some 171, _, _, _, _, _⟩) (v := ?vv0) rfl (by kernel_rfl) (by kernel_rfl) (by kernel_rfl) (fun _ _ _ h => h) (Or.inl ⟨by rfl, ?hy0⟩) (by assumption) ?rest0
          case hy0 => intro wq hSw; (try dsimp only at hSw); go_simp; (try with_reducible rfl)
          (try simp only [Act.put, List.setIfInBounds_toArray, List.set_cons_zero, List.set_cons_succ])
          refine wpAnyH_take (i := 1) (oi := ⟨some 172, _, _, _, _, _⟩) (v := ?vv1) rfl (by kernel_rfl) (by kernel_rfl) (by kernel_rfl) (fun _ _ _ h => h) (Or.inl ⟨by rfl, ?hy1⟩) (by assumption) ?rest1
          case hy1 => intro wq hSw; (try dsimp only at hSw); go_simp; (try with_reducible rfl)
          (try simp only [Act.put, List.setIfInBounds_toArray, List.set_cons_zero, List.set_cons_succ])
          refine wpAnyH_take (i := 2) (oi := ⟨some 173, _, _, _, _, _⟩) (v := ?vv2) rfl (by kernel_rfl) (by kernel_rfl) (by kernel_rfl) (fun _ _ _ h => h) (Or.inl ⟨by rfl, ?hy2⟩) (by assumption) ?rest2
          case hy2 => intro wq hSw; (try dsimp only at hSw); go_simp; (try with_reducible rfl)
          (try simp only [Act.put, List.setIfInBounds_toArray, List.set_cons_zero, List.set_cons_succ])
          refine wpAnyH_take (i := 3) (oi := ⟨some 174, _, _, _, _, _⟩) (v := ?vv3) rfl (by kernel_rfl) (by kernel_rfl) (by kernel_rfl) (fun _ _ _ h => h) (Or.inl ⟨by rfl, ?hy3⟩) (by assumption) ?rest3
          case hy3 => intro wq hSw; (try dsimp only at hSw); go_simp; (try with_reducible rfl)
          (try simp only [Act.put, List.setIfInBounds_toArray, List.set_cons_zero, List.set_cons_succ])
          refine wpAnyH_take (i := 4) (oi := ⟨some 175, _, _, _, _, _⟩) (v := ?vv4) rfl (by kernel_rfl) (by kernel_rfl) (by kernel_rfl) (fun _ _ _ h => h) (Or.inl ⟨by rfl, ?hy4⟩) (by assumption) ?rest4
          case hy4 => intro wq hSw; (try dsimp only at hSw); go_simp; (try with_reducible rfl)
          (try simp only [Act.put, List.setIfInBounds_toArray, List.set_cons_zero, List.set_cons_succ])
          refine wpAnyH_take (i := 5) (oi := ⟨some 176, _, _, _, _, _⟩) (v := ?vv5) rfl (by kernel_rfl) (by kernel_rfl) (by kernel_rfl) (fun _ _ _ h => h) (Or.inl ⟨by rfl, ?hy5⟩) (by assumption) ?rest5
          case hy5 => intro wq hSw; (try dsimp only at hSw); go_simp; (try with_reducible rfl)
          (try simp only [Act.put, List.setIfInBounds_toArray, List.set_cons_zero, List.set_cons_succ])
          refine wpAnyH_take (i := 6) (oi := ⟨some 177, _, _, _, _, _⟩) (v := undef) rfl (by kernel_rfl) (by kernel_rfl) (by kernel_rfl) (fun _ _ _ h => h) (Or.inr ⟨by rfl, rfl⟩) (by assumption) ?_
          (try simp only [Act.put, List.setIfInBounds_toArray, List.set_cons_zero, List.set_cons_succ])
          refine wpAnyH_take (i := 7) (oi := ⟨some 178, _, _, _, _, _⟩) (v := undef) rfl (by kernel_rfl) (by kernel_rfl) (by kernel_rfl) (fun _ _ _ h => h) (Or.inr ⟨by rfl, rfl⟩) (by assumption) ?_
          (try simp only [Act.put, List.setIfInBounds_toArray, List.set_cons_zero, List.set_cons_succ])
          refine wpAnyH_take (i := 8) (oi := ⟨some 179, _, _, _, _, _⟩) (v := undef) rfl (by kernel_rfl) (by kernel_rfl) (by kernel_rfl) (fun _ _ _ h => h) (Or.inr ⟨by rfl, rfl⟩) (by assumption) ?_
          (try simp only [Act.put, List.setIfInBounds_toArray, List.set_cons_zero, List.set_cons_succ])
          refine wpAnyH_take (i := 9) (oi := ⟨some 180, _, _, _, _, _⟩) (v := undef) rfl (by kernel_rfl) (by kernel_rfl) (by kernel_rfl) (fun _ _ _ h => h) (Or.inr ⟨by rfl, rfl⟩) (by assumption) ?_
          (try simp only [Act.put, List.setIfInBounds_toArray, List.set_cons_zero, List.set_cons_succ])
          refine wpAnyH_take (i := 10) (oi := ⟨some 181, _, _, _, _, _⟩) (v := undef) rfl (by kernel_rfl) (by kernel_rfl) (by kernel_rfl) (fun _ _ _ h => h) (Or.inr ⟨by rfl, rfl⟩) (by assumption) ?_
          (try simp only [Act.put, List.setIfInBounds_toArray, List.set_cons_zero, List.set_cons_succ])
          refine wpAnyH_take (i := 11) (oi := ⟨some 182, _, _, _, _, _⟩) (v := undef) rfl (by kernel_rfl) (by kernel_rfl) (by kernel_rfl) (fun _ _ _ h => h) (Or.inr ⟨by rfl, rfl⟩) (by assumption) ?_
          (try simp only [Act.put, List.setIfInBounds_toArray, List.set_cons_zero, List.set_cons_succ])
          refine wpAnyH_take (i := 12) (oi := ⟨some 183, _, _, _, _, _⟩) (v := undef) rfl (by kernel_rfl) (by kernel_rfl) (by kernel_rfl) (fun _ _ _ h => h) (Or.inr ⟨by rfl, rfl⟩) (by assumption) ?_
          (try simp only [Act.put, List.setIfInBounds_toArray, List.set_cons_zero, List.set_cons_succ])
          refine wpAnyH_take (i := 13) (oi := ⟨some 184, _, _, _, _, _⟩) (v := undef) rfl (by kernel_rfl) (by kernel_rfl) (by kernel_rfl) (fun _ _ _ h => h) (Or.inr ⟨by rfl, rfl⟩) (by assumption) ?_
          (try simp only [Act.put, List.setIfInBounds_toArray, List.set_cons_zero, List.set_cons_succ])
          refine wpAnyH_take (i := 14) (oi := ⟨some 185, _, _, _, _, _⟩) (v := undef) rfl (by kernel_rfl) (by kernel_rfl) (by kernel_rfl) (fun _ _ _ h => h) (Or.inr ⟨by rfl, rfl⟩) (by assumption) ?_
          (try simp only [Act.put, List.setIfInBounds_toArray, List.set_cons_zero, List.set_cons_succ])
          refine wpAnyH_take (i := 15) (oi := ⟨some 186, _, _, _, _, _⟩) (v := undef) rfl (by kernel_rfl) (by kernel_rfl) (by kernel_rfl) (fun _ _ _ h => h) (Or.inr ⟨by rfl, rfl⟩) (by assumption) ?_
          (try simp only [Act.put, List.setIfInBounds_toArray, List.set_cons_zero, List.set_cons_succ])
          refine wpAnyH_take (i := 16) (oi := ⟨some 187, _, _, _, _, _⟩) (v := undef) rfl (by kernel_rfl) (by kernel_rfl) (by kernel_rfl) (fun _ _ _ h => h) (Or.inr ⟨by rfl, rfl⟩) (by assumption) ?_
          (try simp only [Act.put, List.setIfInBounds_toArray, List.set_cons_zero, List.set_cons_succ])
          refine wpAnyH_take (i := 17) (oi := ⟨some 188, _, _, _, _, _⟩) (v := undef) rfl (by kernel_rfl) (by kernel_rfl) (by kernel_rfl) (fun _ _ _ h => h) (Or.inr ⟨by rfl, rfl⟩) (by assumption) ?_
          (try simp only [Act.put, List.setIfInBounds_toArray, List.set_cons_zero, List.set_cons_succ])
          refine wpAnyH_take (i := 18) (oi := ⟨some 189, _, _, _, _, _⟩) (v := ?vv18) rfl (by kernel_rfl) (by kernel_rfl) (by kernel_rfl) (fun _ _ _ h => h) (Or.inl ⟨by rfl, ?hy18⟩) (by assumption) ?rest18
          case hy18 => intro wq hSw; (try dsimp only at hSw); go_simp; (try with_reducible rfl)
          (try simp only [Act.put, List.setIfInBounds_toArray, List.set_cons_zero, List.set_cons_succ])
          refine wpAnyH_take (i := 19) (oi := ⟨some 190, _, _, _, _, _⟩) (v := ?vv19) rfl (by kernel_rfl) (by kernel_rfl) (by kernel_rfl) (fun _ _ _ h => h) (Or.inl ⟨by rfl, ?hy19⟩) (by assumption) ?rest19
          case hy19 => intro wq hSw; (try dsimp only at hSw); go_simp; (try with_reducible rfl)
          (try simp only [Act.put, List.setIfInBounds_toArray, List.set_cons_zero, List.set_cons_succ])
          refine wpAnyH_take (i := 20) (oi := ⟨some 191, _, _, _, _, _⟩) (v := ?vv20) rfl (by kernel_rfl) (by kernel_rfl) (by kernel_rfl) (fun _ _ _ h => h) (Or.inl ⟨by rfl, ?hy20⟩) (by assumption) ?rest20
          case hy20 => intro wq hSw; (try dsimp only at hSw); go_simp; (try with_reducible rfl)
          (try simp only [Act.put, List.setIfInBounds_toArray, List.set_cons_zero, List.set_cons_succ])
          refine wpAnyH_take (i := 22) (oi := ⟨some 193, _, _, _, _, _⟩) (v := ?vv22) rfl (by kernel_rfl) (by kernel_rfl) (by kernel_rfl) (fun _ _ _ h => h) (Or.inl ⟨by rfl, ?hy22⟩) (by assumption) ?rest22
          case hy22 => intro wq hSw; (try dsimp only at hSw); go_simp; (try with_reducible rfl)
          (try simp only [Act.put, List.setIfInBounds_toArray, List.set_cons_zero, List.set_cons_succ])
          refine wpAnyH_take (i := 23) (oi := ⟨some 194, _, _, _, _, _⟩) (v := ?vv23) rfl (by kernel_rfl) (by kernel_rfl) (by kernel_rfl) (fun _ _ _ h => h) (Or.inl ⟨by rfl, ?hy23⟩) (by assumption) ?rest23
          case hy23 => intro wq hSw; (try dsimp only at hSw); go_simp; (try with_reducible rfl)
          (try simp only [Act.put, List.setIfInBounds_toArray, List.set_cons_zero, List.set_cons_succ])
          refine wpAnyH_take (i := 24) (oi := ⟨some 195, _, _, _, _, _⟩) (v := ?vv24) rfl (by kernel_rfl) (by kernel_rfl) (by kernel_rfl) (fun _ _ _ h => h) (Or.inl ⟨by rfl, ?hy24⟩) (by assumption) ?rest24
          case hy24 => intro wq hSw; (try dsimp only at hSw); go_simp; (try with_reducible rfl)
          (try simp only [Act.put, List.setIfInBounds_toArray, List.set_cons_zero, List.set_cons_succ])
          refine wpAnyH_take (i := 25) (oi := ⟨some 196, _, _, _, _, _⟩) (v := ?vv25) rfl (by kernel_rfl) (by kernel_rfl) (by kernel_rfl) (fun _ _ _ h => h) (Or.inl ⟨by rfl, ?hy25⟩) (by assumption) ?rest25
          case hy25 => intro wq hSw; (try dsimp only at hSw); go_simp; (try with_reducible rfl)
          (try simp only [Act.put, List.setIfInBounds_toArray, List.set_cons_zero, List.set_cons_succ])
          refine wpAnyH_ready (rs := [21]) (by kernel_rfl) (by simp) ?_
          refine AllReadyH.cons (o := ⟨some 192, _, _, _, _, _⟩) rfl (fun K hK => ?_) AllReadyH.nil
          go_simp
          refine (All_any (HM.out.drew)).mono ?_
          rintro e wy1 ⟨v, rfl, hv, oo⟩
          have HO1 := hide (HD0.out.trans oo)
          have HV := hide hv
          clear hv oo
          refine hK.out _ _ ⟨(HO1.out.cell (p := ⟨F.go, t, none⟩) hgo (fun h => h)).trans op0, (HO1.out.cell (p := ⟨F.rm, 0, none⟩) hnm (fun h => h)).trans cr0⟩ (fun hHeld => ?_)
          clear hK K
          (try simp only [Act.put, List.setIfInBounds_toArray, List.set_cons_zero, List.set_cons_succ])
          refine wpAnyH_ready (rs := [26]) (by kernel_rfl) (by simp) ?_
          refine AllReadyH.cons (o := ⟨some 197, _, _, _, _, _⟩) rfl (fun K hK => ?_) AllReadyH.nil
          go_simp
          refine (Same_yes (A := L') HL.out HV.out.rd (HRD.out.only0 HO1.out)).mono ?_
          rintro e wy2 ⟨rfl, oo⟩
          have HO2 := hide (HO1.out.trans oo)
          clear oo
          refine hK.out _ _ ⟨(HO2.out.cell (p := ⟨F.go, t, none⟩) hgo (fun h => h)).trans op0, (HO2.out.cell (p := ⟨F.rm, 0, none⟩) hnm (fun h => h)).trans cr0⟩ (fun hHeld => ?_)
          clear hK K
          (try simp only [Act.put, List.setIfInBounds_toArray, List.set_cons_zero, List.set_cons_succ])
          refine wpAnyH_take (i := 27) (oi := ⟨some 198, _, _, _, _, _⟩) (v := ?vv27) rfl (by kernel_rfl) (by kernel_rfl) (by kernel_rfl) (fun _ _ _ h => h) (Or.inl ⟨by rfl, ?hy27⟩) (by assumption) ?rest27
          case hy27 => intro wq hSw; (try dsimp only at hSw); go_simp; (try with_reducible rfl)
          (try simp only [Act.put, List.setIfInBounds_toArray, List.set_cons_zero, List.set_cons_succ])
          refine wpAnyH_take (i := 28) (oi := ⟨some 199, _, _, _, _, _⟩) (v := ?vv28) rfl (by kernel_rfl) (by kernel_rfl) (by kernel_rfl) (fun _ _ _ h => h) (Or.inl ⟨by rfl, ?hy28⟩) (by assumption) ?rest28
          case hy28 => intro wq hSw; (try dsimp only at hSw); go_simp; (try with_reducible rfl)
          (try simp only [Act.put, List.setIfInBounds_toArray, List.set_cons_zero, List.set_cons_succ])
          refine wpAnyH_done (by kernel_rfl) ?_ _
          have HSZ := hide (HSX.out.only0 HO2.out)
          go_wp2_with fail
          go_roundg (400 - (i + 1))
          case rel => exact ⟨i + 1, _, _, _, _, _, _, _, _, rfl, by omega, by omega, by go_num, HSZ.out⟩
          case measure => omega
        | true =>
          have HAZ := hide hact
          clear hact
          have ht5a : (t : Int) < 5 := by omega
          have ht5b : (0 : Int) ≤ t := by omega
          have HL := hide (show (L').length ≤ 1000000 from by have := HSX.out.ref.len; omega)
          have HM := hide HSX.out.env.mem
          have HRD := hide HSX.out.ref.rd
          have cr0 := HSX.out.ref.mem.cellv (i := 0) rfl
          have hnm := HSX.out.ref.mem.lt
          have hgo := HSX.out.ops.lt
          obtain ⟨bx, ox, kx, Vx, lx, ax, cx, d0, d1, d2, d3, hbop, hthr, hlog, hlen, -, -, -, -⟩ := HSX.out.seen ht5 HAZ.out
          have hgr := HSX.out.refs.lt
          have hgat := HSX.out.atb.lt
          have at0 := HSX.out.atb.cellv (i := 0) rfl
          have at1 := HSX.out.atb.cellv (i := 1) rfl
          have n1 := HF.out.n1
          have n9 := HF.out.n9
          have b5x := HF.out.b5
          have HNX := hide (hthr.ask F.b)
          have HRL := hide hlog.at_.rd
          have HBP := hide hbop
          have HTK := hide (show 1 ≤ kx ∧ kx ≤ 3 ∧ AllU lx from ⟨hthr.k1, hthr.k3, hthr.u⟩)
          clear hbop hthr hlog hlen
          go_upto_region 33 with fail
          have kk0 : (wc.cell? ⟨F.go, t, none⟩ = some (.pointer (some ⟨bx, 0, none⟩)) ∧ wc.cell? ⟨F.gat, 0, none⟩ = some (.int .i64 F.b) ∧ wc.cell? ⟨F.gat, 1, none⟩ = some (.int .i64 F.n) ∧ wc.cell? ⟨F.gr, t * 3, none⟩ = some (.int .i64 kx) ∧ wc.cell? ⟨F.gr, t * 3 + 1, none⟩ = some (.int .u64 Vx) ∧ wc.cell? ⟨F.gr, t * 3 + 2, none⟩ = some (.slice ax lx.length cx) ∧ wc.cell? ⟨F.rm, 0, none⟩ = some (.slice (some ⟨F.rc, 0, none⟩) (L').length (L').length)) := ⟨d0, at0, at1, d1, d2, d3, cr0⟩
          have HD0 := hide (Only.refl S0 wc).drew
          go_region_held3 (fun w' => w'.cell? ⟨F.go, t, none⟩ = some (.pointer (some ⟨bx, 0, none⟩)) ∧ w'.cell? ⟨F.gat, 0, none⟩ = some (.int .i64 F.b) ∧ w'.cell? ⟨F.gat, 1, none⟩ = some (.int .i64 F.n) ∧ w'.cell? ⟨F.gr, t * 3, none⟩ = some (.int .i64 kx) ∧ w'.cell? ⟨F.gr, t * 3 + 1, none⟩ = some (.int .u64 Vx) ∧ w'.cell? ⟨F.gr, t * 3 + 2, none⟩ = some (.slice ax lx.length cx) ∧ w'.cell? ⟨F.rm, 0, none⟩ = some (.slice (some ⟨F.rc, 0, none⟩) (L').length (L').length)) (first | exact kk0 | exact kk1 | exact kk2 | exact kk3 | exact kk4) (first | (go_at_call 34; refine (dNext_any HNX.out (HRL.out.only0 HD0.out) HTK.out.2.2 (by omega) (by omega) (by omega) (by omega) HTK.out.1 HTK.out.2.1).mono ?_; rintro e wy1 ⟨rfl, oo⟩; have HO1 := hide (HD0.out.trans oo); have kk1 : (wy1.cell? ⟨F.go, t, none⟩ = some (.pointer (some ⟨bx, 0, none⟩)) ∧ wy1.cell? ⟨F.gat, 0, none⟩ = some (.int .i64 F.b) ∧ wy1.cell? ⟨F.gat, 1, none⟩ = some (.int .i64 F.n) ∧ wy1.cell? ⟨F.gr, t * 3, none⟩ = some (.int .i64 kx) ∧ wy1.cell? ⟨F.gr, t * 3 + 1, none⟩ = some (.int .u64 Vx) ∧ wy1.cell? ⟨F.gr, t * 3 + 2, none⟩ = some (.slice ax lx.length cx) ∧ wy1.cell? ⟨F.rm, 0, none⟩ = some (.slice (some ⟨F.rc, 0, none⟩) (L').length (L').length)) := ⟨(HO1.out.cell (p := ⟨F.go, t, none⟩) hgo (fun h => h)).trans d0, (HO1.out.cell (p := ⟨F.gat, 0, none⟩) hgat (fun h => h)).trans at0, (HO1.out.cell (p := ⟨F.gat, 1, none⟩) hgat (fun h => h)).trans at1, (HO1.out.cell (p := ⟨F.gr, t * 3, none⟩) hgr (fun h => h)).trans d1, (HO1.out.cell (p := ⟨F.gr, t * 3 + 1, none⟩) hgr (fun h => h)).trans d2, (HO1.out.cell (p := ⟨F.gr, t * 3 + 2, none⟩) hgr (fun h => h)).trans d3, (HO1.out.cell (p := ⟨F.rm, 0, none⟩) hnm (fun h => h)).trans cr0⟩; clear oo) | (go_at_call 33; refine (like4_any (show DopIs _ bx F.bb ox from DopAt.only HBP.out HO1.out (fun h => h))).mono ?_; rintro e wy2 ⟨rfl, oo⟩; have HO2 := hide (HO1.out.trans oo); have kk2 : (wy2.cell? ⟨F.go, t, none⟩ = some (.pointer (some ⟨bx, 0, none⟩)) ∧ wy2.cell? ⟨F.gat, 0, none⟩ = some (.int .i64 F.b) ∧ wy2.cell? ⟨F.gat, 1, none⟩ = some (.int .i64 F.n) ∧ wy2.cell? ⟨F.gr, t * 3, none⟩ = some (.int .i64 kx) ∧ wy2.cell? ⟨F.gr, t * 3 + 1, none⟩ = some (.int .u64 Vx) ∧ wy2.cell? ⟨F.gr, t * 3 + 2, none⟩ = some (.slice ax lx.length cx) ∧ wy2.cell? ⟨F.rm, 0, none⟩ = some (.slice (some ⟨F.rc, 0, none⟩) (L').length (L').length)) := ⟨(HO2.out.cell (p := ⟨F.go, t, none⟩) hgo (fun h => h)).trans d0, (HO2.out.cell (p := ⟨F.gat, 0, none⟩) hgat (fun h => h)).trans at0, (HO2.out.cell (p := ⟨F.gat, 1, none⟩) hgat (fun h => h)).trans at1, (HO2.out.cell (p := ⟨F.gr, t * 3, none⟩) hgr (fun h => h)).trans d1, (HO2.out.cell (p := ⟨F.gr, t * 3 + 1, none⟩) hgr (fun h => h)).trans d2, (HO2.out.cell (p := ⟨F.gr, t * 3 + 2, none⟩) hgr (fun h => h)).trans d3, (HO2.out.cell (p := ⟨F.rm, 0, none⟩) hnm (fun h => h)).trans cr0⟩; clear oo) | (go_at_call 18; refine (All_any (HM.out.only HO2.out (fun h => h) (fun h => h))).mono ?_; rintro e wy3 ⟨v, rfl, hv, oo⟩; have HO3 := hide (HO2.out.trans oo); have kk3 : (wy3.cell? ⟨F.go, t, none⟩ = some (.pointer (some ⟨bx, 0, none⟩)) ∧ wy3.cell? ⟨F.gat, 0, none⟩ = some (.int .i64 F.b) ∧ wy3.cell? ⟨F.gat, 1, none⟩ = some (.int .i64 F.n) ∧ wy3.cell? ⟨F.gr, t * 3, none⟩ = some (.int .i64 kx) ∧ wy3.cell? ⟨F.gr, t * 3 + 1, none⟩ = some (.int .u64 Vx) ∧ wy3.cell? ⟨F.gr, t * 3 + 2, none⟩ = some (.slice ax lx.length cx) ∧ wy3.cell? ⟨F.rm, 0, none⟩ = some (.slice (some ⟨F.rc, 0, none⟩) (L').length (L').length)) := ⟨(HO3.out.cell (p := ⟨F.go, t, none⟩) hgo (fun h => h)).trans d0, (HO3.out.cell (p := ⟨F.gat, 0, none⟩) hgat (fun h => h)).trans at0, (HO3.out.cell (p := ⟨F.gat, 1, none⟩) hgat (fun h => h)).trans at1, (HO3.out.cell (p := ⟨F.gr, t * 3, none⟩) hgr (fun h => h)).trans d1, (HO3.out.cell (p := ⟨F.gr, t * 3 + 1, none⟩) hgr (fun h => h)).trans d2, (HO3.out.cell (p := ⟨F.gr, t * 3 + 2, none⟩) hgr (fun h => h)).trans d3, (HO3.out.cell (p := ⟨F.rm, 0, none⟩) hnm (fun h => h)).trans cr0⟩; clear oo; have HV := hide hv; clear hv) | (go_at_call 17; refine (Same_yes (A := L') HL.out HV.out.rd (HRD.out.only0 HO3.out)).mono ?_; rintro e wy4 ⟨rfl, oo⟩; have HO4 := hide (HO3.out.trans oo); have kk4 : (wy4.cell? ⟨F.go, t, none⟩ = some (.pointer (some ⟨bx, 0, none⟩)) ∧ wy4.cell? ⟨F.gat, 0, none⟩ = some (.int .i64 F.b) ∧ wy4.cell? ⟨F.gat, 1, none⟩ = some (.int .i64 F.n) ∧ wy4.cell? ⟨F.gr, t * 3, none⟩ = some (.int .i64 kx) ∧ wy4.cell? ⟨F.gr, t * 3 + 1, none⟩ = some (.int .u64 Vx) ∧ wy4.cell? ⟨F.gr, t * 3 + 2, none⟩ = some (.slice ax lx.length cx) ∧ wy4.cell? ⟨F.rm, 0, none⟩ = some (.slice (some ⟨F.rc, 0, none⟩) (L').length (L').length)) := ⟨(HO4.out.cell (p := ⟨F.go, t, none⟩) hgo (fun h => h)).trans d0, (HO4.out.cell (p := ⟨F.gat, 0, none⟩) hgat (fun h => h)).trans at0, (HO4.out.cell (p := ⟨F.gat, 1, none⟩) hgat (fun h => h)).trans at1, (HO4.out.cell (p := ⟨F.gr, t * 3, none⟩) hgr (fun h => h)).trans d1, (HO4.out.cell (p := ⟨F.gr, t * 3 + 1, none⟩) hgr (fun h => h)).trans d2, (HO4.out.cell (p := ⟨F.gr, t * 3 + 2, none⟩) hgr (fun h => h)).trans d3, (HO4.out.cell (p := ⟨F.rm, 0, none⟩) hnm (fun h => h)).trans cr0⟩; clear oo))
          have HSZ := hide (HSX.out.only0 HO4.out)
          go_wp2_with fail
          go_roundg (400 - (i + 1))
          case rel => exact ⟨i + 1, _, _, _, _, _, _, _, _, rfl, by omega, by omega, by go_num, HSZ.out⟩
          case measure => omega
    · go_wp2_with fail
      go_ret
      exact ⟨rfl, S0.below HST.out.only⟩
  · go_wp2_with fail
    go_ret
    exact ⟨rfl, S0.below HST.out.only⟩
end Go.Proofs.Ytblkbfdmoanbfaa
