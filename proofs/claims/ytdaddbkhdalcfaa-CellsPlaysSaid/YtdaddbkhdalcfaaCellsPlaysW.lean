/-
  CellsPlays, the walk.
-/
import Derived.Test.YtdaddbkhdalcfaaAlive1
import Derived.Test.YtdaddbkhdalcfaaOpen
import Derived.Test.YtdaddbkhdalcfaaRef1
import Derived.Deep.RegionHeld3
import Derived.Deep.LoopGhost
namespace Go.Proofs.Ytdaddbkhdalcfaa
open Go.RowKit
set_option linter.unusedVariables false


/-- The memory, the document's memory and the box in which an operation lies, all apart. -/
structure PlayAt (w0 w : World) (bm bc rm rc gb : Nat) (cs : Array Value) (L M : List Int) (t u : Int) : Prop where
  mem : MemAt w bm bc L t
  ref : RefAt w rm rc M u
  box : Blk w gb 43 cs
  only : Only S0 w0 w
  apart : w0.heap.size ≤ bm ∧ w0.heap.size ≤ bc ∧ w0.heap.size ≤ rm ∧ w0.heap.size ≤ rc ∧ bc ≠ rc
section
variable {w0 w w' : World} {bm bc rm rc gb : Nat} {cs : Array Value} {L L' M M' : List Int} {t t' u u' : Int}
theorem PlayAt.onMem (h : PlayAt w0 w bm bc rm rc gb cs L M t u) (hm : MemAt w' bm bc L' t') (ho : Only (S2 bm bc) w w') : PlayAt w0 w' bm bc rm rc gb cs L' M t' u := by
  obtain ⟨a1, a2, a3, a4, a5⟩ := h.apart
  have e1 := h.ref.mem.ne_ h.mem.mem (by decide)
  have e2 := h.ref.mem.ne_ h.mem.cells (by decide)
  have e3 := h.ref.cells.ne_ h.mem.mem (by decide)
  have e4 := h.box.ne_ h.mem.mem (by decide)
  have e5 := h.box.ne_ h.mem.cells (by decide)
  exact ⟨hm, h.ref.only ho (fun k => by unfold S2 at k; omega) (fun k => by unfold S2 at k; omega), h.box.only ho (fun k => by unfold S2 at k; omega), S0.then2 h.only ho a1 a2, h.apart⟩
theorem PlayAt.onMem1 (h : PlayAt w0 w bm bc rm rc gb cs L M t u) (hm : MemAt w' bm bc L' t') (ho : Only (S1 bm) w w') : PlayAt w0 w' bm bc rm rc gb cs L' M t' u :=
  h.onMem hm (ho.mono fun k hk => .inl hk)
theorem PlayAt.onRef (h : PlayAt w0 w bm bc rm rc gb cs L M t u) (hm : RefAt w' rm rc M' u') (ho : Only (S2 rm rc) w w') : PlayAt w0 w' bm bc rm rc gb cs L M' t u' := by
  obtain ⟨a1, a2, a3, a4, a5⟩ := h.apart
  have e1 := h.ref.mem.ne_ h.mem.mem (by decide)
  have e2 := h.ref.mem.ne_ h.mem.cells (by decide)
  have e3 := h.ref.cells.ne_ h.mem.mem (by decide)
  have e4 := h.box.ne_ h.ref.mem (by decide)
  have e5 := h.box.ne_ h.ref.cells (by decide)
  exact ⟨h.mem.only ho (fun k => by unfold S2 at k; omega) (fun k => by unfold S2 at k; omega), hm, h.box.only ho (fun k => by unfold S2 at k; omega), S0.then2 h.only ho a3 a4, h.apart⟩
theorem PlayAt.onRef1 (h : PlayAt w0 w bm bc rm rc gb cs L M t u) (hm : RefAt w' rm rc M' u') (ho : Only (S1 rm) w w') : PlayAt w0 w' bm bc rm rc gb cs L M' t u' :=
  h.onRef hm (ho.mono fun k hk => .inl hk)
end

set_option maxRecDepth 100000 in
set_option maxHeartbeats 2000000 in
theorem cellsPlays_walk (n : Int) (a : Option Addr) (len cap : Nat) (xs : Nat → Nat → Int) (w : World) (w0 : (Lit.int .i64 n).wf = true) (w1 : InRows [.u8, .i64, .u64, .u64] w a len xs) :
    Calls Try.prog 5 #[.int .i64 n, .slice a len cap] w fun e w' => e = .returned (.bool true) ∧ Below w.heap.size w w' := by
  have hbig := w1.big
  have hcell := hide w1.cells
  have hwf := hide w1.wf
  clear w0 w1
  by_cases hn : n > 4096
  · go_enter Try.func5, Try.ntmps5
    go_wp2_with fail
    refine (alive1_any w).mono ?_
    rintro e w1 ⟨rfl, p1⟩
    have P1 := hide p1
    clear p1
    go_wp2_with fail
    go_ret
    exact ⟨rfl, S0.below P1.out⟩
  · have hn' : n ≤ 4096 := by omega
    go_enter Try.func5, Try.ntmps5
    go_wp2_with fail
    refine (alive1_any w).mono ?_
    rintro e w1 ⟨rfl, p1⟩
    go_wp2_with fail
    refine (New_any n).mono ?_
    rintro e w2 ⟨bm, bc, rfl, h2, p2, b1, b2⟩
    go_wp2_with fail
    refine (RefNew_any n).mono ?_
    rintro e w3 ⟨rm, rc, rfl, r3, p3, b3, b4⟩
    have h3 := h2.only p3 (fun h => h) (fun h => h)
    have P3 := hide ((p1.trans p2).trans p3)
    have hlt : bm < rm ∧ bc < rc ∧ bc < rm ∧ bm < rc := ⟨Nat.lt_of_lt_of_le h2.mem.lt b3, Nat.lt_of_lt_of_le h2.cells.lt b4, Nat.lt_of_lt_of_le h2.cells.lt b3, Nat.lt_of_lt_of_le h2.mem.lt b4⟩
    have hge : w.heap.size ≤ bm ∧ w.heap.size ≤ bc ∧ w.heap.size ≤ rm ∧ w.heap.size ≤ rc := by
      have := p1.size; have := p2.size; omega
    obtain ⟨l1, l2, l3, l4⟩ := hlt
    obtain ⟨g1, g2, g3, g4⟩ := hge
    clear h2
    generalize List.replicate (countOf n) (0 : Int) = L0 at h3 r3
    have c0 := r3.mem.cellv (i := 0) rfl
    have H3 := hide h3
    have R3 := hide r3
    clear h3 r3 p1 p2 p3 b1 b2 b3 b4
    go_wp2_with fail
    go_quiet ((go_at_call 22; exact Calls.quiet_of_same ((Len_any (H3.out.drewN _)).mono fun _ _ h => ⟨h.1, h.2.symm⟩)))
    go_wp2_with fail
    go_loopg [7] len (fun q i wr => ∃ (k : Nat) (L : List Int) (tc : Int), k ≤ len ∧ q = len - k ∧ i = .int .i64 k ∧ MemAt wr bm bc L tc ∧ RefAt wr rm rc L tc ∧ tc ≤ k ∧ Only S0 w wr)
    case atStart => exact ⟨0, _, 0, Nat.zero_le _, rfl, rfl, H3.out.drewN _, R3.out.drewN _, by omega, P3.out.drewN _⟩
    case round =>
      obtain ⟨k, L, tc, hk, rfl, rfl, hm, hr, htc, ho⟩ := hrel
      have hf : Few tc := few_of _ (by omega)
      have HM := hide hm
      have HO := hide ho
      have HR := hide hr
      have HF := hide hf
      clear hm ho hr hf c0 H3 R3
      by_cases hlt : k < len
      · obtain ⟨g, off, rfl, hg, hc⟩ := hcell.out (by omega)
        have hw0 := hwf.out k 0 hlt (by decide)
        have hw0 := bounds_u8 hw0
        have hw1 := bounds_i64 (hwf.out k 1 hlt (by decide))
        have c0 := (HO.out.cell (p := ⟨g, off + (k * 4 + 0), none⟩) hg (fun h => h)).trans (hc k 0 hlt (by decide))
        have c1 := (HO.out.cell (p := ⟨g, off + (k * 4 + 1), none⟩) hg (fun h => h)).trans (hc k 1 hlt (by decide))
        have c2 := (HO.out.cell (p := ⟨g, off + (k * 4 + 2), none⟩) hg (fun h => h)).trans (hc k 2 hlt (by decide))
        have c3 := (HO.out.cell (p := ⟨g, off + (k * 4 + 3), none⟩) hg (fun h => h)).trans (hc k 3 hlt (by decide))
        rw [show off + (k * 4 + 0) = off + k * 4 by omega] at c0
        rw [show off + (k * 4 + 1) = off + k * 4 + 1 by omega] at c1
        rw [show off + (k * 4 + 2) = off + k * 4 + 1 + 1 by omega] at c2
        rw [show off + (k * 4 + 3) = off + k * 4 + 1 + 1 + 1 by omega] at c3
        generalize xs k 0 = x0 at c0 hw0
        generalize xs k 1 = x1 at c1 hw1
        generalize xs k 2 = x2 at c2
        generalize xs k 3 = x3 at c3
        simp only [List.getD_cons_zero, List.getD_cons_succ] at c0 c1 c2 c3
        clear hc
        obtain ⟨y0, y1⟩ := hw0
        obtain ⟨y2, y3⟩ := hw1
        go_wp2_with fail
        have B0 := Blk.new wr 43 #[.int .u8 x0, .int .i64 x1, .int .u64 x2, .int .u64 x3]
        have M0 := HM.out.only ((Only.refl S0 wr).alloc (.cells #[.int .u8 x0, .int .i64 x1, .int .u64 x2, .int .u64 x3] 43)) (fun h => h) (fun h => h)
        have R0 := HR.out.only ((Only.refl S0 wr).alloc (.cells #[.int .u8 x0, .int .i64 x1, .int .u64 x2, .int .u64 x3] 43)) (fun h => h) (fun h => h)
        have O0 := HO.out.alloc (.cells #[.int .u8 x0, .int .i64 x1, .int .u64 x2, .int .u64 x3] 43)
        have gb0 : w.heap.size ≤ wr.heap.size := HO.out.size
        clear HM HR HO c0 c1 c2 c3
        generalize wr.alloc (.cells #[.int .u8 x0, .int .i64 x1, .int .u64 x2, .int .u64 x3] 43) = wb at B0 M0 R0 O0 ⊢
        generalize wr.heap.size = gb at B0 gb0 ⊢
        have HP := hide (PlayAt.mk M0 R0 B0 O0 ⟨g1, g2, g3, g4, by omega⟩)
        have c0 := B0.cellv (i := 0) rfl
        have c1 := B0.cellv (i := 1) rfl
        have c2 := B0.cellv (i := 2) rfl
        have c3 := B0.cellv (i := 3) rfl
        have HM := hide M0
        have HR := hide R0
        have HO := hide O0
        clear B0 M0 R0 O0
        by_cases hi : 0 ≤ x1 ∧ x1 < L.length
        · obtain ⟨hi0, hi1⟩ := hi
          have I0 := hide hi0
          have I1 := hide hi1
          clear hi0 hi1
          refine (RefHas_in x1 HR.out I0.out I1.out).mono ?_
          rintro e w4 ⟨rfl, rfl⟩
          have hq : x0 % 5 = 0 ∨ x0 % 5 = 1 ∨ x0 % 5 = 2 ∨ x0 % 5 = 3 ∨ x0 % 5 = 4 := by omega
          rcases hq with hq | hq | hq | hq | hq
          · -- kind 0
            go_wp2_with fail
            have k0 := c0
            clear c0 c1 c2 c3 HM HR HO
            refine (Load_in x1 HP.out.mem HF.out I0.out I1.out).mono ?_
            rintro e w4 ⟨rfl, h4, o4⟩
            have P4 := HP.out.onMem1 h4 o4
            have c0 := P4.box.cellv (i := 0) rfl
            have c1 := P4.box.cellv (i := 1) rfl
            have c2 := P4.box.cellv (i := 2) rfl
            have c3 := P4.box.cellv (i := 3) rfl
            have H4 := hide P4
            clear h4 o4 P4 k0
            go_wp2_with fail
            refine (RefLoad_in x1 H4.out.ref HF.out I0.out I1.out).mono ?_
            rintro e w5 ⟨rfl, h5, o5⟩
            have P5 := H4.out.onRef1 h5 o5
            clear h5 o5 c0 c1 c2 c3
            have cr1 := P5.ref.mem.cellv (i := 1) rfl
            have c0 := P5.box.cellv (i := 0) rfl
            have c1 := P5.box.cellv (i := 1) rfl
            have c2 := P5.box.cellv (i := 2) rfl
            have c3 := P5.box.cellv (i := 3) rfl
            have HE := hide P5
            clear P5
            go_wp2_with fail
            go_quiet ((go_at_call 20; exact Calls.quiet_of_same ((Touched_any (HE.out.mem.drewN _)).mono fun _ _ h => ⟨h.1, h.2.symm⟩)))
            go_wp2_with fail
            go_roundg (len - (k + 1))
            case rel => exact ⟨k + 1, _, _, by omega, rfl, by go_num, HE.out.mem.drewN _, HE.out.ref.drewN _, by omega, HE.out.only.drewN _⟩
            case measure => omega
          · -- kind 1
            go_wp2_with fail
            have k0 := c0
            clear c0 c1 c2 c3 HM HR HO
            refine (Store_in x1 x3 HP.out.mem HF.out I0.out I1.out).mono ?_
            rintro e w4 ⟨rfl, h4, o4⟩
            have P4 := HP.out.onMem h4 o4
            have c0 := P4.box.cellv (i := 0) rfl
            have c1 := P4.box.cellv (i := 1) rfl
            have c2 := P4.box.cellv (i := 2) rfl
            have c3 := P4.box.cellv (i := 3) rfl
            have H4 := hide P4
            clear h4 o4 P4 k0
            go_wp2_with fail
            refine (RefStore_in x1 x3 H4.out.ref HF.out I0.out I1.out).mono ?_
            rintro e w5 ⟨rfl, h5, o5⟩
            have P5 := H4.out.onRef h5 o5
            clear h5 o5 c0 c1 c2 c3
            have cr1 := P5.ref.mem.cellv (i := 1) rfl
            have c0 := P5.box.cellv (i := 0) rfl
            have c1 := P5.box.cellv (i := 1) rfl
            have c2 := P5.box.cellv (i := 2) rfl
            have c3 := P5.box.cellv (i := 3) rfl
            have HE := hide P5
            clear P5
            go_wp2_with fail
            go_quiet ((go_at_call 20; exact Calls.quiet_of_same ((Touched_any (HE.out.mem.drewN _)).mono fun _ _ h => ⟨h.1, h.2.symm⟩)))
            go_wp2_with fail
            go_roundg (len - (k + 1))
            case rel => exact ⟨k + 1, _, _, by omega, rfl, by go_num, HE.out.mem.drewN _, HE.out.ref.drewN _, by omega, HE.out.only.drewN _⟩
            case measure => omega
          · by_cases hsw : at_ L x1 = x2
            all_goals have HSW := hide hsw
            all_goals clear hsw
            · -- kind 2
              go_wp2_with fail
              have k0 := c0
              clear c0 c1 c2 c3 HM HR HO
              refine (Swap_yes x1 x2 x3 HP.out.mem HF.out I0.out I1.out HSW.out).mono ?_
              rintro e w4 ⟨rfl, h4, o4⟩
              have P4 := HP.out.onMem h4 o4
              have c0 := P4.box.cellv (i := 0) rfl
              have c1 := P4.box.cellv (i := 1) rfl
              have c2 := P4.box.cellv (i := 2) rfl
              have c3 := P4.box.cellv (i := 3) rfl
              have H4 := hide P4
              clear h4 o4 P4 k0
              go_wp2_with fail
              refine (RefSwap_yes x1 x2 x3 H4.out.ref HF.out I0.out I1.out HSW.out).mono ?_
              rintro e w5 ⟨rfl, h5, o5⟩
              have P5 := H4.out.onRef h5 o5
              clear h5 o5 c0 c1 c2 c3
              have cr1 := P5.ref.mem.cellv (i := 1) rfl
              have c0 := P5.box.cellv (i := 0) rfl
              have c1 := P5.box.cellv (i := 1) rfl
              have c2 := P5.box.cellv (i := 2) rfl
              have c3 := P5.box.cellv (i := 3) rfl
              have HE := hide P5
              clear P5
              go_wp2_with fail
              go_quiet ((go_at_call 20; exact Calls.quiet_of_same ((Touched_any (HE.out.mem.drewN _)).mono fun _ _ h => ⟨h.1, h.2.symm⟩)))
              go_wp2_with fail
              go_roundg (len - (k + 1))
              case rel => exact ⟨k + 1, _, _, by omega, rfl, by go_num, HE.out.mem.drewN _, HE.out.ref.drewN _, by omega, HE.out.only.drewN _⟩
              case measure => omega
            · -- kind 2
              go_wp2_with fail
              have k0 := c0
              clear c0 c1 c2 c3 HM HR HO
              refine (Swap_no x1 x2 x3 HP.out.mem HF.out I0.out I1.out HSW.out).mono ?_
              rintro e w4 ⟨rfl, h4, o4⟩
              have P4 := HP.out.onMem1 h4 o4
              have c0 := P4.box.cellv (i := 0) rfl
              have c1 := P4.box.cellv (i := 1) rfl
              have c2 := P4.box.cellv (i := 2) rfl
              have c3 := P4.box.cellv (i := 3) rfl
              have H4 := hide P4
              clear h4 o4 P4 k0
              go_wp2_with fail
              refine (RefSwap_no x1 x2 x3 H4.out.ref HF.out I0.out I1.out HSW.out).mono ?_
              rintro e w5 ⟨rfl, h5, o5⟩
              have P5 := H4.out.onRef1 h5 o5
              clear h5 o5 c0 c1 c2 c3
              have cr1 := P5.ref.mem.cellv (i := 1) rfl
              have c0 := P5.box.cellv (i := 0) rfl
              have c1 := P5.box.cellv (i := 1) rfl
              have c2 := P5.box.cellv (i := 2) rfl
              have c3 := P5.box.cellv (i := 3) rfl
              have HE := hide P5
              clear P5
              go_wp2_with fail
              go_quiet ((go_at_call 20; exact Calls.quiet_of_same ((Touched_any (HE.out.mem.drewN _)).mono fun _ _ h => ⟨h.1, h.2.symm⟩)))
              go_wp2_with fail
              go_roundg (len - (k + 1))
              case rel => exact ⟨k + 1, _, _, by omega, rfl, by go_num, HE.out.mem.drewN _, HE.out.ref.drewN _, by omega, HE.out.only.drewN _⟩
              case measure => omega
          · -- kind 3
            go_wp2_with fail
            have k0 := c0
            clear c0 c1 c2 c3 HM HR HO
            refine (Add_in x1 x3 HP.out.mem HF.out I0.out I1.out).mono ?_
            rintro e w4 ⟨rfl, h4, o4⟩
            have P4 := HP.out.onMem h4 o4
            have c0 := P4.box.cellv (i := 0) rfl
            have c1 := P4.box.cellv (i := 1) rfl
            have c2 := P4.box.cellv (i := 2) rfl
            have c3 := P4.box.cellv (i := 3) rfl
            have H4 := hide P4
            clear h4 o4 P4 k0
            go_wp2_with fail
            refine (RefAdd_in x1 x3 H4.out.ref HF.out I0.out I1.out).mono ?_
            rintro e w5 ⟨rfl, h5, o5⟩
            have P5 := H4.out.onRef h5 o5
            clear h5 o5 c0 c1 c2 c3
            have cr1 := P5.ref.mem.cellv (i := 1) rfl
            have c0 := P5.box.cellv (i := 0) rfl
            have c1 := P5.box.cellv (i := 1) rfl
            have c2 := P5.box.cellv (i := 2) rfl
            have c3 := P5.box.cellv (i := 3) rfl
            have HE := hide P5
            clear P5
            go_wp2_with fail
            go_quiet ((go_at_call 20; exact Calls.quiet_of_same ((Touched_any (HE.out.mem.drewN _)).mono fun _ _ h => ⟨h.1, h.2.symm⟩)))
            go_wp2_with fail
            go_roundg (len - (k + 1))
            case rel => exact ⟨k + 1, _, _, by omega, rfl, by go_num, HE.out.mem.drewN _, HE.out.ref.drewN _, by omega, HE.out.only.drewN _⟩
            case measure => omega
          · -- kind 4
            go_wp2_with fail
            have cr0 := HP.out.ref.mem.cellv (i := 0) rfl
            have cr1 := HP.out.ref.mem.cellv (i := 1) rfl
            have cr2 := HP.out.ref.cell x1 I0.out I1.out
            have i0 := I0.out
            have i1 := I1.out
            have hl := HP.out.mem.len
            go_quiet ((go_at_call 18; exact Calls.quiet_of_same ((Peek_in x1 (HP.out.mem.drewN _) I0.out I1.out).mono fun _ _ h => ⟨h.1, h.2.symm⟩)))
            go_wp2_with fail
            go_quiet ((go_at_call 20; exact quiet_add_eq (Touched_any (HP.out.mem.drewN _))))
            go_wp2_with fail
            go_roundg (len - (k + 1))
            case rel => exact ⟨k + 1, _, _, by omega, rfl, by go_num, HP.out.mem.drewN _, HP.out.ref.drewN _, by omega, HP.out.only.drewN _⟩
            case measure => omega
        · have hi' : x1 < 0 ∨ (L.length : Int) ≤ x1 := by omega
          have HI := hide hi'
          clear hi hi'
          refine (RefHas_out x1 HR.out HI.out).mono ?_
          rintro e w4 ⟨rfl, rfl⟩
          go_wp2_with fail
          refine (Load_out x1 HM.out HI.out).mono ?_
          rintro e w4 ⟨rfl, rfl⟩
          go_wp2_with fail
          refine (Store_out x1 x3 HM.out HI.out).mono ?_
          rintro e w4 ⟨rfl, rfl⟩
          go_wp2_with fail
          refine (Swap_out x1 x2 x3 HM.out HI.out).mono ?_
          rintro e w4 ⟨rfl, rfl⟩
          go_wp2_with fail
          refine (Add_out x1 x3 HM.out HI.out).mono ?_
          rintro e w4 ⟨rfl, rfl⟩
          go_wp2_with fail
          refine (Peek_out x1 HM.out HI.out).mono ?_
          rintro e w4 ⟨rfl, rfl⟩
          go_wp2_with fail
          go_roundg (len - (k + 1))
          case rel => exact ⟨k + 1, L, tc, by omega, rfl, by go_num, HM.out, HR.out, by omega, HO.out⟩
          case measure => omega
      · have cr0 := HR.out.mem.cellv (i := 0) rfl
        have cr1 := HR.out.mem.cellv (i := 1) rfl
        go_wp2_with fail
        have hnm := HR.out.mem.lt
        have hL : L.length ≤ 1000000 := by have := HM.out.len; omega
        go_region_held3 (fun w' => w'.cell? ⟨rm, 0, none⟩ = some (.slice (some ⟨rc, 0, none⟩) L.length L.length) ∧ w'.cell? ⟨rm, 1, none⟩ = some (.int .i64 tc)) (first | exact ⟨cr0, cr1⟩ | exact ⟨d0, d1⟩ | exact ⟨f0, f1⟩) (first | (go_at_call 20; refine (Touched_any (HM.out.drew)).mono ?_; rintro e w4 ⟨rfl, rfl⟩) | (go_at_call 30; refine (All_any (HM.out.drew)).mono ?_; rintro e w4 ⟨v, rfl, hv, o4⟩; have d0 := (o4.cell (p := ⟨rm, 0, none⟩) hnm (fun h => h)).trans cr0; have d1 := (o4.cell (p := ⟨rm, 1, none⟩) hnm (fun h => h)).trans cr1; have HV := hide hv; have HO4 := hide o4; clear hv o4) | (go_at_call 29; refine (Same_yes (A := L) hL HV.out.rd (HR.out.drew.rd.only0 HO4.out)).mono ?_; rintro e w5 ⟨rfl, o5⟩; have f0 := (o5.cell (p := ⟨rm, 0, none⟩) (Nat.lt_of_lt_of_le hnm HO4.out.size) (fun h => h)).trans d0; have f1 := (o5.cell (p := ⟨rm, 1, none⟩) (Nat.lt_of_lt_of_le hnm HO4.out.size) (fun h => h)).trans d1; have HO5 := hide o5; clear o5))
        go_wp2_with fail
        go_ret
        exact ⟨rfl, S0.below ((HO.out.drew.trans HO4.out).trans HO5.out)⟩
end Go.Proofs.Ytdaddbkhdalcfaa
