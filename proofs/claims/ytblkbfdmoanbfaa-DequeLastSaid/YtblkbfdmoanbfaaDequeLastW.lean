/-
  DequeLast, the walk.
-/
import Derived.Test.YtblkbfdmoanbfaaDeqD
namespace Go.Proofs.Ytblkbfdmoanbfaa
open Go.RowKit
set_option linter.unusedVariables false

structure LS (w wr : World) (bd bm bc bp bs n : Nat) (L : List Int) (tc : Int) (p s : Dop) (v : Int) : Prop where
  env : DeqEnv wr bd bm bc 0 n tc L
  op : DopIs wr bp bd p
  os : DopIs wr bs bd s
  okp : DopOk p
  oks : DopOk s
  duo : Duo n L p s v
  tcb : tc + rkO p + rkT s ≤ 1100
  ne : bp ≠ bs
  b1 : w.heap.size ≤ bp
  b2 : w.heap.size ≤ bs
  b3 : w.heap.size ≤ bm
  b4 : w.heap.size ≤ bc
  on : Only S0 w wr
def PostP (w w' : World) (bd bm bc bp bs n : Nat) (p s : Dop) (v : Int) (r : Bool) : Prop := ∃ L' tc' p', LS w w' bd bm bc bp bs n L' tc' p' s v ∧ (rkO p' + 1 ≤ rkO p ∨ rkO p' = 0)
def PostS (w w' : World) (bd bm bc bp bs n : Nat) (p s : Dop) (v : Int) (r : Bool) : Prop := ∃ L' tc' s', LS w w' bd bm bc bp bs n L' tc' p s' v ∧ (rkT s' + 1 ≤ rkT s ∨ rkT s' = 0)
section
variable {w wr : World} {bd bm bc bp bs n : Nat} {L : List Int} {tc v : Int} {p s : Dop}
theorem LS.stepP (h : LS w wr bd bm bc bp bs n L tc p s v) : Calls Try.prog 26 #[.pointer (some ⟨bp, 0, none⟩)] wr fun e w' => ∃ r, e = .returned (.bool r) ∧ PostP w w' bd bm bc bp bs n p s v r := by
  have hrk := h.duo.rk
  have htc := h.tcb
  have ht0 := h.env.mem.tc0
  refine (DStep_all h.env h.okp h.op (few_of _ (by omega))).mono ?_
  rintro e w' ⟨rfl, h1, h2, h3⟩
  refine ⟨_, rfl, _, _, _, ⟨h2, h1, DopAt.only h.os h3 (fun e => ?_), dstep_ok 0 n L p h.env.u h.okp, h.oks, ?_, ?_, h.ne, h.b1, h.b2, h.b3, h.b4, S0.then3 h.on h3 h.b1 h.b3 h.b4⟩, ?_⟩
  · rcases e with e | e | e
    · exact h.ne e.symm
    · exact Blk.ne_ h.os h.env.mem.mem (by decide) e
    · exact Blk.ne_ h.os h.env.mem.cells (by decide) e
  · by_cases e : p.out = 0
    · exact (h.duo.stepP e).1
    · rw [dstep_over _ _ _ e]; exact h.duo
  · by_cases e : p.out = 0
    · have := (h.duo.stepP e).2
      have : dtick p = 1 := by unfold dtick; rw [if_neg (by omega)]
      omega
    · have : dtick p = 0 := by unfold dtick; rw [if_pos e]
      rw [dstep_over _ _ _ e]
      show tc + dtick p + rkO p + rkT s ≤ 1100
      omega
  · by_cases e : p.out = 0
    · exact .inl (h.duo.stepP e).2
    · rw [dstep_over _ _ _ e]
      refine .inr ?_
      unfold rkO
      rw [if_neg e]
theorem LS.stepS (h : LS w wr bd bm bc bp bs n L tc p s v) : Calls Try.prog 26 #[.pointer (some ⟨bs, 0, none⟩)] wr fun e w' => ∃ r, e = .returned (.bool r) ∧ PostS w w' bd bm bc bp bs n p s v r := by
  have hrk := h.duo.rk
  have htc := h.tcb
  have ht0 := h.env.mem.tc0
  refine (DStep_all h.env h.oks h.os (few_of _ (by omega))).mono ?_
  rintro e w' ⟨rfl, h1, h2, h3⟩
  refine ⟨_, rfl, _, _, _, ⟨h2, DopAt.only h.op h3 (fun e => ?_), h1, h.okp, dstep_ok 0 n L s h.env.u h.oks, ?_, ?_, h.ne, h.b1, h.b2, h.b3, h.b4, S0.then3 h.on h3 h.b2 h.b3 h.b4⟩, ?_⟩
  · rcases e with e | e | e
    · exact h.ne e
    · exact Blk.ne_ h.op h.env.mem.mem (by decide) e
    · exact Blk.ne_ h.op h.env.mem.cells (by decide) e
  · by_cases e : s.out = 0
    · exact (h.duo.stepS e).1
    · rw [dstep_over _ _ _ e]; exact h.duo
  · by_cases e : s.out = 0
    · have := (h.duo.stepS e).2
      have : dtick s = 1 := by unfold dtick; rw [if_neg (by omega)]
      omega
    · have : dtick s = 0 := by unfold dtick; rw [if_pos e]
      rw [dstep_over _ _ _ e]
      show tc + dtick s + rkO p + rkT s ≤ 1100
      omega
  · by_cases e : s.out = 0
    · exact .inl (h.duo.stepS e).2
    · rw [dstep_over _ _ _ e]
      refine .inr ?_
      unfold rkT
      rw [if_neg e]
theorem LS.de (h : LS w wr bd bm bc bp bs n L tc p s v) (hp : p.out ≠ 0) : DE wr bd bm bc n [] 3000 := by
  obtain ⟨T2, B2, val2, hal, hB2, hS2⟩ := h.duo.alone hp
  exact ⟨L, tc, T2, B2, val2, h.env, hal, by have := h.tcb; have := h.duo.rk; omega, by omega, hS2⟩
end
set_option maxRecDepth 100000 in
set_option maxHeartbeats 4000000 in
theorem dequeLast_walk (a0 a1 : Int) (a2 : Option Addr) (len2 cap2 : Nat) (x2 : List Bool) (w : World) (w0 : (Lit.int .u8 a0).wf = true) (w1 : (Lit.int .u64 a1).wf = true) (w2 : InBools w a2 len2 x2) :
    Calls Try.prog 8 #[.int .u8 a0, .int .u64 a1, .slice a2 len2 cap2] w fun e w' => e = .returned (.bool true) ∧ Below w.heap.size w w' := by
  have hbig2 := w2.big
  have k1 := (bounds_u8 w0).1
  have k2 := (bounds_u8 w0).2
  have hu : U64 a1 := by have := bounds_u64 w1; unfold U64; omega
  have HU := hide hu
  have HC2 := hide w2.cells
  clear w0 w1 w2 hu
  obtain ⟨n, hn⟩ : ∃ n : Nat, 1 + a0 % 8 = (n : Int) := ⟨(1 + a0 % 8).toNat, by omega⟩
  have n1 : 1 ≤ n := by omega
  have n8 : n ≤ 8 := by omega
  go_enter Try.func8, Try.ntmps8
  go_wp2_with fail
  refine (alive4_any w).mono ?_
  rintro e wa ⟨rfl, p1⟩
  have P1 := hide p1
  clear p1
  go_wp2_with fail
  have HN := hide hn
  clear hn k1 k2
  refine (dmade_any n wa n1 (by omega)).mono ?_
  rintro e wb ⟨bd, bm, bc, rfl, h2, p2, b1, b2, b3⟩
  have H2 := hide h2
  have P2 := hide (P1.out.trans p2)
  have c1 : w.heap.size ≤ bd := Nat.le_trans P1.out.size b1
  have c2 : w.heap.size ≤ bm := Nat.le_trans P1.out.size b2
  have c3 : w.heap.size ≤ bc := Nat.le_trans P1.out.size b3
  clear h2 p2 b1 b2 b3 P1
  go_wp2_with fail
  refine (DE_push H2.out a1).mono ?_
  rintro e w3 ⟨bo, rfl, g3, a3, o3, b3⟩
  have A3 := hide a3
  have G3 := hide g3
  have O3 := hide (P2.out.trans o3)
  have c4 : w.heap.size ≤ bo := Nat.le_trans P2.out.size b3
  clear a3 g3 o3 b3
  go_wp2_with fail
  refine (DE_push_done A3.out G3.out HU.out (by show 0 < n; omega) (by omega)).mono ?_
  rintro e w4 ⟨gv, kv, rfl, a4, o4⟩
  have O4 := hide (S0.then3 O3.out o4 c4 c2 c3)
  obtain ⟨L, tc, T, B, val, henv, hal, htc, hB, hS⟩ := a4.ex
  have HENV := hide henv
  have HD := hide (Duo.start hal hS (by omega))
  clear a4 o4 henv hal hS
  go_wp2_with fail
  refine (DPop_all HENV.out).mono ?_
  rintro e w5 ⟨bp, rfl, g5, e5, o5, b5⟩
  have G5 := hide g5
  have E5 := hide e5
  have O5 := hide (O4.out.trans o5)
  have c5 : w.heap.size ≤ bp := Nat.le_trans O4.out.size b5
  clear g5 e5 o5 b5
  go_wp2_with fail
  refine (DSteal_all E5.out).mono ?_
  rintro e w6 ⟨bs, rfl, g6, e6, o6, b6⟩
  have hne : bp ≠ bs := by have := Blk.lt G5.out; omega
  have c6 : w.heap.size ≤ bs := Nat.le_trans O5.out.size b6
  have HS := hide (show LS w w6 bd bm bc bp bs n L tc popOp stealOp a1 from ⟨e6, DopAt.only G5.out o6 (fun h => h), g6, popOp_ok, stealOp_ok, HD.out, by rw [show rkO popOp = 6 from by decide, show rkT stealOp = 4 from by decide]; omega, hne, c5, c6, c2, c3, O5.out.trans o6⟩)
  clear g6 e6 o6 b6 hne htc hB
  go_wp2_with fail
  go_loopg [13] (len2 + 12) (fun q iv wr => ∃ (i : Nat) (L : List Int) (tc : Int) (p s : Dop), q = len2 + 12 - i ∧ i ≤ len2 + 12 ∧ iv = .int .i64 i ∧ LS w wr bd bm bc bp bs n L tc p s a1 ∧ rkO p ≤ len2 + 12 - i ∧ rkT s ≤ len2 + 12 - i)
  case atStart => exact ⟨0, L, tc, popOp, stealOp, rfl, by omega, rfl, HS.out, by rw [show rkO popOp = 6 from by decide]; omega, by rw [show rkT stealOp = 4 from by decide]; omega⟩
  case round =>
  clear HS HENV HD G3 A3 G5 E5
  obtain ⟨i, L, tc, p, s, rfl, hi, rfl, hs, hr1, hr2⟩ := hrel
  have HS := hide hs
  have HR := hide (And.intro hr1 hr2)
  clear hs hr1 hr2
  by_cases hil : i < len2
  · obtain ⟨g, off, rfl, hg, hc⟩ := HC2.out (by omega)
    have ce := (HS.out.on.cell (p := ⟨g, off + i, none⟩) hg (fun h => h)).trans (hc i hil)
    have HCC := hide hc
    clear hc
    generalize eltB x2 i = pb at ce
    cases pb with
    | true =>
      go_wp2_with fail
      refine HS.out.stepP.mono ?_
      rintro e w7 ⟨r, rfl, L', tc', p', hs, hrp⟩
      have HS1 := hide hs
      have HRP := hide hrp
      have ce1 := (HS1.out.on.cell (p := ⟨g, off + i, none⟩) hg (fun h => h)).trans ((HS.out.on.cell (p := ⟨g, off + i, none⟩) hg (fun h => h)).symm.trans ce)
      clear hs hrp ce
      go_wp2_with fail
      clear ce1
      go_roundg (len2 + 12 - (i + 1))
      case rel =>
        have q1 := HS1.out.duo.rk
        have q2 := HS.out.duo.rk
        exact ⟨i + 1, L', tc', p', s, rfl, by omega, by go_num, HS1.out, by omega, by omega⟩
      case measure => omega
    | false =>
      go_wp2_with fail
      refine HS.out.stepS.mono ?_
      rintro e w7 ⟨r, rfl, L', tc', s', hs, hrp⟩
      have HS1 := hide hs
      have HRP := hide hrp
      clear hs hrp ce
      go_wp2_with fail
      go_roundg (len2 + 12 - (i + 1))
      case rel =>
        have q1 := HS1.out.duo.rk
        have q2 := HS.out.duo.rk
        exact ⟨i + 1, L', tc', p, s', rfl, by omega, by go_num, HS1.out, by omega, by omega⟩
      case measure => omega
  by_cases hil2 : i < len2 + 12
  · go_wp2_with fail
    refine HS.out.stepP.mono ?_
    rintro e w7 ⟨r, rfl, L', tc', p', hs, hrp⟩
    have HS1 := hide hs
    have HRP := hide hrp
    clear hs hrp
    go_wp2_with fail
    refine HS1.out.stepS.mono ?_
    rintro e w8 ⟨r2, rfl, L2, tc2, s', hs, hrs⟩
    have HS2 := hide hs
    have HRS := hide hrs
    clear hs hrs
    go_wp2_with fail
    go_roundg (len2 + 12 - (i + 1))
    case rel =>
      have q1 := HR.out
      have q2 := HRP.out
      have q3 := HRS.out
      exact ⟨i + 1, L2, tc2, p', s', rfl, by omega, by go_num, HS2.out, by omega, by omega⟩
    case measure => omega
  obtain rfl : i = len2 + 12 := by omega
  have hpo : p.out ≠ 0 := fun e => by have := HS.out.duo.rk.2.2.1 e; have := HR.out.1; omega
  have hso : s.out ≠ 0 := fun e => by have := HS.out.duo.rk.2.2.2.2.2 e; have := HR.out.2; omega
  have hfin := HS.out.duo.fin hpo
  have HPO := hide hpo
  have HSO := hide hso
  have HDE := hide (HS.out.de hpo)
  clear hpo hso hil hil2 HR
  rcases hfin with ⟨fa, fb, fc⟩ | ⟨fa, fb, fc⟩
  · have hpb : (p.out == 1) = true := by simp [fa]
    have hsb : (s.out == 1) = false := by simp [fb]
    have HPV := hide (show dvalue p.v p.out = a1 from by unfold dvalue; rw [if_pos fa]; exact fc)
    have HSV := hide (show dvalue s.v s.out = 0 from by unfold dvalue; rw [if_neg fb])
    clear fa fb fc
    go_wp2_with fail
    refine (HS.out.op.over1 HPO.out).mono ?_
    rintro e w9 ⟨rfl, rfl⟩
    go_wp2_with fail
    refine (HS.out.os.over1 HSO.out).mono ?_
    rintro e w9 ⟨rfl, rfl⟩
    go_wp2_with fail
    refine (HS.out.op.outcome).mono ?_
    rintro e w9 ⟨rfl, rfl⟩
    go_wp2_with fail
    refine (HS.out.os.outcome).mono ?_
    rintro e w9 ⟨rfl, rfl⟩
    go_wp2_with fail
    refine (DE_pop HDE.out).mono ?_
    rintro e w9 ⟨bq, rfl, g9, a9, o9, b9⟩
    have A9 := hide a9
    have G9 := hide g9
    have O9 := hide (HS.out.on.trans o9)
    have PP9 := hide (DopAt.only HS.out.op o9 (fun h => h))
    have SS9 := hide (DopAt.only HS.out.os o9 (fun h => h))
    have q9 : w.heap.size ≤ bq := Nat.le_trans HS.out.on.size b9
    have n1' : bp ≠ bq := by have := Blk.lt HS.out.op; omega
    have n2' : bs ≠ bq := by have := Blk.lt HS.out.os; omega
    clear a9 g9 o9 b9
    go_wp2_with fail
    refine (DE_pop_none A9.out G9.out (by omega)).mono ?_
    rintro e w10 ⟨gv2, kv2, rfl, a10, o10⟩
    have PQ := hide (show DopIs w10 bp bd p from DopAt.only PP9.out o10 fun e => by
      obtain ⟨_, _, _, _, _, he, -⟩ := A9.out.ex
      rcases e with e | e | e
      · exact n1' e
      · exact Blk.ne_ PP9.out he.mem.mem (by decide) e
      · exact Blk.ne_ PP9.out he.mem.cells (by decide) e)
    have SQ := hide (show DopIs w10 bs bd s from DopAt.only SS9.out o10 fun e => by
      obtain ⟨_, _, _, _, _, he, -⟩ := A9.out.ex
      rcases e with e | e | e
      · exact n2' e
      · exact Blk.ne_ SS9.out he.mem.mem (by decide) e
      · exact Blk.ne_ SS9.out he.mem.cells (by decide) e)
    have O10 := hide (S0.then3 O9.out o10 q9 c2 c3)
    clear a10 o10
    go_wp2_with fail
    refine (PQ.out.value).mono ?_
    rintro e w11 ⟨rfl, rfl⟩
    rw [HPV.out]
    go_wp2_with fail
    refine (SQ.out.value).mono ?_
    rintro e w11 ⟨rfl, rfl⟩
    rw [HSV.out]
    have hw : IntKind.u64.wrap (a1 + 0) = a1 := by have := HU.out; unfold U64 at this; rw [IntKind.wrap_u64]; omega
    have hw2 : IntKind.u64.wrap a1 = a1 := by have := HU.out; unfold U64 at this; rw [IntKind.wrap_u64]; omega
    go_wp2_with fail
    go_ret
    exact ⟨rfl, S0.below O10.out⟩
  · have hpb : (p.out == 1) = false := by simp [fa]
    have hsb : (s.out == 1) = true := by simp [fb]
    have HPV := hide (show dvalue p.v p.out = 0 from by unfold dvalue; rw [if_neg fa])
    have HSV := hide (show dvalue s.v s.out = a1 from by unfold dvalue; rw [if_pos fb]; exact fc)
    clear fa fb fc
    go_wp2_with fail
    refine (HS.out.op.over1 HPO.out).mono ?_
    rintro e w9 ⟨rfl, rfl⟩
    go_wp2_with fail
    refine (HS.out.os.over1 HSO.out).mono ?_
    rintro e w9 ⟨rfl, rfl⟩
    go_wp2_with fail
    refine (HS.out.op.outcome).mono ?_
    rintro e w9 ⟨rfl, rfl⟩
    go_wp2_with fail
    refine (HS.out.os.outcome).mono ?_
    rintro e w9 ⟨rfl, rfl⟩
    go_wp2_with fail
    refine (DE_pop HDE.out).mono ?_
    rintro e w9 ⟨bq, rfl, g9, a9, o9, b9⟩
    have A9 := hide a9
    have G9 := hide g9
    have O9 := hide (HS.out.on.trans o9)
    have PP9 := hide (DopAt.only HS.out.op o9 (fun h => h))
    have SS9 := hide (DopAt.only HS.out.os o9 (fun h => h))
    have q9 : w.heap.size ≤ bq := Nat.le_trans HS.out.on.size b9
    have n1' : bp ≠ bq := by have := Blk.lt HS.out.op; omega
    have n2' : bs ≠ bq := by have := Blk.lt HS.out.os; omega
    clear a9 g9 o9 b9
    go_wp2_with fail
    refine (DE_pop_none A9.out G9.out (by omega)).mono ?_
    rintro e w10 ⟨gv2, kv2, rfl, a10, o10⟩
    have PQ := hide (show DopIs w10 bp bd p from DopAt.only PP9.out o10 fun e => by
      obtain ⟨_, _, _, _, _, he, -⟩ := A9.out.ex
      rcases e with e | e | e
      · exact n1' e
      · exact Blk.ne_ PP9.out he.mem.mem (by decide) e
      · exact Blk.ne_ PP9.out he.mem.cells (by decide) e)
    have SQ := hide (show DopIs w10 bs bd s from DopAt.only SS9.out o10 fun e => by
      obtain ⟨_, _, _, _, _, he, -⟩ := A9.out.ex
      rcases e with e | e | e
      · exact n2' e
      · exact Blk.ne_ SS9.out he.mem.mem (by decide) e
      · exact Blk.ne_ SS9.out he.mem.cells (by decide) e)
    have O10 := hide (S0.then3 O9.out o10 q9 c2 c3)
    clear a10 o10
    go_wp2_with fail
    refine (PQ.out.value).mono ?_
    rintro e w11 ⟨rfl, rfl⟩
    rw [HPV.out]
    go_wp2_with fail
    refine (SQ.out.value).mono ?_
    rintro e w11 ⟨rfl, rfl⟩
    rw [HSV.out]
    have hw : IntKind.u64.wrap (0 + a1) = a1 := by have := HU.out; unfold U64 at this; rw [IntKind.wrap_u64]; omega
    have hw2 : IntKind.u64.wrap a1 = a1 := by have := HU.out; unfold U64 at this; rw [IntKind.wrap_u64]; omega
    go_wp2_with fail
    go_ret
    exact ⟨rfl, S0.below O10.out⟩
end Go.Proofs.Ytblkbfdmoanbfaa
