/-
  Package crew: Size and Make.
-/
import Derived.Test.YtdoaipjdldknaaaKC14
namespace Go.Proofs.Ytdoaipjdldknaaa
open Go.RowKit
set_option linter.unusedVariables false
def csize (wk sl ac : Int) : Int := if bsize wk = 0 ∨ gsize ac = 0 ∨ dsize sl = 0 then 0 else bsize wk + gsize ac + wk * dsize sl
theorem mul_bound {a b A B : Int} (h0 : 0 ≤ a) (h1 : a ≤ A) (h2 : 0 ≤ b) (h3 : b ≤ B) : 0 ≤ a * b ∧ a * b ≤ A * B :=
  ⟨Int.mul_nonneg h0 h2, Int.mul_le_mul h1 h3 h2 (by omega)⟩
theorem CSize_any (wk sl ac : Int) (w : World) : Calls Try.prog 17 #[.int .i64 wk, .int .i64 sl, .int .i64 ac] w fun e w' => e = .returned (.int .i64 (csize wk sl ac)) ∧ w = w' := by
  obtain ⟨x, hx⟩ : ∃ x, bsize wk = x := ⟨_, rfl⟩
  obtain ⟨y, hy⟩ : ∃ y, gsize ac = y := ⟨_, rfl⟩
  obtain ⟨z, hz⟩ : ∃ z, dsize sl = z := ⟨_, rfl⟩
  have x0 : 0 ≤ x ∧ x ≤ 8 := by rw [← hx]; unfold bsize; split <;> omega
  have y0 : 0 ≤ y ∧ y ≤ 130 := by rw [← hy]; unfold gsize; split <;> omega
  have z0 : 0 ≤ z ∧ z ≤ 66 := by rw [← hz]; unfold dsize; split <;> omega
  have hwk : x ≠ 0 → 1 ≤ wk ∧ wk ≤ 8 := by rw [← hx]; unfold bsize; split <;> omega
  have e : csize wk sl ac = if x = 0 ∨ y = 0 ∨ z = 0 then 0 else x + y + wk * z := by unfold csize; rw [hx, hy, hz]
  rw [e]
  have HX := hide hx
  have HY := hide hy
  have HZ := hide hz
  clear hx hy hz e
  by_cases c1 : x = 0
  · rw [if_pos (.inl c1)]
    subst c1
    clear hwk
    go_enter Try.func17, Try.ntmps17
    go_wp2_with (first | (go_at_call 20; refine (BSize_any wk w).mono ?_; rintro e w1 ⟨rfl, rfl⟩; rw [HX.out]) | (go_at_call 22; refine (GSize_any ac w).mono ?_; rintro e w1 ⟨rfl, rfl⟩; rw [HY.out]) | (go_at_call 24; refine (DSize_any sl w).mono ?_; rintro e w1 ⟨rfl, rfl⟩; rw [HZ.out]))
    go_ret
    exact ⟨rfl, rfl⟩
  · have b1 : (x == 0) = false := by simp [c1]
    by_cases c2 : y = 0
    · rw [if_pos (.inr (.inl c2))]
      subst c2
      clear hwk c1
      go_enter Try.func17, Try.ntmps17
      go_wp2_with (first | (go_at_call 20; refine (BSize_any wk w).mono ?_; rintro e w1 ⟨rfl, rfl⟩; rw [HX.out]) | (go_at_call 22; refine (GSize_any ac w).mono ?_; rintro e w1 ⟨rfl, rfl⟩; rw [HY.out]) | (go_at_call 24; refine (DSize_any sl w).mono ?_; rintro e w1 ⟨rfl, rfl⟩; rw [HZ.out]))
      go_ret
      exact ⟨rfl, rfl⟩
    · have b2 : (y == 0) = false := by simp [c2]
      by_cases c3 : z = 0
      · rw [if_pos (.inr (.inr c3))]
        subst c3
        clear hwk c1 c2
        go_enter Try.func17, Try.ntmps17
        go_wp2_with (first | (go_at_call 20; refine (BSize_any wk w).mono ?_; rintro e w1 ⟨rfl, rfl⟩; rw [HX.out]) | (go_at_call 22; refine (GSize_any ac w).mono ?_; rintro e w1 ⟨rfl, rfl⟩; rw [HY.out]) | (go_at_call 24; refine (DSize_any sl w).mono ?_; rintro e w1 ⟨rfl, rfl⟩; rw [HZ.out]))
        go_ret
        exact ⟨rfl, rfl⟩
      · have b3 : (z == 0) = false := by simp [c3]
        rw [if_neg (by omega)]
        obtain ⟨k1, k2⟩ := hwk c1
        obtain ⟨m1, m2⟩ := mul_bound (show 0 ≤ wk by omega) k2 z0.1 z0.2
        clear c1 c2 c3 hwk
        have e1 : IntKind.i64.wrap (wk * z) = wk * z := IntWalk.i64_in (wk * z) (by omega)
        go_enter Try.func17, Try.ntmps17
        go_wp2_with (first | (go_at_call 20; refine (BSize_any wk w).mono ?_; rintro e w1 ⟨rfl, rfl⟩; rw [HX.out]) | (go_at_call 22; refine (GSize_any ac w).mono ?_; rintro e w1 ⟨rfl, rfl⟩; rw [HY.out]) | (go_at_call 24; refine (DSize_any sl w).mono ?_; rintro e w1 ⟨rfl, rfl⟩; rw [HZ.out]))
        go_ret
        exact ⟨rfl, rfl⟩
theorem CMake_nil (base wk sl ac : Int) (w : World) : Calls Try.prog 7 #[.pointer none, .int .i64 base, .int .i64 wk, .int .i64 sl, .int .i64 ac] w fun e w' => e = .returned (.tuple #[.pointer none, .int .i64 1]) ∧ w = w' := by
  go_enter Try.func7, Try.ntmps7
  go_wp2_with fail
  refine (CSize_any wk sl ac w).mono ?_
  rintro e w1 ⟨rfl, rfl⟩
  go_wp2_with fail
  go_ret2
  exact ⟨rfl, rfl⟩
theorem csize_bd (wk sl ac : Int) : 0 ≤ csize wk sl ac ∧ csize wk sl ac ≤ 1000 := by
  unfold csize
  split
  · omega
  · rename_i h
    have x0 : 0 ≤ bsize wk ∧ bsize wk ≤ 8 := by unfold bsize; split <;> omega
    have y0 : 0 ≤ gsize ac ∧ gsize ac ≤ 130 := by unfold gsize; split <;> omega
    have z0 : 0 ≤ dsize sl ∧ dsize sl ≤ 66 := by unfold dsize; split <;> omega
    have hwk : 1 ≤ wk ∧ wk ≤ 8 := by
      have : bsize wk ≠ 0 := fun e => h (.inl e)
      revert this; unfold bsize; split <;> omega
    obtain ⟨m1, m2⟩ := mul_bound (show 0 ≤ wk by omega) hwk.2 z0.1 z0.2
    omega
section
variable {w : World} {bm bc : Nat} {L : List Int} {tc : Int}
theorem CMake_bad (base wk sl ac : Int) (h : MemAt w bm bc L tc) (hb : csize wk sl ac = 0 ∨ base < 0 ∨ (L.length : Int) - csize wk sl ac < base) :
    Calls Try.prog 7 #[.pointer (some ⟨bm, 0, none⟩), .int .i64 base, .int .i64 wk, .int .i64 sl, .int .i64 ac] w fun e w' => e = .returned (.tuple #[.pointer none, .int .i64 1]) ∧ w = w' := by
  obtain ⟨sz, hsz⟩ : ∃ sz, csize wk sl ac = sz := ⟨_, rfl⟩
  have hs0 : 0 ≤ sz ∧ sz ≤ 1000 := by rw [← hsz]; exact csize_bd _ _ _
  rw [hsz] at hb
  have HSZ := hide hsz
  have H := hide h
  obtain ⟨s1, s2⟩ := hs0
  have hl := h.len
  clear hsz h
  by_cases c1 : sz = 0
  · subst c1
    clear hb
    go_enter Try.func7, Try.ntmps7
    go_wp2_with fail
    refine (CSize_any wk sl ac w).mono ?_
    rintro e w1 ⟨rfl, rfl⟩
    rw [HSZ.out]
    go_wp2_with fail
    go_ret2
    exact ⟨rfl, rfl⟩
  · have c1' : (sz == 0) = false := by simp [c1]
    by_cases c2 : base < 0
    · clear hb
      go_enter Try.func7, Try.ntmps7
      go_wp2_with fail
      refine (CSize_any wk sl ac w).mono ?_
      rintro e w1 ⟨rfl, rfl⟩
      rw [HSZ.out]
      go_wp2_with fail
      go_ret2
      exact ⟨rfl, rfl⟩
    · have c3 : (L.length : Int) - sz < base := by omega
      clear hb
      go_enter Try.func7, Try.ntmps7
      go_wp2_with fail
      refine (CSize_any wk sl ac w).mono ?_
      rintro e w1 ⟨rfl, rfl⟩
      rw [HSZ.out]
      go_wp2_with fail
      refine (Len_any H.out).mono ?_
      rintro e w1 ⟨rfl, rfl⟩
      go_wp2_with fail
      go_ret2
      exact ⟨rfl, rfl⟩
end
theorem info_deqp : (Try.prog.info? 60).map (fun i => (i.zero, i.size, i.bytes)) = some (some (.pointer none), 1, 8) := by kernel_rfl
/-- The deques laid out, one behind the other. -/
def layDs (L : List Int) (db : Nat → Nat) (sl : Nat) : Nat → List Int
  | 0 => L
  | k + 1 => layD (layDs L db sl k) (db k) (2 + sl)
def layC (L : List Int) (F : CLay) : List Int := layDs (zeroL (zeroL L F.base F.n) F.gb (2 + 2 * F.actors)) F.db F.slots F.n
theorem layDs_len (L : List Int) (db : Nat → Nat) (sl k : Nat) : (layDs L db sl k).length = L.length := by
  induction k with
  | zero => rfl
  | succ k ih => simp [layDs, layD_len, ih]
theorem layDs_u (L : List Int) (db : Nat → Nat) (sl k : Nat) (h : AllU L) : AllU (layDs L db sl k) := by
  induction k with
  | zero => exact h
  | succ k ih => exact layD_u _ _ _ ih
theorem layC_len (L : List Int) (F : CLay) : (layC L F).length = L.length := by unfold layC; rw [layDs_len, zeroL_len, zeroL_len]
theorem layC_u (L : List Int) (F : CLay) (h : AllU L) : AllU (layC L F) := layDs_u _ _ _ _ (zeroL_u _ _ _ (zeroL_u _ _ _ h))
/-- A crew and its memory. -/
structure CEnv (w : World) (F : CLay) (cb bb bg bm bc : Nat) (dv : Value) (bd : Nat → Nat) (tc : Int) (L : List Int) : Prop where
  crew : CrewAt w cb bb bg dv
  dqs : DqsAt w dv F.n bd
  bell : BellEnv w bb bm bc F.base F.n tc L
  gate : GateEnv w bg bm bc F.gb F.actors tc L
  deq : ∀ i, i < F.n → DeqEnv w (bd i) bm bc (F.db i) F.slots tc L
def CLay.size (F : CLay) : Nat := F.n + (2 + 2 * F.actors) + F.n * (2 + F.slots)
structure CLay.Ok (F : CLay) : Prop where
  n1 : 1 ≤ F.n
  n8 : F.n ≤ 8
  s1 : 1 ≤ F.slots
  s64 : F.slots ≤ 64
  a1 : 1 ≤ F.actors
  a64 : F.actors ≤ 64
theorem CLay.Ok.csize {F : CLay} (h : F.Ok) : csize F.n F.slots F.actors = (F.size : Nat) := by
  have := h.n1; have := h.n8; have := h.s1; have := h.s64; have := h.a1; have := h.a64
  have e1 : bsize F.n = F.n := by unfold bsize; rw [if_pos (by omega)]
  have e2 : gsize F.actors = 2 + 2 * F.actors := by unfold gsize; rw [if_pos (by omega)]
  have e3 : dsize F.slots = 2 + F.slots := by unfold dsize; rw [if_pos (by omega)]
  unfold Go.Proofs.Ytdoaipjdldknaaa.csize
  rw [e1, e2, e3, if_neg (by omega)]
  unfold CLay.size
  simp only [Int.natCast_add, Int.natCast_mul]
  rfl
theorem CLay.db_in {F : CLay} {i : Nat} (hi : i < F.n) : F.db i + (2 + F.slots) ≤ F.base + F.size := by
  unfold CLay.db CLay.size
  have : (i + 1) * (2 + F.slots) ≤ F.n * (2 + F.slots) := Nat.mul_le_mul_right _ hi
  rw [Nat.add_mul] at this
  omega
theorem CLay.Ok.size_le {F : CLay} (h : F.Ok) : F.size ≤ 700 := by
  have : F.n * (2 + F.slots) ≤ 8 * 66 := Nat.mul_le_mul h.n8 (by have := h.s64; omega)
  have := h.n8; have := h.a64
  unfold CLay.size; omega
theorem DqsAt.of_sl {w : World} {B n : Nat} {dv : Value} {bd : Nat → Nat} (hn : 1 ≤ n) (h : Sl w B 60 dv (ptrs n bd)) : DqsAt w dv n bd := by
  rcases h.form with ⟨_, h2⟩ | ⟨g, cap, cur, h1, hB, hb, hm, hz, ht⟩
  · have := ptrs_len n bd
    rw [h2] at this
    simp at this
    omega
  · rw [ptrs_len] at h1
    subst h1
    exact ⟨g, cap, cur, rfl, hb, fun i hi => h.get (ptrs_get bd hi)⟩
theorem zero_crew : (Try.prog.info? 54).map (fun i => i.size) = some 3 := by kernel_rfl
section
variable {w : World} {bm bc : Nat} {L : List Int} {tc : Int}
set_option maxRecDepth 100000 in
set_option maxHeartbeats 4000000 in
theorem CMake_good (F : CLay) (hF : F.Ok) (h : MemAt w bm bc L tc) (hf : Few (tc + 2000)) (hu : AllU L) (hin : F.base + F.size ≤ L.length) :
    Calls Try.prog 7 #[.pointer (some ⟨bm, 0, none⟩), .int .i64 F.base, .int .i64 F.n, .int .i64 F.slots, .int .i64 F.actors] w fun e w' => ∃ cb bb bg dv bd, e = .returned (.tuple #[.pointer (some ⟨cb, 0, none⟩), .int .i64 0]) ∧
      CEnv w' F cb bb bg bm bc dv bd (tc + (F.size : Nat)) (layC L F) ∧ Only (S2 bm bc) w w' ∧ w.heap.size ≤ cb ∧ w.heap.size ≤ bb ∧ w.heap.size ≤ bg ∧ (∀ i, i < F.n → w.heap.size ≤ bd i) := by
  obtain ⟨sz, hz⟩ : ∃ sz, F.size = sz := ⟨_, rfl⟩
  have hsz := hF.csize
  have hs7 := hF.size_le
  have hs1 : 1 ≤ sz := by rw [← hz]; unfold CLay.size; omega
  have hl := h.len
  rw [hz] at hsz hs7 hin
  have c1 : ((sz : Int) == 0) = false := by simp; omega
  have c3 : ¬ (L.length : Int) - (sz : Int) < (F.base : Int) := by omega
  have HSZ := hide hsz
  have HZ := hide hz
  have H := hide h
  have HF := hide hf
  have HK := hide hF
  have HU := hide hu
  have HIN := hide hin
  clear hsz h hf hz hF hu
  rw [HZ.out]
  go_enter Try.func7, Try.ntmps7
  go_wp2_with fail
  refine (CSize_any _ _ _ w).mono ?_
  rintro e w1 ⟨rfl, rfl⟩
  rw [HSZ.out]
  go_wp2_with fail
  refine (Len_any H.out).mono ?_
  rintro e w1 ⟨rfl, rfl⟩
  go_upto_region 5 with fail
  have o1 := (Only.refl S0 w).alloc (.cells #[.pointer none, .pointer none, .slice none 0 0] 54)
  have HC := hide (Blk.new w 54 #[.pointer none, .pointer none, .slice none 0 0])
  have H1 := hide (H.out.only o1 (fun h => h) (fun h => h))
  have O1 := hide o1
  have hcb := Blk.lt (Blk.new w 54 #[.pointer none, .pointer none, .slice none 0 0])
  have hmb := Blk.lt H.out.mem
  have hcl := Blk.lt H.out.cells
  clear o1
  generalize hcb' : w.heap.size = cb at *
  have HCB := hide hcb'
  generalize w.alloc (.cells #[.pointer none, .pointer none, .slice none 0 0] 54) = w1 at *
  clear hcb'
  have hbn := HK.out.n8
  have hb1 := HK.out.n1
  have hsn := HK.out.s64
  have hs1' := HK.out.s1
  have han := HK.out.a64
  have ha1 := HK.out.a1
  have hin2 : F.base + F.n ≤ L.length := by have := HIN.out; have := HZ.out; unfold CLay.size at this; omega
  have hin3 : F.base + F.n + (2 + 2 * F.actors) ≤ L.length := by have := HIN.out; have := HZ.out; unfold CLay.size at this; omega
  go_wp2_with fail
  refine (BMake_good F.base F.n H1.out (few_of _ (by have := HF.out; unfold Few at this; omega)) hb1 hbn hin2).mono ?_
  rintro e w2 ⟨bb, rfl, g2, q2, p2, b2⟩
  have HC2 := hide (HC.out.only p2 (fun h => by unfold S2 at h; omega))
  have G2 := hide g2
  have H2 := hide q2
  have O2 := hide ((O1.out.mono (R := S2 bm bc) fun _ h => h.elim).trans p2)
  have z0 := HC2.out.cellv (i := 0) rfl
  have y0 := HC2.out.frozen 0
  have hbb : cb < bb := by omega
  clear g2 q2 p2
  go_upto_region 6 with fail
  have HC3 := hide (show Blk _ cb 54 #[.pointer (some ⟨bb, 0, none⟩), .pointer none, .slice none 0 0] from by simpa using HC2.out.set_ 0 (.pointer (some ⟨bb, 0, none⟩)))
  have p3 := only_set w2 cb 0 (.pointer (some ⟨bb, 0, none⟩))
  have G3 := hide (G2.out.only p3 (fun h => by unfold S1 at h; omega))
  have H3 := hide (H2.out.only p3 (fun h => by unfold S1 at h; omega) (fun h => by unfold S1 at h; omega))
  have O3 := hide (O2.out.setNew 0 (by have := HCB.out; show w.heap.size ≤ cb; omega) (.pointer (some ⟨bb, 0, none⟩)))
  clear p3 HC2 G2 H2 O2 z0 y0
  generalize w2.setCell ⟨cb, 0, none⟩ (.pointer (some ⟨bb, 0, none⟩)) = w3 at *
  go_wp2_with fail
  refine (BSize_any _ w3).mono ?_
  rintro e w4 ⟨rfl, rfl⟩
  rw [show bsize F.n = F.n from by unfold bsize; rw [if_pos (by omega)]]
  go_upto_region 7 with fail
  rw [show (F.base : Int) + F.n = (F.gb : Nat) from by unfold CLay.gb; omega]
  have hgb : F.gb + (2 + 2 * F.actors) ≤ L.length := by unfold CLay.gb; omega
  go_wp2_with fail
  refine (GMake_good F.gb F.actors H3.out (few_of _ (by have := HF.out; unfold Few at this; omega)) ha1 han (by rw [zeroL_len]; exact hgb)).mono ?_
  rintro e w4 ⟨bg, rfl, g4, q4, p4, b4⟩
  have HC4 := hide (HC3.out.only p4 (fun h => by unfold S2 at h; omega))
  have G4 := hide (G3.out.only p4 (fun h => by unfold S2 at h; omega))
  have GG4 := hide g4
  have H4 := hide q4
  have O4 := hide (O3.out.trans p4)
  have z0 := HC4.out.cellv (i := 1) rfl
  have y0 := HC4.out.frozen 1
  have hbg : cb < bg := by have := Blk.lt HC3.out; omega
  clear g4 q4 p4 HC3 G3 H3 O3
  go_upto_region 8 with fail
  have HC5 := hide (show Blk _ cb 54 #[.pointer (some ⟨bb, 0, none⟩), .pointer (some ⟨bg, 0, none⟩), .slice none 0 0] from by simpa using HC4.out.set_ 1 (.pointer (some ⟨bg, 0, none⟩)))
  have p5 := only_set w4 cb 1 (.pointer (some ⟨bg, 0, none⟩))
  have G5 := hide (G4.out.only p5 (fun h => by unfold S1 at h; omega))
  have GG5 := hide (GG4.out.only p5 (fun h => by unfold S1 at h; omega))
  have H5 := hide (H4.out.only p5 (fun h => by unfold S1 at h; omega) (fun h => by unfold S1 at h; omega))
  have O5 := hide (O4.out.setNew 1 (by have := HCB.out; show w.heap.size ≤ cb; omega) (.pointer (some ⟨bg, 0, none⟩)))
  clear p5 HC4 G4 GG4 H4 O4 z0 y0
  generalize w4.setCell ⟨cb, 1, none⟩ (.pointer (some ⟨bg, 0, none⟩)) = w5 at *
  go_wp2_with fail
  refine (GSize_any _ w5).mono ?_
  rintro e w6 ⟨rfl, rfl⟩
  rw [show gsize F.actors = 2 + 2 * F.actors from by unfold gsize; rw [if_pos (by omega)]]
  go_upto_region 9 with fail
  rw [show (F.gb : Int) + (2 + 2 * F.actors) = (F.db 0 : Nat) from by unfold CLay.gb CLay.db; omega]
  obtain ⟨L2, hL2⟩ : ∃ L2, zeroL (zeroL L F.base F.n) F.gb (2 + 2 * F.actors) = L2 := ⟨_, rfl⟩
  obtain ⟨t2, ht2⟩ : ∃ t2 : Int, tc + (F.n : Nat) + (2 + 2 * F.actors : Nat) = t2 := ⟨_, rfl⟩
  have H6 := hide (show MemAt w5 bm bc L2 t2 from by rw [← hL2, ← ht2]; exact H5.out)
  have HL2 := hide hL2
  have HT2 := hide ht2
  have hlen2 : L2.length = L.length := by rw [← hL2, zeroL_len, zeroL_len]
  have HLEN := hide hlen2
  clear hL2 ht2 H5 hlen2
  go_wp2_with fail
  go_loopg [70] F.n (fun q kv wr => ∃ (k : Nat) (dv : Value) (bd : Nat → Nat), q = F.n - k ∧ k ≤ F.n ∧ kv = .int .i64 k ∧ CrewAt wr cb bb bg dv ∧ Sl wr cb 60 dv (ptrs k bd) ∧ BellAt wr bb bm F.base F.n ∧ GateAt wr bg bm F.gb F.actors ∧ (∀ i, i < k → DeqAt wr (bd i) bm (F.db i) F.slots ∧ cb ≤ bd i) ∧ MemAt wr bm bc (layDs L2 F.db F.slots k) (t2 + (k * (2 + F.slots) : Nat)) ∧ Only (S2 bm bc) w wr ∧ cb ≤ wr.heap.size)
  case atStart => exact ⟨0, .slice none 0 0, fun _ => 0, rfl, Nat.zero_le _, rfl, HC5.out, Sl.nil _ _ _, G5.out, GG5.out, fun i hi => by omega, by simpa [layDs] using H6.out, O5.out, by have := Blk.lt HC5.out; omega⟩
  case round =>
    obtain ⟨k, dv, bd, rfl, hk, rfl, q0, q1, q2, q3, q4, q5, q6, q7⟩ := hrel
    have HC := hide q0
    have HS := hide q1
    have HB := hide q2
    have HG := hide q3
    have HD := hide q4
    have HM := hide q5
    have HO := hide q6
    clear q0 q1 q2 q3 q4 q5 q6 HC5 G5 GG5 H6 O5
    by_cases hlt : k < F.n
    · obtain ⟨m, hm⟩ : ∃ m : Nat, k * (2 + F.slots) = m := ⟨_, rfl⟩
      have hm600 : m ≤ 600 := by rw [← hm]; exact Nat.le_trans (Nat.mul_le_mul (show k ≤ 8 by omega) (show 2 + F.slots ≤ 66 by omega)) (by decide)
      have hmi : (k : Int) * (2 + (F.slots : Int)) = (m : Int) := by rw [← hm, Int.natCast_mul]; rfl
      have hdb : (F.db 0 : Int) + (m : Int) = (F.db k : Nat) := by unfold CLay.db; rw [hm]; omega
      have hdbk := CLay.db_in hlt
      have HMM := hide hm
      have HMI := hide hmi
      have HDB := hide hdb
      have HDK := hide hdbk
      clear hm hmi hdb hdbk
      go_wp2_with fail
      refine (DSize_any _ wr).mono ?_
      rintro e w6 ⟨rfl, rfl⟩
      rw [show dsize F.slots = 2 + F.slots from by unfold dsize; rw [if_pos (by omega)]]
      have hw1 : IntKind.i64.wrap ((k : Int) * (2 + (F.slots : Int))) = (m : Int) := by rw [HMI.out]; exact IntWalk.i64_in (m : Int) (by omega)
      have hw2 : IntKind.i64.wrap ((F.db 0 : Int) + (m : Int)) = (F.db k : Nat) := by rw [HDB.out]; exact IntWalk.i64_in ((F.db k : Nat) : Int) (by have := HDK.out; have := HIN.out; have := HZ.out; omega)
      go_wp2_with fail
      clear hw1 hw2
      refine (DMake_good (F.db k) F.slots HM.out (few_of _ (by have := HF.out; have := HT2.out; have := HMM.out; unfold Few at *; omega)) hs1' hsn (by rw [layDs_len, HLEN.out]; have := HDK.out; have := HIN.out; have := HZ.out; omega)).mono ?_
      rintro e w6 ⟨bdk, rfl, g6, q6, p6, b6⟩
      have HC6 := hide (HC.out.only p6 (fun h => by unfold S2 at h; omega))
      have HS6 := hide (HS.out.only p6 (fun g hg h => by have := (HS.out.block hg).1; unfold S2 at h; omega))
      have HB6 := hide (HB.out.only p6 (fun h => by unfold S2 at h; omega))
      have HG6 := hide (HG.out.only p6 (fun h => by unfold S2 at h; omega))
      have HD6 := hide (show ∀ i, i < k → DeqAt w6 (bd i) bm (F.db i) F.slots ∧ cb ≤ bd i from fun i hi => ⟨(HD.out i hi).1.only p6 (fun h => by have := (HD.out i hi).2; unfold S2 at h; omega), (HD.out i hi).2⟩)
      have GD6 := hide g6
      have HM6 := hide q6
      have HO6 := hide (HO.out.trans p6)
      have z0 := HC6.out.c2
      have hs6 := p6.size
      have HB6' := hide (show cb ≤ bdk from by omega)
      clear g6 q6 p6 HC HS HB HG HD HM HO
      go_wp2_with (at_builtin; refine wpList_app1 _ rfl (.tmp 89) (.tmp 91) 52 rfl 60 (.pointer none) 8 Try.underlying52 info_deqp rfl cb _ (ptrs k bd) (.pointer (some ⟨bdk, 0, none⟩)) rfl rfl HS6.out rfl (by rw [ptrs_len]; omega) (by rw [ptrs_len]; unfold maxLen; omega) (by omega) ?_; intro v' w7 hv' o7 _; have HV7 := hide hv'; have HC7 := hide (HC6.out.only o7 (fun h => HS6.out.ne_blk HC6.out (by decide) h)); have HB7 := hide (HB6.out.only o7 (fun h => HS6.out.ne_blk HB6.out (by decide) h)); have HG7 := hide (HG6.out.only o7 (fun h => HS6.out.ne_blk HG6.out (by decide) h)); have GD7 := hide (GD6.out.only o7 (fun h => HS6.out.ne_blk GD6.out (by decide) h)); have HD7 := hide (show ∀ i, i < k → DeqAt w7 (bd i) bm (F.db i) F.slots ∧ cb ≤ bd i from fun i hi => ⟨(HD6.out i hi).1.only o7 (fun h => HS6.out.ne_blk (HD6.out i hi).1 (by decide) h), (HD6.out i hi).2⟩); have HM7 := hide (HM6.out.only o7 (fun h => HS6.out.ne_blk HM6.out.mem (by decide) h) (fun h => HS6.out.ne_blk HM6.out.cells (by decide) h)); have HO7 := hide (HO6.out.then o7 (fun i hi e => by have := HS6.out.block e; have := HCB.out; omega)); have hs7 := o7.size; have z0 := HC7.out.c2; have y0 := Blk.frozen HC7.out 2; obtain ⟨g7, c7, rfl⟩ := app_form hv'; clear hv' o7)
      have p8 := only_set w7 cb 2 (.slice (some ⟨g7, 0, none⟩) ((ptrs k bd).length + 1) c7)
      have HC8 := hide (show CrewAt (w7.setCell ⟨cb, 2, none⟩ (.slice (some ⟨g7, 0, none⟩) ((ptrs k bd).length + 1) c7)) cb bb bg (.slice (some ⟨g7, 0, none⟩) ((ptrs k bd).length + 1) c7) from by simpa [CrewAt] using Blk.set_ HC7.out 2 (.slice (some ⟨g7, 0, none⟩) ((ptrs k bd).length + 1) c7))
      have hv7 := HV7.out
      simp only [List.length_append, List.length_cons, List.length_nil, Nat.zero_add] at hv7
      have HV8 := hide (hv7.only p8 (fun g hg h => by unfold S1 at h; subst h; exact hv7.ne_blk HC7.out (by decide) hg))
      clear hv7
      have HB8 := hide (HB7.out.only p8 (fun h => by unfold S1 at h; omega))
      have HG8 := hide (HG7.out.only p8 (fun h => by unfold S1 at h; omega))
      have HD8 := hide (show ∀ i, i < k + 1 → DeqAt (w7.setCell ⟨cb, 2, none⟩ (.slice (some ⟨g7, 0, none⟩) ((ptrs k bd).length + 1) c7)) (upd bd k bdk i) bm (F.db i) F.slots ∧ cb ≤ upd bd k bdk i from fun i hi => by
        by_cases e : i = k
        · subst e
          rw [upd_same]
          exact ⟨GD7.out.only p8 (fun h => Blk.ne_ GD7.out HC7.out (by decide) h), HB6'.out⟩
        · rw [upd_ne _ _ e]
          exact ⟨(HD7.out i (by omega)).1.only p8 (fun h => Blk.ne_ (HD7.out i (by omega)).1 HC7.out (by decide) h), (HD7.out i (by omega)).2⟩)
      have HM8 := hide (HM7.out.only p8 (fun h => by unfold S1 at h; omega) (fun h => by unfold S1 at h; omega))
      have HO8 := hide (HO7.out.setNew 2 (by have := HCB.out; show w.heap.size ≤ cb; omega) (.slice (some ⟨g7, 0, none⟩) ((ptrs k bd).length + 1) c7))
      have hs8 := p8.size
      go_roundg (F.n - (k + 1))
      case rel => exact ⟨k + 1, _, upd bd k bdk, rfl, by omega, by go_num, HC8.out, by rw [ptrs_snoc]; exact HV8.out, HB8.out, HG8.out, HD8.out, by rw [show t2 + ((k + 1) * (2 + F.slots) : Nat) = t2 + (k * (2 + F.slots) : Nat) + (2 + F.slots : Nat) from by rw [Nat.add_mul]; omega]; exact HM8.out, HO8.out, by omega⟩
      case measure => omega
    · obtain rfl : k = F.n := by omega
      go_wp2_with fail
      go_ret2
      have hm := HM.out
      rw [show t2 + (F.n * (2 + F.slots) : Nat) = tc + (F.size : Nat) from by have := HT2.out; unfold CLay.size; omega, show layDs L2 F.db F.slots F.n = layC L F from by unfold layC; rw [HL2.out]] at hm
      have hll : (layC L F).length = L.length := layC_len _ _
      rw [HZ.out] at hm
      have hff : Few (tc + (sz : Nat)) := few_of _ (by have := HF.out; unfold Few at this; omega)
      have huu : AllU (layC L F) := layC_u _ _ HU.out
      refine ⟨cb, bb, bg, dv, bd, rfl, ⟨HC.out, DqsAt.of_sl (by omega) HS.out, ⟨HB.out, hm, hff, by omega, by omega, by omega, by omega, by omega⟩, ⟨HG.out, hm, hff, huu, by omega, by omega, by omega, by have := HIN.out; omega, by rw [hll]; unfold CLay.gb; omega⟩, fun i hi => ⟨(HD.out i hi).1, hm, hff, huu, by omega, by omega, by omega, ?_, ?_⟩⟩, HO.out, by have := HCB.out; omega, by have := HCB.out; omega, by have := HCB.out; omega, fun i hi => by have := (HD.out i hi).2; have := HCB.out; omega⟩
      · have := CLay.db_in hi; have := HZ.out; have := HIN.out; omega
      · have := CLay.db_in hi; have := HZ.out; have := HIN.out; rw [hll]; omega
end
end Go.Proofs.Ytdoaipjdldknaaa
