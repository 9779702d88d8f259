/-
  Package gate: what each method does, said of the cells and of the operation's own fields.
-/
import Derived.Test.YtdoaipjdldknaaaCom
namespace Go.Proofs.Ytdoaipjdldknaaa
open Go.RowKit
set_option linter.unusedVariables false

/-- A gate: block bg. -/
def GateAt (w : World) (bg bm : Nat) (base n : Int) : Prop := Blk w bg 93 #[.pointer (some ⟨bm, 0, none⟩), .int .i64 base, .int .u64 n]
/-- An operation: its fields. -/
def GopAt (w : World) (bo bg : Nat) (ph cell ahead t v out : Int) : Prop :=
  Blk w bo 103 #[.pointer (some ⟨bg, 0, none⟩), .int .i64 ph, .int .i64 cell, .int .u64 ahead, .int .u64 t, .int .u64 v, .int .i64 out]

section
variable {w : World} {bo bg bm bc : Nat} {base n ph cell ahead t v out tc : Int} {L : List Int}
theorem GopAt.c0 (h : GopAt w bo bg ph cell ahead t v out) : w.cell? ⟨bo, 0, none⟩ = some (.pointer (some ⟨bg, 0, none⟩)) := Blk.cellv h rfl
theorem GopAt.c1 (h : GopAt w bo bg ph cell ahead t v out) : w.cell? ⟨bo, 1, none⟩ = some (.int .i64 ph) := Blk.cellv h rfl
theorem GopAt.c2 (h : GopAt w bo bg ph cell ahead t v out) : w.cell? ⟨bo, 2, none⟩ = some (.int .i64 cell) := Blk.cellv h rfl
theorem GopAt.c3 (h : GopAt w bo bg ph cell ahead t v out) : w.cell? ⟨bo, 3, none⟩ = some (.int .u64 ahead) := Blk.cellv h rfl
theorem GopAt.c4 (h : GopAt w bo bg ph cell ahead t v out) : w.cell? ⟨bo, 4, none⟩ = some (.int .u64 t) := Blk.cellv h rfl
theorem GopAt.c5 (h : GopAt w bo bg ph cell ahead t v out) : w.cell? ⟨bo, 5, none⟩ = some (.int .u64 v) := Blk.cellv h rfl
theorem GopAt.c6 (h : GopAt w bo bg ph cell ahead t v out) : w.cell? ⟨bo, 6, none⟩ = some (.int .i64 out) := Blk.cellv h rfl
theorem GopAt.fz (h : GopAt w bo bg ph cell ahead t v out) (i : Nat) : w.frozen? ⟨bo, i, none⟩ = false := Blk.frozen h i
theorem GateAt.c0 (h : GateAt w bg bm base n) : w.cell? ⟨bg, 0, none⟩ = some (.pointer (some ⟨bm, 0, none⟩)) := Blk.cellv h rfl
theorem GateAt.c1 (h : GateAt w bg bm base n) : w.cell? ⟨bg, 1, none⟩ = some (.int .i64 base) := Blk.cellv h rfl
theorem GateAt.c2 (h : GateAt w bg bm base n) : w.cell? ⟨bg, 2, none⟩ = some (.int .u64 n) := Blk.cellv h rfl

theorem GOver_pend (h : GopAt w bo bg ph cell ahead t v 0) : Calls Try.prog 108 #[.pointer (some ⟨bo, 0, none⟩)] w fun e w' => e = .returned (.bool false) ∧ w = w' := by
  have c6 := h.c6
  clear h
  go_enter Try.func108, Try.ntmps108
  go_wp2_with fail
  go_ret
  exact ⟨rfl, rfl⟩
theorem GOver_over (h : GopAt w bo bg ph cell ahead t v out) (ho : out ≠ 0) : Calls Try.prog 108 #[.pointer (some ⟨bo, 0, none⟩)] w fun e w' => e = .returned (.bool true) ∧ w = w' := by
  have c6 := h.c6
  have hb : (out != 0) = true := by simp [ho]
  clear h ho
  go_enter Try.func108, Try.ntmps108
  go_wp2_with fail
  go_ret
  exact ⟨rfl, rfl⟩
theorem GOutcome_any (h : GopAt w bo bg ph cell ahead t v out) : Calls Try.prog 47 #[.pointer (some ⟨bo, 0, none⟩)] w fun e w' => e = .returned (.int .i64 out) ∧ w = w' := by
  have c6 := h.c6
  clear h
  go_enter Try.func47, Try.ntmps47
  go_wp2_with fail
  go_ret
  exact ⟨rfl, rfl⟩
/-- What Value answers. -/
def gvalue (ahead v out : Int) : Int := if out = 1 ∧ ahead ≠ 0 then v else 0
theorem GValue_any (h : GopAt w bo bg ph cell ahead t v out) : Calls Try.prog 51 #[.pointer (some ⟨bo, 0, none⟩)] w fun e w' => e = .returned (.int .u64 (gvalue ahead v out)) ∧ w = w' := by
  have c3 := h.c3
  have c5 := h.c5
  have c6 := h.c6
  clear h
  by_cases ho : out = 1
  · by_cases ha : ahead = 0
    · have hv : gvalue ahead v out = 0 := by simp [gvalue, ha]
      rw [hv]
      subst ho ha
      clear hv
      go_enter Try.func51, Try.ntmps51
      go_wp2_with fail
      go_ret
      exact ⟨rfl, rfl⟩
    · have hv : gvalue ahead v out = v := by simp [gvalue, ha, ho]
      rw [hv]
      subst ho
      have hb : (ahead == 0) = false := by simp [ha]
      clear hv ha
      go_enter Try.func51, Try.ntmps51
      go_wp2_with fail
      go_ret
      exact ⟨rfl, rfl⟩
  · have hv : gvalue ahead v out = 0 := by simp [gvalue, ho]
    rw [hv]
    have hb : (out != 1) = true := by simp [ho]
    clear hv ho
    go_enter Try.func51, Try.ntmps51
    go_wp2_with fail
    go_ret
    exact ⟨rfl, rfl⟩

theorem Put_any (x : Int) (h : GateAt w bg bm base n) : Calls Try.prog 56 #[.pointer (some ⟨bg, 0, none⟩), .int .u64 x] w fun e w' =>
    ∃ bo, e = .returned (.pointer (some ⟨bo, 0, none⟩)) ∧ GopAt w' bo bg 0 base 0 0 x 0 ∧ Only S0 w w' ∧ w.heap.size ≤ bo := by
  have c1 := h.c1
  clear h
  go_enter Try.func56, Try.ntmps56
  go_wp2_with fail
  go_ret
  exact ⟨_, rfl, Blk.new _ _ _, (Only.refl _ _).alloc _, Nat.le_refl _⟩
theorem Take_any (h : GateAt w bg bm base n) (h0 : 0 ≤ base) (h1 : base ≤ 70000) : Calls Try.prog 39 #[.pointer (some ⟨bg, 0, none⟩)] w fun e w' =>
    ∃ bo, e = .returned (.pointer (some ⟨bo, 0, none⟩)) ∧ GopAt w' bo bg 0 (base + 1) 1 0 0 0 ∧ Only S0 w w' ∧ w.heap.size ≤ bo := by
  have c1 := h.c1
  clear h
  go_enter Try.func39, Try.ntmps39
  go_wp2_with fail
  go_ret
  exact ⟨_, rfl, Blk.new _ _ _, (Only.refl _ _).alloc _, Nat.le_refl _⟩

/-- The turn that an operation waits for. -/
def wantOf (n ahead t : Int) : Int := add64 (IntKind.u64.wrap (t / n * 2)) ahead
theorem want_any (h : GopAt w bo bg ph cell ahead t v out) (hg : GateAt w bg bm base n) (ht : U64 t) (h1 : 1 ≤ n) :
    Calls Try.prog 111 #[.pointer (some ⟨bo, 0, none⟩)] w fun e w' => e = .returned (.int .u64 (wantOf n ahead t)) ∧ ∃ q, w' = w.drewN q := by
  have c0 := h.c0
  have c3 := h.c3
  have c4 := h.c4
  have g2 := hg.c2
  have hn : (n == 0) = false := by simp; omega
  obtain ⟨d1, d2⟩ := u64_div ht h1
  clear h hg ht
  go_enter Try.func111, Try.ntmps111
  go_wp2_with fail
  go_quiet (fail)
  go_wp2_with fail
  go_ret
  exact ⟨rfl, _, rfl⟩

/-- The cell of a ticket's turn. -/
def slotOf (base n t : Int) : Int := base + 2 + 2 * (t % n)
theorem GopAt.drewN (h : GopAt w bo bg ph cell ahead t v out) (q : Nat) : GopAt (w.drewN q) bo bg ph cell ahead t v out := h
theorem GateAt.drewN (h : GateAt w bg bm base n) (q : Nat) : GateAt (w.drewN q) bg bm base n := h
theorem GopAt.only {w' : World} {S : Nat → Prop} (h : GopAt w bo bg ph cell ahead t v out) (ho : Only S w w') (hs : ¬ S bo) : GopAt w' bo bg ph cell ahead t v out := Blk.only h ho hs
theorem GateAt.only {w' : World} {S : Nat → Prop} (h : GateAt w bg bm base n) (ho : Only S w w') (hs : ¬ S bg) : GateAt w' bg bm base n := Blk.only h ho hs

theorem GopAt.setPh (h : GopAt w bo bg ph cell ahead t v out) (x : Int) : GopAt (w.setCell ⟨bo, 1, none⟩ (.int .i64 x)) bo bg x cell ahead t v out := by simpa [GopAt] using Blk.set_ h 1 (.int .i64 x)
theorem GopAt.setT (h : GopAt w bo bg ph cell ahead t v out) (x : Int) : GopAt (w.setCell ⟨bo, 4, none⟩ (.int .u64 x)) bo bg ph cell ahead x v out := by simpa [GopAt] using Blk.set_ h 4 (.int .u64 x)
theorem GopAt.setV (h : GopAt w bo bg ph cell ahead t v out) (x : Int) : GopAt (w.setCell ⟨bo, 5, none⟩ (.int .u64 x)) bo bg ph cell ahead t x out := by simpa [GopAt] using Blk.set_ h 5 (.int .u64 x)
theorem GopAt.setOut (h : GopAt w bo bg ph cell ahead t v out) (x : Int) : GopAt (w.setCell ⟨bo, 6, none⟩ (.int .i64 x)) bo bg ph cell ahead t v x := by simpa [GopAt] using Blk.set_ h 6 (.int .i64 x)

set_option maxHeartbeats 1000000 in
theorem Step_over (h : GopAt w bo bg ph cell ahead t v out) (ho : out ≠ 0) : Calls Try.prog 109 #[.pointer (some ⟨bo, 0, none⟩)] w fun e w' => e = .returned (.bool true) ∧ w = w' := by
  go_enter Try.func109, Try.ntmps109
  go_wp2_with fail
  refine (GOver_over h ho).mono ?_
  rintro e w' ⟨rfl, rfl⟩
  go_wp2_with fail
  go_ret
  exact ⟨rfl, rfl⟩

/-- All that a step starts from. -/
structure StepAt (w : World) (bo bg bm bc : Nat) (base n ph cell ahead t v tc : Int) (L : List Int) : Prop where
  op : GopAt w bo bg ph cell ahead t v 0
  gate : GateAt w bg bm base n
  mem : MemAt w bm bc L tc
  few : Few tc
  t64 : U64 t
  n1 : 1 ≤ n
  n64 : n ≤ 64
  b0 : 0 ≤ base
  b1 : base ≤ 70000
  in_ : base + 2 + 2 * n ≤ L.length
section
variable {base n cell ahead t v tc : Int}
theorem StepAt.slot (h : StepAt w bo bg bm bc base n ph cell ahead t v tc L) : 0 ≤ slotOf base n t ∧ slotOf base n t + 1 < L.length := by
  obtain ⟨_, h2, h3⟩ := u64_mod h.t64 h.n1
  have := h.in_; have := h.b0
  unfold slotOf
  omega
end
set_option maxHeartbeats 1000000 in
/-- The first phase: the end is read. -/
theorem Step_end (hh : StepAt w bo bg bm bc base n 0 cell ahead t v tc L) (hc0 : 0 ≤ cell) (hc1 : cell < L.length) :
    Calls Try.prog 109 #[.pointer (some ⟨bo, 0, none⟩)] w fun e w' => e = .returned (.bool false) ∧ GopAt w' bo bg 1 cell ahead (at_ L cell) v 0 ∧ MemAt w' bm bc L (tc + 1) ∧ Only (S3 bo bm bc) w w' := by
  have c0 := hh.op.c0
  have c1 := hh.op.c1
  have c2 := hh.op.c2
  have c4 := hh.op.c4
  have g0 := hh.gate.c0
  have g1 := hh.gate.c1
  have g2 := hh.gate.c2
  have hn : (n == 0) = false := by have := hh.n1; simp; omega
  obtain ⟨d1, d2, d3⟩ := u64_mod hh.t64 hh.n1
  have n64 := hh.n64
  have b0 := hh.b0
  have b1 := hh.b1
  have HH := hide hh
  clear hh
  go_enter Try.func109, Try.ntmps109
  go_wp2_with fail
  refine (GOver_pend HH.out.op).mono ?_
  rintro e w' ⟨rfl, rfl⟩
  go_wp2_with fail
  go_quiet (fail)
  go_wp2_with fail
  refine (Load_in cell (HH.out.mem.drewN _) HH.out.few hc0 hc1).mono ?_
  rintro e w1 ⟨rfl, h1, o1⟩
  have O1 := hide (((Only.refl (S1 bm) w).drewN _).trans o1)
  have hne : bo ≠ bm := Blk.ne_ HH.out.op HH.out.mem.mem (by decide)
  have H1 := hide (HH.out.op.only O1.out (fun e => hne e))
  have HM1 := hide h1
  clear h1 o1 c0 c1 c2 c4 g0 g1 g2
  have e4 := H1.out.c4
  have f4 := H1.out.fz 4
  have e1 := H1.out.c1
  have f1 := H1.out.fz 1
  go_wp2_with fail
  have H2 := hide ((H1.out.setT (at_ L cell)).setPh 1)
  have O2 := hide (((s3_of_s1 (bo := bo) (bc := bc) O1.out).set1 4 (.inl rfl) (.int .u64 (at_ L cell))).set1 1 (.inl rfl) (.int .i64 1))
  have M2 := hide ((HM1.out.only (only_set w1 bo 4 (.int .u64 (at_ L cell))) (fun e => hne e.symm) (fun e => Blk.ne_ H1.out HM1.out.cells (by decide) e.symm)).only (only_set _ bo 1 (.int .i64 1)) (fun e => hne e.symm) (fun e => Blk.ne_ H1.out HM1.out.cells (by decide) e.symm))
  clear e4 f4 e1 f1
  refine (GOver_pend H2.out).mono ?_
  rintro e w' ⟨rfl, rfl⟩
  go_wp2_with fail
  go_ret
  exact ⟨rfl, H2.out, M2.out, O2.out⟩

/-- What becomes of an operation behind the look at a turn. -/
def turnPh (s wt : Int) : Int := if s = wt then 2 else if wt < s then 0 else 1
def turnOut (s wt ahead : Int) : Int := if wt ≤ s then 0 else if ahead = 0 then 2 else 4
theorem turned_any (s : Int) (h : GopAt w bo bg 1 cell ahead t v 0) (hg : GateAt w bg bm base n) (ht : U64 t) (h1 : 1 ≤ n) :
    Calls Try.prog 110 #[.pointer (some ⟨bo, 0, none⟩), .int .u64 s] w fun e w' =>
      e = .returned (.tuple #[]) ∧ GopAt w' bo bg (turnPh s (wantOf n ahead t)) cell ahead t v (turnOut s (wantOf n ahead t) ahead) ∧ Only (S1 bo) w w' := by
  have hw := want_any h hg ht h1
  have c3 := h.c3
  have c1 := h.c1
  have c6 := h.c6
  have f1 := h.fz 1
  have f6 := h.fz 6
  obtain ⟨wt, hwt⟩ : ∃ wt, wantOf n ahead t = wt := ⟨_, rfl⟩
  rw [hwt] at hw ⊢
  have HW := Lib.hid hw
  have H := hide h
  clear hw h hg ht hwt
  by_cases e1 : s = wt
  · have hp : turnPh s wt = 2 := by simp [turnPh, e1]
    have ho : turnOut s wt ahead = 0 := by simp [turnOut, e1]
    rw [hp, ho]
    have hb : (s == wt) = true := by simp [e1]
    clear hp ho e1
    go_enter Try.func110, Try.ntmps110
    go_wp2_with fail
    refine HW.out.mono ?_
    rintro e w1 ⟨rfl, q, rfl⟩
    go_wp2_with fail
    go_end0
    exact ⟨rfl, (H.out.setPh 2).drewN q, ((Only.refl (S1 bo) w).set1 1 rfl _).drewN q⟩
  · have hb : (s == wt) = false := by simp [e1]
    by_cases e2 : wt < s
    · have hp : turnPh s wt = 0 := by simp [turnPh, e1, e2]
      have ho : turnOut s wt ahead = 0 := by simp [turnOut]; omega
      rw [hp, ho]
      clear hp ho e1
      go_enter Try.func110, Try.ntmps110
      go_wp2_with fail
      refine HW.out.mono ?_
      rintro e w1 ⟨rfl, q, rfl⟩
      go_wp2_with fail
      go_end0
      exact ⟨rfl, (H.out.setPh 0).drewN q, ((Only.refl (S1 bo) w).set1 1 rfl _).drewN q⟩
    · have hp : turnPh s wt = 1 := by simp [turnPh, e1, e2]
      rw [hp]
      have e3 : ¬ wt ≤ s := by omega
      by_cases ha : ahead = 0
      · have ho : turnOut s wt ahead = 2 := by simp [turnOut, e3, ha]
        rw [ho]
        have ha' : (ahead == 0) = true := by simp [ha]
        have HA := hide ha
        clear hp ho e1 ha e3
        go_enter Try.func110, Try.ntmps110
        go_wp2_with fail
        refine HW.out.mono ?_
        rintro e w1 ⟨rfl, q, rfl⟩
        go_wp2_with fail
        go_end0
        exact ⟨rfl, (H.out.setOut 2).drewN q, ((Only.refl (S1 bo) w).set1 6 rfl _).drewN q⟩
      · have ho : turnOut s wt ahead = 4 := by simp [turnOut, e3, ha]
        rw [ho]
        have ha' : (ahead == 0) = false := by simp [ha]
        clear hp ho e1 ha e3
        go_enter Try.func110, Try.ntmps110
        go_wp2_with fail
        refine HW.out.mono ?_
        rintro e w1 ⟨rfl, q, rfl⟩
        go_wp2_with fail
        go_end0
        exact ⟨rfl, (H.out.setOut 4).drewN q, ((Only.refl (S1 bo) w).set1 6 rfl _).drewN q⟩

set_option maxHeartbeats 1000000 in
/-- The second phase: the turn is read. -/
theorem Step_turn (hh : StepAt w bo bg bm bc base n 1 cell ahead t v tc L) :
    Calls Try.prog 109 #[.pointer (some ⟨bo, 0, none⟩)] w fun e w' =>
      e = .returned (.bool (turnOut (at_ L (slotOf base n t)) (wantOf n ahead t) ahead != 0)) ∧ GopAt w' bo bg (turnPh (at_ L (slotOf base n t)) (wantOf n ahead t)) cell ahead t v (turnOut (at_ L (slotOf base n t)) (wantOf n ahead t) ahead) ∧
        MemAt w' bm bc L (tc + 1) ∧ Only (S3 bo bm bc) w w' := by
  have c0 := hh.op.c0
  have c1 := hh.op.c1
  have c4 := hh.op.c4
  have g0 := hh.gate.c0
  have g1 := hh.gate.c1
  have g2 := hh.gate.c2
  have hn : (n == 0) = false := by have := hh.n1; simp; omega
  obtain ⟨d1, d2, d3⟩ := u64_mod hh.t64 hh.n1
  have n64 := hh.n64
  have b0 := hh.b0
  have b1 := hh.b1
  have hsl := hh.slot
  have HSL := hide (show base + 2 + 2 * (t % n) = slotOf base n t from rfl)
  have HH := hide hh
  have HSLOT := hide hsl
  clear hh hsl
  go_enter Try.func109, Try.ntmps109
  go_wp2_with fail
  refine (GOver_pend HH.out.op).mono ?_
  rintro e w' ⟨rfl, rfl⟩
  go_wp2_with fail
  go_quiet (fail)
  go_wp2_with fail
  rw [HSL.out]
  refine (Load_in (slotOf base n t) (HH.out.mem.drewN _) HH.out.few HSLOT.out.1 (by have := HSLOT.out.2; omega)).mono ?_
  rintro e w1 ⟨rfl, h1, o1⟩
  have O1 := hide (((Only.refl (S1 bm) w).drewN _).trans o1)
  have hne : bo ≠ bm := Blk.ne_ HH.out.op HH.out.mem.mem (by decide)
  have hgm : bg ≠ bm := Blk.ne_ HH.out.gate HH.out.mem.mem (by decide)
  have H1 := hide (HH.out.op.only O1.out (fun e => hne e))
  have HG1 := hide (HH.out.gate.only O1.out (fun e => hgm e))
  have HM1 := hide h1
  clear h1 o1 c0 c1 c4 g0 g1 g2
  obtain ⟨s, hs⟩ : ∃ s, at_ L (slotOf base n t) = s := ⟨_, rfl⟩
  rw [hs]
  have HS := hide hs
  clear hs
  go_wp2_with fail
  refine (turned_any s H1.out HG1.out HH.out.t64 HH.out.n1).mono ?_
  rintro e w2 ⟨rfl, h2, o2⟩
  have H2 := hide h2
  have M2 := hide (HM1.out.only o2 (fun e => hne e.symm) (fun e => Blk.ne_ H1.out HM1.out.cells (by decide) e.symm))
  have O2 := hide ((s3_of_s1 (bo := bo) (bc := bc) O1.out).trans (o2.mono fun k hk => .inl hk))
  clear h2 o2
  obtain ⟨ph', hp⟩ : ∃ ph', turnPh s (wantOf n ahead t) = ph' := ⟨_, rfl⟩
  obtain ⟨out', ho⟩ : ∃ out', turnOut s (wantOf n ahead t) ahead = out' := ⟨_, rfl⟩
  rw [hp, ho] at H2
  have HP := hide hp
  have HO := hide ho
  clear hp ho
  go_wp2_with fail
  by_cases h0 : out' = 0
  · subst h0
    refine (GOver_pend H2.out).mono ?_
    rintro e w' ⟨rfl, rfl⟩
    go_wp2_with fail
    go_ret
    rw [HS.out, HP.out, HO.out]
    exact ⟨rfl, H2.out, M2.out, O2.out⟩
  · have hb : (out' != 0) = true := by simp [h0]
    refine (GOver_over H2.out h0).mono ?_
    rintro e w' ⟨rfl, rfl⟩
    go_wp2_with fail
    go_ret
    rw [HS.out, HP.out, HO.out, hb]
    exact ⟨rfl, H2.out, M2.out, O2.out⟩

/-- What the swap makes of the phase and the cells; what the move of the value makes of the value and the cells. -/
def swapPh (L : List Int) (cell t : Int) : Int := if at_ L cell = t then 3 else 0
def swapL (L : List Int) (cell t : Int) : List Int := if at_ L cell = t then L.set cell.toNat (add64 t 1) else L
def valV (L : List Int) (sl ahead v : Int) : Int := if ahead = 0 then v else at_ L (sl + 1)
def valL (L : List Int) (sl ahead v : Int) : List Int := if ahead = 0 then L.set (sl + 1).toNat v else L
theorem swap_yes_of (h : at_ L cell = t) : swapPh L cell t = 3 ∧ swapL L cell t = L.set cell.toNat (add64 t 1) := by simp [swapPh, swapL, h]
theorem swap_no_of (h : at_ L cell ≠ t) : swapPh L cell t = 0 ∧ swapL L cell t = L := by simp [swapPh, swapL, h]
theorem val_put_of (sl : Int) (h : ahead = 0) : valV L sl ahead v = v ∧ valL L sl ahead v = L.set (sl + 1).toNat v := by simp [valV, valL, h]
theorem val_take_of (sl : Int) (h : ahead ≠ 0) : valV L sl ahead v = at_ L (sl + 1) ∧ valL L sl ahead v = L := by simp [valV, valL, h]

set_option maxHeartbeats 1000000 in
/-- The third phase: the end is swapped. -/
theorem Step_swap (hh : StepAt w bo bg bm bc base n 2 cell ahead t v tc L) (hc0 : 0 ≤ cell) (hc1 : cell < L.length) :
    Calls Try.prog 109 #[.pointer (some ⟨bo, 0, none⟩)] w fun e w' => e = .returned (.bool false) ∧
      GopAt w' bo bg (swapPh L cell t) cell ahead t v 0 ∧ MemAt w' bm bc (swapL L cell t) (tc + 1) ∧ Only (S3 bo bm bc) w w' := by
  have c0 := hh.op.c0
  have c1 := hh.op.c1
  have c2 := hh.op.c2
  have c4 := hh.op.c4
  have f1 := hh.op.fz 1
  have g0 := hh.gate.c0
  have g1 := hh.gate.c1
  have g2 := hh.gate.c2
  have hn : (n == 0) = false := by have := hh.n1; simp; omega
  obtain ⟨d1, d2, d3⟩ := u64_mod hh.t64 hh.n1
  have n64 := hh.n64
  have b0 := hh.b0
  have b1 := hh.b1
  have hwr : IntKind.u64.wrap (t + 1) = add64 t 1 := rfl
  have HH := hide hh
  have hne : bo ≠ bm := Blk.ne_ hh.op hh.mem.mem (by decide)
  have hnc : bo ≠ bc := Blk.ne_ hh.op hh.mem.cells (by decide)
  clear hh
  go_enter Try.func109, Try.ntmps109
  go_wp2_with fail
  refine (GOver_pend HH.out.op).mono ?_
  rintro e w' ⟨rfl, rfl⟩
  go_wp2_with fail
  go_quiet (fail)
  go_wp2_with fail
  have d2' := ((HH.out.op.setPh 0).drewN 0).c2
  have d4' := ((HH.out.op.setPh 0).drewN 0).c4
  have HM0 := hide (show ∀ q, MemAt ((w.drewN q).setCell ⟨bo, 1, none⟩ (.int .i64 0)).drew bm bc L tc from fun q => ((HH.out.mem.drewN q).only (only_set _ bo 1 _) (fun e => hne e.symm) (fun e => hnc e.symm)).drew)
  have HP0 := hide (show ∀ q, GopAt ((w.drewN q).setCell ⟨bo, 1, none⟩ (.int .i64 0)).drew bo bg 0 cell ahead t v 0 from fun q => (HH.out.op.drewN q).setPh 0)
  have HO0 := hide (show ∀ q, Only (S3 bo bm bc) w ((w.drewN q).setCell ⟨bo, 1, none⟩ (.int .i64 0)).drew from fun q => (((Only.refl (S3 bo bm bc) w).drewN q).set1 1 (.inl rfl) _).drew)
  by_cases hs : at_ L cell = t
  · have HS := hide hs
    clear hs c0 c1 c2 c4 f1 g0 g1 g2
    go_region_held3 (fun w' => w'.cell? ⟨bo, 2, none⟩ = some (.int .i64 cell) ∧ w'.cell? ⟨bo, 4, none⟩ = some (.int .u64 t)) (first | exact ⟨d2', d4'⟩ | exact ⟨k2, k4⟩) (first | (go_at_call 84; refine (Swap_yes cell t (add64 t 1) (HM0.out _) HH.out.few hc0 hc1 HS.out).mono ?_; rintro e w1 ⟨rfl, h1, o1⟩; have HP1 := hide ((HP0.out _).only o1 (fun h => by unfold S2 at h; omega)); have HM1 := hide h1; have HO1 := hide ((HO0.out _).trans (s3_of_s2 (bo := bo) o1)); have k2 := HP1.out.c2; have k4 := HP1.out.c4; have k1 := HP1.out.c1; have j1 := HP1.out.fz 1; clear h1 o1))
    clear d2' d4' k2 k4
    go_wp2_with fail
    have HP2 := hide (HP1.out.setPh 3)
    have HM2 := hide (HM1.out.only (only_set w1 bo 1 (.int .i64 3)) (fun e => hne e.symm) (fun e => hnc e.symm))
    have HO2 := hide (HO1.out.set1 1 (.inl rfl) (.int .i64 3))
    clear k1 j1
    refine (GOver_pend HP2.out).mono ?_
    rintro e w' ⟨rfl, rfl⟩
    go_wp2_with fail
    go_ret
    rw [(swap_yes_of HS.out).1, (swap_yes_of HS.out).2]
    exact ⟨rfl, HP2.out, HM2.out, HO2.out⟩
  · have HS := hide hs
    clear hs c0 c1 c2 c4 f1 g0 g1 g2
    go_region_held3 (fun w' => w'.cell? ⟨bo, 2, none⟩ = some (.int .i64 cell) ∧ w'.cell? ⟨bo, 4, none⟩ = some (.int .u64 t)) (first | exact ⟨d2', d4'⟩ | exact ⟨k2, k4⟩) (first | (go_at_call 84; refine (Swap_no cell t (add64 t 1) (HM0.out _) HH.out.few hc0 hc1 HS.out).mono ?_; rintro e w1 ⟨rfl, h1, o1⟩; have HP1 := hide ((HP0.out _).only o1 (fun h => by unfold S1 at h; omega)); have HM1 := hide h1; have HO1 := hide ((HO0.out _).trans (s3_of_s1 (bo := bo) (bc := bc) o1)); have k2 := HP1.out.c2; have k4 := HP1.out.c4; clear h1 o1))
    clear d2' d4' k2 k4
    go_wp2_with fail
    refine (GOver_pend HP1.out).mono ?_
    rintro e w' ⟨rfl, rfl⟩
    go_wp2_with fail
    go_ret
    rw [(swap_no_of HS.out).1, (swap_no_of HS.out).2]
    exact ⟨rfl, HP1.out, HM1.out, HO1.out⟩

set_option maxHeartbeats 1000000 in
/-- The fourth phase: the value is put down, or taken up. -/
theorem Step_value (hh : StepAt w bo bg bm bc base n 3 cell ahead t v tc L) :
    Calls Try.prog 109 #[.pointer (some ⟨bo, 0, none⟩)] w fun e w' => e = .returned (.bool false) ∧
      GopAt w' bo bg 4 cell ahead t (valV L (slotOf base n t) ahead v) 0 ∧ MemAt w' bm bc (valL L (slotOf base n t) ahead v) (tc + 1) ∧ Only (S3 bo bm bc) w w' := by
  have c0 := hh.op.c0
  have c1 := hh.op.c1
  have c3 := hh.op.c3
  have c4 := hh.op.c4
  have c5 := hh.op.c5
  have f1 := hh.op.fz 1
  have g0 := hh.gate.c0
  have g1 := hh.gate.c1
  have g2 := hh.gate.c2
  have hn : (n == 0) = false := by have := hh.n1; simp; omega
  obtain ⟨d1, d2, d3⟩ := u64_mod hh.t64 hh.n1
  have n64 := hh.n64
  have b0 := hh.b0
  have b1 := hh.b1
  have hsl := hh.slot
  have HSL := hide (show base + 2 + 2 * (t % n) + 1 = slotOf base n t + 1 from rfl)
  have HH := hide hh
  have hne : bo ≠ bm := Blk.ne_ hh.op hh.mem.mem (by decide)
  have hnc : bo ≠ bc := Blk.ne_ hh.op hh.mem.cells (by decide)
  have HSLOT := hide hsl
  have HM0 := hide (show ∀ q, MemAt ((w.drewN q).setCell ⟨bo, 1, none⟩ (.int .i64 4)) bm bc L tc from fun q => ((HH.out.mem.drewN q).only (only_set _ bo 1 _) (fun e => hne e.symm) (fun e => hnc e.symm)))
  have HP0 := hide (show ∀ q, GopAt ((w.drewN q).setCell ⟨bo, 1, none⟩ (.int .i64 4)) bo bg 4 cell ahead t v 0 from fun q => (HH.out.op.drewN q).setPh 4)
  have HO0 := hide (show ∀ q, Only (S3 bo bm bc) w ((w.drewN q).setCell ⟨bo, 1, none⟩ (.int .i64 4)) from fun q => (((Only.refl (S3 bo bm bc) w).drewN q).set1 1 (.inl rfl) _))
  clear hh hsl
  by_cases ha : ahead = 0
  · have hab : (ahead == 0) = true := by simp [ha]
    have HA := hide ha
    clear ha
    go_enter Try.func109, Try.ntmps109
    go_wp2_with fail
    refine (GOver_pend HH.out.op).mono ?_
    rintro e w' ⟨rfl, rfl⟩
    go_wp2_with fail
    go_quiet (fail)
    go_wp2_with fail
    rw [HSL.out]
    refine (Store_in (slotOf base n t + 1) v (HM0.out _) HH.out.few (by have := HSLOT.out.1; omega) HSLOT.out.2).mono ?_
    rintro e w1 ⟨rfl, h1, o1⟩
    have HP1 := hide ((HP0.out _).only o1 (fun h => by unfold S2 at h; omega))
    have HM1 := hide h1
    have HO1 := hide ((HO0.out _).trans (s3_of_s2 (bo := bo) o1))
    clear h1 o1 c0 c1 c3 c4 c5 f1 g0 g1 g2
    go_wp2_with fail
    refine (GOver_pend HP1.out).mono ?_
    rintro e w' ⟨rfl, rfl⟩
    go_wp2_with fail
    go_ret
    rw [(val_put_of (slotOf base n t) HA.out).1, (val_put_of (slotOf base n t) HA.out).2]
    exact ⟨rfl, HP1.out, HM1.out, HO1.out⟩
  · have hab : (ahead == 0) = false := by simp [ha]
    have HA := hide ha
    clear ha
    go_enter Try.func109, Try.ntmps109
    go_wp2_with fail
    refine (GOver_pend HH.out.op).mono ?_
    rintro e w' ⟨rfl, rfl⟩
    go_wp2_with fail
    go_quiet (fail)
    go_wp2_with fail
    rw [HSL.out]
    refine (Load_in (slotOf base n t + 1) (HM0.out _) HH.out.few (by have := HSLOT.out.1; omega) HSLOT.out.2).mono ?_
    rintro e w1 ⟨rfl, h1, o1⟩
    obtain ⟨x, hx⟩ : ∃ x, at_ L (slotOf base n t + 1) = x := ⟨_, rfl⟩
    rw [hx]
    have HX := hide hx
    have HP1 := hide ((HP0.out _).only o1 (fun h => by unfold S1 at h; omega))
    have HM1 := hide h1
    have HO1 := hide ((HO0.out _).trans (s3_of_s1 (bo := bo) (bc := bc) o1))
    clear h1 o1 c0 c1 c3 c4 c5 f1 g0 g1 g2 hx
    have k5 := HP1.out.c5
    have j5 := HP1.out.fz 5
    go_wp2_with fail
    have HP2 := hide (HP1.out.setV x)
    have HM2 := hide (HM1.out.only (only_set w1 bo 5 (.int .u64 x)) (fun e => hne e.symm) (fun e => hnc e.symm))
    have HO2 := hide (HO1.out.set1 5 (.inl rfl) (.int .u64 x))
    clear k5 j5
    refine (GOver_pend HP2.out).mono ?_
    rintro e w' ⟨rfl, rfl⟩
    go_wp2_with fail
    go_ret
    rw [(val_take_of (slotOf base n t) HA.out).1, (val_take_of (slotOf base n t) HA.out).2, HX.out]
    exact ⟨rfl, HP2.out, HM2.out, HO2.out⟩

set_option maxHeartbeats 1000000 in
/-- The last phase: the turn is passed on. -/
theorem Step_pass (hh : StepAt w bo bg bm bc base n 4 cell ahead t v tc L) :
    Calls Try.prog 109 #[.pointer (some ⟨bo, 0, none⟩)] w fun e w' => e = .returned (.bool true) ∧
      GopAt w' bo bg 4 cell ahead t v 1 ∧ MemAt w' bm bc (L.set (slotOf base n t).toNat (add64 (wantOf n ahead t) 1)) (tc + 1) ∧ Only (S3 bo bm bc) w w' := by
  have c0 := hh.op.c0
  have c1 := hh.op.c1
  have c4 := hh.op.c4
  have c6 := hh.op.c6
  have f6 := hh.op.fz 6
  have g0 := hh.gate.c0
  have g1 := hh.gate.c1
  have g2 := hh.gate.c2
  have hn : (n == 0) = false := by have := hh.n1; simp; omega
  obtain ⟨d1, d2, d3⟩ := u64_mod hh.t64 hh.n1
  have n64 := hh.n64
  have b0 := hh.b0
  have b1 := hh.b1
  have hsl := hh.slot
  have HSL := hide (show base + 2 + 2 * (t % n) = slotOf base n t from rfl)
  have HH := hide hh
  have hne : bo ≠ bm := Blk.ne_ hh.op hh.mem.mem (by decide)
  have hnc : bo ≠ bc := Blk.ne_ hh.op hh.mem.cells (by decide)
  have hng : bo ≠ bg := Blk.ne_ hh.op hh.gate (by decide)
  have HSLOT := hide hsl
  have HM0 := hide (show ∀ q r, MemAt (((w.drewN q).setCell ⟨bo, 6, none⟩ (.int .i64 1)).drewN r) bm bc L tc from fun q r => ((HH.out.mem.drewN q).only (only_set _ bo 6 _) (fun e => hne e.symm) (fun e => hnc e.symm)).drewN r)
  have HP0 := hide (show ∀ q, GopAt (((w.drewN q).setCell ⟨bo, 6, none⟩ (.int .i64 1))) bo bg 4 cell ahead t v 1 from fun q => ((HH.out.op.drewN q).setOut 1))
  have HG0 := hide (show ∀ q, GateAt (((w.drewN q).setCell ⟨bo, 6, none⟩ (.int .i64 1))) bg bm base n from fun q => (HH.out.gate.drewN q).only (only_set _ bo 6 _) (fun e => hng e.symm))
  have HO0 := hide (show ∀ q r, Only (S3 bo bm bc) w (((w.drewN q).setCell ⟨bo, 6, none⟩ (.int .i64 1)).drewN r) from fun q r => ((((Only.refl (S3 bo bm bc) w).drewN q).set1 6 (.inl rfl) _)).drewN r)
  obtain ⟨wt, hwt⟩ : ∃ wt, wantOf n ahead t = wt := ⟨_, rfl⟩
  have hwr : IntKind.u64.wrap (wt + 1) = add64 wt 1 := rfl
  have HWT := hide hwt
  clear hh hsl hwt
  go_enter Try.func109, Try.ntmps109
  go_wp2_with fail
  refine (GOver_pend HH.out.op).mono ?_
  rintro e w' ⟨rfl, rfl⟩
  go_wp2_with fail
  go_quiet (fail)
  go_wp2_with fail
  refine (want_any (HP0.out _) (HG0.out _) HH.out.t64 HH.out.n1).mono ?_
  rintro e w1 ⟨rfl, q, rfl⟩
  rw [HWT.out]
  go_wp2_with fail
  rw [HSL.out]
  refine (Store_in (slotOf base n t) (add64 wt 1) (HM0.out _ _) HH.out.few HSLOT.out.1 (by have := HSLOT.out.2; omega)).mono ?_
  rintro e w1 ⟨rfl, h1, o1⟩
  have HP1 := hide (((HP0.out _).drewN q).only o1 (fun h => by unfold S2 at h; omega))
  have HM1 := hide h1
  have HO1 := hide ((HO0.out _ _).trans (s3_of_s2 (bo := bo) o1))
  clear h1 o1 c0 c1 c4 c6 f6 g0 g1 g2
  go_wp2_with fail
  refine (GOver_over HP1.out (by decide)).mono ?_
  rintro e w' ⟨rfl, rfl⟩
  go_wp2_with fail
  go_ret
  rw [HWT.out]
  exact ⟨rfl, HP1.out, HM1.out, HO1.out⟩
end
end Go.Proofs.Ytdoaipjdldknaaa
