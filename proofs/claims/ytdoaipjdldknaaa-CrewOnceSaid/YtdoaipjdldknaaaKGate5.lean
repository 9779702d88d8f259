/-
  Package gate: a step as one function of the cells and the operation; operations done at once; Make.
-/
import Derived.Test.YtdoaipjdldknaaaGate
import Derived.Deep.LoopGhost
namespace Go.Proofs.Ytdoaipjdldknaaa
open Go.RowKit
set_option linter.unusedVariables false

/-- An operation's fields. -/
structure Gop where
  ph : Int
  cell : Int
  ahead : Int
  t : Int
  v : Int
  out : Int
/-- One step: the cells and the operation behind it. -/
def gstep (base n : Int) (L : List Int) (o : Gop) : List Int × Gop :=
  if o.out ≠ 0 then (L, o)
  else if o.ph = 0 then (L, { o with ph := 1, t := at_ L o.cell })
  else if o.ph = 1 then (L, { o with ph := turnPh (at_ L (slotOf base n o.t)) (wantOf n o.ahead o.t), out := turnOut (at_ L (slotOf base n o.t)) (wantOf n o.ahead o.t) o.ahead })
  else if o.ph = 2 then (swapL L o.cell o.t, { o with ph := swapPh L o.cell o.t })
  else if o.ph = 3 then (valL L (slotOf base n o.t) o.ahead o.v, { o with ph := 4, v := valV L (slotOf base n o.t) o.ahead o.v })
  else (L.set (slotOf base n o.t).toNat (add64 (wantOf n o.ahead o.t) 1), { o with out := 1 })
def gtick (o : Gop) : Int := if o.out ≠ 0 then 0 else 1

/-- An operation that fits the cells. -/
structure GopOk (base : Int) (len : Nat) (o : Gop) : Prop where
  ph : o.ph = 0 ∨ o.ph = 1 ∨ o.ph = 2 ∨ o.ph = 3 ∨ o.ph = 4
  cell0 : 0 ≤ o.cell
  cell1 : o.cell < len
  t : U64 o.t
  v : U64 o.v
def GopIs (w : World) (bo bg : Nat) (o : Gop) : Prop := GopAt w bo bg o.ph o.cell o.ahead o.t o.v o.out

/-- A gate and its memory. -/
structure GateEnv (w : World) (bg bm bc : Nat) (base n tc : Int) (L : List Int) : Prop where
  gate : GateAt w bg bm base n
  mem : MemAt w bm bc L tc
  few : Few tc
  u : AllU L
  n1 : 1 ≤ n
  n64 : n ≤ 64
  b0 : 0 ≤ base
  b1 : base ≤ 70000
  in_ : base + 2 + 2 * n ≤ L.length

theorem turnPh_ok (s wt : Int) : turnPh s wt = 0 ∨ turnPh s wt = 1 ∨ turnPh s wt = 2 ∨ turnPh s wt = 3 ∨ turnPh s wt = 4 := by
  unfold turnPh; split
  · simp
  · split <;> simp
theorem swapPh_ok (L : List Int) (c t : Int) : swapPh L c t = 0 ∨ swapPh L c t = 1 ∨ swapPh L c t = 2 ∨ swapPh L c t = 3 ∨ swapPh L c t = 4 := by
  unfold swapPh; split <;> simp
theorem swapL_len (L : List Int) (c t : Int) : (swapL L c t).length = L.length := by unfold swapL; split <;> simp
theorem valL_len (L : List Int) (s a v : Int) : (valL L s a v).length = L.length := by unfold valL; split <;> simp
theorem gstep_len (base n : Int) (L : List Int) (o : Gop) : (gstep base n L o).1.length = L.length := by
  unfold gstep
  (repeat' split) <;> simp [swapL_len, valL_len]
theorem gstep_u (base n : Int) (L : List Int) (o : Gop) (h : AllU L) (hv : U64 o.v) : AllU (gstep base n L o).1 := by
  unfold gstep
  split
  · exact h
  split
  · exact h
  split
  · exact h
  split
  · show AllU (swapL L o.cell o.t)
    unfold swapL; split
    · exact h.set _ (u64_add _ _)
    · exact h
  split
  · show AllU (valL L (slotOf base n o.t) o.ahead o.v)
    unfold valL; split
    · exact h.set _ hv
    · exact h
  · exact h.set _ (u64_add _ _)
theorem gstep_ok (base n : Int) (L : List Int) (o : Gop) (h : AllU L) (ho : GopOk base L.length o) : GopOk base L.length (gstep base n L o).2 := by
  unfold gstep
  split
  · exact ho
  split
  · exact ⟨by simp, ho.cell0, ho.cell1, h.at_ _, ho.v⟩
  split
  · exact ⟨turnPh_ok _ _, ho.cell0, ho.cell1, ho.t, ho.v⟩
  split
  · exact ⟨swapPh_ok _ _ _, ho.cell0, ho.cell1, ho.t, ho.v⟩
  split
  · refine ⟨by simp, ho.cell0, ho.cell1, ho.t, ?_⟩
    show U64 (valV L (slotOf base n o.t) o.ahead o.v)
    unfold valV; split
    · exact ho.v
    · exact h.at_ _
  · exact ⟨ho.ph, ho.cell0, ho.cell1, ho.t, ho.v⟩

section
variable {w : World} {bo bg bm bc : Nat} {base n tc : Int} {L : List Int} {o : Gop}
theorem GateEnv.next {w' : World} (h : GateEnv w bg bm bc base n tc L) {L' : List Int} {tc' : Int} (hm : MemAt w' bm bc L' tc') (hf : Few tc') (hu : AllU L') (hl : L'.length = L.length) (hg : GateAt w' bg bm base n) : GateEnv w' bg bm bc base n tc' L' :=
  ⟨hg, hm, hf, hu, h.n1, h.n64, h.b0, h.b1, by rw [hl]; exact h.in_⟩
theorem GateEnv.more {tc' : Int} (h : GateEnv w bg bm bc base n tc L) (hf : Few tc) : GateEnv w bg bm bc base n tc L := ⟨h.gate, h.mem, hf, h.u, h.n1, h.n64, h.b0, h.b1, h.in_⟩

/-- A step of a gate's operation. -/
theorem GStep_all (he : GateEnv w bg bm bc base n tc L) (ho : GopOk base L.length o) (h : GopIs w bo bg o) (hf : Few (tc + 1)) :
    Calls Try.prog 109 #[.pointer (some ⟨bo, 0, none⟩)] w fun e w' => e = .returned (.bool ((gstep base n L o).2.out != 0)) ∧ GopIs w' bo bg (gstep base n L o).2 ∧
      GateEnv w' bg bm bc base n (tc + gtick o) (gstep base n L o).1 ∧ Only (S3 bo bm bc) w w' := by
  have hne : bg ≠ bo := Blk.ne_ he.gate h (by decide)
  have hnm : bg ≠ bm := Blk.ne_ he.gate he.mem.mem (by decide)
  have hnc : bg ≠ bc := Blk.ne_ he.gate he.mem.cells (by decide)
  have hS : ¬ S3 bo bm bc bg := fun k => by unfold S3 at k; omega
  have hu := gstep_u base n L o he.u ho.v
  have hl := gstep_len base n L o
  by_cases h0 : o.out = 0
  · have hS2 : ∀ {ph}, o.ph = ph → StepAt w bo bg bm bc base n ph o.cell o.ahead o.t o.v tc L := by
      intro ph hp
      refine ⟨?_, he.gate, he.mem, he.few, ho.t, he.n1, he.n64, he.b0, he.b1, he.in_⟩
      unfold GopIs at h
      rw [h0, hp] at h
      exact h
    have htk : gtick o = 1 := by simp [gtick, h0]
    rw [htk]
    rcases ho.ph with hp | hp | hp | hp | hp
    · have hg : gstep base n L o = (L, { o with ph := 1, t := at_ L o.cell }) := by simp [gstep, h0, hp]
      rw [hg] at hu hl ⊢
      refine (Step_end (hS2 hp) ho.cell0 ho.cell1).mono ?_
      rintro e w' ⟨rfl, h1, h2, h3⟩
      refine ⟨by simp [h0], ?_, he.next h2 hf hu hl (he.gate.only h3 hS), h3⟩
      unfold GopIs
      rw [h0]
      exact h1
    · have hg : gstep base n L o = (L, { o with ph := turnPh (at_ L (slotOf base n o.t)) (wantOf n o.ahead o.t), out := turnOut (at_ L (slotOf base n o.t)) (wantOf n o.ahead o.t) o.ahead }) := by simp [gstep, h0, hp]
      rw [hg] at hu hl ⊢
      refine (Step_turn (hS2 hp)).mono ?_
      rintro e w' ⟨rfl, h1, h2, h3⟩
      exact ⟨rfl, h1, he.next h2 hf hu hl (he.gate.only h3 hS), h3⟩
    · have hg : gstep base n L o = (swapL L o.cell o.t, { o with ph := swapPh L o.cell o.t }) := by simp [gstep, h0, hp]
      rw [hg] at hu hl ⊢
      refine (Step_swap (hS2 hp) ho.cell0 ho.cell1).mono ?_
      rintro e w' ⟨rfl, h1, h2, h3⟩
      refine ⟨by simp [h0], ?_, he.next h2 hf hu hl (he.gate.only h3 hS), h3⟩
      unfold GopIs
      rw [h0]
      exact h1
    · have hg : gstep base n L o = (valL L (slotOf base n o.t) o.ahead o.v, { o with ph := 4, v := valV L (slotOf base n o.t) o.ahead o.v }) := by simp [gstep, h0, hp]
      rw [hg] at hu hl ⊢
      refine (Step_value (hS2 hp)).mono ?_
      rintro e w' ⟨rfl, h1, h2, h3⟩
      refine ⟨by simp [h0], ?_, he.next h2 hf hu hl (he.gate.only h3 hS), h3⟩
      unfold GopIs
      rw [h0]
      exact h1
    · have hg : gstep base n L o = (L.set (slotOf base n o.t).toNat (add64 (wantOf n o.ahead o.t) 1), { o with out := 1 }) := by simp [gstep, h0, hp]
      rw [hg] at hu hl ⊢
      refine (Step_pass (hS2 hp)).mono ?_
      rintro e w' ⟨rfl, h1, h2, h3⟩
      refine ⟨rfl, ?_, he.next h2 hf hu hl (he.gate.only h3 hS), h3⟩
      unfold GopIs
      rw [hp]
      exact h1
  · have hg : gstep base n L o = (L, o) := by simp [gstep, h0]
    have htk : gtick o = 0 := by simp [gtick, h0]
    rw [hg, htk]
    refine (Step_over h h0).mono ?_
    rintro e w' ⟨rfl, rfl⟩
    have hb : (o.out != 0) = true := by simp [h0]
    refine ⟨by rw [hb], h, ?_, Only.refl _ _⟩
    rw [Int.add_zero]
    exact he
end
end Go.Proofs.Ytdoaipjdldknaaa
/-
  Package gate: operations that are done at once; Size and Make; the examples.
-/
namespace Go.Proofs.Ytdoaipjdldknaaa
open Go.RowKit
set_option linter.unusedVariables false

/-- An operation that is done at once: the cells, the operation, how many steps. -/
def gdone (base n : Int) : Nat → List Int → Gop → List Int × Gop × Nat
  | 0, L, o => (L, o, 0)
  | k + 1, L, o => if o.out ≠ 0 then (L, o, 0) else
    ((gdone base n k (gstep base n L o).1 (gstep base n L o).2).1, (gdone base n k (gstep base n L o).1 (gstep base n L o).2).2.1, (gdone base n k (gstep base n L o).1 (gstep base n L o).2).2.2 + 1)
theorem gdone_over (base n : Int) (k : Nat) (L : List Int) (o : Gop) (h : o.out ≠ 0) : gdone base n k L o = (L, o, 0) := by
  cases k <;> simp [gdone, h]
theorem gdone_succ (base n : Int) (k : Nat) (L : List Int) (o : Gop) (h : o.out = 0) : gdone base n (k + 1) L o =
    ((gdone base n k (gstep base n L o).1 (gstep base n L o).2).1, (gdone base n k (gstep base n L o).1 (gstep base n L o).2).2.1, (gdone base n k (gstep base n L o).1 (gstep base n L o).2).2.2 + 1) := by
  simp [gdone, h]
section
variable {w : World} {bo bg bm bc : Nat} {base n tc : Int} {L : List Int} {o : Gop}
theorem GopIs.over0 (h : GopIs w bo bg o) (ho : o.out = 0) : Calls Try.prog 108 #[.pointer (some ⟨bo, 0, none⟩)] w fun e w' => e = .returned (.bool false) ∧ w = w' := by
  unfold GopIs at h
  rw [ho] at h
  exact GOver_pend h
theorem GopIs.over1 (h : GopIs w bo bg o) (ho : o.out ≠ 0) : Calls Try.prog 108 #[.pointer (some ⟨bo, 0, none⟩)] w fun e w' => e = .returned (.bool true) ∧ w = w' := GOver_over h ho
theorem GopIs.outcome (h : GopIs w bo bg o) : Calls Try.prog 47 #[.pointer (some ⟨bo, 0, none⟩)] w fun e w' => e = .returned (.int .i64 o.out) ∧ w = w' := GOutcome_any h
theorem GopIs.value (h : GopIs w bo bg o) : Calls Try.prog 51 #[.pointer (some ⟨bo, 0, none⟩)] w fun e w' => e = .returned (.int .u64 (gvalue o.ahead o.v o.out)) ∧ w = w' := GValue_any h

end
end Go.Proofs.Ytdoaipjdldknaaa
/-
  Package gate: Size and Make.
-/
namespace Go.Proofs.Ytdoaipjdldknaaa
open Go.RowKit
set_option linter.unusedVariables false

/-- How many cells a gate takes. -/
def gsize (n : Int) : Int := if 1 ≤ n ∧ n ≤ 64 then 2 + 2 * n else 0
theorem GSize_any (n : Int) (w : World) : Calls Try.prog 22 #[.int .i64 n] w fun e w' => e = .returned (.int .i64 (gsize n)) ∧ w = w' := by
  by_cases h : 1 ≤ n ∧ n ≤ 64
  · have hs : gsize n = 2 + 2 * n := by simp [gsize, h]
    rw [hs]
    obtain ⟨h1, h2⟩ := h
    clear hs
    go_enter Try.func22, Try.ntmps22
    go_wp2_with fail
    go_ret
    exact ⟨rfl, rfl⟩
  · have hs : gsize n = 0 := by simp [gsize, h]
    rw [hs]
    clear hs
    by_cases h1 : n < 1
    · clear h
      go_enter Try.func22, Try.ntmps22
      go_wp2_with fail
      go_ret
      exact ⟨rfl, rfl⟩
    · have h2 : 64 < n := by omega
      clear h
      go_enter Try.func22, Try.ntmps22
      go_wp2_with fail
      go_ret
      exact ⟨rfl, rfl⟩

theorem GMake_nil (base n : Int) (w : World) : Calls Try.prog 21 #[.pointer none, .int .i64 base, .int .i64 n] w fun e w' => e = .returned (.tuple #[.pointer none, .int .i64 1]) ∧ w = w' := by
  go_enter Try.func21, Try.ntmps21
  go_wp2_with fail
  refine (GSize_any n w).mono ?_
  rintro e w1 ⟨rfl, rfl⟩
  go_wp2_with fail
  go_ret2
  exact ⟨rfl, rfl⟩
section
variable {w : World} {bm bc : Nat} {L : List Int} {tc : Int}
theorem GMake_bad (base n : Int) (h : MemAt w bm bc L tc) (hb : gsize n = 0 ∨ base < 0 ∨ (L.length : Int) - gsize n < base) :
    Calls Try.prog 21 #[.pointer (some ⟨bm, 0, none⟩), .int .i64 base, .int .i64 n] w fun e w' => e = .returned (.tuple #[.pointer none, .int .i64 1]) ∧ w = w' := by
  obtain ⟨sz, hsz⟩ : ∃ sz, gsize n = sz := ⟨_, rfl⟩
  have hs0 : 0 ≤ sz ∧ sz ≤ 200 := by rw [← hsz]; unfold gsize; split <;> omega
  rw [hsz] at hb
  have HSZ := hide hsz
  have H := hide h
  obtain ⟨s1, s2⟩ := hs0
  have hl := h.len
  clear hsz h
  by_cases c1 : sz = 0
  · subst c1
    clear hb
    go_enter Try.func21, Try.ntmps21
    go_wp2_with fail
    refine (GSize_any n w).mono ?_
    rintro e w1 ⟨rfl, rfl⟩
    rw [HSZ.out]
    go_wp2_with fail
    go_ret2
    exact ⟨rfl, rfl⟩
  · have c1' : (sz == 0) = false := by simp [c1]
    by_cases c2 : base < 0
    · clear hb
      go_enter Try.func21, Try.ntmps21
      go_wp2_with fail
      refine (GSize_any n w).mono ?_
      rintro e w1 ⟨rfl, rfl⟩
      rw [HSZ.out]
      go_wp2_with fail
      go_ret2
      exact ⟨rfl, rfl⟩
    · have c3 : (L.length : Int) - sz < base := by omega
      clear hb
      go_enter Try.func21, Try.ntmps21
      go_wp2_with fail
      refine (GSize_any n w).mono ?_
      rintro e w1 ⟨rfl, rfl⟩
      rw [HSZ.out]
      go_wp2_with fail
      refine (Len_any H.out).mono ?_
      rintro e w1 ⟨rfl, rfl⟩
      go_wp2_with fail
      go_ret2
      exact ⟨rfl, rfl⟩

set_option maxHeartbeats 1000000 in
theorem GMake_good (b n : Nat) (h : MemAt w bm bc L tc) (hf : Few (tc + 200)) (h1 : 1 ≤ n) (h64 : n ≤ 64) (hin : b + (2 + 2 * n) ≤ L.length) :
    Calls Try.prog 21 #[.pointer (some ⟨bm, 0, none⟩), .int .i64 b, .int .i64 n] w fun e w' => ∃ bg, e = .returned (.tuple #[.pointer (some ⟨bg, 0, none⟩), .int .i64 0]) ∧
      GateAt w' bg bm b n ∧ MemAt w' bm bc (zeroL L b (2 + 2 * n)) (tc + (2 + 2 * n : Nat)) ∧ Only (S2 bm bc) w w' ∧ w.heap.size ≤ bg := by
  have hsz : gsize n = (2 + 2 * n : Nat) := by unfold gsize; rw [if_pos (by omega)]; omega
  have hl := h.len
  obtain ⟨sz, hz⟩ : ∃ sz, 2 + 2 * n = sz := ⟨_, rfl⟩
  rw [hz] at hsz hin ⊢
  have hz1 : 1 ≤ sz := by omega
  have hz2 : sz ≤ 130 := by omega
  have c1 : ((sz : Int) == 0) = false := by simp; omega
  have c3 : ¬ (L.length : Int) - (sz : Int) < (b : Int) := by omega
  have HSZ := hide hsz
  have H := hide h
  have HF := hide hf
  clear hsz h hf hz
  go_enter Try.func21, Try.ntmps21
  go_wp2_with fail
  refine (GSize_any n w).mono ?_
  rintro e w1 ⟨rfl, rfl⟩
  rw [HSZ.out]
  go_wp2_with fail
  refine (Len_any H.out).mono ?_
  rintro e w1 ⟨rfl, rfl⟩
  go_wp2_with fail
  go_loopg [31] sz (fun q iv wr => ∃ (k : Nat), q = sz - k ∧ k ≤ sz ∧ iv = .int .i64 k ∧ MemAt wr bm bc (zeroL L b k) (tc + k) ∧ Only (S2 bm bc) w wr)
  case atStart => exact ⟨0, rfl, Nat.zero_le _, rfl, by simpa [zeroL] using H.out, Only.refl _ _⟩
  case round =>
    obtain ⟨k, rfl, hk, rfl, hm, ho⟩ := hrel
    have HM := hide hm
    have HO := hide ho
    clear hm ho
    by_cases hlt : k < sz
    · go_wp2_with fail
      refine (Store_in ((b : Int) + (k : Int)) 0 HM.out (HF.out.le_ (by omega)) (by omega) (by rw [zeroL_len]; omega)).mono ?_
      rintro e w2 ⟨rfl, h2, o2⟩
      rw [show ((b : Int) + (k : Int)).toNat = b + k by omega] at h2
      have H2 := hide h2
      have O2 := hide (HO.out.trans o2)
      clear h2 o2
      go_wp2_with fail
      go_roundg (sz - (k + 1))
      case rel => exact ⟨k + 1, rfl, by omega, by go_num, by rw [show tc + ((k + 1 : Nat) : Int) = tc + k + 1 by omega]; exact H2.out, O2.out⟩
      case measure => omega
    · obtain rfl : k = sz := by omega
      go_wp2_with fail
      go_ret2
      refine ⟨_, rfl, Blk.new _ _ _, ?_, HO.out.alloc _, HO.out.size⟩
      exact ⟨HM.out.mem.alloc _, HM.out.cells.alloc _, HM.out.len, HM.out.tc0⟩
end
end Go.Proofs.Ytdoaipjdldknaaa
/-
  troupelaw05.alive answers true, and turns nothing that was there.
-/
namespace Go.Proofs.Ytdoaipjdldknaaa
open Go.RowKit
set_option linter.unusedVariables false

section
variable {w : World} {bg bm bc : Nat} {base n tc : Int} {L : List Int}
/-- A Put that is done at once, and a Take. -/
def putOp (base x : Int) : Gop := { ph := 0, cell := base, ahead := 0, t := 0, v := x, out := 0 }
def takeOp (base : Int) : Gop := { ph := 0, cell := base + 1, ahead := 1, t := 0, v := 0, out := 0 }
theorem putOp_ok (he : GateEnv w bg bm bc base n tc L) {x : Int} (hx : U64 x) : GopOk base L.length (putOp base x) :=
  ⟨.inl rfl, he.b0, by have := he.in_; have := he.n1; show base < _; omega, u64_zero, hx⟩
theorem takeOp_ok (he : GateEnv w bg bm bc base n tc L) : GopOk base L.length (takeOp base) :=
  ⟨.inl rfl, by have := he.b0; show 0 ≤ base + 1; omega, by have := he.in_; have := he.n1; show base + 1 < _; omega, u64_zero, u64_zero⟩
theorem GateEnv.only {w' : World} {S : Nat → Prop} (he : GateEnv w bg bm bc base n tc L) (ho : Only S w w') (h1 : ¬ S bg) (h2 : ¬ S bm) (h3 : ¬ S bc) : GateEnv w' bg bm bc base n tc L :=
  ⟨he.gate.only ho h1, he.mem.only ho h2 h3, he.few, he.u, he.n1, he.n64, he.b0, he.b1, he.in_⟩
theorem GateEnv.only0 {w' : World} (he : GateEnv w bg bm bc base n tc L) (ho : Only S0 w w') : GateEnv w' bg bm bc base n tc L := he.only ho (fun h => h) (fun h => h) (fun h => h)
theorem GPut_all (he : GateEnv w bg bm bc base n tc L) (x : Int) : Calls Try.prog 56 #[.pointer (some ⟨bg, 0, none⟩), .int .u64 x] w fun e w' =>
    ∃ bo, e = .returned (.pointer (some ⟨bo, 0, none⟩)) ∧ GopIs w' bo bg (putOp base x) ∧ GateEnv w' bg bm bc base n tc L ∧ Only S0 w w' ∧ w.heap.size ≤ bo := by
  refine (Put_any x he.gate).mono ?_
  rintro e w' ⟨bo, rfl, h1, h2, h3⟩
  exact ⟨bo, rfl, h1, he.only0 h2, h2, h3⟩
theorem GTake_all (he : GateEnv w bg bm bc base n tc L) : Calls Try.prog 39 #[.pointer (some ⟨bg, 0, none⟩)] w fun e w' =>
    ∃ bo, e = .returned (.pointer (some ⟨bo, 0, none⟩)) ∧ GopIs w' bo bg (takeOp base) ∧ GateEnv w' bg bm bc base n tc L ∧ Only S0 w w' ∧ w.heap.size ≤ bo := by
  refine (Take_any he.gate he.b0 he.b1).mono ?_
  rintro e w' ⟨bo, rfl, h1, h2, h3⟩
  exact ⟨bo, rfl, h1, he.only0 h2, h2, h3⟩
end

end Go.Proofs.Ytdoaipjdldknaaa
