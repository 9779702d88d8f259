/-
  Package gate: a step as one function of the cells and the operation; operations done at once; Make.
-/
import Derived.Test.YtdoaipjdldknaaaGate
import Derived.Deep.LoopGhost
namespace Go.Proofs.Ytdoaipjdldknaaa
open Go.RowKit
set_option linter.unusedVariables false

/-- An operation's fields. -/
structure Gop where
  ph : Int
  cell : Int
  ahead : Int
  t : Int
  v : Int
  out : Int
/-- One step: the cells and the operation behind it. -/
def gstep (base n : Int) (L : List Int) (o : Gop) : List Int × Gop :=
  if o.out ≠ 0 then (L, o)
  else if o.ph = 0 then (L, { o with ph := 1, t := at_ L o.cell })
  else if o.ph = 1 then (L, { o with ph := turnPh (at_ L (slotOf base n o.t)) (wantOf n o.ahead o.t), out := turnOut (at_ L (slotOf base n o.t)) (wantOf n o.ahead o.t) o.ahead })
  else if o.ph = 2 then (swapL L o.cell o.t, { o with ph := swapPh L o.cell o.t })
  else if o.ph = 3 then (valL L (slotOf base n o.t) o.ahead o.v, { o with ph := 4, v := valV L (slotOf base n o.t) o.ahead o.v })
  else (L.set (slotOf base n o.t).toNat (add64 (wantOf n o.ahead o.t) 1), { o with out := 1 })
def gtick (o : Gop) : Int := if o.out ≠ 0 then 0 else 1

/-- An operation that fits the cells. -/
structure GopOk (base : Int) (len : Nat) (o : Gop) : Prop where
  ph : o.ph = 0 ∨ o.ph = 1 ∨ o.ph = 2 ∨ o.ph = 3 ∨ o.ph = 4
  cell0 : 0 ≤ o.cell
  cell1 : o.cell < len
  t : U64 o.t
  v : U64 o.v
def GopIs (w : World) (bo bg : Nat) (o : Gop) : Prop := GopAt w bo bg o.ph o.cell o.ahead o.t o.v o.out

/-- A gate and its memory. -/
structure GateEnv (w : World) (bg bm bc : Nat) (base n tc : Int) (L : List Int) : Prop where
  gate : GateAt w bg bm base n
  mem : MemAt w bm bc L tc
  few : Few tc
  u : AllU L
  n1 : 1 ≤ n
  n64 : n ≤ 64
  b0 : 0 ≤ base
  b1 : base ≤ 70000
  in_ : base + 2 + 2 * n ≤ L.length

theorem turnPh_ok (s wt : Int) : turnPh s wt = 0 ∨ turnPh s wt = 1 ∨ turnPh s wt = 2 ∨ turnPh s wt = 3 ∨ turnPh s wt = 4 := by
  unfold turnPh; split
  · simp
  · split <;> simp
theorem swapPh_ok (L : List Int) (c t : Int) : swapPh L c t = 0 ∨ swapPh L c t = 1 ∨ swapPh L c t = 2 ∨ swapPh L c t = 3 ∨ swapPh L c t = 4 := by
  unfold swapPh; split <;> simp
theorem swapL_len (L : List Int) (c t : Int) : (swapL L c t).length = L.length := by unfold swapL; split <;> simp
theorem valL_len (L : List Int) (s a v : Int) : (valL L s a v).length = L.length := by unfold valL; split <;> simp
theorem gstep_len (base n : Int) (L : List Int) (o : Gop) : (gstep base n L o).1.length = L.length := by
  unfold gstep
  (repeat' split) <;> simp [swapL_len, valL_len]
theorem gstep_u (base n : Int) (L : List Int) (o : Gop) (h : AllU L) (hv : U64 o.v) : AllU (gstep base n L o).1 := by
  unfold gstep
  split
  · exact h
  split
  · exact h
  split
  · exact h
  split
  · show AllU (swapL L o.cell o.t)
    unfold swapL; split
    · exact h.set _ (u64_add _ _)
    · exact h
  split
  · show AllU (valL L (slotOf base n o.t) o.ahead o.v)
    unfold valL; split
    · exact h.set _ hv
    · exact h
  · exact h.set _ (u64_add _ _)
theorem gstep_ok (base n : Int) (L : List Int) (o : Gop) (h : AllU L) (ho : GopOk base L.length o) : GopOk base L.length (gstep base n L o).2 := by
  unfold gstep
  split
  · exact ho
  split
  · exact ⟨by simp, ho.cell0, ho.cell1, h.at_ _, ho.v⟩
  split
  · exact ⟨turnPh_ok _ _, ho.cell0, ho.cell1, ho.t, ho.v⟩
  split
  · exact ⟨swapPh_ok _ _ _, ho.cell0, ho.cell1, ho.t, ho.v⟩
  split
  · refine ⟨by simp, ho.cell0, ho.cell1, ho.t, ?_⟩
    show U64 (valV L (slotOf base n o.t) o.ahead o.v)
    unfold valV; split
    · exact ho.v
    · exact h.at_ _
  · exact ⟨ho.ph, ho.cell0, ho.cell1, ho.t, ho.v⟩

section
variable {w : World} {bo bg bm bc : Nat} {base n tc : Int} {L : List Int} {o : Gop}
theorem GateEnv.next {w' : World} (h : GateEnv w bg bm bc base n tc L) {L' : List Int} {tc' : Int} (hm : MemAt w' bm bc L' tc') (hf : Few tc') (hu : AllU L') (hl : L'.length = L.length) (hg : GateAt w' bg bm base n) : GateEnv w' bg bm bc base n tc' L' :=
  ⟨hg, hm, hf, hu, h.n1, h.n64, h.b0, h.b1, by rw [hl]; exact h.in_⟩
theorem GateEnv.more {tc' : Int} (h : GateEnv w bg bm bc base n tc L) (hf : Few tc) : GateEnv w bg bm bc base n tc L := ⟨h.gate, h.mem, hf, h.u, h.n1, h.n64, h.b0, h.b1, h.in_⟩

/-- A step of a gate's operation. -/
theorem GStep_all (he : GateEnv w bg bm bc base n tc L) (ho : GopOk base L.length o) (h : GopIs w bo bg o) (hf : Few (tc + 1)) :
    Calls Try.prog 109 #[.pointer (some ⟨bo, 0, none⟩)] w fun e w' => e = .returned (.bool ((gstep base n L o).2.out != 0)) ∧ GopIs w' bo bg (gstep base n L o).2 ∧
      GateEnv w' bg bm bc base n (tc + gtick o) (gstep base n L o).1 ∧ Only (S3 bo bm bc) w w' := by
  have hne : bg ≠ bo := Blk.ne_ he.gate h (by decide)
  have hnm : bg ≠ bm := Blk.ne_ he.gate he.mem.mem (by decide)
  have hnc : bg ≠ bc := Blk.ne_ he.gate he.mem.cells (by decide)
  have hS : ¬ S3 bo bm bc bg := fun k => by unfold S3 at k; omega
  have hu := gstep_u base n L o he.u ho.v
  have hl := gstep_len base n L o
  by_cases h0 : o.out = 0
  · have hS2 : ∀ {ph}, o.ph = ph → StepAt w bo bg bm bc base n ph o.cell o.ahead o.t o.v tc L := by
      intro ph hp
      refine ⟨?_, he.gate, he.mem, he.few, ho.t, he.n1, he.n64, he.b0, he.b1, he.in_⟩
      unfold GopIs at h
      rw [h0, hp] at h
      exact h
    have htk : gtick o = 1 := by simp [gtick, h0]
    rw [htk]
    rcases ho.ph with hp | hp | hp | hp | hp
    · have hg : gstep base n L o = (L, { o with ph := 1, t := at_ L o.cell }) := by simp [gstep, h0, hp]
      rw [hg] at hu hl ⊢
      refine (Step_end (hS2 hp) ho.cell0 ho.cell1).mono ?_
      rintro e w' ⟨rfl, h1, h2, h3⟩
      refine ⟨by simp [h0], ?_, he.next h2 hf hu hl (he.gate.only h3 hS), h3⟩
      unfold GopIs
      rw [h0]
      exact h1
    · have hg : gstep base n L o = (L, { o with ph := turnPh (at_ L (slotOf base n o.t)) (wantOf n o.ahead o.t), out := turnOut (at_ L (slotOf base n o.t)) (wantOf n o.ahead o.t) o.ahead }) := by simp [gstep, h0, hp]
      rw [hg] at hu hl ⊢
      refine (Step_turn (hS2 hp)).mono ?_
      rintro e w' ⟨rfl, h1, h2, h3⟩
      exact ⟨rfl, h1, he.next h2 hf hu hl (he.gate.only h3 hS), h3⟩
    · have hg : gstep base n L o = (swapL L o.cell o.t, { o with ph := swapPh L o.cell o.t }) := by simp [gstep, h0, hp]
      rw [hg] at hu hl ⊢
      refine (Step_swap (hS2 hp) ho.cell0 ho.cell1).mono ?_
      rintro e w' ⟨rfl, h1, h2, h3⟩
      refine ⟨by simp [h0], ?_, he.next h2 hf hu hl (he.gate.only h3 hS), h3⟩
      unfold GopIs
      rw [h0]
      exact h1
    · have hg : gstep base n L o = (valL L (slotOf base n o.t) o.ahead o.v, { o with ph := 4, v := valV L (slotOf base n o.t) o.ahead o.v }) := by simp [gstep, h0, hp]
      rw [hg] at hu hl ⊢
      refine (Step_value (hS2 hp)).mono ?_
      rintro e w' ⟨rfl, h1, h2, h3⟩
      refine ⟨by simp [h0], ?_, he.next h2 hf hu hl (he.gate.only h3 hS), h3⟩
      unfold GopIs
      rw [h0]
      exact h1
    · have hg : gstep base n L o = (L.set (slotOf base n o.t).toNat (add64 (wantOf n o.ahead o.t) 1), { o with out := 1 }) := by simp [gstep, h0, hp]
      rw [hg] at hu hl ⊢
      refine (Step_pass (hS2 hp)).mono ?_
      rintro e w' ⟨rfl, h1, h2, h3⟩
      refine ⟨rfl, ?_, he.next h2 hf hu hl (he.gate.only h3 hS), h3⟩
      unfold GopIs
      rw [hp]
      exact h1
  · have hg : gstep base n L o = (L, o) := by simp [gstep, h0]
    have htk : gtick o = 0 := by simp [gtick, h0]
    rw [hg, htk]
    refine (Step_over h h0).mono ?_
    rintro e w' ⟨rfl, rfl⟩
    have hb : (o.out != 0) = true := by simp [h0]
    refine ⟨by rw [hb], h, ?_, Only.refl _ _⟩
    rw [Int.add_zero]
    exact he
end
end Go.Proofs.Ytdoaipjdldknaaa
