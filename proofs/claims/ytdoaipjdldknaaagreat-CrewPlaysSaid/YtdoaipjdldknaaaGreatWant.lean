/-
  The document's accesses (trouperef03): what is wanted, and that it is done; logs.
-/
import Derived.Test.YtdoaipjdldknaaaGreatRef1
import Derived.Test.YtdoaipjdldknaaaGreatCom
namespace Go.Proofs.YtdoaipjdldknaaaGreat
open Go.RowKit
set_option linter.unusedVariables false

/-- A want: its fields, but for the ticket. -/
structure GW where
  over : Bool
  what : Int
  cell : Int
  a : Int
  b : Int
  out : Int
  value : Int
def gwV (W : GW) : Value := .agg #[.bool W.over, .int .i64 W.what, .int .i64 W.cell, .int .u64 W.a, .int .u64 W.b, .int .i64 W.out, .int .u64 W.value, .int .u64 0]
def wLoad (c : Int) : GW := { over := false, what := 1, cell := c, a := 0, b := 0, out := 0, value := 0 }
def wStore (c x : Int) : GW := { over := false, what := 2, cell := c, a := x, b := 0, out := 0, value := 0 }
def wSwap (c x y : Int) : GW := { over := false, what := 3, cell := c, a := x, b := y, out := 0, value := 0 }
def wOver (o v : Int) : GW := { over := true, what := 0, cell := 0, a := 0, b := 0, out := o, value := v }
/-- An access of the document's memory. -/
def gdo (L : List Int) (W : GW) : List Int × Int :=
  if W.what = 1 then (L, at_ L W.cell)
  else if W.what = 2 then (L.set W.cell.toNat W.a, 0)
  else if at_ L W.cell = W.a then (L.set W.cell.toNat W.b, 1) else (L, 0)
theorem gdo_len (L : List Int) (W : GW) : (gdo L W).1.length = L.length := by
  unfold gdo
  (repeat' split) <;> simp
section
variable {w : World} {rm rc : Nat} {L : List Int} {tc : Int} {W : GW}
theorem RefAt.only0 {w' : World} (h : RefAt w rm rc L tc) (ho : Only S0 w w') : RefAt w' rm rc L tc := h.only ho (fun h => h) (fun h => h)
set_option maxHeartbeats 1000000 in
theorem Do_any (hr : RefAt w rm rc L tc) (hf : Few tc) (hw : W.what = 1 ∨ W.what = 2 ∨ W.what = 3) (h0 : 0 ≤ W.cell) (h1 : W.cell < L.length) :
    Calls Tryz.prog 42 #[.pointer (some ⟨rm, 0, none⟩), gwV W] w fun e w' =>
      e = .returned (.int .u64 (gdo L W).2) ∧ RefAt w' rm rc (gdo L W).1 (tc + 1) ∧ Only (S2 rm rc) w w' := by
  obtain ⟨ov, what, cell, a, b, out, value⟩ := W
  simp only [gwV] at hw h0 h1 ⊢
  have HR := hide hr
  have HF := hide hf
  have o1 := (Only.refl S0 w).alloc (.cells #[.bool ov, .int .i64 what, .int .i64 cell, .int .u64 a, .int .u64 b, .int .i64 out, .int .u64 value, .int .u64 0] 62)
  have HR1 := hide (hr.only0 o1)
  have HO1 := hide o1
  clear hr hf o1
  rcases hw with rfl | rfl | rfl
  · have hg : gdo L { over := ov, what := 1, cell := cell, a := a, b := b, out := out, value := value } = (L, at_ L cell) := by simp [gdo]
    rw [hg]
    clear hg
    go_enter Tryz.func42, Tryz.ntmps42
    go_wp2_with fail
    refine (RefLoad_in cell HR1.out HF.out h0 h1).mono ?_
    rintro e w1 ⟨rfl, h2, o2⟩
    have H2 := hide h2
    have O2 := hide ((HO1.out.mono (R := S2 rm rc) fun _ h => h.elim).trans (o2.mono fun k hk => .inl hk))
    clear h2 o2
    go_wp2_with fail
    go_ret
    exact ⟨rfl, H2.out, O2.out⟩
  · have hg : gdo L { over := ov, what := 2, cell := cell, a := a, b := b, out := out, value := value } = (L.set cell.toNat a, 0) := by simp [gdo]
    rw [hg]
    clear hg
    go_enter Tryz.func42, Tryz.ntmps42
    go_wp2_with fail
    refine (RefStore_in cell a HR1.out HF.out h0 h1).mono ?_
    rintro e w1 ⟨rfl, h2, o2⟩
    have H2 := hide h2
    have O2 := hide ((HO1.out.mono (R := S2 rm rc) fun _ h => h.elim).trans o2)
    clear h2 o2
    go_wp2_with fail
    go_ret
    exact ⟨rfl, H2.out, O2.out⟩
  · by_cases hv : at_ L cell = a
    · have hg : gdo L { over := ov, what := 3, cell := cell, a := a, b := b, out := out, value := value } = (L.set cell.toNat b, 1) := by simp [gdo, hv]
      rw [hg]
      have HV := hide hv
      clear hg hv
      go_enter Tryz.func42, Tryz.ntmps42
      go_wp2_with fail
      refine (RefSwap_yes cell a b HR1.out HF.out h0 h1 HV.out).mono ?_
      rintro e w1 ⟨rfl, h2, o2⟩
      have H2 := hide h2
      have O2 := hide ((HO1.out.mono (R := S2 rm rc) fun _ h => h.elim).trans o2)
      clear h2 o2
      go_wp2_with fail
      go_ret
      exact ⟨rfl, H2.out, O2.out⟩
    · have hg : gdo L { over := ov, what := 3, cell := cell, a := a, b := b, out := out, value := value } = (L, 0) := by simp [gdo, hv]
      rw [hg]
      have HV := hide hv
      clear hg hv
      go_enter Tryz.func42, Tryz.ntmps42
      go_wp2_with fail
      refine (RefSwap_no cell a b HR1.out HF.out h0 h1 HV.out).mono ?_
      rintro e w1 ⟨rfl, h2, o2⟩
      have H2 := hide h2
      have O2 := hide ((HO1.out.mono (R := S2 rm rc) fun _ h => h.elim).trans (o2.mono fun k hk => .inl hk))
      clear h2 o2
      go_wp2_with fail
      go_ret
      exact ⟨rfl, H2.out, O2.out⟩
end
/-- A log: a slice that the call has made, its block from B on. -/
def LogAt (w : World) (B : Nat) (lv : Value) (l : List Int) : Prop := Sl w B 29 lv (l.map (.int .u64))
theorem LogAt.nil (w : World) (B : Nat) : LogAt w B (.slice none 0 0) [] := Sl.nil _ _ _
theorem LogAt.rd {w : World} {B : Nat} {lv : Value} {l : List Int} (h : LogAt w B lv l) : Rd w lv (l.map (.int .u64)) := Sl.rd h
theorem LogAt.only {w w' : World} {B : Nat} {lv : Value} {l : List Int} {S : Nat → Prop} (h : LogAt w B lv l) (ho : Only S w w') (hs : ∀ g, B ≤ g → g < w.heap.size → ¬ S g ∨ ∃ t cs, Blk w g t cs ∧ t ≠ 29) : LogAt w' B lv l := by
  refine Sl.only h ho fun g hg hS => ?_
  obtain ⟨h1, h2⟩ := Sl.block h hg
  rcases hs g h1 h2 with h3 | ⟨t, cs, hb, hne⟩
  · exact h3 hS
  · exact Sl.ne_blk h hb (fun e => hne e.symm) hg
theorem LogAt.only0 {w w' : World} {B : Nat} {lv : Value} {l : List Int} (h : LogAt w B lv l) (ho : Only S0 w w') : LogAt w' B lv l := h.only ho fun _ _ _ => .inl fun h => h
/-- A log at hand: nil, or a block. -/
theorem LogAt.form {w : World} {B : Nat} {lv : Value} {l : List Int} (h : LogAt w B lv l) : ∃ a cap, lv = .slice a l.length cap ∧ (l.length ≠ 0 → ∃ g, a = some ⟨g, 0, none⟩ ∧ g < w.heap.size ∧ B ≤ g) := by
  rcases Sl.form h with ⟨rfl, h2⟩ | ⟨g, cap, cs, rfl, hB, hb, _⟩
  · have : l = [] := by simpa using h2
    subst this
    exact ⟨none, 0, rfl, fun h => (h rfl).elim⟩
  · exact ⟨some ⟨g, 0, none⟩, cap, by simp, fun _ => ⟨g, rfl, hb.lt, hB⟩⟩
theorem map_u64_get {l : List Int} {i : Nat} (h : i < l.length) : (l.map (Value.int .u64))[i]? = some (.int .u64 (l.getD i 0)) := by
  rw [List.getElem?_map, List.getElem?_eq_getElem h]
  simp [List.getD, h]
end Go.Proofs.YtdoaipjdldknaaaGreat
