/-
  CrewPlays: an operation begun.
-/
import Derived.Test.YtdoaipjdldknaaaGreatKP2
import Derived.Test.YtdoaipjdldknaaaGreatKD
namespace Go.Proofs.YtdoaipjdldknaaaGreat
open Go.RowKit
set_option linter.unusedVariables false
section
variable {w : World} {F : CLay} {cb bb bg bm bc : Nat} {dv : Value} {bd : Nat → Nat} {tc : Int} {L : List Int}
theorem begun20_any (k wk x : Int) (hk1 : 1 ≤ k) (hk4 : k ≤ 4) (hx : U64 x) (he : CEnv w F cb bb bg bm bc dv bd tc L) : Calls Tryz.prog 17 #[.pointer (some ⟨cb, 0, none⟩), .int .i64 k, .int .i64 wk, .int .u64 x] w (CBegun w F cb bb bg bm bc dv bd tc L (cbegin F k wk x)) := by
  have HE := hide he
  have HX := hide hx
  clear he hx
  have hk : k = 1 ∨ k = 2 ∨ k = 3 ∨ k = 4 := by omega
  rcases hk with rfl | rfl | rfl | rfl
  · have HD := hide (show cbegin F 1 wk x = offerC F wk x from rfl)
    go_enter Tryz.func17, Tryz.ntmps17
    go_wp2_with fail
    refine (Offer_all wk x HX.out HE.out).mono ?_
    rintro e w' ⟨co, rfl, h⟩
    have G := hide h
    clear h
    go_wp2_with fail
    go_ret
    rw [HD.out]
    exact ⟨co, rfl, G.out⟩
  · have HD := hide (show cbegin F 2 wk x = findC F wk (ordZ x.toNat F.n wk) from rfl)
    go_enter Tryz.func17, Tryz.ntmps17
    go_wp2_with fail
    refine (Find_all wk x HX.out HE.out).mono ?_
    rintro e w' ⟨co, rfl, h⟩
    have G := hide h
    clear h
    go_wp2_with fail
    go_ret
    rw [HD.out]
    exact ⟨co, rfl, G.out⟩
  · have HD := hide (show cbegin F 3 wk x = restC F wk from rfl)
    go_enter Tryz.func17, Tryz.ntmps17
    go_wp2_with fail
    refine (Rest_all wk HE.out).mono ?_
    rintro e w' ⟨co, rfl, h⟩
    have G := hide h
    clear h
    go_wp2_with fail
    go_ret
    rw [HD.out]
    exact ⟨co, rfl, G.out⟩
  · have HD := hide (show cbegin F 4 wk x = pollC F wk from rfl)
    go_enter Tryz.func17, Tryz.ntmps17
    go_wp2_with fail
    refine (Poll_all wk HE.out).mono ?_
    rintro e w' ⟨co, rfl, h⟩
    have G := hide h
    clear h
    go_wp2_with fail
    go_ret
    rw [HD.out]
    exact ⟨co, rfl, G.out⟩
end
section
variable {w : World} {cb bb bg bc co : Nat} {bd : Nat → Nat} {O : Nat → Prop} {st : CSt}
theorem kover_any (h : CIs w cb bb bg bc bd O co st) : Calls Tryz.prog 16 #[.pointer (some ⟨co, 0, none⟩)] w fun e w' => e = .returned (.bool (st.out != 0)) ∧ w = w' := by
  obtain ⟨c, t, hc⟩ := h.cop
  exact COver_any hc
theorem koutcome_any (h : CIs w cb bb bg bc bd O co st) : Calls Tryz.prog 22 #[.pointer (some ⟨co, 0, none⟩)] w fun e w' => e = .returned (.int .i64 st.out) ∧ w = w' := by
  obtain ⟨c, t, hc⟩ := h.cop
  exact COutcome_any hc
theorem kvalue_any (h : CIs w cb bb bg bc bd O co st) : Calls Tryz.prog 23 #[.pointer (some ⟨co, 0, none⟩)] w fun e w' => e = .returned (.int .u64 st.value) ∧ w = w' := by
  obtain ⟨c, t, hc⟩ := h.cop
  exact CValue_any hc
end
section
variable {F : CLay} {st : CSt} {len : Nat}
/-- What the document says of an operation. -/
theorem cask_over_ (h : st.out ≠ 0) : (cask F st).over = true ∧ (cask F st).out = st.out ∧ (cask F st).value = st.value := by
  cases st with
  | over out v => exact ⟨rfl, rfl, rfl⟩
  | src s rest => exact absurd rfl h
  | _ => exact absurd rfl h
theorem cask_go_ (hok : CStOk F len st) (h : st.out = 0) : (cask F st).over = false ∧ (cask F st).out = 0 ∧ (cask F st).value = 0 := by
  have hd : ∀ (b : Int) (d : Dop), d.out = 0 → (daskOf b F.slots d).over = false ∧ (daskOf b F.slots d).out = 0 ∧ (daskOf b F.slots d).value = 0 := fun b d h => by
    unfold daskOf daskPush daskPop daskSteal; rw [if_neg (by omega)]; (repeat' split) <;> exact ⟨rfl, rfl, rfl⟩
  have hg : ∀ (g : Gop), g.out = 0 → (askOf F.gb F.actors g).over = false ∧ (askOf F.gb F.actors g).out = 0 ∧ (askOf F.gb F.actors g).value = 0 := fun g h => by
    unfold askOf; rw [if_neg (by omega)]; (repeat' split) <;> exact ⟨rfl, rfl, rfl⟩
  have hb : ∀ (b : Bop), b.out = 0 → (baskOf F.base b).over = false ∧ (baskOf F.base b).out = 0 ∧ (baskOf F.base b).value = 0 := fun b h => by
    unfold baskOf; rw [if_neg (by omega)]; (repeat' split) <;> exact ⟨rfl, rfl, rfl⟩
  cases st with
  | over out v => exact absurd h hok.1
  | ring b => exact hb b hok.1
  | put v g => exact hg g hok.1
  | push i v d => exact hd _ d hok.1
  | src s rest =>
    cases s with
    | dq i d => exact hd _ d hok.1
    | gt g => exact hg g hok.1
  | sleep i b => exact hb b hok.1
  | take i g => exact hg g hok.1
  | up i v b => exact hb b hok.1
  | poll b => exact hb b hok.1
theorem cval_go (h : st.out = 0) (hok : CStOk F len st) : st.value = 0 := by
  cases st with
  | over out v => exact absurd h hok.1
  | _ => rfl
theorem cask_like (hok : CStOk F len st) : (cask F st).over = (st.out != 0) ∧ (cask F st).out = st.out ∧ (cask F st).value = st.value := by
  by_cases h : st.out = 0
  · obtain ⟨h1, h2, h3⟩ := cask_go_ hok h
    exact ⟨by rw [h1, h]; rfl, by rw [h2, h], by rw [h3, cval_go h hok]⟩
  · obtain ⟨h1, h2, h3⟩ := cask_over_ (F := F) h
    exact ⟨by rw [h1]; simp [h], h2, h3⟩
theorem gask_go {o : Gop} {base n : Int} {len : Nat} (hg : GopOk base len o) (h : o.out = 0) (b0 : 0 ≤ base) (n1 : 1 ≤ n) (hi : base + 2 + 2 * n ≤ len) : (askOf base n o).over = false ∧ ((askOf base n o).what = 1 ∨ (askOf base n o).what = 2 ∨ (askOf base n o).what = 3) ∧ 0 ≤ (askOf base n o).cell ∧ (askOf base n o).cell < len := by
  have w0 := hg.cell0
  have w1 := hg.cell1
  obtain ⟨-, m1, m2⟩ := u64_mod hg.t n1
  have s0 : 0 ≤ slotOf base n o.t ∧ slotOf base n o.t + 1 < len := by unfold slotOf; omega
  obtain ⟨s0, s1⟩ := s0
  unfold askOf
  rw [if_neg (by rw [h]; decide)]
  (repeat' split) <;> exact ⟨rfl, by simp [wStore, wLoad, wSwap], by simp only [wStore, wLoad, wSwap]; omega, by simp only [wStore, wLoad, wSwap]; omega⟩
theorem bask_go {n : Nat} {o : Bop} {base : Int} {len : Nat} (hg : BopOk n o) (h : o.out = 0) (b0 : 0 ≤ base) (hi : base + n ≤ len) : (baskOf base o).over = false ∧ ((baskOf base o).what = 1 ∨ (baskOf base o).what = 2 ∨ (baskOf base o).what = 3) ∧ 0 ≤ (baskOf base o).cell ∧ (baskOf base o).cell < len := by
  have w0 := hg.w0 h
  have w1 := hg.w1 h
  unfold baskOf
  rw [if_neg (by rw [h]; decide)]
  (repeat' split) <;> exact ⟨rfl, by simp [wStore, wLoad, wSwap], by simp only [wStore, wLoad, wSwap]; omega, by simp only [wStore, wLoad, wSwap]; omega⟩
/-- An access is one of three, of a cell that there is. -/
theorem cask_in {len : Nat} (hs : F.base + F.size ≤ len) (hF : F.Ok) (hok : CStOk F len st) (h : st.out = 0) : ((cask F st).what = 1 ∨ (cask F st).what = 2 ∨ (cask F st).what = 3) ∧ 0 ≤ (cask F st).cell ∧ (cask F st).cell < len := by
  have hn := hF.n8
  have hgb : F.gb + 2 + 2 * F.actors ≤ len := by unfold CLay.gb; unfold CLay.size at hs; omega
  have hd : ∀ (i : Nat) (d : Dop), i < F.n → DopOk d → d.out = 0 → ((daskOf (F.db i) F.slots d).what = 1 ∨ (daskOf (F.db i) F.slots d).what = 2 ∨ (daskOf (F.db i) F.slots d).what = 3) ∧ 0 ≤ (daskOf (F.db i) F.slots d).cell ∧ (daskOf (F.db i) F.slots d).cell < len := fun i d hi hd h => by
    have hdb := CLay.db_in hi
    exact (dask_go (len := len) (base := (F.db i : Int)) (n := F.slots) hd h (by omega) (by have := hF.s1; omega) (by omega)).2
  have hg : ∀ (g : Gop), GopOk F.gb len g → g.out = 0 → ((askOf F.gb F.actors g).what = 1 ∨ (askOf F.gb F.actors g).what = 2 ∨ (askOf F.gb F.actors g).what = 3) ∧ 0 ≤ (askOf F.gb F.actors g).cell ∧ (askOf F.gb F.actors g).cell < len := fun g hg h =>
    (gask_go (len := len) (base := (F.gb : Int)) (n := F.actors) hg h (by omega) (by have := hF.a1; omega) (by omega)).2
  have hb : ∀ (b : Bop), BopOk F.n b → b.out = 0 → ((baskOf F.base b).what = 1 ∨ (baskOf F.base b).what = 2 ∨ (baskOf F.base b).what = 3) ∧ 0 ≤ (baskOf F.base b).cell ∧ (baskOf F.base b).cell < len := fun b hb h =>
    (bask_go (len := len) (base := (F.base : Int)) (n := F.n) hb h (by omega) (by unfold CLay.size at hs; omega)).2
  cases st with
  | over out v => exact absurd h hok.1
  | ring b => exact hb b hok.2 hok.1
  | put v g => exact hg g hok.2.1 hok.1
  | push i v d => exact hd i d hok.2.2.2 hok.2.1 hok.1
  | src s rest =>
    cases s with
    | dq i d => exact hd i d hok.2.2.1 hok.2.1 hok.1
    | gt g => exact hg g hok.2.1 hok.1
  | sleep i b => exact hb b hok.2.1 hok.1
  | take i g => exact hg g hok.2.1 hok.1
  | up i v b => exact hb b hok.2.1 hok.1
  | poll b => exact hb b hok.2 hok.1
/-- What an access answers is a number. -/
theorem cdo_u {L : List Int} (hu : AllU L) (W : GW) : U64 (gdo L W).2 := dgdo_u hu W
end
end Go.Proofs.YtdoaipjdldknaaaGreat
