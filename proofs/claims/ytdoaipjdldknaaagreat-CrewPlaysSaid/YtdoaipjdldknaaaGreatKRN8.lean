/-
  The document's crew (trouperef20): Step.
-/
import Derived.Test.YtdoaipjdldknaaaGreatKRN7
namespace Go.Proofs.YtdoaipjdldknaaaGreat
open Go.RowKit
set_option linter.unusedVariables false
/-- A log: nil while nothing was answered. -/
structure LogIs (w : World) (B : Nat) (lv : Value) (l : List Int) : Prop where
  at_ : LogAt w B lv l
  nil : l = [] → lv = .slice none 0 0
theorem LogIs.only {w w' : World} {B : Nat} {lv : Value} {l : List Int} {S : Nat → Prop} (h : LogIs w B lv l) (ho : Only S w w') (hs : ∀ g, B ≤ g → g < w.heap.size → ¬ S g ∨ ∃ t cs, Blk w g t cs ∧ t ≠ 29) : LogIs w' B lv l := ⟨h.at_.only ho hs, h.nil⟩
theorem LogIs.only0 {w w' : World} {B : Nat} {lv : Value} {l : List Int} (h : LogIs w B lv l) (ho : Only S0 w w') : LogIs w' B lv l := h.only ho fun _ _ _ => .inl fun h => h
theorem LogIs.shape {w : World} {B : Nat} {lv : Value} {l : List Int} (h : LogIs w B lv l) : (l = [] ∧ lv = .slice none 0 0) ∨ (l ≠ [] ∧ ∃ g cap, lv = .slice (some ⟨g, 0, none⟩) l.length cap ∧ g < w.heap.size ∧ B ≤ g) := by
  by_cases hl : l = []
  · exact .inl ⟨hl, h.nil hl⟩
  · obtain ⟨a, cap, hv, hc⟩ := h.at_.form
    obtain ⟨g, rfl, h1, h2⟩ := hc (by intro e; exact hl (List.eq_nil_of_length_eq_zero e))
    exact .inr ⟨hl, g, cap, hv, h1, h2⟩
theorem LogIs.logS {w : World} {B : Nat} {lv : Value} {l : List Int} {a : Option Addr} {ca : Nat} (h : LogIs w B lv l) (hv : lv = .slice a l.length ca) : LogS w a l.length ca l := by
  rcases Sl.form h.at_ with ⟨h1, h2⟩ | ⟨g, cap, cs, h1, hB, hb, hcap, hm, _⟩
  · have hl : l = [] := by simpa using h2
    subst hl
    rw [hv] at h1
    injection h1 with e1 e2 e3
    subst e3
    exact ⟨rfl, Nat.le_refl _, by omega, fun h => absurd rfl h⟩
  · have h1' := h1
    rw [hv] at h1'
    injection h1' with e1 e2 e3
    subst e1 e3
    refine ⟨rfl, by simpa using hcap, by unfold maxLen at hm; omega, fun hne => ?_⟩
    have hrd := Sl.rd h.at_
    rw [hv] at hrd
    obtain ⟨g', off, e, hg, hc⟩ := Rd.cells (l := l) hrd rfl hne
    exact ⟨g', off, e, hg, hc⟩
section
variable {w : World} {F : CLay} {kind wk V tc : Int} {lv : Value} {l L : List Int} {B rm rc : Nat}
set_option maxRecDepth 100000 in
set_option maxHeartbeats 4000000 in
theorem cStepR_over (hF : F.Ok) (hb : F.base ≤ 60000) (W : GW) (hc : CProper F (cbegin F kind wk V) l) (hW : cask F (l.foldl (cans F) (cbegin F kind wk V)) = W) (hl : LogIs w B lv l) (hB : B ≤ w.heap.size) (hlen : l.length ≤ 1000) (hk1 : 1 ≤ kind) (hk4 : kind ≤ 4) (hV : U64 V) (hu : AllU l)
    (hov : W.over = true) : Calls Tryz.prog 20 #[.pointer (some ⟨rm, 0, none⟩), crewV F, .agg #[.int .i64 kind, .int .i64 wk, .int .u64 V, lv]] w fun e w' =>
      e = .returned (.agg #[.int .i64 kind, .int .i64 wk, .int .u64 V, lv]) ∧ Only S0 w w' := by
  obtain ⟨a, ca, rfl, -⟩ := hl.at_.form
  have o3 := (((Only.refl S0 w).alloc (.cells #[.int .i64 F.base, .int .i64 F.n, .int .i64 F.slots, .int .i64 F.actors] 34)).alloc (.cells #[.int .i64 kind, .int .i64 wk, .int .u64 V, .slice a l.length ca] 59)).alloc (.cells #[.int .i64 0, .int .i64 0, .int .u64 0, .slice none 0 0] 59)
  have hn := rNext_any (w := ((w.alloc (.cells #[.int .i64 F.base, .int .i64 F.n, .int .i64 F.slots, .int .i64 F.actors] 34)).alloc (.cells #[.int .i64 kind, .int .i64 wk, .int .u64 V, .slice a l.length ca] 59)).alloc (.cells #[.int .i64 0, .int .i64 0, .int .u64 0, .slice none 0 0] 59)) hF hb hk1 hk4 hV ((hl.logS rfl).only0 o3) (by omega) hu hc
  rw [hW] at hn
  have HN := hide hn
  clear hn
  unfold crewV at *
  have HL := hide hl
  have HO3 := hide o3
  have HBO := hide (show Blk (((w.alloc (.cells #[.int .i64 F.base, .int .i64 F.n, .int .i64 F.slots, .int .i64 F.actors] 34)).alloc (.cells #[.int .i64 kind, .int .i64 wk, .int .u64 V, .slice a l.length ca] 59)).alloc (.cells #[.int .i64 0, .int .i64 0, .int .u64 0, .slice none 0 0] 59)) (w.heap.size + 1) 59 #[.int .i64 kind, .int .i64 wk, .int .u64 V, .slice a l.length ca] from by
    have := (Blk.new (w.alloc (.cells #[.int .i64 F.base, .int .i64 F.n, .int .i64 F.slots, .int .i64 F.actors] 34)) 59 #[.int .i64 kind, .int .i64 wk, .int .u64 V, .slice a l.length ca]).alloc (.cells #[.int .i64 0, .int .i64 0, .int .u64 0, .slice none 0 0] 59)
    simpa using this)
  have HBR := hide (show Blk (((w.alloc (.cells #[.int .i64 F.base, .int .i64 F.n, .int .i64 F.slots, .int .i64 F.actors] 34)).alloc (.cells #[.int .i64 kind, .int .i64 wk, .int .u64 V, .slice a l.length ca] 59)).alloc (.cells #[.int .i64 0, .int .i64 0, .int .u64 0, .slice none 0 0] 59)) (w.heap.size + 1 + 1) 59 #[.int .i64 0, .int .i64 0, .int .u64 0, .slice none 0 0] from by
    have := Blk.new ((w.alloc (.cells #[.int .i64 F.base, .int .i64 F.n, .int .i64 F.slots, .int .i64 F.actors] 34)).alloc (.cells #[.int .i64 kind, .int .i64 wk, .int .u64 V, .slice a l.length ca] 59)) 59 #[.int .i64 0, .int .i64 0, .int .u64 0, .slice none 0 0]
    simpa using this)
  clear hl o3 hW hc hF hV hu
  obtain ⟨ov, what, cell, aa, bb, out, value⟩ := W
  obtain rfl : ov = true := hov
  go_enter Tryz.func20, Tryz.ntmps20
  go_wp2_with fail
  refine HN.out.mono ?_
  rintro e w1 ⟨rfl, o1⟩
  have HBO1 := hide (HBO.out.only o1 (fun h => h))
  have HBR1 := hide (HBR.out.only o1 (fun h => h))
  have HO1 := hide (HO3.out.trans o1)
  clear o1
  have z0 := HBO1.out.cellv (i := 0) rfl
  have z1 := HBO1.out.cellv (i := 1) rfl
  have z2 := HBO1.out.cellv (i := 2) rfl
  have z3 := HBO1.out.cellv (i := 3) rfl
  have hzl := Blk.lt HBO1.out
  have q0 := HBR1.out.cellv (i := 0) rfl
  have q1 := HBR1.out.cellv (i := 1) rfl
  have q2 := HBR1.out.cellv (i := 2) rfl
  have q3 := HBR1.out.cellv (i := 3) rfl
  have y0 := HBR1.out.frozen 0
  have y1 := HBR1.out.frozen 1
  have y2 := HBR1.out.frozen 2
  have y3 := HBR1.out.frozen 3
  have hql := Blk.lt HBR1.out
  unfold gwV
  go_wp2_with fail
  (try simp only [Exit.inBlock, Exit.then])
  refine bodyPost_ret (by simp [results, Tryz.results20, go_sem, q0, q1, q2, q3, hql]; try rfl) rfl ?_
  refine ⟨rfl, (Only.setNew (Only.setNew (Only.setNew (Only.setNew HO1.out _ (by omega) _) _ (by omega) _) _ (by omega) _) _ (by omega) _).alloc _⟩
set_option maxRecDepth 100000 in
set_option maxHeartbeats 4000000 in
theorem cStepR_go (hF : F.Ok) (hb : F.base ≤ 60000) (W : GW) (hc : CProper F (cbegin F kind wk V) l) (hW : cask F (l.foldl (cans F) (cbegin F kind wk V)) = W) (hl : LogIs w B lv l) (hB : B ≤ w.heap.size) (hlen : l.length ≤ 1000) (hk1 : 1 ≤ kind) (hk4 : kind ≤ 4) (hV : U64 V) (hu : AllU l)
    (hr : RefAt w rm rc L tc) (hf : Few tc) (hrm : rm < B) (hrc : rc < B) (hov : W.over = false) (hw : W.what = 1 ∨ W.what = 2 ∨ W.what = 3) (hc0 : 0 ≤ W.cell) (hc1 : W.cell < L.length) :
    Calls Tryz.prog 20 #[.pointer (some ⟨rm, 0, none⟩), crewV F, .agg #[.int .i64 kind, .int .i64 wk, .int .u64 V, lv]] w fun e w' =>
      ∃ lv', e = .returned (.agg #[.int .i64 kind, .int .i64 wk, .int .u64 V, lv']) ∧ LogIs w' B lv' (l ++ [(gdo L W).2]) ∧ RefAt w' rm rc (gdo L W).1 (tc + 1) ∧ Only (S2 rm rc) w w' := by
  obtain ⟨a, ca, rfl, -⟩ := hl.at_.form
  have o3 := (((Only.refl S0 w).alloc (.cells #[.int .i64 F.base, .int .i64 F.n, .int .i64 F.slots, .int .i64 F.actors] 34)).alloc (.cells #[.int .i64 kind, .int .i64 wk, .int .u64 V, .slice a l.length ca] 59)).alloc (.cells #[.int .i64 0, .int .i64 0, .int .u64 0, .slice none 0 0] 59)
  have hn := rNext_any (w := ((w.alloc (.cells #[.int .i64 F.base, .int .i64 F.n, .int .i64 F.slots, .int .i64 F.actors] 34)).alloc (.cells #[.int .i64 kind, .int .i64 wk, .int .u64 V, .slice a l.length ca] 59)).alloc (.cells #[.int .i64 0, .int .i64 0, .int .u64 0, .slice none 0 0] 59)) hF hb hk1 hk4 hV ((hl.logS rfl).only0 o3) (by omega) hu hc
  rw [hW] at hn
  have HN := hide hn
  clear hn
  unfold crewV at *
  have HL := hide hl
  have HR := hide hr
  have HF := hide hf
  have HO3 := hide o3
  have HBO := hide (show Blk (((w.alloc (.cells #[.int .i64 F.base, .int .i64 F.n, .int .i64 F.slots, .int .i64 F.actors] 34)).alloc (.cells #[.int .i64 kind, .int .i64 wk, .int .u64 V, .slice a l.length ca] 59)).alloc (.cells #[.int .i64 0, .int .i64 0, .int .u64 0, .slice none 0 0] 59)) (w.heap.size + 1) 59 #[.int .i64 kind, .int .i64 wk, .int .u64 V, .slice a l.length ca] from by
    have := (Blk.new (w.alloc (.cells #[.int .i64 F.base, .int .i64 F.n, .int .i64 F.slots, .int .i64 F.actors] 34)) 59 #[.int .i64 kind, .int .i64 wk, .int .u64 V, .slice a l.length ca]).alloc (.cells #[.int .i64 0, .int .i64 0, .int .u64 0, .slice none 0 0] 59)
    simpa using this)
  have HBR := hide (show Blk (((w.alloc (.cells #[.int .i64 F.base, .int .i64 F.n, .int .i64 F.slots, .int .i64 F.actors] 34)).alloc (.cells #[.int .i64 kind, .int .i64 wk, .int .u64 V, .slice a l.length ca] 59)).alloc (.cells #[.int .i64 0, .int .i64 0, .int .u64 0, .slice none 0 0] 59)) (w.heap.size + 1 + 1) 59 #[.int .i64 0, .int .i64 0, .int .u64 0, .slice none 0 0] from by
    have := Blk.new ((w.alloc (.cells #[.int .i64 F.base, .int .i64 F.n, .int .i64 F.slots, .int .i64 F.actors] 34)).alloc (.cells #[.int .i64 kind, .int .i64 wk, .int .u64 V, .slice a l.length ca] 59)) 59 #[.int .i64 0, .int .i64 0, .int .u64 0, .slice none 0 0]
    simpa using this)
  clear hl hr hf o3 hW hc hF hV hu
  obtain ⟨ov, what, cell, aa, bb, out, value⟩ := W
  obtain rfl : ov = false := hov
  have hshape := HL.out.shape
  go_enter Tryz.func20, Tryz.ntmps20
  go_wp2_with fail
  refine HN.out.mono ?_
  rintro e w1 ⟨rfl, o1⟩
  have HBO1 := hide (HBO.out.only o1 (fun h => h))
  have HBR1 := hide (HBR.out.only o1 (fun h => h))
  have HO1 := hide (HO3.out.trans o1)
  clear o1
  have z0 := HBO1.out.cellv (i := 0) rfl
  have z1 := HBO1.out.cellv (i := 1) rfl
  have z2 := HBO1.out.cellv (i := 2) rfl
  have z3 := HBO1.out.cellv (i := 3) rfl
  have hzl := Blk.lt HBO1.out
  have hql := Blk.lt HBR1.out
  unfold gwV
  rcases hshape with ⟨hl0, hv0⟩ | ⟨hl0, g, cap, hv0, hg, hBg⟩
  · subst hl0
    obtain ⟨rfl, rfl⟩ : a = none ∧ ca = 0 := by
      injection hv0 with e1 e2 e3
      exact ⟨e1, e3⟩
    clear hv0
    have oA := (Only.refl S0 w1).alloc (.cells #[.bool false, .int .i64 what, .int .i64 cell, .int .u64 aa, .int .u64 bb, .int .i64 out, .int .u64 value, .int .u64 0] 62)
    have HRA := hide ((HR.out.only0 HO1.out).only0 oA)
    have HBOA := hide (HBO1.out.only oA (fun h => h))
    have HBRA := hide (HBR1.out.only oA (fun h => h))
    have HOA := hide (HO1.out.trans oA)
    have HSLA := hide (Sl.nil (w1.alloc (.cells #[.bool false, .int .i64 what, .int .i64 cell, .int .u64 aa, .int .u64 bb, .int .i64 out, .int .u64 value, .int .u64 0] 62)) w.heap.size 29)
    clear oA
    go_wp2_with fail
    refine (Do_any (W := ⟨false, what, cell, aa, bb, out, value⟩) HRA.out HF.out hw hc0 hc1).mono ?_
    rintro e w3 ⟨rfl, h3, o3⟩
    obtain ⟨x, hx⟩ : ∃ x, (gdo L ⟨false, what, cell, aa, bb, out, value⟩).2 = x := ⟨_, rfl⟩
    rw [hx]
    have HX := hide hx
    have H3 := hide h3
    have HBO3 := hide (HBOA.out.only o3 (fun h => by unfold S2 at h; omega))
    have HBR3 := hide (HBRA.out.only o3 (fun h => by unfold S2 at h; omega))
    have HSL3 := hide (HSLA.out.only o3 (fun g' e h => by have := (HSLA.out.block e).1; unfold S2 at h; omega))
    have HO3' := hide ((HOA.out.mono (R := S2 rm rc) fun _ h => h.elim).trans o3)
    have o3s := Nat.le_trans HOA.out.size o3.size
    clear h3 o3 hx
    go_wp2_with (at_builtin; refine wpList_app1 _ rfl (.tmp 19) (.tmp 23) 38 rfl 29 (.int .u64 0) 8 Tryz.underlying38 info_u64 rfl w.heap.size (.slice none 0 0) (([] : List Int).map (.int .u64)) (.int .u64 x) rfl rfl HSL3.out rfl (by simp only [List.length_map]; omega) (by simp only [List.length_map]; unfold maxLen; omega) (by omega) ?_; intro v4 w4 hv4 o4 hnew; have HSL4 := hide hv4; have HBO4 := hide (HBO3.out.only o4 (fun h => HSL3.out.ne_blk HBO3.out (by decide) h)); have HBR4 := hide (HBR3.out.only o4 (fun h => HSL3.out.ne_blk HBR3.out (by decide) h)); have HR4 := hide (H3.out.only o4 (fun h => HSL3.out.ne_blk H3.out.mem (by decide) h) (fun h => by have := (HSL3.out.block h).1; omega)); have HO4 := hide (HO3'.out.then o4 (fun k hk h => by have := (HSL3.out.block h).1; omega)); obtain ⟨g4, c4, rfl⟩ := app_form hv4; have z0 := HBO4.out.cellv (i := 0) rfl; have z1 := HBO4.out.cellv (i := 1) rfl; have z2 := HBO4.out.cellv (i := 2) rfl; have q0 := HBR4.out.cellv (i := 0) rfl; have q1 := HBR4.out.cellv (i := 1) rfl; have q2 := HBR4.out.cellv (i := 2) rfl; have q3 := HBR4.out.cellv (i := 3) rfl; have y0 := HBR4.out.frozen 0; have y1 := HBR4.out.frozen 1; have y2 := HBR4.out.frozen 2; have y3 := HBR4.out.frozen 3; clear hv4 o4 hnew)
    (try simp only [Exit.inBlock, Exit.then])
    refine bodyPost_ret (by simp [results, Tryz.results20, go_sem, q0, q1, q2, q3]; try rfl) rfl ?_
    have o5 := ((((Only.refl (S1 (w.heap.size + 1 + 1)) w4).set1 0 rfl (.int .i64 kind)).set1 1 rfl (.int .i64 wk)).set1 2 rfl (.int .u64 V)).set1 3 rfl (.slice (some ⟨g4, 0, none⟩) 1 c4)
    refine ⟨_, rfl, ⟨?_, fun h => by simp at h⟩, HR4.out.only o5 (fun h => by unfold S1 at h; omega) (fun h => by unfold S1 at h; omega), Only.setNew (Only.setNew (Only.setNew (Only.setNew HO4.out _ (by omega) _) _ (by omega) _) _ (by omega) _) _ (by omega) _⟩
    unfold LogAt
    rw [HX.out, List.map_append]
    exact (HSL4.out.only o5 (fun g' e h => by unfold S1 at h; subst h; exact HSL4.out.ne_blk HBR4.out (by decide) e)).more hB
  · obtain ⟨rfl, rfl⟩ : a = some ⟨g, 0, none⟩ ∧ ca = cap := by
      injection hv0 with e1 e2 e3
      exact ⟨e1, e3⟩
    clear hv0
    have hpos : l.length ≠ 0 := fun e => hl0 (List.eq_nil_of_length_eq_zero e)
    have oA := (Only.refl S0 w1).alloc (.cells #[.bool false, .int .i64 what, .int .i64 cell, .int .u64 aa, .int .u64 bb, .int .i64 out, .int .u64 value, .int .u64 0] 62)
    obtain ⟨g2, off2, hga, hg2, hcell⟩ := Rd.cells (l := l) (Sl.rd HL.out.at_) rfl hpos
    injection hga with hga
    injection hga with hg3 hg4 hg5
    subst hg3
    subst hg4
    clear hg5
    have hsrc : ∀ j u, (l.map (Value.int .u64))[j]? = some u → (w1.alloc (.cells #[.bool false, .int .i64 what, .int .i64 cell, .int .u64 aa, .int .u64 bb, .int .i64 out, .int .u64 value, .int .u64 0] 62)).cell? ((⟨g, 0, none⟩ : Addr).add j) = some u := by
      intro j u hu
      have hj : j < l.length := by
        rcases Nat.lt_or_ge j l.length with h | h
        · exact h
        · rw [List.getElem?_eq_none (by simpa using h)] at hu; cases hu
      rw [map_u64_get hj] at hu
      have h1 := ((HO1.out.trans oA).cell (p := ⟨g, 0 + j, none⟩) hg2 (fun h => h)).trans (hcell j hj)
      rw [add_addr]
      rw [h1]
      exact hu
    have HS := hide hsrc
    have HRA0 := hide ((HR.out.only0 HO1.out).only0 oA)
    have HBOA0 := hide (HBO1.out.only oA (fun h => h))
    have HBRA0 := hide (HBR1.out.only oA (fun h => h))
    have HOA0 := hide (HO1.out.trans oA)
    have hszA := HOA0.out.size
    clear oA hcell hsrc hl0
    obtain ⟨i0, hi, hz0, hz1, hz2⟩ := info_parts info_u64
    go_wp2_with (at_builtin; (refine wpList_append_own_at _ rfl (.tmp 15) (.tmp 17) 38 rfl w.heap.size 29 i0 _ 1 8 Tryz.underlying38 hi hz0 hz1 hz2 rfl (by decide) (.slice none 0 0) 0 [] rfl (Sl.nil _ _ _) ⟨g, 0, none⟩ l.length ca (l.map (.int .u64)) rfl (by simp) HS.out (by simp [Value.oneCell']) (by unfold maxLen; omega) (by omega) hszA ?_); intro v' w2 own' grown' _ _; have HSLA := hide (show Sl w2 w.heap.size 29 v' (l.map (.int .u64)) from by unfold Sl; simpa using own'); have oB := Only.of_grown (S := S0) grown' (fun k hk _ => by simp [Value.ownBlock] at hk); have HRA := hide (HRA0.out.only0 oB); have HBOA := hide (HBOA0.out.only oB (fun h => h)); have HBRA := hide (HBRA0.out.only oB (fun h => h)); have HOA := hide (HOA0.out.trans oB); have HBW := hide ((Blk.new w1 62 #[.bool false, .int .i64 what, .int .i64 cell, .int .u64 aa, .int .u64 bb, .int .i64 out, .int .u64 value, .int .u64 0]).only oB (fun h => h)); have x0 := HBW.out.cellv (i := 0) rfl; have x1 := HBW.out.cellv (i := 1) rfl; have x2 := HBW.out.cellv (i := 2) rfl; have x3 := HBW.out.cellv (i := 3) rfl; have x4 := HBW.out.cellv (i := 4) rfl; have x5 := HBW.out.cellv (i := 5) rfl; have x6 := HBW.out.cellv (i := 6) rfl; have x7 := HBW.out.cellv (i := 7) rfl; clear own' grown' oB)
    refine (Do_any (W := ⟨false, what, cell, aa, bb, out, value⟩) HRA.out HF.out hw hc0 hc1).mono ?_
    rintro e w3 ⟨rfl, h3, o3⟩
    obtain ⟨x, hx⟩ : ∃ x, (gdo L ⟨false, what, cell, aa, bb, out, value⟩).2 = x := ⟨_, rfl⟩
    rw [hx]
    have HX := hide hx
    have H3 := hide h3
    have HBO3 := hide (HBOA.out.only o3 (fun h => by unfold S2 at h; omega))
    have HBR3 := hide (HBRA.out.only o3 (fun h => by unfold S2 at h; omega))
    have HSL3 := hide (HSLA.out.only o3 (fun g' e h => by have := (HSLA.out.block e).1; unfold S2 at h; omega))
    have HO3' := hide ((HOA.out.mono (R := S2 rm rc) fun _ h => h.elim).trans o3)
    have o3s := Nat.le_trans HOA.out.size o3.size
    clear h3 o3 hx
    go_wp2_with (at_builtin; refine wpList_app1 _ rfl (.tmp 19) (.tmp 23) 38 rfl 29 (.int .u64 0) 8 Tryz.underlying38 info_u64 rfl w.heap.size v' (l.map (.int .u64)) (.int .u64 x) rfl rfl HSL3.out rfl (by simp only [List.length_map]; omega) (by simp only [List.length_map]; unfold maxLen; omega) (by omega) ?_; intro v4 w4 hv4 o4 hnew; have HSL4 := hide hv4; have HBO4 := hide (HBO3.out.only o4 (fun h => HSL3.out.ne_blk HBO3.out (by decide) h)); have HBR4 := hide (HBR3.out.only o4 (fun h => HSL3.out.ne_blk HBR3.out (by decide) h)); have HR4 := hide (H3.out.only o4 (fun h => HSL3.out.ne_blk H3.out.mem (by decide) h) (fun h => by have := (HSL3.out.block h).1; omega)); have HO4 := hide (HO3'.out.then o4 (fun k hk h => by have := (HSL3.out.block h).1; omega)); obtain ⟨g4, c4, rfl⟩ := app_form hv4; have z0 := HBO4.out.cellv (i := 0) rfl; have z1 := HBO4.out.cellv (i := 1) rfl; have z2 := HBO4.out.cellv (i := 2) rfl; have q0 := HBR4.out.cellv (i := 0) rfl; have q1 := HBR4.out.cellv (i := 1) rfl; have q2 := HBR4.out.cellv (i := 2) rfl; have q3 := HBR4.out.cellv (i := 3) rfl; have y0 := HBR4.out.frozen 0; have y1 := HBR4.out.frozen 1; have y2 := HBR4.out.frozen 2; have y3 := HBR4.out.frozen 3; clear hv4 o4 hnew)
    (try simp only [Exit.inBlock, Exit.then])
    refine bodyPost_ret (by simp [results, Tryz.results20, go_sem, q0, q1, q2, q3]; try rfl) rfl ?_
    have o5 := ((((Only.refl (S1 (w.heap.size + 1 + 1)) w4).set1 0 rfl (.int .i64 kind)).set1 1 rfl (.int .i64 wk)).set1 2 rfl (.int .u64 V)).set1 3 rfl (.slice (some ⟨g4, 0, none⟩) (l.length + 1) c4)
    refine ⟨_, rfl, ⟨?_, fun h => by simp at h⟩, HR4.out.only o5 (fun h => by unfold S1 at h; omega) (fun h => by unfold S1 at h; omega), Only.setNew (Only.setNew (Only.setNew (Only.setNew HO4.out _ (by omega) _) _ (by omega) _) _ (by omega) _) _ (by omega) _⟩
    unfold LogAt
    rw [HX.out, List.map_append]
    have h9 := (HSL4.out.only o5 (fun g' e h => by unfold S1 at h; subst h; exact HSL4.out.ne_blk HBR4.out (by decide) e)).more hB
    simp only [List.length_append, List.length_map, List.length_cons, List.length_nil, Nat.zero_add] at h9
    exact h9
end
end Go.Proofs.YtdoaipjdldknaaaGreat
