/-
  VigilPlays: what holds between two lines of the script.
-/
import Derived.Test.YtafnlmkhfonghaaVigN3
import Derived.Test.YtafnlmkhfonghaaAlive19
import Derived.Test.YtafnlmkhfonghaaPlay4
import Derived.Test.YtafnlmkhfonghaaOpen
namespace Go.Proofs.Ytafnlmkhfonghaa
open Go.RowKit
set_option linter.unusedVariables false

theorem vop_stays (bm : Nat) : Stays (fun w b o => VopIs w b bm o) := fun w w' S b x h ho hs => VopIs.only h ho hs
/-- An operation that asks for nothing out of reach. -/
structure VGood (b n x y : Int) (o : Vop) : Prop where
  k : o.k = 0 ∨ o.k = 1 ∨ o.k = 2 ∨ o.k = 3 ∨ o.k = 4
  at_ : o.out = 0 → vin n x y ∧ o.cell = vcell b n x y
theorem VGood.ans {b n x y : Int} {o : Vop} (h : VGood b n x y o) (v : Int) : VGood b n x y (vans o v) := by
  unfold vans
  split
  · exact h
  rename_i h0
  simp only [ne_eq, Decidable.not_not] at h0
  have ha := h.at_ h0
  (repeat' split)
  all_goals first | exact ⟨h.k, fun _ => ha⟩ | exact ⟨by simp, fun _ => ha⟩
theorem vgood_begin (b n kind x y : Int) : VGood b n x y (vbegin b n kind x y) := by
  refine ⟨?_, fun h => ?_⟩
  · show (if kind = 1 then 0 else if kind = 2 then 2 else 4) = 0 ∨ _
    simp only [vbegin]
    (repeat' split) <;> simp
  · have h' : vo0 n x y = 0 := h
    by_cases hin : vin n x y
    · exact ⟨hin, by simp [vbegin, vc0, hin]⟩
    · simp [vo0, hin] at h'
theorem vgood_fold (b n x y : Int) : ∀ (l : List Int) (o : Vop), VGood b n x y o → VGood b n x y (l.foldl vans o)
  | [], o, h => h
  | v :: l, o, h => vgood_fold b n x y l _ (h.ans v)
theorem VGood.ok {b n x y : Int} {o : Vop} {len : Nat} (h : VGood b n x y o) (b0 : 0 ≤ b) (hi : b + n * n ≤ len) : VopOk len o :=
  ⟨h.k, fun e => by have := vcell_in (h.at_ e).1 b0; rw [(h.at_ e).2]; omega, fun e => by have := vcell_in (h.at_ e).1 b0; rw [(h.at_ e).2]; omega⟩
/-- A thread's operation, and the document's. -/
structure VThr (b n : Int) (o : Vop) (kind x y : Int) (l : List Int) : Prop where
  k1 : 1 ≤ kind
  k3 : kind ≤ 3
  pr : VProper (vbegin b n kind x y) l
  eq : o = l.foldl vans (vbegin b n kind x y)
theorem VThr.good {b n : Int} {o : Vop} {kind x y : Int} {l : List Int} (h : VThr b n o kind x y l) : VGood b n x y o := by
  rw [h.eq]
  exact vgood_fold b n x y l _ (vgood_begin b n kind x y)
theorem VThr.next {b n : Int} {o : Vop} {kind x y : Int} {l : List Int} (h : VThr b n o kind x y l) : vnext b n kind x y l = vaskOf o := by
  rw [h.eq]
  exact vnext_ask b n kind x y l ⟨h.k1, h.k3⟩ h.pr
theorem vthr_new (b n kind x y : Int) (h1 : 1 ≤ kind) (h3 : kind ≤ 3) : VThr b n (vbegin b n kind x y) kind x y [] := ⟨h1, h3, trivial, rfl⟩
theorem VThr.step {b n : Int} {o : Vop} {kind x y : Int} {l : List Int} (h : VThr b n o kind x y l) (ho : o.out = 0) (v : Int) : VThr b n (vans o v) kind x y (l ++ [v]) :=
  ⟨h.k1, h.k3, h.pr.snoc (by rw [← h.eq]; exact ho), by rw [List.foldl_append, ← h.eq]; rfl⟩
theorem vask_over {o : Vop} (h : o.out ≠ 0) : (vaskOf o).over = true := by unfold vaskOf; rw [if_pos h]; rfl
theorem vask_out (o : Vop) : (vaskOf o).over = (o.out != 0) ∧ (vaskOf o).out = o.out := by
  unfold vaskOf
  by_cases h : o.out = 0
  · rw [if_neg (by rw [h]; decide), h]
    (repeat' split) <;> exact ⟨rfl, rfl⟩
  · rw [if_pos h]
    exact ⟨by simp [wOver, h], rfl⟩
theorem vask_go {b n x y : Int} {o : Vop} {len : Nat} (hg : VGood b n x y o) (h : o.out = 0) (b0 : 0 ≤ b) (hi : b + n * n ≤ len) : (vaskOf o).over = false ∧ ((vaskOf o).what = 1 ∨ (vaskOf o).what = 2 ∨ (vaskOf o).what = 3) ∧ 0 ≤ (vaskOf o).cell ∧ (vaskOf o).cell < len := by
  have w0 := (hg.ok b0 hi).c0 h
  have w1 := (hg.ok b0 hi).c1 h
  unfold vaskOf
  rw [if_neg (by rw [h]; decide)]
  (repeat' split) <;> exact ⟨rfl, by simp [wLoad, wSwap], by simp only [wLoad, wSwap]; omega, by simp only [wLoad, wSwap]; omega⟩
section
variable {w : World} {vb bm bc : Nat} {base n tc : Int} {L : List Int}
theorem begun19_any (kind x y : Int) (he : VE w vb bm bc base n tc L) (k1 : 1 ≤ kind) (k3 : kind ≤ 3) :
    Calls Try.prog 50 #[.pointer (some ⟨vb, 0, none⟩), .int .i64 kind, .int .i64 x, .int .i64 y] w fun e w' =>
      ∃ bo, e = .returned (.pointer (some ⟨bo, 0, none⟩)) ∧ VopIs w' bo bm (vbegin base n kind x y) ∧ VE w' vb bm bc base n tc L ∧ Only S0 w w' ∧ w.heap.size ≤ bo := by
  have HE := hide he
  clear he
  have hk : kind = 1 ∨ kind = 2 ∨ kind = 3 := by omega
  clear k1 k3
  rcases hk with rfl | rfl | rfl
  · go_enter Try.func50, Try.ntmps50
    go_wp2_with fail
    refine (VWatch_all x y HE.out).mono ?_
    rintro e w1 ⟨bo, rfl, h1, h2, h3, h4⟩
    have H1 := hide h1
    have H2 := hide h2
    have H3 := hide h3
    clear h1 h2 h3
    go_wp2_with fail
    go_ret
    exact ⟨_, rfl, H1.out, H2.out, H3.out, h4⟩
  · go_enter Try.func50, Try.ntmps50
    go_wp2_with fail
    refine (VUnwatch_all x y HE.out).mono ?_
    rintro e w1 ⟨bo, rfl, h1, h2, h3, h4⟩
    have H1 := hide h1
    have H2 := hide h2
    have H3 := hide h3
    clear h1 h2 h3
    go_wp2_with fail
    go_ret
    exact ⟨_, rfl, H1.out, H2.out, H3.out, h4⟩
  · go_enter Try.func50, Try.ntmps50
    go_wp2_with fail
    refine (VClaim_all x y HE.out).mono ?_
    rintro e w1 ⟨bo, rfl, h1, h2, h3, h4⟩
    have H1 := hide h1
    have H2 := hide h2
    have H3 := hide h3
    clear h1 h2 h3
    go_wp2_with fail
    go_ret
    exact ⟨_, rfl, H1.out, H2.out, H3.out, h4⟩
end
/-- The blocks that stay. -/
structure VFix where
  B0 : Nat
  gat : Nat
  bb : Nat
  bm : Nat
  bc : Nat
  rm : Nat
  rc : Nat
  go : Nat
  gr : Nat
  b : Nat
  n : Nat
structure VFix.Ok (F : VFix) (B : Nat) : Prop where
  bm : F.bm < F.B0
  bc : F.bc < F.B0
  rm : F.rm < F.B0
  rc : F.rc < F.B0
  go : F.go < F.B0
  gr : F.gr < F.B0
  bb : F.bb < F.B0
  gat : F.gat < F.B0
  ne : F.bc ≠ F.rc
  bm0 : B ≤ F.bm
  bc0 : B ≤ F.bc
  rm0 : B ≤ F.rm
  rc0 : B ≤ F.rc
  go0 : B ≤ F.go
  gr0 : B ≤ F.gr
  le : B ≤ F.B0
  n1 : 1 ≤ F.n
  n5 : F.n ≤ 5
  b5 : F.b ≤ 5
structure VSt (F : VFix) (w0 w : World) (act : Nat → Bool) (bo : Nat → Nat) (o : Nat → Vop) (r : Nat → Ref4) (l : Nat → List Int) (L : List Int) (tc tcr : Int) (i : Nat) : Prop where
  fam : OFam (fun w b o => VopIs w b F.bm o) w F.B0 5 act bo o
  ops : Blk w F.go 47 (optrs 5 act bo)
  refs : Blk w F.gr 91 (refs4 5 r)
  env : VE w F.bb F.bm F.bc F.b F.n tc L
  ref : RefAt w F.rm F.rc L tcr
  atb : Blk w F.gat 85 #[.int .i64 F.b, .int .i64 F.n]
  logs : ∀ t, t < 5 → LogIs w F.B0 (r t).lv (l t) ∧ (l t).length ≤ i
  thr : ∀ t, t < 5 → act t = true → VThr F.b F.n (o t) (r t).kind (r t).X (r t).Y (l t)
  only : Only S0 w0 w
  le : F.B0 ≤ w.heap.size
  tcb : tc ≤ 1000 + i
  tcrb : tcr ≤ 1000 + i
section
variable {F : VFix} {w0 w w' : World} {act : Nat → Bool} {bo : Nat → Nat} {o : Nat → Vop} {r : Nat → Ref4} {l : Nat → List Int} {L : List Int} {tc tcr : Int} {i : Nat}
theorem VSt.only0 (h : VSt F w0 w act bo o r l L tc tcr i) (ho : Only S0 w w') : VSt F w0 w' act bo o r l L tc tcr i :=
  ⟨h.fam.only0 (vop_stays F.bm) ho, h.ops.only ho (fun h => h), h.refs.only ho (fun h => h), h.env.only0 ho, h.ref.only0 ho, h.atb.only ho (fun h => h),
    fun t ht => ⟨(h.logs t ht).1.only0 ho, (h.logs t ht).2⟩, h.thr, h.only.trans ho, Nat.le_trans h.le ho.size, h.tcb, h.tcrb⟩
theorem VSt.more (h : VSt F w0 w act bo o r l L tc tcr i) : VSt F w0 w act bo o r l L tc tcr (i + 1) :=
  ⟨h.fam, h.ops, h.refs, h.env, h.ref, h.atb, fun t ht => ⟨(h.logs t ht).1, by have := (h.logs t ht).2; omega⟩, h.thr, h.only, h.le, by have := h.tcb; omega, by have := h.tcrb; omega⟩
/-- A thread begins an operation: w1 is the world behind the call, then the tables are written. -/
theorem VSt.begin_ (hF : F.Ok w0.heap.size) (h : VSt F w0 w act bo o r l L tc tcr i) {w1 : World} {t b : Nat} {x : Vop} {kind X Y : Int} (ht : t < 5) (ho : Only S0 w w1) (hx : VopIs w1 b F.bm x) (hb : w.heap.size ≤ b) (hth : VThr F.b F.n x kind X Y []) :
    VSt F w0 (((((w1.setCell ⟨F.go, t, none⟩ (.pointer (some ⟨b, 0, none⟩))).setCell ⟨F.gr, t * 4, none⟩ (.int .i64 kind)).setCell ⟨F.gr, t * 4 + 1, none⟩ (.int .i64 X)).setCell ⟨F.gr, t * 4 + 2, none⟩ (.int .i64 Y)).setCell ⟨F.gr, t * 4 + 3, none⟩ (.slice none 0 0))
      (upd act t true) (upd bo t b) (upd o t x) (upd r t ⟨kind, X, Y, .slice none 0 0⟩) (upd l t []) L tc tcr i := by
  have h1 := h.only0 ho
  have hg := hF.go
  have hr := hF.gr
  have hgr : F.go ≠ F.gr := h1.ops.ne_ h1.refs (by decide)
  have o1 := (((((Only.refl (S2 F.go F.gr) w1).set1 t (.inl rfl) (.pointer (some ⟨b, 0, none⟩))).set1 (t * 4) (.inr rfl) (.int .i64 kind)).set1 (t * 4 + 1) (.inr rfl) (.int .i64 X)).set1 (t * 4 + 2) (.inr rfl) (.int .i64 Y)).set1 (t * 4 + 3) (.inr rfl) (.slice none 0 0)
  have hne : ∀ k, k ≠ F.go → k ≠ F.gr → ¬ S2 F.go F.gr k := fun k h1 h2 h3 => by unfold S2 at h3; omega
  have hfam := h.fam.begin_ (vop_stays F.bm) ht ho h.le hx hb (Blk.lt hx)
  refine ⟨hfam.only (vop_stays F.bm) o1 (fun s hs ha => hne _ (Blk.ne_ (hfam.at_ s hs ha) h1.ops (by decide)) (Blk.ne_ (hfam.at_ s hs ha) h1.refs (by decide))), ?_, ?_,
    h1.env.only o1 (hne _ (h1.env.vig.ne_ h1.ops (by decide)) (h1.env.vig.ne_ h1.refs (by decide))) (hne _ (h1.env.mem.mem.ne_ h1.ops (by decide)) (h1.env.mem.mem.ne_ h1.refs (by decide))) (hne _ (h1.env.mem.cells.ne_ h1.ops (by decide)) (h1.env.mem.cells.ne_ h1.refs (by decide))),
    h1.ref.only o1 (hne _ (h1.ref.mem.ne_ h1.ops (by decide)) (h1.ref.mem.ne_ h1.refs (by decide))) (hne _ (h1.ref.cells.ne_ h1.ops (by decide)) (h1.ref.cells.ne_ h1.refs (by decide))),
    h1.atb.only o1 (hne _ (h1.atb.ne_ h1.ops (by decide)) (h1.atb.ne_ h1.refs (by decide))), fun s hs => ?_, fun s hs ha => ?_, ?_, Nat.le_trans h1.le o1.size, h1.tcb, h1.tcrb⟩
  · have e := (h1.ops.set_ t (.pointer (some ⟨b, 0, none⟩)))
    rw [optrs_set] at e
    exact (((e.far (p := ⟨F.gr, t * 4, none⟩) hgr _).far (p := ⟨F.gr, t * 4 + 1, none⟩) hgr _).far (p := ⟨F.gr, t * 4 + 2, none⟩) hgr _).far (p := ⟨F.gr, t * 4 + 3, none⟩) hgr _
  · exact (h1.refs.far (p := ⟨F.go, t, none⟩) (Ne.symm hgr) (.pointer (some ⟨b, 0, none⟩))).set4 ⟨kind, X, Y, .slice none 0 0⟩
  · by_cases e : s = t
    · subst e
      rw [upd_same, upd_same]
      exact ⟨⟨LogAt.nil _ _, fun _ => rfl⟩, Nat.zero_le _⟩
    · rw [upd_ne _ _ e, upd_ne _ _ e]
      exact ⟨(h1.logs s hs).1.only o1 (fun g hg1 _ => .inl (hne g (by omega) (by omega))), (h1.logs s hs).2⟩
  · by_cases e : s = t
    · subst e
      rw [upd_same, upd_same, upd_same]
      exact hth
    · rw [upd_ne _ _ e] at ha
      rw [upd_ne _ _ e, upd_ne _ _ e, upd_ne _ _ e]
      exact h1.thr s hs ha
  · have := hF.go0
    have := hF.gr0
    exact ((((h1.only.setNew t (by omega) _).setNew (t * 4) (by omega) _).setNew (t * 4 + 1) (by omega) _).setNew (t * 4 + 2) (by omega) _).setNew (t * 4 + 3) (by omega) _
/-- What stands behind the program's step and the document's, before the table is written. -/
theorem VSt.mid (hF : F.Ok w0.heap.size) (h : VSt F w0 w act bo o r l L tc tcr i) {w1 : World} {t : Nat} (ht : t < 5) (ha : act t = true) (ho1 : Only (S3 (bo t) F.bm F.bc) w w1) :
    Blk w1 F.go 47 (optrs 5 act bo) ∧ Blk w1 F.gr 91 (refs4 5 r) ∧ RefAt w1 F.rm F.rc L tcr ∧ Blk w1 F.gat 85 #[.int .i64 F.b, .int .i64 F.n] ∧ (∀ s, s < 5 → LogIs w1 F.B0 (r s).lv (l s)) ∧ Only S0 w0 w1 ∧ F.B0 ≤ w1.heap.size := by
  have hp := h.fam.at_ t ht ha
  have hge := h.fam.ge t ht ha
  have hb1 := hF.bm
  have hb2 := hF.bc
  have hb3 := hF.rm
  have hb4 := hF.rc
  have hb0 := hF.bm0
  have hc0 := hF.bc0
  have hle := hF.le
  have hS : ∀ k, k < F.B0 → k ≠ F.bm → k ≠ F.bc → ¬ S3 (bo t) F.bm F.bc k := fun k h1 h2 h3 h4 => by unfold S3 at h4; omega
  refine ⟨h.ops.only ho1 (hS _ hF.go (h.ops.ne_ h.env.mem.mem (by decide)) (h.ops.ne_ h.env.mem.cells (by decide))), h.refs.only ho1 (hS _ hF.gr (h.refs.ne_ h.env.mem.mem (by decide)) (h.refs.ne_ h.env.mem.cells (by decide))),
    h.ref.only ho1 (hS _ hF.rm (h.ref.mem.ne_ h.env.mem.mem (by decide)) (h.ref.mem.ne_ h.env.mem.cells (by decide))) (hS _ hF.rc (h.ref.cells.ne_ h.env.mem.mem (by decide)) (fun e => hF.ne e.symm)),
    h.atb.only ho1 (hS _ hF.gat (h.atb.ne_ h.env.mem.mem (by decide)) (h.atb.ne_ h.env.mem.cells (by decide))), fun s hs => ?_, S0.then3 h.only ho1 (by omega) hb0 hc0, Nat.le_trans h.le ho1.size⟩
  refine (h.logs s hs).1.only ho1 fun g hg1 hg2 => ?_
  by_cases e : g = bo t
  · subst e
    exact .inr ⟨_, _, hp, by decide⟩
  · exact .inl (fun h4 => by unfold S3 at h4; omega)
theorem VSt.step_ (hF : F.Ok w0.heap.size) (h : VSt F w0 w act bo o r l L tc tcr i) {w1 w2 : World} {t : Nat} {o' : Vop} {kind X Y tc' tcr' : Int} {l' L' : List Int} {lv' : Value} (ht : t < 5) (ha : act t = true) (ho1 : Only (S3 (bo t) F.bm F.bc) w w1) (hx : VopIs w1 (bo t) F.bm o')
    (henv : VE w1 F.bb F.bm F.bc F.b F.n tc' L') (ho2 : Only (S2 F.rm F.rc) w1 w2) (href : RefAt w2 F.rm F.rc L' tcr') (hlog : LogIs w2 F.B0 lv' l') (hlen : l'.length ≤ i + 1) (hth : VThr F.b F.n o' kind X Y l') (htc : tc' ≤ tc + 1) (htcr : tcr' ≤ tcr + 1) :
    VSt F w0 ((((w2.setCell ⟨F.gr, t * 4, none⟩ (.int .i64 kind)).setCell ⟨F.gr, t * 4 + 1, none⟩ (.int .i64 X)).setCell ⟨F.gr, t * 4 + 2, none⟩ (.int .i64 Y)).setCell ⟨F.gr, t * 4 + 3, none⟩ lv')
      act bo (upd o t o') (upd r t ⟨kind, X, Y, lv'⟩) (upd l t l') L' tc' tcr' (i + 1) := by
  obtain ⟨m1, m2, m3, m4, m5, m6, m7⟩ := h.mid hF ht ha ho1
  have hge := h.fam.ge t ht ha
  have hb1 := hF.bm
  have hb2 := hF.bc
  have hb3 := hF.rm
  have hb4 := hF.rc
  have hgo := hF.go
  have hgr := hF.gr
  have hR : ∀ k, k ≠ F.rm → k ≠ F.rc → ¬ S2 F.rm F.rc k := fun k h1 h2 h3 => by unfold S2 at h3; omega
  have fam1 := h.fam.step (vop_stays F.bm) ht ho1 (fun s hs has hst h4 => by
    rcases h4 with h4 | h4 | h4
    · exact h.fam.ne s t hs ht has ha hst h4
    · have := h.fam.ge s hs has; omega
    · have := h.fam.ge s hs has; omega) hx
  have fam2 := fam1.only (vop_stays F.bm) ho2 (fun s hs has => hR _ (by have := fam1.ge s hs has; omega) (by have := fam1.ge s hs has; omega))
  have ops2 := m1.only ho2 (hR _ (m1.ne_ m3.mem (by decide)) (m1.ne_ m3.cells (by decide)))
  have refs2 := m2.only ho2 (hR _ (m2.ne_ m3.mem (by decide)) (m2.ne_ m3.cells (by decide)))
  have env2 := henv.only ho2 (hR _ (henv.vig.ne_ m3.mem (by decide)) (henv.vig.ne_ m3.cells (by decide))) (hR _ (henv.mem.mem.ne_ m3.mem (by decide)) (henv.mem.mem.ne_ m3.cells (by decide))) (hR _ (henv.mem.cells.ne_ m3.mem (by decide)) hF.ne)
  have atb2 := m4.only ho2 (hR _ (m4.ne_ m3.mem (by decide)) (m4.ne_ m3.cells (by decide)))
  have logs2 : ∀ s, s < 5 → LogIs w2 F.B0 (r s).lv (l s) := fun s hs => (m5 s hs).only ho2 fun g hg1 _ => .inl (hR g (by omega) (by omega))
  have o3 := (((((Only.refl (S1 F.gr) w2).set1 (t * 4) rfl (.int .i64 kind)).set1 (t * 4 + 1) rfl (.int .i64 X)).set1 (t * 4 + 2) rfl (.int .i64 Y)).set1 (t * 4 + 3) rfl lv')
  have hg3 : ∀ k, k ≠ F.gr → ¬ S1 F.gr k := fun k h1 h2 => h1 h2
  refine ⟨fam2.only (vop_stays F.bm) o3 (fun s hs has => hg3 _ (by have := fam2.ge s hs has; omega)), ops2.only o3 (hg3 _ (ops2.ne_ refs2 (by decide))), refs2.set4 ⟨kind, X, Y, lv'⟩,
    env2.only o3 (hg3 _ (env2.vig.ne_ refs2 (by decide))) (hg3 _ (env2.mem.mem.ne_ refs2 (by decide))) (hg3 _ (env2.mem.cells.ne_ refs2 (by decide))),
    href.only o3 (hg3 _ (href.mem.ne_ refs2 (by decide))) (hg3 _ (href.cells.ne_ refs2 (by decide))), atb2.only o3 (hg3 _ (atb2.ne_ refs2 (by decide))), fun s hs => ?_, fun s hs has => ?_, ?_, Nat.le_trans (Nat.le_trans m7 ho2.size) o3.size, by have := h.tcb; omega, by have := h.tcrb; omega⟩
  · by_cases e : s = t
    · subst e
      rw [upd_same, upd_same]
      exact ⟨hlog.only o3 (fun g hg1 _ => .inl (hg3 g (by omega))), hlen⟩
    · rw [upd_ne _ _ e, upd_ne _ _ e]
      exact ⟨(logs2 s hs).only o3 (fun g hg1 _ => .inl (hg3 g (by omega))), by have := (h.logs s hs).2; omega⟩
  · by_cases e : s = t
    · subst e
      rw [upd_same, upd_same, upd_same]
      exact hth
    · rw [upd_ne _ _ e, upd_ne _ _ e, upd_ne _ _ e]
      exact h.thr s hs has
  · have h1 := hF.rm0
    have h2 := hF.rc0
    have h3 := hF.gr0
    exact ((((S0.then2 m6 ho2 h1 h2).setNew (t * 4) h3 _).setNew (t * 4 + 1) h3 _).setNew (t * 4 + 2) h3 _).setNew (t * 4 + 3) h3 _
end
end Go.Proofs.Ytafnlmkhfonghaa
