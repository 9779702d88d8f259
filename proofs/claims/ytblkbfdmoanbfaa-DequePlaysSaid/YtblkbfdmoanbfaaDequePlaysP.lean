/-
  DequePlays: what holds between two lines of the script.
-/
import Derived.Test.YtblkbfdmoanbfaaDeqLike
import Derived.Test.YtblkbfdmoanbfaaOpen
namespace Go.Proofs.Ytblkbfdmoanbfaa
open Go.RowKit
set_option linter.unusedVariables false

theorem dans_ok {n : Int} {o : Dop} (h : DopOk o) {x : Int} (hx : U64 x) : DopOk (dans n o x) := by
  obtain ⟨h1, h2, h3, h4⟩ := h
  have q7 : 1 ≤ (if IntKind.u64.wrap (o.b - 1) < x then (10 : Int) else 8) ∧ (if IntKind.u64.wrap (o.b - 1) < x then (10 : Int) else 8) ≤ 14 := by split <;> decide
  unfold dans
  split
  · exact ⟨h1, h2, h3, h4⟩
  split
  · unfold dansPush; (repeat' split) <;> first | exact ⟨by simp, h2, h3, hx⟩ | exact ⟨by simp, h2, hx, h4⟩ | exact ⟨by simp, h2, h3, h4⟩ | exact ⟨h1, u64_zero, h3, h4⟩
  split
  · unfold dansPop
    split
    · exact ⟨by simp, h2, h3, hx⟩
    split
    · exact ⟨by simp, h2, h3, h4⟩
    split
    · exact ⟨q7, h2, hx, h4⟩
    split
    · exact ⟨by simp, hx, h3, h4⟩
    split
    · exact ⟨by simp, h2, h3, h4⟩
    · exact ⟨h1, h2, h3, h4⟩
  · unfold dansSteal; (repeat' split) <;> first | exact ⟨by simp, h2, hx, h4⟩ | exact ⟨by simp, h2, h3, hx⟩ | exact ⟨by simp, hx, h3, h4⟩ | exact ⟨h1, h2, h3, h4⟩
theorem dfold_ok {n : Int} : ∀ (l : List Int) (o : Dop), DopOk o → AllU l → DopOk (l.foldl (dans n) o)
  | [], o, h, _ => h
  | x :: l, o, h, hu => dfold_ok l _ (dans_ok h (hu x (by simp))) (fun y hy => hu y (by simp [hy]))
theorem dbegin_ok {kind V : Int} (hV : U64 V) : DopOk (dbegin kind V) := by
  unfold dbegin
  split
  · exact pushOp_ok hV
  split
  · exact popOp_ok
  · exact stealOp_ok
theorem DThr.ok {n : Int} {o : Dop} {kind V : Int} {l : List Int} (h : DThr n o kind V l) : DopOk o := by
  rw [h.eq]
  exact dfold_ok l _ (dbegin_ok h.uV) h.u
theorem begun4_any {w : World} {bd bm bc : Nat} {base n tc : Int} {L : List Int} (k x : Int) (he : DeqEnv w bd bm bc base n tc L) : Calls Try.prog 30 #[.pointer (some ⟨bd, 0, none⟩), .int .i64 k, .int .u64 x] w fun e w' =>
    ∃ bo, e = .returned (.pointer (some ⟨bo, 0, none⟩)) ∧ DopIs w' bo bd (dbegin k x) ∧ DeqEnv w' bd bm bc base n tc L ∧ Only S0 w w' ∧ w.heap.size ≤ bo := by
  have HE := hide he
  clear he
  by_cases h1 : k = 1
  · subst h1
    go_enter Try.func30, Try.ntmps30
    go_wp2_with fail
    refine (DPush_all HE.out x).mono ?_
    rintro e w' ⟨bo, rfl, g, e', o, b⟩
    have G := hide (And.intro g (And.intro e' (And.intro o b)))
    clear g e' o b
    go_wp2_with fail
    go_ret
    exact ⟨bo, rfl, G.out⟩
  · have hb1 : (k == 1) = false := by simp [h1]
    by_cases h2 : k = 2
    · subst h2
      have HD := hide (show dbegin 2 x = popOp from by simp [dbegin])
      clear h1
      go_enter Try.func30, Try.ntmps30
      go_wp2_with fail
      refine (DPop_all HE.out).mono ?_
      rintro e w' ⟨bo, rfl, g, e', o, b⟩
      have G := hide (And.intro g (And.intro e' (And.intro o b)))
      clear g e' o b
      go_wp2_with fail
      go_ret
      rw [HD.out]
      exact ⟨bo, rfl, G.out⟩
    · have hb2 : (k == 2) = false := by simp [h2]
      have HD := hide (show dbegin k x = stealOp from by simp [dbegin, h1, h2])
      clear h1 h2
      go_enter Try.func30, Try.ntmps30
      go_wp2_with fail
      refine (DSteal_all HE.out).mono ?_
      rintro e w' ⟨bo, rfl, g, e', o, b⟩
      have G := hide (And.intro g (And.intro e' (And.intro o b)))
      clear g e' o b
      go_wp2_with fail
      go_ret
      rw [HD.out]
      exact ⟨bo, rfl, G.out⟩
/-- The blocks that stay. -/
structure DFix where
  B0 : Nat
  gat : Nat
  bb : Nat
  bm : Nat
  bc : Nat
  rm : Nat
  rc : Nat
  go : Nat
  gr : Nat
  b : Nat
  n : Nat
structure DFix.Ok (F : DFix) (B : Nat) : Prop where
  bm : F.bm < F.B0
  bc : F.bc < F.B0
  rm : F.rm < F.B0
  rc : F.rc < F.B0
  go : F.go < F.B0
  gr : F.gr < F.B0
  bb : F.bb < F.B0
  gat : F.gat < F.B0
  ne : F.bc ≠ F.rc
  bm0 : B ≤ F.bm
  bc0 : B ≤ F.bc
  rm0 : B ≤ F.rm
  rc0 : B ≤ F.rc
  go0 : B ≤ F.go
  gr0 : B ≤ F.gr
  le : B ≤ F.B0
  n1 : 1 ≤ F.n
  n9 : F.n ≤ 9
  b5 : F.b ≤ 5
structure DSt (F : DFix) (w0 w : World) (act : Nat → Bool) (bo : Nat → Nat) (o : Nat → Dop) (r : Nat → Ref) (l : Nat → List Int) (L : List Int) (tc tcr : Int) (i : Nat) : Prop where
  fam : OFam (fun w b o => DopIs w b F.bb o) w F.B0 5 act bo o
  ops : Blk w F.go 47 (optrs 5 act bo)
  refs : Blk w F.gr 69 (refs3 5 r)
  env : DeqEnv w F.bb F.bm F.bc F.b F.n tc L
  ref : RefAt w F.rm F.rc L tcr
  atb : Blk w F.gat 42 #[.int .i64 F.b, .int .i64 F.n]
  logs : ∀ t, t < 5 → LogIs w F.B0 (r t).lv (l t) ∧ (l t).length ≤ i
  thr : ∀ t, t < 5 → act t = true → DThr F.n (o t) (r t).kind (r t).V (l t)
  only : Only S0 w0 w
  le : F.B0 ≤ w.heap.size
  tcb : tc ≤ 1000 + i
  tcrb : tcr ≤ 1000 + i
section
variable {F : DFix} {w0 w w' : World} {act : Nat → Bool} {bo : Nat → Nat} {o : Nat → Dop} {r : Nat → Ref} {l : Nat → List Int} {L : List Int} {tc tcr : Int} {i : Nat}
theorem DSt.only0 (h : DSt F w0 w act bo o r l L tc tcr i) (ho : Only S0 w w') : DSt F w0 w' act bo o r l L tc tcr i :=
  ⟨h.fam.only0 (dop_stays F.bb) ho, h.ops.only ho (fun h => h), h.refs.only ho (fun h => h), h.env.only0 ho, h.ref.only0 ho, h.atb.only ho (fun h => h),
    fun t ht => ⟨(h.logs t ht).1.only0 ho, (h.logs t ht).2⟩, h.thr, h.only.trans ho, Nat.le_trans h.le ho.size, h.tcb, h.tcrb⟩
theorem DSt.more (h : DSt F w0 w act bo o r l L tc tcr i) : DSt F w0 w act bo o r l L tc tcr (i + 1) :=
  ⟨h.fam, h.ops, h.refs, h.env, h.ref, h.atb, fun t ht => ⟨(h.logs t ht).1, by have := (h.logs t ht).2; omega⟩, h.thr, h.only, h.le, by have := h.tcb; omega, by have := h.tcrb; omega⟩
/-- A thread begins an operation: w1 is the world behind the call, then the tables are written. -/
theorem DSt.begin_ (hF : F.Ok w0.heap.size) (h : DSt F w0 w act bo o r l L tc tcr i) {w1 : World} {t b : Nat} {x : Dop} {kind V : Int} (ht : t < 5) (ho : Only S0 w w1) (hx : DopIs w1 b F.bb x) (hb : w.heap.size ≤ b) (hth : DThr F.n x kind V []) :
    DSt F w0 ((((w1.setCell ⟨F.go, t, none⟩ (.pointer (some ⟨b, 0, none⟩))).setCell ⟨F.gr, t * 3, none⟩ (.int .i64 kind)).setCell ⟨F.gr, t * 3 + 1, none⟩ (.int .u64 V)).setCell ⟨F.gr, t * 3 + 2, none⟩ (.slice none 0 0))
      (upd act t true) (upd bo t b) (upd o t x) (upd r t ⟨kind, V, .slice none 0 0⟩) (upd l t []) L tc tcr i := by
  have h1 := h.only0 ho
  have hg := hF.go
  have hr := hF.gr
  have hgr : F.go ≠ F.gr := h1.ops.ne_ h1.refs (by decide)
  have o1 := ((((Only.refl (S2 F.go F.gr) w1).set1 t (.inl rfl) (.pointer (some ⟨b, 0, none⟩))).set1 (t * 3) (.inr rfl) (.int .i64 kind)).set1 (t * 3 + 1) (.inr rfl) (.int .u64 V)).set1 (t * 3 + 2) (.inr rfl) (.slice none 0 0)
  have hne : ∀ k, k ≠ F.go → k ≠ F.gr → ¬ S2 F.go F.gr k := fun k h1 h2 h3 => by unfold S2 at h3; omega
  have hfam := h.fam.begin_ (dop_stays F.bb) ht ho h.le hx hb (Blk.lt hx)
  refine ⟨hfam.only (dop_stays F.bb) o1 (fun s hs ha => hne _ (Blk.ne_ (hfam.at_ s hs ha) h1.ops (by decide)) (Blk.ne_ (hfam.at_ s hs ha) h1.refs (by decide))), ?_, ?_,
    h1.env.only o1 (hne _ (h1.env.deq.ne_ h1.ops (by decide)) (h1.env.deq.ne_ h1.refs (by decide))) (hne _ (h1.env.mem.mem.ne_ h1.ops (by decide)) (h1.env.mem.mem.ne_ h1.refs (by decide))) (hne _ (h1.env.mem.cells.ne_ h1.ops (by decide)) (h1.env.mem.cells.ne_ h1.refs (by decide))),
    h1.ref.only o1 (hne _ (h1.ref.mem.ne_ h1.ops (by decide)) (h1.ref.mem.ne_ h1.refs (by decide))) (hne _ (h1.ref.cells.ne_ h1.ops (by decide)) (h1.ref.cells.ne_ h1.refs (by decide))),
    h1.atb.only o1 (hne _ (h1.atb.ne_ h1.ops (by decide)) (h1.atb.ne_ h1.refs (by decide))), fun s hs => ?_, fun s hs ha => ?_, ?_, Nat.le_trans h1.le o1.size, h1.tcb, h1.tcrb⟩
  · have e := (h1.ops.set_ t (.pointer (some ⟨b, 0, none⟩)))
    rw [optrs_set] at e
    exact ((e.far (p := ⟨F.gr, t * 3, none⟩) hgr _).far (p := ⟨F.gr, t * 3 + 1, none⟩) hgr _).far (p := ⟨F.gr, t * 3 + 2, none⟩) hgr _
  · exact (h1.refs.far (p := ⟨F.go, t, none⟩) (Ne.symm hgr) (.pointer (some ⟨b, 0, none⟩))).set3 ⟨kind, V, .slice none 0 0⟩
  · by_cases e : s = t
    · subst e
      rw [upd_same, upd_same]
      exact ⟨⟨LogAt.nil _ _, fun _ => rfl⟩, Nat.zero_le _⟩
    · rw [upd_ne _ _ e, upd_ne _ _ e]
      exact ⟨(h1.logs s hs).1.only o1 (fun g hg1 _ => .inl (hne g (by omega) (by omega))), (h1.logs s hs).2⟩
  · by_cases e : s = t
    · subst e
      rw [upd_same, upd_same, upd_same]
      exact hth
    · rw [upd_ne _ _ e] at ha
      rw [upd_ne _ _ e, upd_ne _ _ e, upd_ne _ _ e]
      exact h1.thr s hs ha
  · have := hF.go0
    have := hF.gr0
    exact (((h1.only.setNew t (by omega) _).setNew (t * 3) (by omega) _).setNew (t * 3 + 1) (by omega) _).setNew (t * 3 + 2) (by omega) _
/-- What stands behind the program's step and the document's, before the table is written. -/
theorem DSt.mid (hF : F.Ok w0.heap.size) (h : DSt F w0 w act bo o r l L tc tcr i) {w1 : World} {t : Nat} (ht : t < 5) (ha : act t = true) (ho1 : Only (S3 (bo t) F.bm F.bc) w w1) :
    Blk w1 F.go 47 (optrs 5 act bo) ∧ Blk w1 F.gr 69 (refs3 5 r) ∧ RefAt w1 F.rm F.rc L tcr ∧ Blk w1 F.gat 42 #[.int .i64 F.b, .int .i64 F.n] ∧ (∀ s, s < 5 → LogIs w1 F.B0 (r s).lv (l s)) ∧ Only S0 w0 w1 ∧ F.B0 ≤ w1.heap.size := by
  have hp := h.fam.at_ t ht ha
  have hge := h.fam.ge t ht ha
  have hb1 := hF.bm
  have hb2 := hF.bc
  have hb3 := hF.rm
  have hb4 := hF.rc
  have hb0 := hF.bm0
  have hc0 := hF.bc0
  have hle := hF.le
  have hS : ∀ k, k < F.B0 → k ≠ F.bm → k ≠ F.bc → ¬ S3 (bo t) F.bm F.bc k := fun k h1 h2 h3 h4 => by unfold S3 at h4; omega
  refine ⟨h.ops.only ho1 (hS _ hF.go (h.ops.ne_ h.env.mem.mem (by decide)) (h.ops.ne_ h.env.mem.cells (by decide))), h.refs.only ho1 (hS _ hF.gr (h.refs.ne_ h.env.mem.mem (by decide)) (h.refs.ne_ h.env.mem.cells (by decide))),
    h.ref.only ho1 (hS _ hF.rm (h.ref.mem.ne_ h.env.mem.mem (by decide)) (h.ref.mem.ne_ h.env.mem.cells (by decide))) (hS _ hF.rc (h.ref.cells.ne_ h.env.mem.mem (by decide)) (fun e => hF.ne e.symm)),
    h.atb.only ho1 (hS _ hF.gat (h.atb.ne_ h.env.mem.mem (by decide)) (h.atb.ne_ h.env.mem.cells (by decide))), fun s hs => ?_, S0.then3 h.only ho1 (by omega) hb0 hc0, Nat.le_trans h.le ho1.size⟩
  refine (h.logs s hs).1.only ho1 fun g hg1 hg2 => ?_
  by_cases e : g = bo t
  · subst e
    exact .inr ⟨_, _, hp, by decide⟩
  · exact .inl (fun h4 => by unfold S3 at h4; omega)
theorem DSt.step_ (hF : F.Ok w0.heap.size) (h : DSt F w0 w act bo o r l L tc tcr i) {w1 w2 : World} {t : Nat} {o' : Dop} {kind V tc' tcr' : Int} {l' L' : List Int} {lv' : Value} (ht : t < 5) (ha : act t = true) (ho1 : Only (S3 (bo t) F.bm F.bc) w w1) (hx : DopIs w1 (bo t) F.bb o')
    (henv : DeqEnv w1 F.bb F.bm F.bc F.b F.n tc' L') (ho2 : Only (S2 F.rm F.rc) w1 w2) (href : RefAt w2 F.rm F.rc L' tcr') (hlog : LogIs w2 F.B0 lv' l') (hlen : l'.length ≤ i + 1) (hth : DThr F.n o' kind V l') (htc : tc' ≤ tc + 1) (htcr : tcr' ≤ tcr + 1) :
    DSt F w0 (((w2.setCell ⟨F.gr, t * 3, none⟩ (.int .i64 kind)).setCell ⟨F.gr, t * 3 + 1, none⟩ (.int .u64 V)).setCell ⟨F.gr, t * 3 + 2, none⟩ lv')
      act bo (upd o t o') (upd r t ⟨kind, V, lv'⟩) (upd l t l') L' tc' tcr' (i + 1) := by
  obtain ⟨m1, m2, m3, m4, m5, m6, m7⟩ := h.mid hF ht ha ho1
  have hge := h.fam.ge t ht ha
  have hb1 := hF.bm
  have hb2 := hF.bc
  have hb3 := hF.rm
  have hb4 := hF.rc
  have hgo := hF.go
  have hgr := hF.gr
  have hR : ∀ k, k ≠ F.rm → k ≠ F.rc → ¬ S2 F.rm F.rc k := fun k h1 h2 h3 => by unfold S2 at h3; omega
  have fam1 := h.fam.step (dop_stays F.bb) ht ho1 (fun s hs has hst h4 => by
    rcases h4 with h4 | h4 | h4
    · exact h.fam.ne s t hs ht has ha hst h4
    · have := h.fam.ge s hs has; omega
    · have := h.fam.ge s hs has; omega) hx
  have fam2 := fam1.only (dop_stays F.bb) ho2 (fun s hs has => hR _ (by have := fam1.ge s hs has; omega) (by have := fam1.ge s hs has; omega))
  have ops2 := m1.only ho2 (hR _ (m1.ne_ m3.mem (by decide)) (m1.ne_ m3.cells (by decide)))
  have refs2 := m2.only ho2 (hR _ (m2.ne_ m3.mem (by decide)) (m2.ne_ m3.cells (by decide)))
  have env2 := henv.only ho2 (hR _ (henv.deq.ne_ m3.mem (by decide)) (henv.deq.ne_ m3.cells (by decide))) (hR _ (henv.mem.mem.ne_ m3.mem (by decide)) (henv.mem.mem.ne_ m3.cells (by decide))) (hR _ (henv.mem.cells.ne_ m3.mem (by decide)) hF.ne)
  have atb2 := m4.only ho2 (hR _ (m4.ne_ m3.mem (by decide)) (m4.ne_ m3.cells (by decide)))
  have logs2 : ∀ s, s < 5 → LogIs w2 F.B0 (r s).lv (l s) := fun s hs => (m5 s hs).only ho2 fun g hg1 _ => .inl (hR g (by omega) (by omega))
  have o3 := ((((Only.refl (S1 F.gr) w2).set1 (t * 3) rfl (.int .i64 kind)).set1 (t * 3 + 1) rfl (.int .u64 V)).set1 (t * 3 + 2) rfl lv')
  have hg3 : ∀ k, k ≠ F.gr → ¬ S1 F.gr k := fun k h1 h2 => h1 h2
  refine ⟨fam2.only (dop_stays F.bb) o3 (fun s hs has => hg3 _ (by have := fam2.ge s hs has; omega)), ops2.only o3 (hg3 _ (ops2.ne_ refs2 (by decide))), refs2.set3 ⟨kind, V, lv'⟩,
    env2.only o3 (hg3 _ (env2.deq.ne_ refs2 (by decide))) (hg3 _ (env2.mem.mem.ne_ refs2 (by decide))) (hg3 _ (env2.mem.cells.ne_ refs2 (by decide))),
    href.only o3 (hg3 _ (href.mem.ne_ refs2 (by decide))) (hg3 _ (href.cells.ne_ refs2 (by decide))), atb2.only o3 (hg3 _ (atb2.ne_ refs2 (by decide))), fun s hs => ?_, fun s hs has => ?_, ?_, Nat.le_trans (Nat.le_trans m7 ho2.size) o3.size, by have := h.tcb; omega, by have := h.tcrb; omega⟩
  · by_cases e : s = t
    · subst e
      rw [upd_same, upd_same]
      exact ⟨hlog.only o3 (fun g hg1 _ => .inl (hg3 g (by omega))), hlen⟩
    · rw [upd_ne _ _ e, upd_ne _ _ e]
      exact ⟨(logs2 s hs).only o3 (fun g hg1 _ => .inl (hg3 g (by omega))), by have := (h.logs s hs).2; omega⟩
  · by_cases e : s = t
    · subst e
      rw [upd_same, upd_same, upd_same]
      exact hth
    · rw [upd_ne _ _ e, upd_ne _ _ e, upd_ne _ _ e]
      exact h.thr s hs has
  · have h1 := hF.rm0
    have h2 := hF.rc0
    have h3 := hF.gr0
    exact (((S0.then2 m6 ho2 h1 h2).setNew (t * 3) h3 _).setNew (t * 3 + 1) h3 _).setNew (t * 3 + 2) h3 _
end
end Go.Proofs.Ytblkbfdmoanbfaa
