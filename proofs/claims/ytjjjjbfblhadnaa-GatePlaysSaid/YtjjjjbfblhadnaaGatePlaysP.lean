/-
  GatePlays: what holds between two lines of the script.
-/
import Derived.Test.YtjjjjbfblhadnaaGateLike
import Derived.Test.YtjjjjbfblhadnaaOpen
namespace Go.Proofs.Ytjjjjbfblhadnaa
open Go.RowKit
set_option linter.unusedVariables false

theorem gop_stays5 (bg : Nat) : Stays (fun w b o => GopIs w b bg o) := fun w w' S b x h ho hs => GopAt.only h ho hs
theorem optrs_congr {k : Nat} {act act' : Nat → Bool} {bo bo' : Nat → Nat} (h : ∀ s, s < k → optr act bo s = optr act' bo' s) : optrs k act bo = optrs k act' bo' := by
  unfold optrs
  congr 1
  exact List.map_congr_left fun s hs => h s (by simpa using hs)
theorem OFam.beginS {α : Type} {P : World → Nat → α → Prop} {w w' : World} {B k p b : Nat} {act : Nat → Bool} {bo : Nat → Nat} {o : Nat → α} {S : Nat → Prop} {x : α} (hP : Stays P) (h : OFam P w B k act bo o) (hp : p < k) (ho : Only S w w') (hs : ∀ i, i < k → act i = true → ¬ S (bo i)) (hB : B ≤ w.heap.size) (hx : P w' b x) (hb : w.heap.size ≤ b) (hb' : b < w'.heap.size) : OFam P w' B k (upd act p true) (upd bo p b) (upd o p x) := by
  refine ⟨fun i hi ha => ?_, fun i hi ha => ?_, fun i hi ha => ?_, fun i j hi hj ha ha' hij => ?_⟩
  · by_cases e : i = p
    · subst e
      rw [upd_same, upd_same]
      exact hx
    · rw [upd_ne _ _ e, upd_ne _ _ e]
      rw [upd_ne _ _ e] at ha
      exact hP _ _ _ _ _ (h.at_ i hi ha) ho (hs i hi ha)
  · by_cases e : i = p
    · subst e
      rw [upd_same]
      omega
    · rw [upd_ne _ _ e]
      rw [upd_ne _ _ e] at ha
      exact h.ge i hi ha
  · by_cases e : i = p
    · subst e
      rw [upd_same]
      exact hb'
    · rw [upd_ne _ _ e]
      rw [upd_ne _ _ e] at ha
      exact Nat.lt_of_lt_of_le (h.lt i hi ha) ho.size
  · by_cases e : i = p
    · subst e
      have e2 : j ≠ i := fun e => hij e.symm
      rw [upd_same, upd_ne _ _ e2]
      rw [upd_ne _ _ e2] at ha'
      have := h.lt j hj ha'
      omega
    · rw [upd_ne _ _ e]
      rw [upd_ne _ _ e] at ha
      by_cases e2 : j = p
      · subst e2
        rw [upd_same]
        have := h.lt i hi ha
        omega
      · rw [upd_ne _ _ e2]
        rw [upd_ne _ _ e2] at ha'
        exact h.ne i j hi hj ha ha' hij
/-- What an operation begins as. -/
def gbegin (base : Int) (kind V : Int) : Gop := if kind = 1 then putOp base V else takeOp base
theorem nextL_v {base n ahead V V' : Int} (h : ahead ≠ 0) (k : Nat) : ∀ (l : List Int), l.length ≤ k → nextL base n ahead V l = nextL base n ahead V' l := by
  have hl : ∀ (t : Int) (l : List Int), lastL base n ahead V t l = lastL base n ahead V' t l := by
    intro t l
    match l with
    | [] => simp [lastL, h]
    | [y] => rfl
    | y :: z :: l => rfl
  induction k with
  | zero =>
    intro l hk
    have : l = [] := List.eq_nil_of_length_eq_zero (by omega)
    subst this
    rfl
  | succ k ih =>
    intro l hk
    match l, hk with
    | [], _ => rfl
    | [t], _ => rfl
    | [t, s], _ => rfl
    | t :: s :: x :: r, hk =>
      simp only [List.length_cons] at hk
      simp only [nextL]
      rw [ih (x :: r) (by simp only [List.length_cons]; omega), ih r (by omega), hl t r]
structure GThr (base n : Int) (o : Gop) (kind V : Int) (l : List Int) : Prop where
  k1 : 1 ≤ kind
  k2 : kind ≤ 2
  u : AllU l
  pr : Proper n (gbegin base kind V) l
  eq : o = l.foldl (gans n) (gbegin base kind V)
theorem GThr.next {base n : Int} {o : Gop} {kind V : Int} {l : List Int} (h : GThr base n o kind V l) : gnext base n kind V l = askOf base n o := by
  have hk : kind = 1 ∨ kind = 2 := by have := h.k1; have := h.k2; omega
  have hp := h.pr
  rw [h.eq]
  rcases hk with rfl | rfl
  · exact nextL_ask (base := base) (n := n) l.length l (putOp base V) (Nat.le_refl _) rfl rfl (by simp [putOp]) hp
  · have := nextL_ask (base := base) (n := n) l.length l (takeOp base) (Nat.le_refl _) rfl rfl (by simp [takeOp]) hp
    rw [show gnext base n 2 V l = nextL base n 1 (takeOp base).v l from nextL_v (by decide) l.length l (Nat.le_refl _)]
    exact this
theorem gthr_new (base n : Int) (kind V : Int) (h1 : 1 ≤ kind) (h2 : kind ≤ 2) : GThr base n (gbegin base kind V) kind V [] := ⟨h1, h2, (by intro x hx; cases hx), trivial, rfl⟩
theorem GThr.step {base n : Int} {o : Gop} {kind V : Int} {l : List Int} (h : GThr base n o kind V l) (ho : o.out = 0) {x : Int} (hx : U64 x) : GThr base n (gans n o x) kind V (l ++ [x]) :=
  ⟨h.k1, h.k2, by
    intro y hy
    rcases List.mem_append.1 hy with hy | hy
    · exact h.u y hy
    · rw [List.mem_singleton.1 hy]; exact hx, h.pr.snoc (by rw [← h.eq]; exact ho), by rw [List.foldl_append, ← h.eq]; rfl⟩
theorem gask_over {o : Gop} (base n : Int) (h : o.out ≠ 0) : (askOf base n o).over = true := by unfold askOf; rw [if_pos h]; rfl
theorem gask_go {o : Gop} {base n : Int} {len : Nat} (hg : GopOk base len o) (h : o.out = 0) (b0 : 0 ≤ base) (n1 : 1 ≤ n) (hi : base + 2 + 2 * n ≤ len) : (askOf base n o).over = false ∧ ((askOf base n o).what = 1 ∨ (askOf base n o).what = 2 ∨ (askOf base n o).what = 3) ∧ 0 ≤ (askOf base n o).cell ∧ (askOf base n o).cell < len := by
  have w0 := hg.cell0
  have w1 := hg.cell1
  obtain ⟨-, m1, m2⟩ := u64_mod hg.t n1
  have s0 : 0 ≤ slotOf base n o.t ∧ slotOf base n o.t + 1 < len := by unfold slotOf; omega
  obtain ⟨s0, s1⟩ := s0
  unfold askOf
  rw [if_neg (by rw [h]; decide)]
  (repeat' split) <;> exact ⟨rfl, by simp [wStore, wLoad, wSwap], by simp only [wStore, wLoad, wSwap]; omega, by simp only [wStore, wLoad, wSwap]; omega⟩
theorem gdo_u {L : List Int} (h : AllU L) (W : GW) : U64 (gdo L W).2 := by
  unfold gdo
  split
  · exact h.at_ _
  split
  · exact u64_zero
  split
  · show U64 1
    exact ⟨by decide, by decide⟩
  · exact u64_zero
/-- The blocks that stay. -/
structure GFix where
  B0 : Nat
  gat : Nat
  bb : Nat
  bm : Nat
  bc : Nat
  rm : Nat
  rc : Nat
  go : Nat
  gr : Nat
  b : Nat
  n : Nat
structure GFix.Ok (F : GFix) (B : Nat) : Prop where
  bm : F.bm < F.B0
  bc : F.bc < F.B0
  rm : F.rm < F.B0
  rc : F.rc < F.B0
  go : F.go < F.B0
  gr : F.gr < F.B0
  bb : F.bb < F.B0
  gat : F.gat < F.B0
  ne : F.bc ≠ F.rc
  bm0 : B ≤ F.bm
  bc0 : B ≤ F.bc
  rm0 : B ≤ F.rm
  rc0 : B ≤ F.rc
  go0 : B ≤ F.go
  gr0 : B ≤ F.gr
  le : B ≤ F.B0
  n1 : 1 ≤ F.n
  n9 : F.n ≤ 9
  b5 : F.b ≤ 5
structure GSt (F : GFix) (w0 w : World) (act : Nat → Bool) (bo : Nat → Nat) (o : Nat → Gop) (r : Nat → Ref) (l : Nat → List Int) (L : List Int) (tc tcr : Int) (i : Nat) : Prop where
  fam : OFam (fun w b o => GopIs w b F.bb o) w F.B0 6 act bo o
  ops : Blk w F.go 56 (optrs 6 act bo)
  refs : Blk w F.gr 68 (refs3 6 r)
  env : GateEnv w F.bb F.bm F.bc F.b F.n tc L
  ref : RefAt w F.rm F.rc L tcr
  atb : Blk w F.gat 42 #[.int .i64 F.b, .int .i64 F.n]
  logs : ∀ t, t < 6 → LogIs w F.B0 (r t).lv (l t) ∧ (l t).length ≤ i
  oks : ∀ t, t < 6 → act t = true → GopOk F.b L.length (o t)
  thr : ∀ t, t < 6 → act t = true → GThr F.b F.n (o t) (r t).kind (r t).V (l t)
  only : Only S0 w0 w
  le : F.B0 ≤ w.heap.size
  tcb : tc ≤ 1000 + i
  tcrb : tcr ≤ 1000 + i
section
variable {F : GFix} {w0 w w' : World} {act : Nat → Bool} {bo : Nat → Nat} {o : Nat → Gop} {r : Nat → Ref} {l : Nat → List Int} {L : List Int} {tc tcr : Int} {i : Nat}
theorem GSt.only0 (h : GSt F w0 w act bo o r l L tc tcr i) (ho : Only S0 w w') : GSt F w0 w' act bo o r l L tc tcr i :=
  ⟨h.fam.only0 (gop_stays5 F.bb) ho, h.ops.only ho (fun h => h), h.refs.only ho (fun h => h), h.env.only0 ho, h.ref.only0 ho, h.atb.only ho (fun h => h),
    fun t ht => ⟨(h.logs t ht).1.only0 ho, (h.logs t ht).2⟩, h.oks, h.thr, h.only.trans ho, Nat.le_trans h.le ho.size, h.tcb, h.tcrb⟩
theorem GSt.more (h : GSt F w0 w act bo o r l L tc tcr i) : GSt F w0 w act bo o r l L tc tcr (i + 1) :=
  ⟨h.fam, h.ops, h.refs, h.env, h.ref, h.atb, fun t ht => ⟨(h.logs t ht).1, by have := (h.logs t ht).2; omega⟩, h.oks, h.thr, h.only, h.le, by have := h.tcb; omega, by have := h.tcrb; omega⟩
/-- A thread begins an operation: w1 is the world behind the calls; its pointer may have been written already. -/
theorem GSt.begin_ (hF : F.Ok w0.heap.size) (h : GSt F w0 w act bo o r l L tc tcr i) {w1 : World} {t b : Nat} {x : Gop} {kind V : Int} {act1 : Nat → Bool} {bo1 : Nat → Nat} (ht : t < 6) (ho : Only (S1 F.go) w w1) (hops : Blk w1 F.go 56 (optrs 6 act1 bo1)) (hsame : ∀ s, s ≠ t → act1 s = act s ∧ bo1 s = bo s) (hx : GopIs w1 b F.bb x) (hb : w.heap.size ≤ b) (hok : GopOk F.b L.length x) (hth : GThr F.b F.n x kind V []) :
    GSt F w0 ((((w1.setCell ⟨F.go, t, none⟩ (.pointer (some ⟨b, 0, none⟩))).setCell ⟨F.gr, t * 3, none⟩ (.int .i64 kind)).setCell ⟨F.gr, t * 3 + 1, none⟩ (.int .u64 V)).setCell ⟨F.gr, t * 3 + 2, none⟩ (.slice none 0 0))
      (upd act t true) (upd bo t b) (upd o t x) (upd r t ⟨kind, V, .slice none 0 0⟩) (upd l t []) L tc tcr i := by
  have hg := hF.go
  have hr := hF.gr
  have hgr : F.go ≠ F.gr := h.ops.ne_ h.refs (by decide)
  have o1 := ((((Only.refl (S2 F.go F.gr) w1).set1 t (.inl rfl) (.pointer (some ⟨b, 0, none⟩))).set1 (t * 3) (.inr rfl) (.int .i64 kind)).set1 (t * 3 + 1) (.inr rfl) (.int .u64 V)).set1 (t * 3 + 2) (.inr rfl) (.slice none 0 0)
  have oo := (ho.mono (R := S2 F.go F.gr) fun _ e => .inl e).trans o1
  have hne : ∀ k, k ≠ F.go → k ≠ F.gr → ¬ S2 F.go F.gr k := fun k h1 h2 h3 => by unfold S2 at h3; omega
  have hfam := h.fam.beginS (gop_stays5 F.bb) ht ho (fun s hs ha => by have := h.fam.ge s hs ha; unfold S1; omega) h.le hx hb (Blk.lt hx)
  have h1refs := h.refs.only ho (fun e => by unfold S1 at e; omega)
  refine ⟨hfam.only (gop_stays5 F.bb) o1 (fun s hs ha => hne _ (Blk.ne_ (hfam.at_ s hs ha) hops (by decide)) (Blk.ne_ (hfam.at_ s hs ha) h1refs (by decide))), ?_, ?_,
    h.env.only oo (hne _ (h.env.gate.ne_ h.ops (by decide)) (h.env.gate.ne_ h.refs (by decide))) (hne _ (h.env.mem.mem.ne_ h.ops (by decide)) (h.env.mem.mem.ne_ h.refs (by decide))) (hne _ (h.env.mem.cells.ne_ h.ops (by decide)) (h.env.mem.cells.ne_ h.refs (by decide))),
    h.ref.only oo (hne _ (h.ref.mem.ne_ h.ops (by decide)) (h.ref.mem.ne_ h.refs (by decide))) (hne _ (h.ref.cells.ne_ h.ops (by decide)) (h.ref.cells.ne_ h.refs (by decide))),
    h.atb.only oo (hne _ (h.atb.ne_ h.ops (by decide)) (h.atb.ne_ h.refs (by decide))), fun s hs => ?_, fun s hs ha => ?_, fun s hs ha => ?_, ?_, Nat.le_trans h.le oo.size, h.tcb, h.tcrb⟩
  · have e := (hops.set_ t (.pointer (some ⟨b, 0, none⟩)))
    rw [optrs_set, show optrs 6 (upd act1 t true) (upd bo1 t b) = optrs 6 (upd act t true) (upd bo t b) from optrs_congr fun s _ => by
      by_cases e : s = t
      · subst e; unfold optr; rw [upd_same, upd_same, upd_same, upd_same]
      · obtain ⟨e1, e2⟩ := hsame s e; unfold optr; rw [upd_ne _ _ e, upd_ne _ _ e, upd_ne _ _ e, upd_ne _ _ e, e1, e2]] at e
    exact ((e.far (p := ⟨F.gr, t * 3, none⟩) hgr _).far (p := ⟨F.gr, t * 3 + 1, none⟩) hgr _).far (p := ⟨F.gr, t * 3 + 2, none⟩) hgr _
  · exact (h1refs.far (p := ⟨F.go, t, none⟩) (Ne.symm hgr) (.pointer (some ⟨b, 0, none⟩))).set3 ⟨kind, V, .slice none 0 0⟩
  · by_cases e : s = t
    · subst e
      rw [upd_same, upd_same]
      exact ⟨⟨LogAt.nil _ _, fun _ => rfl⟩, Nat.zero_le _⟩
    · rw [upd_ne _ _ e, upd_ne _ _ e]
      exact ⟨(h.logs s hs).1.only oo (fun g hg1 _ => .inl (hne g (by omega) (by omega))), (h.logs s hs).2⟩
  · by_cases e : s = t
    · subst e
      rw [upd_same]
      exact hok
    · rw [upd_ne _ _ e] at ha
      rw [upd_ne _ _ e]
      exact h.oks s hs ha
  · by_cases e : s = t
    · subst e
      rw [upd_same, upd_same, upd_same]
      exact hth
    · rw [upd_ne _ _ e] at ha
      rw [upd_ne _ _ e, upd_ne _ _ e, upd_ne _ _ e]
      exact h.thr s hs ha
  · have := hF.go0
    have := hF.gr0
    have hw1 := S0.then1 h.only ho (by omega)
    exact (((hw1.setNew t (by omega) _).setNew (t * 3) (by omega) _).setNew (t * 3 + 1) (by omega) _).setNew (t * 3 + 2) (by omega) _
/-- What stands behind the program's step and the document's, before the table is written. -/
theorem GSt.mid (hF : F.Ok w0.heap.size) (h : GSt F w0 w act bo o r l L tc tcr i) {w1 : World} {t : Nat} (ht : t < 6) (ha : act t = true) (ho1 : Only (S3 (bo t) F.bm F.bc) w w1) :
    Blk w1 F.go 56 (optrs 6 act bo) ∧ Blk w1 F.gr 68 (refs3 6 r) ∧ RefAt w1 F.rm F.rc L tcr ∧ Blk w1 F.gat 42 #[.int .i64 F.b, .int .i64 F.n] ∧ (∀ s, s < 6 → LogIs w1 F.B0 (r s).lv (l s)) ∧ Only S0 w0 w1 ∧ F.B0 ≤ w1.heap.size := by
  have hp := h.fam.at_ t ht ha
  have hge := h.fam.ge t ht ha
  have hb1 := hF.bm
  have hb2 := hF.bc
  have hb3 := hF.rm
  have hb4 := hF.rc
  have hb0 := hF.bm0
  have hc0 := hF.bc0
  have hle := hF.le
  have hS : ∀ k, k < F.B0 → k ≠ F.bm → k ≠ F.bc → ¬ S3 (bo t) F.bm F.bc k := fun k h1 h2 h3 h4 => by unfold S3 at h4; omega
  refine ⟨h.ops.only ho1 (hS _ hF.go (h.ops.ne_ h.env.mem.mem (by decide)) (h.ops.ne_ h.env.mem.cells (by decide))), h.refs.only ho1 (hS _ hF.gr (h.refs.ne_ h.env.mem.mem (by decide)) (h.refs.ne_ h.env.mem.cells (by decide))),
    h.ref.only ho1 (hS _ hF.rm (h.ref.mem.ne_ h.env.mem.mem (by decide)) (h.ref.mem.ne_ h.env.mem.cells (by decide))) (hS _ hF.rc (h.ref.cells.ne_ h.env.mem.mem (by decide)) (fun e => hF.ne e.symm)),
    h.atb.only ho1 (hS _ hF.gat (h.atb.ne_ h.env.mem.mem (by decide)) (h.atb.ne_ h.env.mem.cells (by decide))), fun s hs => ?_, S0.then3 h.only ho1 (by omega) hb0 hc0, Nat.le_trans h.le ho1.size⟩
  refine (h.logs s hs).1.only ho1 fun g hg1 hg2 => ?_
  by_cases e : g = bo t
  · subst e
    exact .inr ⟨_, _, hp, by decide⟩
  · exact .inl (fun h4 => by unfold S3 at h4; omega)
theorem GSt.step_ (hF : F.Ok w0.heap.size) (h : GSt F w0 w act bo o r l L tc tcr i) {w1 w2 : World} {t : Nat} {o' : Gop} {kind V tc' tcr' : Int} {l' L' : List Int} {lv' : Value} (ht : t < 6) (ha : act t = true) (ho1 : Only (S3 (bo t) F.bm F.bc) w w1) (hx : GopIs w1 (bo t) F.bb o')
    (henv : GateEnv w1 F.bb F.bm F.bc F.b F.n tc' L') (ho2 : Only (S2 F.rm F.rc) w1 w2) (href : RefAt w2 F.rm F.rc L' tcr') (hlog : LogIs w2 F.B0 lv' l') (hlen : l'.length ≤ i + 1) (hok : GopOk F.b L'.length o') (hLL : L'.length = L.length) (hth : GThr F.b F.n o' kind V l') (htc : tc' ≤ tc + 1) (htcr : tcr' ≤ tcr + 1) :
    GSt F w0 (((w2.setCell ⟨F.gr, t * 3, none⟩ (.int .i64 kind)).setCell ⟨F.gr, t * 3 + 1, none⟩ (.int .u64 V)).setCell ⟨F.gr, t * 3 + 2, none⟩ lv')
      act bo (upd o t o') (upd r t ⟨kind, V, lv'⟩) (upd l t l') L' tc' tcr' (i + 1) := by
  obtain ⟨m1, m2, m3, m4, m5, m6, m7⟩ := h.mid hF ht ha ho1
  have hge := h.fam.ge t ht ha
  have hb1 := hF.bm
  have hb2 := hF.bc
  have hb3 := hF.rm
  have hb4 := hF.rc
  have hgo := hF.go
  have hgr := hF.gr
  have hR : ∀ k, k ≠ F.rm → k ≠ F.rc → ¬ S2 F.rm F.rc k := fun k h1 h2 h3 => by unfold S2 at h3; omega
  have fam1 := h.fam.step (gop_stays5 F.bb) ht ho1 (fun s hs has hst h4 => by
    rcases h4 with h4 | h4 | h4
    · exact h.fam.ne s t hs ht has ha hst h4
    · have := h.fam.ge s hs has; omega
    · have := h.fam.ge s hs has; omega) hx
  have fam2 := fam1.only (gop_stays5 F.bb) ho2 (fun s hs has => hR _ (by have := fam1.ge s hs has; omega) (by have := fam1.ge s hs has; omega))
  have ops2 := m1.only ho2 (hR _ (m1.ne_ m3.mem (by decide)) (m1.ne_ m3.cells (by decide)))
  have refs2 := m2.only ho2 (hR _ (m2.ne_ m3.mem (by decide)) (m2.ne_ m3.cells (by decide)))
  have env2 := henv.only ho2 (hR _ (henv.gate.ne_ m3.mem (by decide)) (henv.gate.ne_ m3.cells (by decide))) (hR _ (henv.mem.mem.ne_ m3.mem (by decide)) (henv.mem.mem.ne_ m3.cells (by decide))) (hR _ (henv.mem.cells.ne_ m3.mem (by decide)) hF.ne)
  have atb2 := m4.only ho2 (hR _ (m4.ne_ m3.mem (by decide)) (m4.ne_ m3.cells (by decide)))
  have logs2 : ∀ s, s < 6 → LogIs w2 F.B0 (r s).lv (l s) := fun s hs => (m5 s hs).only ho2 fun g hg1 _ => .inl (hR g (by omega) (by omega))
  have o3 := ((((Only.refl (S1 F.gr) w2).set1 (t * 3) rfl (.int .i64 kind)).set1 (t * 3 + 1) rfl (.int .u64 V)).set1 (t * 3 + 2) rfl lv')
  have hg3 : ∀ k, k ≠ F.gr → ¬ S1 F.gr k := fun k h1 h2 => h1 h2
  refine ⟨fam2.only (gop_stays5 F.bb) o3 (fun s hs has => hg3 _ (by have := fam2.ge s hs has; omega)), ops2.only o3 (hg3 _ (ops2.ne_ refs2 (by decide))), refs2.set3 ⟨kind, V, lv'⟩,
    env2.only o3 (hg3 _ (env2.gate.ne_ refs2 (by decide))) (hg3 _ (env2.mem.mem.ne_ refs2 (by decide))) (hg3 _ (env2.mem.cells.ne_ refs2 (by decide))),
    href.only o3 (hg3 _ (href.mem.ne_ refs2 (by decide))) (hg3 _ (href.cells.ne_ refs2 (by decide))), atb2.only o3 (hg3 _ (atb2.ne_ refs2 (by decide))), fun s hs => ?_, fun s hs has => ?_, fun s hs has => ?_, ?_, Nat.le_trans (Nat.le_trans m7 ho2.size) o3.size, by have := h.tcb; omega, by have := h.tcrb; omega⟩
  · by_cases e : s = t
    · subst e
      rw [upd_same, upd_same]
      exact ⟨hlog.only o3 (fun g hg1 _ => .inl (hg3 g (by omega))), hlen⟩
    · rw [upd_ne _ _ e, upd_ne _ _ e]
      exact ⟨(logs2 s hs).only o3 (fun g hg1 _ => .inl (hg3 g (by omega))), by have := (h.logs s hs).2; omega⟩
  · by_cases e : s = t
    · subst e
      rw [upd_same]
      exact hok
    · rw [upd_ne _ _ e, hLL]
      exact h.oks s hs has
  · by_cases e : s = t
    · subst e
      rw [upd_same, upd_same, upd_same]
      exact hth
    · rw [upd_ne _ _ e, upd_ne _ _ e, upd_ne _ _ e]
      exact h.thr s hs has
  · have h1 := hF.rm0
    have h2 := hF.rc0
    have h3 := hF.gr0
    exact (((S0.then2 m6 ho2 h1 h2).setNew (t * 3) h3 _).setNew (t * 3 + 1) h3 _).setNew (t * 3 + 2) h3 _
end
end Go.Proofs.Ytjjjjbfblhadnaa
