/-
  CrewPlays: what holds between two lines of the script.
-/
import Derived.Test.YtdoaipjdldknaaaGreatKP1
import Derived.Test.YtdoaipjdldknaaaGreatKPlay4
import Derived.Test.YtdoaipjdldknaaaGreatKRN8
namespace Go.Proofs.YtdoaipjdldknaaaGreat
open Go.RowKit
set_option linter.unusedVariables false
/-- The blocks that stay. -/
structure KFix where
  B0 : Nat
  gat : Nat
  cb : Nat
  bb : Nat
  bg : Nat
  bm : Nat
  bc : Nat
  dv : Value
  bd : Nat → Nat
  rm : Nat
  rc : Nat
  go : Nat
  gr : Nat
  F : CLay
structure KFix.Ok (X : KFix) (B : Nat) : Prop where
  bm : X.bm < X.B0
  bc : X.bc < X.B0
  rm : X.rm < X.B0
  rc : X.rc < X.B0
  go : X.go < X.B0
  gr : X.gr < X.B0
  gat : X.gat < X.B0
  ne : X.bc ≠ X.rc
  bm0 : B ≤ X.bm
  bc0 : B ≤ X.bc
  rm0 : B ≤ X.rm
  rc0 : B ≤ X.rc
  go0 : B ≤ X.go
  gr0 : B ≤ X.gr
  le : B ≤ X.B0
  F : X.F.Ok
  base : X.F.base ≤ 10
/-- What thread t owns. -/
def OwnK (own : Nat → Nat) (B0 n t : Nat) : Nat → Prop := fun k => (own k = t ∧ B0 ≤ k) ∧ k < n
structure KSt (X : KFix) (w0 w : World) (own : Nat → Nat) (act : Nat → Bool) (bo : Nat → Nat) (o : Nat → CSt) (r : Nat → RefC) (l : Nat → List Int) (L : List Int) (tc tcr : Int) (i : Nat) : Prop where
  fam : ∀ t, t < 5 → act t = true → CIs w X.cb X.bb X.bg X.bc X.bd (OwnK own X.B0 w.heap.size t) (bo t) (o t)
  ops : Blk w X.go 50 (optrs 5 act bo)
  refs : Blk w X.gr 59 (refsC 5 r)
  env : CEnv w X.F X.cb X.bb X.bg X.bm X.bc X.dv X.bd tc L
  ref : RefAt w X.rm X.rc L tcr
  atb : Blk w X.gat 34 #[.int .i64 X.F.base, .int .i64 X.F.n, .int .i64 X.F.slots, .int .i64 X.F.actors]
  logs : ∀ t, t < 5 → LogIs w X.B0 (r t).lv (l t) ∧ (l t).length ≤ i
  ok : ∀ t, t < 5 → act t = true → CStOk X.F L.length (o t)
  thr : ∀ t, t < 5 → act t = true → CThr X.F (o t) (r t).kind (r t).X (r t).Y (l t)
  only : Only S0 w0 w
  le : X.B0 ≤ w.heap.size
  tcb : tc ≤ 1000 + i
  tcrb : tcr ≤ 1000 + i
  L2 : 2 ≤ L.length
section
variable {X : KFix} {w0 w w' : World} {own : Nat → Nat} {act : Nat → Bool} {bo : Nat → Nat} {o : Nat → CSt} {r : Nat → RefC} {l : Nat → List Int} {L : List Int} {tc tcr : Int} {i : Nat}
theorem cis_only0 {w w' : World} {cb bb bg bc co : Nat} {bd : Nat → Nat} {O : Nat → Prop} {st : CSt} (h : CIs w cb bb bg bc bd O co st) (ho : Only S0 w w') : CIs w' cb bb bg bc bd O co st := h.tab ho (fun k hk => hk.elim)
theorem OwnK.up {own : Nat → Nat} {B0 n n' t : Nat} (h : n ≤ n') : ∀ k, OwnK own B0 n t k → OwnK own B0 n' t k := fun k hk => ⟨hk.1, Nat.lt_of_lt_of_le hk.2 h⟩
theorem KSt.only0 (h : KSt X w0 w own act bo o r l L tc tcr i) (ho : Only S0 w w') : KSt X w0 w' own act bo o r l L tc tcr i :=
  ⟨fun t ht ha => (cis_only0 (h.fam t ht ha) ho).more (OwnK.up ho.size), h.ops.only ho (fun h => h), h.refs.only ho (fun h => h), h.env.only0 ho, h.ref.only0 ho, h.atb.only ho (fun h => h),
    fun t ht => ⟨(h.logs t ht).1.only0 ho, (h.logs t ht).2⟩, h.ok, h.thr, h.only.trans ho, Nat.le_trans h.le ho.size, h.tcb, h.tcrb, h.L2⟩
theorem KSt.more (h : KSt X w0 w own act bo o r l L tc tcr i) : KSt X w0 w own act bo o r l L tc tcr (i + 1) :=
  ⟨h.fam, h.ops, h.refs, h.env, h.ref, h.atb, fun t ht => ⟨(h.logs t ht).1, by have := (h.logs t ht).2; omega⟩, h.ok, h.thr, h.only, h.le, by have := h.tcb; omega, by have := h.tcrb; omega, h.L2⟩
/-- Whose a block is, behind thread t's new blocks. -/
def ownUp (own : Nat → Nat) (n t : Nat) : Nat → Nat := fun k => if n ≤ k then t else own k
theorem ownUp_old {own : Nat → Nat} {B0 n n' t s : Nat} (h : n ≤ n') : ∀ k, OwnK own B0 n s k → OwnK (ownUp own n t) B0 n' s k := fun k hk => by
  refine ⟨⟨?_, hk.1.2⟩, Nat.lt_of_lt_of_le hk.2 h⟩
  unfold ownUp
  rw [if_neg (by have := hk.2; omega)]
  exact hk.1.1
theorem ownUp_new {own : Nat → Nat} {B0 n n' t : Nat} (hB : B0 ≤ n) (h : n ≤ n') : ∀ k, (n ≤ k ∧ k < n') → OwnK (ownUp own n t) B0 n' t k := fun k hk => by
  refine ⟨⟨?_, by omega⟩, hk.2⟩
  unfold ownUp
  rw [if_pos hk.1]
theorem optrs_size (k : Nat) (act : Nat → Bool) (bo : Nat → Nat) : (optrs k act bo).size = k := by simp [optrs]
theorem tab_go (h : KSt X w0 w own act bo o r l L tc tcr i) : Tabs w (S2 X.go X.gr) := fun k hk => by
  rcases hk with rfl | rfl
  · exact ⟨_, _, h.ops, .inr (.inr ⟨.inl rfl, by rw [optrs_size]; decide⟩)⟩
  · exact ⟨_, _, h.refs, .inl rfl⟩
/-- A thread begins an operation: w1 is the world behind the call, then the tables are written. -/
theorem KSt.begin_ (hF : X.Ok w0.heap.size) (h : KSt X w0 w own act bo o r l L tc tcr i) {w1 : World} {t b : Nat} {x : CSt} {kind wk V : Int} (ht : t < 5) (ho : Only S0 w w1) (hx : CIs w1 X.cb X.bb X.bg X.bc X.bd (fun k => w.heap.size ≤ k) b x) (hok : CStOk X.F L.length x) (hth : CThr X.F x kind wk V []) :
    KSt X w0 (((((w1.setCell ⟨X.go, t, none⟩ (.pointer (some ⟨b, 0, none⟩))).setCell ⟨X.gr, t * 4, none⟩ (.int .i64 kind)).setCell ⟨X.gr, t * 4 + 1, none⟩ (.int .i64 wk)).setCell ⟨X.gr, t * 4 + 2, none⟩ (.int .u64 V)).setCell ⟨X.gr, t * 4 + 3, none⟩ (.slice none 0 0))
      (ownUp own w.heap.size t) (upd act t true) (upd bo t b) (upd o t x) (upd r t ⟨kind, wk, V, .slice none 0 0⟩) (upd l t []) L tc tcr i := by
  have h1 := h.only0 ho
  have hg := hF.go
  have hr := hF.gr
  have hgr : X.go ≠ X.gr := h1.ops.ne_ h1.refs (by decide)
  have o1 := (((((Only.refl (S2 X.go X.gr) w1).set1 t (.inl rfl) (.pointer (some ⟨b, 0, none⟩))).set1 (t * 4) (.inr rfl) (.int .i64 kind)).set1 (t * 4 + 1) (.inr rfl) (.int .i64 wk)).set1 (t * 4 + 2) (.inr rfl) (.int .u64 V)).set1 (t * 4 + 3) (.inr rfl) (.slice none 0 0)
  have hne : ∀ k, k ≠ X.go → k ≠ X.gr → ¬ S2 X.go X.gr k := fun k h1 h2 h3 => by unfold S2 at h3; omega
  have hT := tab_go h1
  have hxin := hx.inside
  refine ⟨fun s hs ha => ?_, ?_, ?_,
    h1.env.tab o1 hT (hne _ (h1.env.mem.mem.ne_ h1.ops (by decide)) (h1.env.mem.mem.ne_ h1.refs (by decide))) (hne _ (h1.env.mem.cells.ne_ h1.ops (by decide)) (h1.env.mem.cells.ne_ h1.refs (by decide))),
    h1.ref.only o1 (hne _ (h1.ref.mem.ne_ h1.ops (by decide)) (h1.ref.mem.ne_ h1.refs (by decide))) (hne _ (h1.ref.cells.ne_ h1.ops (by decide)) (h1.ref.cells.ne_ h1.refs (by decide))),
    h1.atb.only o1 (hne _ (h1.atb.ne_ h1.ops (by decide)) (h1.atb.ne_ h1.refs (by decide))), fun s hs => ?_, fun s hs ha => ?_, fun s hs ha => ?_, ?_, Nat.le_trans h1.le o1.size, h1.tcb, h1.tcrb, h.L2⟩
  · by_cases e : s = t
    · subst e
      rw [upd_same, upd_same]
      exact (hxin.tab o1 hT).more (fun k hk => OwnK.up o1.size k (ownUp_new h.le ho.size k hk))
    · rw [upd_ne _ _ e] at ha
      rw [upd_ne _ _ e, upd_ne _ _ e]
      exact ((cis_only0 (h.fam s hs ha) ho).tab o1 hT).more (ownUp_old (Nat.le_trans ho.size o1.size))
  · have e := (h1.ops.set_ t (.pointer (some ⟨b, 0, none⟩)))
    rw [optrs_set] at e
    exact (((e.far (p := ⟨X.gr, t * 4, none⟩) hgr _).far (p := ⟨X.gr, t * 4 + 1, none⟩) hgr _).far (p := ⟨X.gr, t * 4 + 2, none⟩) hgr _).far (p := ⟨X.gr, t * 4 + 3, none⟩) hgr _
  · exact (h1.refs.far (p := ⟨X.go, t, none⟩) (Ne.symm hgr) (.pointer (some ⟨b, 0, none⟩))).setC ⟨kind, wk, V, .slice none 0 0⟩
  · by_cases e : s = t
    · subst e
      rw [upd_same, upd_same]
      exact ⟨⟨LogAt.nil _ _, fun _ => rfl⟩, Nat.zero_le _⟩
    · rw [upd_ne _ _ e, upd_ne _ _ e]
      exact ⟨(h1.logs s hs).1.only o1 (fun g hg1 _ => .inl (hne g (by omega) (by omega))), (h1.logs s hs).2⟩
  · by_cases e : s = t
    · subst e
      rw [upd_same]
      exact hok
    · rw [upd_ne _ _ e] at ha
      rw [upd_ne _ _ e]
      exact h1.ok s hs ha
  · by_cases e : s = t
    · subst e
      rw [upd_same, upd_same, upd_same]
      exact hth
    · rw [upd_ne _ _ e] at ha
      rw [upd_ne _ _ e, upd_ne _ _ e, upd_ne _ _ e]
      exact h1.thr s hs ha
  · have := hF.go0
    have := hF.gr0
    exact ((((h1.only.setNew t (by omega) _).setNew (t * 4) (by omega) _).setNew (t * 4 + 1) (by omega) _).setNew (t * 4 + 2) (by omega) _).setNew (t * 4 + 3) (by omega) _
/-- What stands behind the program's step, ahead of the document's. -/
theorem KSt.mid (hF : X.Ok w0.heap.size) (h : KSt X w0 w own act bo o r l L tc tcr i) {w1 : World} {t : Nat} {S : Nat → Prop} (ht : t < 5) (ho1 : Only S w w1) (hS : CFoot w X.bm X.bc (OwnK own X.B0 w.heap.size t) S) :
    (∀ s, s < 5 → s ≠ t → act s = true → CIs w1 X.cb X.bb X.bg X.bc X.bd (OwnK (ownUp own w.heap.size t) X.B0 w1.heap.size s) (bo s) (o s)) ∧ Blk w1 X.go 50 (optrs 5 act bo) ∧ Blk w1 X.gr 59 (refsC 5 r) ∧ RefAt w1 X.rm X.rc L tcr ∧ Blk w1 X.gat 34 #[.int .i64 X.F.base, .int .i64 X.F.n, .int .i64 X.F.slots, .int .i64 X.F.actors] ∧ (∀ s, s < 5 → LogIs w1 X.B0 (r s).lv (l s)) ∧ Only S0 w0 w1 ∧ X.B0 ≤ w1.heap.size := by
  have hb1 := hF.bm
  have hb2 := hF.bc
  have hb3 := hF.rm
  have hb4 := hF.rc
  have hb0 := hF.bm0
  have hc0 := hF.bc0
  have hle := hF.le
  have hn : ∀ k, k < X.B0 → k ≠ X.bm → k ≠ X.bc → ¬ S k := fun k h1 h2 h3 h4 => by
    rcases hS k h4 with e | e | ⟨e, _⟩
    · exact h2 e
    · exact h3 e
    · have := e.1.2; omega
  refine ⟨fun s hs hst has => ?_, h.ops.only ho1 (hn _ hF.go (h.ops.ne_ h.env.mem.mem (by decide)) (h.ops.ne_ h.env.mem.cells (by decide))), h.refs.only ho1 (hn _ hF.gr (h.refs.ne_ h.env.mem.mem (by decide)) (h.refs.ne_ h.env.mem.cells (by decide))),
    h.ref.only ho1 (hn _ hF.rm (h.ref.mem.ne_ h.env.mem.mem (by decide)) (h.ref.mem.ne_ h.env.mem.cells (by decide))) (hn _ hF.rc (h.ref.cells.ne_ h.env.mem.mem (by decide)) (fun e => hF.ne e.symm)),
    h.atb.only ho1 (hn _ hF.gat (h.atb.ne_ h.env.mem.mem (by decide)) (h.atb.ne_ h.env.mem.cells (by decide))), fun s hs => ?_, ?_, Nat.le_trans h.le ho1.size⟩
  · refine ((h.fam s hs has).away h.env.mem.mem ⟨_, h.env.mem.cells⟩ ho1 ⟨fun k hk => ?_, fun k hk hk' => ?_⟩).more (ownUp_old ho1.size)
    · rcases hS k hk with e | e | ⟨_, e⟩
      · exact .inl e
      · exact .inr (.inl e)
      · exact .inr (.inr e)
    · have q := hk.1.2
      rcases hS k hk' with e | e | ⟨e, _⟩
      · omega
      · omega
      · exact hst (hk.1.1.symm.trans e.1.1)
  · refine (h.logs s hs).1.only ho1 fun g hg1 hg2 => ?_
    by_cases e : S g
    · rcases hS g e with e | e | ⟨_, t', cs', hb, hot⟩
      · omega
      · omega
      · exact .inr ⟨_, _, hb, by rintro rfl; revert hot; unfold OpT; decide⟩
    · exact .inl e
  · refine h.only.then ho1 fun k hk hs => ?_
    rcases hS k hs with e | e | ⟨e, _⟩
    · exfalso; omega
    · exfalso; omega
    · have := e.1.2; exfalso; omega
theorem KSt.step_ (hF : X.Ok w0.heap.size) (h : KSt X w0 w own act bo o r l L tc tcr i) {w1 w2 : World} {t : Nat} {S : Nat → Prop} {o' : CSt} {kind wk V tc' tcr' : Int} {l' L' : List Int} {lv' : Value} (ht : t < 5) (ha : act t = true) (ho1 : Only S w w1) (hS : CFoot w X.bm X.bc (OwnK own X.B0 w.heap.size t) S)
    (hx : CIs w1 X.cb X.bb X.bg X.bc X.bd (fun k => OwnK own X.B0 w.heap.size t k ∨ w.heap.size ≤ k) (bo t) o')
    (henv : CEnv w1 X.F X.cb X.bb X.bg X.bm X.bc X.dv X.bd tc' L') (hL : L'.length = L.length) (ho2 : Only (S2 X.rm X.rc) w1 w2) (href : RefAt w2 X.rm X.rc L' tcr') (hlog : LogIs w2 X.B0 lv' l') (hlen : l'.length ≤ i + 1) (hok : CStOk X.F L'.length o') (hth : CThr X.F o' kind wk V l') (htc : tc' ≤ tc + 1) (htcr : tcr' ≤ tcr + 1) :
    KSt X w0 ((((w2.setCell ⟨X.gr, t * 4, none⟩ (.int .i64 kind)).setCell ⟨X.gr, t * 4 + 1, none⟩ (.int .i64 wk)).setCell ⟨X.gr, t * 4 + 2, none⟩ (.int .u64 V)).setCell ⟨X.gr, t * 4 + 3, none⟩ lv')
      (ownUp own w.heap.size t) act bo (upd o t o') (upd r t ⟨kind, wk, V, lv'⟩) (upd l t l') L' tc' tcr' (i + 1) := by
  obtain ⟨m0, m1, m2, m3, m4, m5, m6, m7⟩ := h.mid hF ht ho1 hS
  have hb1 := hF.bm
  have hb2 := hF.bc
  have hb3 := hF.rm
  have hb4 := hF.rc
  have hgo := hF.go
  have hgr := hF.gr
  have hR : ∀ k, k ≠ X.rm → k ≠ X.rc → ¬ S2 X.rm X.rc k := fun k h1 h2 h3 => by unfold S2 at h3; omega
  have hT : Tabs w1 (S2 X.rm X.rc) := fun k hk => by
    rcases hk with rfl | rfl
    · exact ⟨_, _, m3.mem, .inr (.inl rfl)⟩
    · refine ⟨_, _, m3.cells, .inr (.inr ⟨.inr rfl, ?_⟩)⟩
      have := h.L2
      simp
      omega
  have ops2 := m1.only ho2 (hR _ (m1.ne_ m3.mem (by decide)) (m1.ne_ m3.cells (by decide)))
  have refs2 := m2.only ho2 (hR _ (m2.ne_ m3.mem (by decide)) (m2.ne_ m3.cells (by decide)))
  have env2 := henv.tab ho2 hT (hR _ (henv.mem.mem.ne_ m3.mem (by decide)) (henv.mem.mem.ne_ m3.cells (by decide))) (hR _ (henv.mem.cells.ne_ m3.mem (by decide)) hF.ne)
  have atb2 := m4.only ho2 (hR _ (m4.ne_ m3.mem (by decide)) (m4.ne_ m3.cells (by decide)))
  have logs2 : ∀ s, s < 5 → LogIs w2 X.B0 (r s).lv (l s) := fun s hs => (m5 s hs).only ho2 fun g hg1 _ => .inl (hR g (by omega) (by omega))
  have o3 := (((((Only.refl (S1 X.gr) w2).set1 (t * 4) rfl (.int .i64 kind)).set1 (t * 4 + 1) rfl (.int .i64 wk)).set1 (t * 4 + 2) rfl (.int .u64 V)).set1 (t * 4 + 3) rfl lv')
  have hT3 : Tabs w2 (S1 X.gr) := fun k hk => by
    obtain rfl : k = X.gr := hk
    exact ⟨_, _, refs2, .inl rfl⟩
  have hg3 : ∀ k, k ≠ X.gr → ¬ S1 X.gr k := fun k h1 h2 => h1 h2
  refine ⟨fun s hs has => ?_, ops2.only o3 (hg3 _ (ops2.ne_ refs2 (by decide))), refs2.setC ⟨kind, wk, V, lv'⟩,
    env2.tab o3 hT3 (hg3 _ (env2.mem.mem.ne_ refs2 (by decide))) (hg3 _ (env2.mem.cells.ne_ refs2 (by decide))),
    href.only o3 (hg3 _ (href.mem.ne_ refs2 (by decide))) (hg3 _ (href.cells.ne_ refs2 (by decide))), atb2.only o3 (hg3 _ (atb2.ne_ refs2 (by decide))), fun s hs => ?_, fun s hs has => ?_, fun s hs has => ?_, ?_, Nat.le_trans (Nat.le_trans m7 ho2.size) o3.size, by have := h.tcb; omega, by have := h.tcrb; omega, by rw [hL]; exact h.L2⟩
  · by_cases e : s = t
    · subst e
      rw [upd_same]
      refine ((hx.inside.tab ho2 hT).tab o3 hT3).more fun k hk => OwnK.up (Nat.le_trans ho2.size o3.size) k ?_
      rcases hk.1 with q | q
      · exact ownUp_old ho1.size k q
      · exact ownUp_new h.le ho1.size k ⟨q, hk.2⟩
    · rw [upd_ne _ _ e]
      exact (((m0 s hs e has).tab ho2 hT).tab o3 hT3).more (OwnK.up (Nat.le_trans ho2.size o3.size))
  · by_cases e : s = t
    · subst e
      rw [upd_same, upd_same]
      exact ⟨hlog.only o3 (fun g hg1 _ => .inl (hg3 g (by omega))), hlen⟩
    · rw [upd_ne _ _ e, upd_ne _ _ e]
      exact ⟨(logs2 s hs).only o3 (fun g hg1 _ => .inl (hg3 g (by omega))), by have := (h.logs s hs).2; omega⟩
  · by_cases e : s = t
    · subst e
      rw [upd_same]
      exact hok
    · rw [upd_ne _ _ e, hL]
      exact h.ok s hs has
  · by_cases e : s = t
    · subst e
      rw [upd_same, upd_same, upd_same]
      exact hth
    · rw [upd_ne _ _ e, upd_ne _ _ e, upd_ne _ _ e]
      exact h.thr s hs has
  · have h1 := hF.rm0
    have h2 := hF.rc0
    have h3 := hF.gr0
    exact ((((S0.then2 m6 ho2 h1 h2).setNew (t * 4) h3 _).setNew (t * 4 + 1) h3 _).setNew (t * 4 + 2) h3 _).setNew (t * 4 + 3) h3 _
end
end Go.Proofs.YtdoaipjdldknaaaGreat
