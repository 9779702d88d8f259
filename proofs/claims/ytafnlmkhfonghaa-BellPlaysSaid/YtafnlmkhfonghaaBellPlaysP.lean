/-
  BellPlays: what holds between two lines of the script.
-/
import Derived.Test.YtafnlmkhfonghaaBellLike
import Derived.Test.YtafnlmkhfonghaaOpen
namespace Go.Proofs.Ytafnlmkhfonghaa
open Go.RowKit
set_option linter.unusedVariables false

theorem bop_stays6 (bb : Nat) : Stays (fun w b o => BopIs w b bb o) := fun w w' S b x h ho hs => BopIs.only h ho hs
/-- What the program's operation begins as. -/
def bbegin (n : Nat) (kind x : Int) : Bop :=
  if kind = 1 then ⟨0, x, bout0 n x⟩ else if kind = 2 then ⟨1, x, bout0 n x⟩ else if kind = 3 then ⟨2, x, bout0 n x⟩ else ⟨3, 0, bout0 n 0⟩
structure BGood (n : Nat) (o : Bop) : Prop where
  k : o.k = 0 ∨ o.k = 1 ∨ o.k = 2 ∨ o.k = 3 ∨ o.k = 4
  w0 : o.out = 0 ∨ o.out = 7 → 0 ≤ o.who
  w1 : o.out = 0 ∨ o.out = 7 → o.who < n
theorem BGood.ok {n : Nat} {o : Bop} (h : BGood n o) : BopOk n o := ⟨h.k, fun e => h.w0 (.inl e), fun e => h.w1 (.inl e)⟩
theorem onOut_cases (n x : Int) : onOut n x = 4 ∨ (onOut n x = 0 ∧ x ≠ n) := by
  unfold onOut
  split
  · exact .inl rfl
  · exact .inr ⟨rfl, by assumption⟩
theorem bgood_on {n : Nat} {k : Nat} {who : Int} (hk : k = 0 ∨ k = 1 ∨ k = 2 ∨ k = 3 ∨ k = 4) (w0 : 0 ≤ who) (w1 : who < n) : BGood n ⟨k, who + 1, onOut n (who + 1)⟩ := by
  refine ⟨hk, fun h => ?_, fun h => ?_⟩
  · show 0 ≤ who + 1; omega
  · show who + 1 < n
    have h' : onOut n (who + 1) = 0 ∨ onOut n (who + 1) = 7 := h
    rcases onOut_cases n (who + 1) with e | ⟨e, hne⟩
    · rw [e] at h'; omega
    · omega
theorem BGood.ans {n : Nat} {o : Bop} (h : BGood n o) (x : Int) : BGood n (bans n o x) := by
  unfold bans
  split
  · exact h
  rename_i h0
  simp only [ne_eq, Decidable.not_not] at h0
  have w0 := h.w0 (.inl h0)
  have w1 := h.w1 (.inl h0)
  split
  · exact ⟨h.k, fun _ => w0, fun _ => w1⟩
  split
  · exact ⟨h.k, fun _ => w0, fun _ => w1⟩
  split
  · exact ⟨h.k, fun _ => w0, fun _ => w1⟩
  split
  · split
    · exact ⟨by simp, fun _ => w0, fun _ => w1⟩
    · exact bgood_on h.k w0 w1
  · split
    · exact ⟨h.k, fun _ => w0, fun _ => w1⟩
    · exact bgood_on (by simp) w0 w1
theorem bgood_begin (n : Nat) (kind x : Int) (h1 : 1 ≤ n) : BGood n (bbegin n kind x) := by
  have hin : ∀ y, bout0 n y = 0 ∨ bout0 n y = 7 → 0 ≤ y ∧ y < n := by
    intro y h
    unfold bout0 at h
    by_cases c : 0 ≤ y ∧ y < (n : Int)
    · exact c
    · rw [if_neg c] at h; omega
  unfold bbegin
  split
  · exact ⟨by simp, fun h => (hin x h).1, fun h => (hin x h).2⟩
  split
  · exact ⟨by simp, fun h => (hin x h).1, fun h => (hin x h).2⟩
  split
  · exact ⟨by simp, fun h => (hin x h).1, fun h => (hin x h).2⟩
  · exact ⟨by simp, fun h => (hin 0 h).1, fun h => (hin 0 h).2⟩
theorem bgood_fold (n : Nat) : ∀ (l : List Int) (o : Bop), BGood n o → BGood n (l.foldl (bans n) o)
  | [], o, h => h
  | x :: l, o, h => bgood_fold n l _ (h.ans x)

/-- A thread's operation, and the document's. -/
structure BThr (n : Nat) (o : Bop) (kind V : Int) (l : List Int) : Prop where
  k1 : 1 ≤ kind
  k4 : kind ≤ 4
  u : U64 V
  ex : ∃ x : Int, V = IntKind.u64.wrap x ∧ -9223372036854775808 ≤ x ∧ x ≤ 9223372036854775807 ∧ BProper n (bbegin n kind x) l ∧ o = l.foldl (bans n) (bbegin n kind x)
theorem BThr.good {n : Nat} {o : Bop} {kind V : Int} {l : List Int} (h : BThr n o kind V l) (h1 : 1 ≤ n) : BGood n o := by
  obtain ⟨x, _, _, _, _, rfl⟩ := h.ex
  exact bgood_fold n l _ (bgood_begin n kind x h1)
theorem BThr.next {n : Nat} {o : Bop} {kind V : Int} {l : List Int} (h : BThr n o kind V l) (h1 : 1 ≤ n) (h8 : n ≤ 8) (base : Int) : bnext base n kind V l = baskOf base o := by
  obtain ⟨x, hV, x1, x2, hp, ho⟩ := h.ex
  have hk1 := h.k1
  have hk4 := h.k4
  by_cases h4 : kind = 4
  · have e : bbegin n kind x = bstart n kind V := by
      unfold bbegin bstart
      rw [if_neg (by omega), if_neg (by omega), if_neg (by omega), if_pos h4, bout0_in (by omega) (by omega)]
    rw [e] at hp ho
    rw [ho]
    exact bnext_ask base n kind V l h1 ⟨hk1, hk4⟩ hp
  · by_cases hx : 0 ≤ x ∧ x < (n : Int)
    · have hVx : V = x := by rw [hV, IntKind.wrap_u64]; omega
      have e : bbegin n kind x = bstart n kind V := by
        unfold bbegin bstart
        rw [if_neg h4, hVx, bout0_in hx.1 hx.2, if_neg (show ¬ (n : Int) ≤ x by omega)]
        by_cases e1 : kind = 1
        · rw [if_pos e1, if_pos e1]
        · rw [if_neg e1, if_neg e1]
          by_cases e2 : kind = 2
          · rw [if_pos e2, if_pos e2]
          · rw [if_neg e2, if_neg e2, if_pos (by omega)]
      rw [e] at hp ho
      rw [ho]
      exact bnext_ask base n kind V l h1 ⟨hk1, hk4⟩ hp
    · have hVn : (n : Int) ≤ V := by rw [hV, IntKind.wrap_u64]; omega
      have hout : (bbegin n kind x).out = 4 := by
        unfold bbegin
        rw [bout0_out hx]
        split
        · rfl
        split
        · rfl
        split
        · rfl
        · omega
      have hl : l = [] := hp.over (by rw [hout]; decide)
      subst hl
      rw [ho]
      simp only [List.foldl]
      unfold bnext baskOf
      rw [if_neg h4, if_pos hVn, if_pos (by rw [hout]; decide), hout, if_neg (by decide)]
/-- A new operation. -/
theorem bthr_new (n : Nat) (kind x : Int) (hk1 : 1 ≤ kind) (hk4 : kind ≤ 4) (x1 : -9223372036854775808 ≤ x) (x2 : x ≤ 9223372036854775807) : BThr n (bbegin n kind x) kind (IntKind.u64.wrap x) [] :=
  ⟨hk1, hk4, by unfold U64; rw [IntKind.wrap_u64]; omega, x, rfl, x1, x2, trivial, rfl⟩
theorem BThr.step {n : Nat} {o : Bop} {kind V : Int} {l : List Int} (h : BThr n o kind V l) (ho : o.out = 0) (x : Int) : BThr n (bans n o x) kind V (l ++ [x]) := by
  obtain ⟨y, hV, y1, y2, hp, he⟩ := h.ex
  refine ⟨h.k1, h.k4, h.u, y, hV, y1, y2, hp.snoc (by rw [← he]; exact ho), ?_⟩
  rw [List.foldl_append, ← he]
  rfl
theorem bask_over {o : Bop} (base : Int) (h : o.out ≠ 0) : (baskOf base o).over = true := by unfold baskOf; rw [if_pos h]; rfl
theorem bask_go {n : Nat} {o : Bop} {base : Int} {len : Nat} (hg : BGood n o) (h : o.out = 0) (b0 : 0 ≤ base) (hi : base + n ≤ len) : (baskOf base o).over = false ∧ ((baskOf base o).what = 1 ∨ (baskOf base o).what = 2 ∨ (baskOf base o).what = 3) ∧ 0 ≤ (baskOf base o).cell ∧ (baskOf base o).cell < len := by
  have w0 := hg.w0 (.inl h)
  have w1 := hg.w1 (.inl h)
  unfold baskOf
  rw [if_neg (by rw [h]; decide)]
  (repeat' split) <;> exact ⟨rfl, by simp [wStore, wLoad, wSwap], by simp only [wStore, wLoad, wSwap]; omega, by simp only [wStore, wLoad, wSwap]; omega⟩

/-- The blocks that stay. -/
structure BFix where
  B0 : Nat
  gat : Nat
  bb : Nat
  bm : Nat
  bc : Nat
  rm : Nat
  rc : Nat
  go : Nat
  gr : Nat
  b : Nat
  n : Nat
structure BFix.Ok (F : BFix) (B : Nat) : Prop where
  bm : F.bm < F.B0
  bc : F.bc < F.B0
  rm : F.rm < F.B0
  rc : F.rc < F.B0
  go : F.go < F.B0
  gr : F.gr < F.B0
  bb : F.bb < F.B0
  gat : F.gat < F.B0
  ne : F.bc ≠ F.rc
  bm0 : B ≤ F.bm
  bc0 : B ≤ F.bc
  rm0 : B ≤ F.rm
  rc0 : B ≤ F.rc
  go0 : B ≤ F.go
  gr0 : B ≤ F.gr
  le : B ≤ F.B0
  n1 : 1 ≤ F.n
  n8 : F.n ≤ 8
  b5 : F.b ≤ 5
structure BSt (F : BFix) (w0 w : World) (act : Nat → Bool) (bo : Nat → Nat) (o : Nat → Bop) (r : Nat → Ref) (l : Nat → List Int) (L : List Int) (tc tcr : Int) (i : Nat) : Prop where
  fam : OFam (fun w b o => BopIs w b F.bb o) w F.B0 5 act bo o
  ops : Blk w F.go 28 (optrs 5 act bo)
  refs : Blk w F.gr 74 (refs3 5 r)
  env : BellEnv w F.bb F.bm F.bc F.b F.n tc L
  ref : RefAt w F.rm F.rc L tcr
  atb : Blk w F.gat 68 #[.int .i64 F.b, .int .i64 F.n]
  logs : ∀ t, t < 5 → LogIs w F.B0 (r t).lv (l t) ∧ (l t).length ≤ i
  thr : ∀ t, t < 5 → act t = true → BThr F.n (o t) (r t).kind (r t).V (l t)
  only : Only S0 w0 w
  le : F.B0 ≤ w.heap.size
  tcb : tc ≤ 1000 + i
  tcrb : tcr ≤ 1000 + i
section
variable {F : BFix} {w0 w w' : World} {act : Nat → Bool} {bo : Nat → Nat} {o : Nat → Bop} {r : Nat → Ref} {l : Nat → List Int} {L : List Int} {tc tcr : Int} {i : Nat}
theorem BSt.only0 (h : BSt F w0 w act bo o r l L tc tcr i) (ho : Only S0 w w') : BSt F w0 w' act bo o r l L tc tcr i :=
  ⟨h.fam.only0 (bop_stays6 F.bb) ho, h.ops.only ho (fun h => h), h.refs.only ho (fun h => h), h.env.only0 ho, h.ref.only0 ho, h.atb.only ho (fun h => h),
    fun t ht => ⟨(h.logs t ht).1.only0 ho, (h.logs t ht).2⟩, h.thr, h.only.trans ho, Nat.le_trans h.le ho.size, h.tcb, h.tcrb⟩
theorem BSt.more (h : BSt F w0 w act bo o r l L tc tcr i) : BSt F w0 w act bo o r l L tc tcr (i + 1) :=
  ⟨h.fam, h.ops, h.refs, h.env, h.ref, h.atb, fun t ht => ⟨(h.logs t ht).1, by have := (h.logs t ht).2; omega⟩, h.thr, h.only, h.le, by have := h.tcb; omega, by have := h.tcrb; omega⟩
/-- A thread begins an operation: w1 is the world behind the call, then the tables are written. -/
theorem BSt.begin_ (hF : F.Ok w0.heap.size) (h : BSt F w0 w act bo o r l L tc tcr i) {w1 : World} {t b : Nat} {x : Bop} {kind V : Int} (ht : t < 5) (ho : Only S0 w w1) (hx : BopIs w1 b F.bb x) (hb : w.heap.size ≤ b) (hth : BThr F.n x kind V []) :
    BSt F w0 ((((w1.setCell ⟨F.go, t, none⟩ (.pointer (some ⟨b, 0, none⟩))).setCell ⟨F.gr, t * 3, none⟩ (.int .i64 kind)).setCell ⟨F.gr, t * 3 + 1, none⟩ (.int .u64 V)).setCell ⟨F.gr, t * 3 + 2, none⟩ (.slice none 0 0))
      (upd act t true) (upd bo t b) (upd o t x) (upd r t ⟨kind, V, .slice none 0 0⟩) (upd l t []) L tc tcr i := by
  have h1 := h.only0 ho
  have hg := hF.go
  have hr := hF.gr
  have hgr : F.go ≠ F.gr := h1.ops.ne_ h1.refs (by decide)
  have o1 := ((((Only.refl (S2 F.go F.gr) w1).set1 t (.inl rfl) (.pointer (some ⟨b, 0, none⟩))).set1 (t * 3) (.inr rfl) (.int .i64 kind)).set1 (t * 3 + 1) (.inr rfl) (.int .u64 V)).set1 (t * 3 + 2) (.inr rfl) (.slice none 0 0)
  have hne : ∀ k, k ≠ F.go → k ≠ F.gr → ¬ S2 F.go F.gr k := fun k h1 h2 h3 => by unfold S2 at h3; omega
  have hfam := h.fam.begin_ (bop_stays6 F.bb) ht ho h.le hx hb (Blk.lt hx)
  refine ⟨hfam.only (bop_stays6 F.bb) o1 (fun s hs ha => hne _ (Blk.ne_ (hfam.at_ s hs ha) h1.ops (by decide)) (Blk.ne_ (hfam.at_ s hs ha) h1.refs (by decide))), ?_, ?_,
    h1.env.only o1 (hne _ (h1.env.bell.ne_ h1.ops (by decide)) (h1.env.bell.ne_ h1.refs (by decide))) (hne _ (h1.env.mem.mem.ne_ h1.ops (by decide)) (h1.env.mem.mem.ne_ h1.refs (by decide))) (hne _ (h1.env.mem.cells.ne_ h1.ops (by decide)) (h1.env.mem.cells.ne_ h1.refs (by decide))),
    h1.ref.only o1 (hne _ (h1.ref.mem.ne_ h1.ops (by decide)) (h1.ref.mem.ne_ h1.refs (by decide))) (hne _ (h1.ref.cells.ne_ h1.ops (by decide)) (h1.ref.cells.ne_ h1.refs (by decide))),
    h1.atb.only o1 (hne _ (h1.atb.ne_ h1.ops (by decide)) (h1.atb.ne_ h1.refs (by decide))), fun s hs => ?_, fun s hs ha => ?_, ?_, Nat.le_trans h1.le o1.size, h1.tcb, h1.tcrb⟩
  · have e := (h1.ops.set_ t (.pointer (some ⟨b, 0, none⟩)))
    rw [optrs_set] at e
    exact ((e.far (p := ⟨F.gr, t * 3, none⟩) hgr _).far (p := ⟨F.gr, t * 3 + 1, none⟩) hgr _).far (p := ⟨F.gr, t * 3 + 2, none⟩) hgr _
  · exact (h1.refs.far (p := ⟨F.go, t, none⟩) (Ne.symm hgr) (.pointer (some ⟨b, 0, none⟩))).set3 ⟨kind, V, .slice none 0 0⟩
  · by_cases e : s = t
    · subst e
      rw [upd_same, upd_same]
      exact ⟨⟨LogAt.nil _ _, fun _ => rfl⟩, Nat.zero_le _⟩
    · rw [upd_ne _ _ e, upd_ne _ _ e]
      exact ⟨(h1.logs s hs).1.only o1 (fun g hg1 _ => .inl (hne g (by omega) (by omega))), (h1.logs s hs).2⟩
  · by_cases e : s = t
    · subst e
      rw [upd_same, upd_same, upd_same]
      exact hth
    · rw [upd_ne _ _ e] at ha
      rw [upd_ne _ _ e, upd_ne _ _ e, upd_ne _ _ e]
      exact h1.thr s hs ha
  · have := hF.go0
    have := hF.gr0
    exact (((h1.only.setNew t (by omega) _).setNew (t * 3) (by omega) _).setNew (t * 3 + 1) (by omega) _).setNew (t * 3 + 2) (by omega) _
/-- What stands behind the program's step and the document's, before the table is written. -/
theorem BSt.mid (hF : F.Ok w0.heap.size) (h : BSt F w0 w act bo o r l L tc tcr i) {w1 : World} {t : Nat} (ht : t < 5) (ha : act t = true) (ho1 : Only (S3 (bo t) F.bm F.bc) w w1) :
    Blk w1 F.go 28 (optrs 5 act bo) ∧ Blk w1 F.gr 74 (refs3 5 r) ∧ RefAt w1 F.rm F.rc L tcr ∧ Blk w1 F.gat 68 #[.int .i64 F.b, .int .i64 F.n] ∧ (∀ s, s < 5 → LogIs w1 F.B0 (r s).lv (l s)) ∧ Only S0 w0 w1 ∧ F.B0 ≤ w1.heap.size := by
  have hp := h.fam.at_ t ht ha
  have hge := h.fam.ge t ht ha
  have hb1 := hF.bm
  have hb2 := hF.bc
  have hb3 := hF.rm
  have hb4 := hF.rc
  have hb0 := hF.bm0
  have hc0 := hF.bc0
  have hle := hF.le
  have hS : ∀ k, k < F.B0 → k ≠ F.bm → k ≠ F.bc → ¬ S3 (bo t) F.bm F.bc k := fun k h1 h2 h3 h4 => by unfold S3 at h4; omega
  refine ⟨h.ops.only ho1 (hS _ hF.go (h.ops.ne_ h.env.mem.mem (by decide)) (h.ops.ne_ h.env.mem.cells (by decide))), h.refs.only ho1 (hS _ hF.gr (h.refs.ne_ h.env.mem.mem (by decide)) (h.refs.ne_ h.env.mem.cells (by decide))),
    h.ref.only ho1 (hS _ hF.rm (h.ref.mem.ne_ h.env.mem.mem (by decide)) (h.ref.mem.ne_ h.env.mem.cells (by decide))) (hS _ hF.rc (h.ref.cells.ne_ h.env.mem.mem (by decide)) (fun e => hF.ne e.symm)),
    h.atb.only ho1 (hS _ hF.gat (h.atb.ne_ h.env.mem.mem (by decide)) (h.atb.ne_ h.env.mem.cells (by decide))), fun s hs => ?_, S0.then3 h.only ho1 (by omega) hb0 hc0, Nat.le_trans h.le ho1.size⟩
  refine (h.logs s hs).1.only ho1 fun g hg1 hg2 => ?_
  by_cases e : g = bo t
  · subst e
    exact .inr ⟨_, _, hp, by decide⟩
  · exact .inl (fun h4 => by unfold S3 at h4; omega)
theorem BSt.step_ (hF : F.Ok w0.heap.size) (h : BSt F w0 w act bo o r l L tc tcr i) {w1 w2 : World} {t : Nat} {o' : Bop} {kind V tc' tcr' : Int} {l' L' : List Int} {lv' : Value} (ht : t < 5) (ha : act t = true) (ho1 : Only (S3 (bo t) F.bm F.bc) w w1) (hx : BopIs w1 (bo t) F.bb o')
    (henv : BellEnv w1 F.bb F.bm F.bc F.b F.n tc' L') (ho2 : Only (S2 F.rm F.rc) w1 w2) (href : RefAt w2 F.rm F.rc L' tcr') (hlog : LogIs w2 F.B0 lv' l') (hlen : l'.length ≤ i + 1) (hth : BThr F.n o' kind V l') (htc : tc' ≤ tc + 1) (htcr : tcr' ≤ tcr + 1) :
    BSt F w0 (((w2.setCell ⟨F.gr, t * 3, none⟩ (.int .i64 kind)).setCell ⟨F.gr, t * 3 + 1, none⟩ (.int .u64 V)).setCell ⟨F.gr, t * 3 + 2, none⟩ lv')
      act bo (upd o t o') (upd r t ⟨kind, V, lv'⟩) (upd l t l') L' tc' tcr' (i + 1) := by
  obtain ⟨m1, m2, m3, m4, m5, m6, m7⟩ := h.mid hF ht ha ho1
  have hge := h.fam.ge t ht ha
  have hb1 := hF.bm
  have hb2 := hF.bc
  have hb3 := hF.rm
  have hb4 := hF.rc
  have hgo := hF.go
  have hgr := hF.gr
  have hR : ∀ k, k ≠ F.rm → k ≠ F.rc → ¬ S2 F.rm F.rc k := fun k h1 h2 h3 => by unfold S2 at h3; omega
  have fam1 := h.fam.step (bop_stays6 F.bb) ht ho1 (fun s hs has hst h4 => by
    rcases h4 with h4 | h4 | h4
    · exact h.fam.ne s t hs ht has ha hst h4
    · have := h.fam.ge s hs has; omega
    · have := h.fam.ge s hs has; omega) hx
  have fam2 := fam1.only (bop_stays6 F.bb) ho2 (fun s hs has => hR _ (by have := fam1.ge s hs has; omega) (by have := fam1.ge s hs has; omega))
  have ops2 := m1.only ho2 (hR _ (m1.ne_ m3.mem (by decide)) (m1.ne_ m3.cells (by decide)))
  have refs2 := m2.only ho2 (hR _ (m2.ne_ m3.mem (by decide)) (m2.ne_ m3.cells (by decide)))
  have env2 := henv.only ho2 (hR _ (henv.bell.ne_ m3.mem (by decide)) (henv.bell.ne_ m3.cells (by decide))) (hR _ (henv.mem.mem.ne_ m3.mem (by decide)) (henv.mem.mem.ne_ m3.cells (by decide))) (hR _ (henv.mem.cells.ne_ m3.mem (by decide)) hF.ne)
  have atb2 := m4.only ho2 (hR _ (m4.ne_ m3.mem (by decide)) (m4.ne_ m3.cells (by decide)))
  have logs2 : ∀ s, s < 5 → LogIs w2 F.B0 (r s).lv (l s) := fun s hs => (m5 s hs).only ho2 fun g hg1 _ => .inl (hR g (by omega) (by omega))
  have o3 := ((((Only.refl (S1 F.gr) w2).set1 (t * 3) rfl (.int .i64 kind)).set1 (t * 3 + 1) rfl (.int .u64 V)).set1 (t * 3 + 2) rfl lv')
  have hg3 : ∀ k, k ≠ F.gr → ¬ S1 F.gr k := fun k h1 h2 => h1 h2
  refine ⟨fam2.only (bop_stays6 F.bb) o3 (fun s hs has => hg3 _ (by have := fam2.ge s hs has; omega)), ops2.only o3 (hg3 _ (ops2.ne_ refs2 (by decide))), refs2.set3 ⟨kind, V, lv'⟩,
    env2.only o3 (hg3 _ (env2.bell.ne_ refs2 (by decide))) (hg3 _ (env2.mem.mem.ne_ refs2 (by decide))) (hg3 _ (env2.mem.cells.ne_ refs2 (by decide))),
    href.only o3 (hg3 _ (href.mem.ne_ refs2 (by decide))) (hg3 _ (href.cells.ne_ refs2 (by decide))), atb2.only o3 (hg3 _ (atb2.ne_ refs2 (by decide))), fun s hs => ?_, fun s hs has => ?_, ?_, Nat.le_trans (Nat.le_trans m7 ho2.size) o3.size, by have := h.tcb; omega, by have := h.tcrb; omega⟩
  · by_cases e : s = t
    · subst e
      rw [upd_same, upd_same]
      exact ⟨hlog.only o3 (fun g hg1 _ => .inl (hg3 g (by omega))), hlen⟩
    · rw [upd_ne _ _ e, upd_ne _ _ e]
      exact ⟨(logs2 s hs).only o3 (fun g hg1 _ => .inl (hg3 g (by omega))), by have := (h.logs s hs).2; omega⟩
  · by_cases e : s = t
    · subst e
      rw [upd_same, upd_same, upd_same]
      exact hth
    · rw [upd_ne _ _ e, upd_ne _ _ e, upd_ne _ _ e]
      exact h.thr s hs has
  · have h1 := hF.rm0
    have h2 := hF.rc0
    have h3 := hF.gr0
    exact (((S0.then2 m6 ho2 h1 h2).setNew (t * 3) h3 _).setNew (t * 3 + 1) h3 _).setNew (t * 3 + 2) h3 _
end
end Go.Proofs.Ytafnlmkhfonghaa
