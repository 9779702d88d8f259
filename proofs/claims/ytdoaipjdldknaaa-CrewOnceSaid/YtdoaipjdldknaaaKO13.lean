/-
  CrewOnce: the gang in memory: an operation is begun, goes on; a slice grows.
-/
import Derived.Test.YtdoaipjdldknaaaKO12
namespace Go.Proofs.Ytdoaipjdldknaaa
open Go.RowKit
set_option linter.unusedVariables false
section
variable {X : GX} {w0 w w1 w' : World} {L L' : List Int} {tc tc' : Int} {o : Nat → CSt} {own : Nat → Nat} {act : Nat → Bool} {bo : Nat → Nat} {ph : Nat → Nat} {lf : Nat → Int} {nx : Nat} {fv pv : Value} {fd ps : List Int} {g0 t co : Nat} {x : CSt}
theorem GSl.own' {v : Value} {xs : List Int} (h : GSl X w own v xs) (m t : Nat) (hm : w.heap.size ≤ m) : GSl X w (ownJ own m t) v xs := ⟨h.sl, fun g hg => by
  have := (h.sl.block hg).2
  unfold ownJ
  rw [if_neg (by omega)]
  exact h.off g hg⟩
theorem optr_bo (h : act t = false) : (fun i => optr act (upd bo t co) i) = fun i => optr act bo i := by
  funext i
  unfold optr
  by_cases e : i = t
  · subst e; rw [h]; rfl
  · rw [upd_ne _ _ e]
/-- An operation is there; nobody has it yet. -/
theorem GM.new_ (h : GM X w0 w L tc o own act bo ph lf nx fv pv fd ps) (ht : t ≤ X.n) (ha : act t = false) (ho : Only S0 w w1) (hx : CIs w1 X.cb X.bb X.bg X.bc X.bd (fun k => w.heap.size ≤ k) co x) (hsho : ShO X.n (upd o t x X.n)) :
    GM X w0 w1 L tc (upd o t x) (ownJ own w.heap.size t) act (upd bo t co) ph lf nx fv pv fd ps ∧ CIs w1 X.cb X.bb X.bg X.bc X.bd (OwnJ (ownJ own w.heap.size t) X.B0 w1.heap.size t) (upd bo t co t) (upd o t x t) := by
  have h1 := h.only0 ho
  refine ⟨⟨h1.env, fun s hs has => ?_, hsho, ?_, by rw [optr_bo ha]; exact h1.ops, h1.phs, h1.lfs, (h.fsl.own' _ t (Nat.le_refl _)).only ho (fun _ _ h => h), (h.psl.own' _ t (Nat.le_refl _)).only ho (fun _ _ h => h), h.fp, h1.only, h1.le⟩, ?_⟩
  · have e : s ≠ t := fun e => by subst e; rw [ha] at has; cases has
    rw [upd_ne _ _ e, upd_ne _ _ e]
    exact (cis0 (h.fam s hs has) ho).more (ownJ_old ho.size)
  · have := h1.g
    unfold gangV at this ⊢
    rw [show optr act (upd bo t co) X.n = optr act bo X.n from congrFun (optr_bo ha) X.n]
    exact this
  · rw [upd_same, upd_same]
    exact hx.oinside.more fun k hk => ownJ_new h.le k hk
/-- A worker's table gets it. -/
theorem GM.onW (h : GM X w0 w L tc o own act bo ph lf nx fv pv fd ps) (hX : X.Ok w0.heap.size) (ht : t < X.n) (ha : act t = false) (hx : CIs w X.cb X.bb X.bg X.bc X.bd (OwnJ own X.B0 w.heap.size t) (bo t) (o t)) :
    GM X w0 (w.setCell ⟨X.ob, t, none⟩ (.pointer (some ⟨bo t, 0, none⟩))) L tc o own (upd act t true) bo ph lf nx fv pv fd ps := by
  have hob : ∀ s, s ≤ X.n → upd act t true s = true → ∀ {x : Nat}, OBox w x (bo s) → x ≠ X.ob := fun s hs has x hx e => by
    subst e
    have hc := blk_eq hx h.ops
    have hsz := congrArg Array.size hc
    rw [tabC_size] at hsz
    have h1 : X.n = 1 := hsz.symm
    have ht0 : t = 0 := by omega
    subst ht0
    have hg := tabC_get (fun i => optr act bo i) (show 0 < X.n by omega)
    rw [← hc] at hg
    have hg' : Value.pointer (some ⟨bo s, 0, none⟩) = optr act bo 0 := by simpa using hg
    unfold optr at hg'
    rw [ha] at hg'
    cases hg'
  have hcis : ∀ s, s ≤ X.n → upd act t true s = true → CIs w X.cb X.bb X.bg X.bc X.bd (OwnJ own X.B0 w.heap.size s) (bo s) (o s) := fun s hs has => by
    by_cases e : s = t
    · subst e; exact hx
    · rw [upd_ne _ _ e] at has; exact h.fam s hs has
  have ho := only_set w X.ob t (.pointer (some ⟨bo t, 0, none⟩))
  have hsl : ∀ {v : Value} {xs : List Int}, GSl X w own v xs → ∀ g, v.ownBlock = some g → ¬ S1 X.ob g := fun hv g hg e => by
    have := (hv.sl.block hg).1
    have := hX.ob
    unfold S1 at e
    omega
  have hgo : optr (upd act t true) bo X.n = optr act bo X.n := by unfold optr; rw [upd_ne _ _ (by omega)]
  refine ⟨h.env.offg ho (four_off h.ops ob_ty) (fun e => h.ops.ne_ h.env.mem.cells (by decide) e.symm), fun s hs has => ((hcis s hs has).off ho ⟨fun k hk e => ?_, four_off h.ops ob_ty, fun hx e => hob s hs has hx e, .inr fun hx e => hx.ne_ h.ops (by decide) e⟩).more (OwnJ.up ho.size), h.sho, ?_, ?_, h.phs.far (p := ⟨X.ob, t, none⟩) (h.phs.ne_ h.ops (by decide)) _, h.lfs.far (p := ⟨X.ob, t, none⟩) (h.lfs.ne_ h.ops (by decide)) _, h.fsl.only ho (hsl h.fsl), h.psl.only ho (hsl h.psl), h.fp, h.only.setNew t hX.ob0 _, Nat.le_trans h.le ho.size⟩
  · have := hk.1.2
    have := hX.ob
    unfold S1 at e
    omega
  · have := h.g.far (p := ⟨X.ob, t, none⟩) (h.g.ne_ h.ops (by decide)) (.pointer (some ⟨bo t, 0, none⟩))
    unfold gangV at this ⊢
    rw [hgo]
    exact this
  · have e : (fun i => optr (upd act t true) bo i) = upd (fun i => optr act bo i) t (.pointer (some ⟨bo t, 0, none⟩)) := by
      have := optr_upd act bo t (bo t)
      rw [upd_self'] at this
      exact this
    rw [e, ← tabC_set]
    exact h.ops.set_ t _
/-- Who offers from outside gets it. -/
theorem GM.onO (h : GM X w0 w L tc o own act bo ph lf nx fv pv fd ps) (hX : X.Ok w0.heap.size) (ha : act X.n = false) (hx : CIs w X.cb X.bb X.bg X.bc X.bd (OwnJ own X.B0 w.heap.size X.n) (bo X.n) (o X.n)) :
    GM X w0 (w.setCell ⟨X.gb, 4, none⟩ (.pointer (some ⟨bo X.n, 0, none⟩))) L tc o own (upd act X.n true) bo ph lf nx fv pv fd ps := by
  have ho := only_set w X.gb 4 (.pointer (some ⟨bo X.n, 0, none⟩))
  have hcis : ∀ s, s ≤ X.n → upd act X.n true s = true → CIs w X.cb X.bb X.bg X.bc X.bd (OwnJ own X.B0 w.heap.size s) (bo s) (o s) := fun s hs has => by
    by_cases e : s = X.n
    · subst e; exact hx
    · rw [upd_ne _ _ e] at has; exact h.fam s hs has
  have hsl : ∀ {v : Value} {xs : List Int}, GSl X w own v xs → ∀ g, v.ownBlock = some g → ¬ S1 X.gb g := fun hv g hg e => by
    have := (hv.sl.block hg).1
    have := hX.gb
    unfold S1 at e
    omega
  have ht : (tabC X.n fun i => optr (upd act X.n true) bo i) = tabC X.n fun i => optr act bo i := by
    unfold tabC
    congr 1
    refine List.map_congr_left fun i hi => ?_
    have := List.mem_range.1 hi
    unfold optr
    rw [upd_ne _ _ (by omega)]
  refine ⟨h.env.offg ho (four_off h.g gb_ty) (fun e => h.g.ne_ h.env.mem.cells (by decide) e.symm), fun s hs has => ((hcis s hs has).off ho ⟨fun k hk e => ?_, four_off h.g gb_ty, fun hx e => hx.ne_ h.g (by decide) e, .inr fun hx e => hx.ne_ h.g (by decide) e⟩).more (OwnJ.up ho.size), h.sho, ?_, by rw [ht]; exact h.ops.far (p := ⟨X.gb, 4, none⟩) (h.ops.ne_ h.g (by decide)) _, h.phs.far (p := ⟨X.gb, 4, none⟩) (h.phs.ne_ h.g (by decide)) _, h.lfs.far (p := ⟨X.gb, 4, none⟩) (h.lfs.ne_ h.g (by decide)) _, h.fsl.only ho (hsl h.fsl), h.psl.only ho (hsl h.psl), h.fp, h.only.setNew 4 hX.gb0 _, Nat.le_trans h.le ho.size⟩
  · have := hk.1.2
    have := hX.gb
    unfold S1 at e
    omega
  · have := h.g.set_ 4 (.pointer (some ⟨bo X.n, 0, none⟩))
    have e : optr (upd act X.n true) bo X.n = .pointer (some ⟨bo X.n, 0, none⟩) := by unfold optr; rw [upd_same]; rfl
    unfold gangV at this ⊢
    rw [e]
    exact this
/-- An operation goes on. -/
theorem GM.step (h : GM X w0 w L tc o own act bo ph lf nx fv pv fd ps) (hX : X.Ok w0.heap.size) (ht : t ≤ X.n) (ha : act t = true) {S : Nat → Prop} (ho : Only S w w1) (hS : CFoot w X.bm X.bc (OwnJ own X.B0 w.heap.size t) S)
    (hx : CIs w1 X.cb X.bb X.bg X.bc X.bd (fun k => OwnJ own X.B0 w.heap.size t k ∨ w.heap.size ≤ k) (bo t) x) (henv : CEnv w1 (crewF X.n X.s) X.cb X.bb X.bg X.bm X.bc X.dv X.bd tc' L') (hsho : ShO X.n (upd o t x X.n)) :
    GM X w0 w1 L' tc' (upd o t x) (ownJ own w.heap.size t) act bo ph lf nx fv pv fd ps := by
  have hn : ∀ {g : Nat} {ty : TypeId} {cs : Array Value}, Blk w g ty cs → Four ty → g ≠ X.bc → ¬ S g := fun {g ty cs} hg h4 hc hs => by
    rcases hS g hs with e | e | ⟨-, t', cs', hb, hot⟩
    · refine Blk.ne_ hg h.env.mem.mem (fun e2 => ?_) e
      subst e2
      rcases h4 with e | e | e | e <;> revert e <;> decide
    · exact hc e
    · have e2 : ty = t' := by
        by_cases e : ty = t'
        · exact e
        · exact absurd rfl (Blk.ne_ hg hb e)
      subst e2
      rcases h4 with rfl | rfl | rfl | rfl <;> (unfold OpT at hot; revert hot; decide)
  have hsl : ∀ {v : Value} {xs : List Int}, GSl X w own v xs → ∀ g, v.ownBlock = some g → ¬ S g := fun hv g hg => by
    have h1 := (hv.sl.block hg).1
    have h2 := hX.bc
    rcases hv.sl.form with ⟨e, -⟩ | ⟨g', cap, cur, e, -, hb, -⟩
    · subst e; cases hg
    · subst e
      have hg' : g' = g := by have : some g' = some g := hg; injection this
      subst hg'
      exact hn hb lb_ty (by omega)
  refine ⟨henv, fun s hs has => ?_, hsho, h.g.only ho (hn h.g gb_ty (h.g.ne_ h.env.mem.cells (by decide))), h.ops.only ho (hn h.ops ob_ty (h.ops.ne_ h.env.mem.cells (by decide))), h.phs.only ho (hn h.phs pb_ty (h.phs.ne_ h.env.mem.cells (by decide))), h.lfs.only ho (hn h.lfs lb_ty hX.lc), (h.fsl.own' _ t (Nat.le_refl _)).only ho (hsl h.fsl), (h.psl.own' _ t (Nat.le_refl _)).only ho (hsl h.psl), h.fp, ?_, Nat.le_trans h.le ho.size⟩
  · by_cases e : s = t
    · subst e
      rw [upd_same]
      refine hx.oinside.more fun k hk => ?_
      rcases hk.1 with q | q
      · exact ownJ_old ho.size k q
      · exact ownJ_new h.le k ⟨q, hk.2⟩
    · rw [upd_ne _ _ e]
      refine ((h.fam s hs has).away h.env.mem.mem ⟨_, h.env.mem.cells⟩ ho ⟨fun k hk => ?_, fun k hk hk' => ?_⟩).more (ownJ_old ho.size)
      · rcases hS k hk with e | e | ⟨_, e⟩
        · exact .inl e
        · exact .inr (.inl e)
        · exact .inr (.inr e)
      · have q := hk.1.2
        have q1 := hX.bm
        have q2 := hX.bc
        rcases hS k hk' with e2 | e2 | ⟨e2, _⟩
        · omega
        · omega
        · exact e (hk.1.1.symm.trans e2.1.1)
  · refine h.only.then ho fun k hk hs => ?_
    have q1 := hX.bm0
    have q2 := hX.bc0
    have q3 := hX.bm
    rcases hS k hs with e | e | ⟨e, _⟩
    · exfalso; omega
    · exfalso; omega
    · have := e.1.2; exfalso; omega
theorem sl_off (hv : GSl X w own fv fd) : ∀ {x : Nat} {t : TypeId} {cs : Array Value}, Blk w x t cs → t ≠ 31 → ¬ (fv.ownBlock = some x) := fun hx h e => hv.sl.ne_blk hx (Ne.symm h) e
/-- One of the gang's slices grows; its new value isn't stored yet. -/
theorem GM.grow_ (h : GM X w0 w L tc o own act bo ph lf nx fv pv fd ps) (hX : X.Ok w0.heap.size) {v : Value} {xs : List Int} (hv : GSl X w own v xs) (ho : Only (fun k => v.ownBlock = some k) w w1) :
    CEnv w1 (crewF X.n X.s) X.cb X.bb X.bg X.bm X.bc X.dv X.bd tc L ∧ (∀ t, t ≤ X.n → act t = true → CIs w1 X.cb X.bb X.bg X.bc X.bd (OwnJ (ownJ own w.heap.size (X.n + 1)) X.B0 w1.heap.size t) (bo t) (o t)) ∧ Blk w1 X.gb 33 (gangV X act bo nx fv pv) ∧
      Blk w1 X.ob 30 (tabC X.n fun i => optr act bo i) ∧ Blk w1 X.pb 3 (tabC X.n fun i => .int .i64 (ph i : Int)) ∧ Blk w1 X.lb 31 (tabC X.n fun i => .int .u64 (lf i)) ∧ Only S0 w0 w1 ∧ X.B0 ≤ w1.heap.size := by
  have hne : ∀ g, v.ownBlock = some g → X.B0 ≤ g := fun g hg => (hv.sl.block hg).1
  have hoff : ∀ {x : Nat} {t : TypeId} {cs : Array Value}, Blk w x t cs → t ≠ 30 → t ≠ 3 → t ≠ 31 → t ≠ 33 → ¬ (v.ownBlock = some x) := fun hx _ _ h3 _ => sl_off hv hx h3
  refine ⟨h.env.offg ho hoff (fun e => by have := hne _ e; have := hX.bc; omega), fun t ht ha => ((h.fam t ht ha).off ho ⟨fun k hk e => ?_, hoff, fun hx => sl_off hv hx (by decide), .inr fun hx => sl_off hv hx (by decide)⟩).more (ownJ_old ho.size), h.g.only ho (sl_off hv h.g (by decide)), h.ops.only ho (sl_off hv h.ops (by decide)), h.phs.only ho (sl_off hv h.phs (by decide)), h.lfs.only ho (fun e => by have := hne _ e; have := hX.lb; omega), h.only.then ho fun k hk hs => ?_, Nat.le_trans h.le ho.size⟩
  · have a := hk.1.1
    have b := hv.off k e
    omega
  · have := hne _ hs
    have := hX.bm0
    have := hX.bm
    omega
theorem GM.appF (h : GM X w0 w L tc o own act bo ph lf nx fv pv fd ps) (hX : X.Ok w0.heap.size) {fv' : Value} {y : Int} (ho : Only (fun k => fv.ownBlock = some k) w w1) (hs : Sl w1 X.B0 31 fv' (ou64s (fd ++ [y]))) (hn : fv'.ownBlock = fv.ownBlock ∨ ∃ g, fv'.ownBlock = some g ∧ w.heap.size ≤ g) :
    GM X w0 (w1.setCell ⟨X.gb, 6, none⟩ fv') L tc o (ownJ own w.heap.size (X.n + 1)) act bo ph lf nx fv' pv (fd ++ [y]) ps := by
  obtain ⟨a1, a2, a3, a4, a5, a6, a7, a8⟩ := h.grow_ hX h.fsl ho
  have h2 : GM X w0 w1 L tc o (ownJ own w.heap.size (X.n + 1)) act bo ph lf nx fv pv fd ps → True := fun _ => trivial
  have hpv : ∀ g, pv.ownBlock = some g → ¬ (fv.ownBlock = some g) := fun g hg e => h.fp g e hg
  have hfs : GSl X w1 (ownJ own w.heap.size (X.n + 1)) fv' (fd ++ [y]) := ⟨hs, fun g hg => by
    unfold ownJ
    by_cases e : w.heap.size ≤ g
    · rw [if_pos e]
    · rw [if_neg e]
      rcases hn with e2 | ⟨g2, e2, e3⟩
      · exact h.fsl.off g (by rw [← e2]; exact hg)
      · rw [hg] at e2; injection e2 with e2; omega⟩
  have hps := (h.psl.own' _ (X.n + 1) (Nat.le_refl _)).only ho hpv
  have hfp : ∀ g, fv'.ownBlock = some g → pv.ownBlock ≠ some g := fun g hg e => by
    rcases hn with e2 | ⟨g2, e2, e3⟩
    · exact h.fp g (by rw [← e2]; exact hg) e
    · rw [hg] at e2; injection e2 with e2; have := (h.psl.sl.block e).2; omega
  have ho6 := only_set w1 X.gb 6 fv'
  have hsl : ∀ {v : Value} {xs : List Int}, GSl X w1 (ownJ own w.heap.size (X.n + 1)) v xs → ∀ g, v.ownBlock = some g → ¬ S1 X.gb g := fun hv g hg e => by
    have := (hv.sl.block hg).1
    have := hX.gb
    unfold S1 at e
    omega
  exact ⟨a1.offg ho6 (four_off a3 gb_ty) (fun e => a3.ne_ a1.mem.cells (by decide) e.symm), fun t ht ha => ((a2 t ht ha).off ho6 ⟨fun k hk e => by have := hk.1.2; have := hX.gb; unfold S1 at e; omega, four_off a3 gb_ty, fun hx e => hx.ne_ a3 (by decide) e, .inr fun hx e => hx.ne_ a3 (by decide) e⟩).more (OwnJ.up ho6.size), h.sho, a3.set_ 6 fv', a4.far (p := ⟨X.gb, 6, none⟩) (a4.ne_ a3 (by decide)) _, a5.far (p := ⟨X.gb, 6, none⟩) (a5.ne_ a3 (by decide)) _, a6.far (p := ⟨X.gb, 6, none⟩) (a6.ne_ a3 (by decide)) _, hfs.only ho6 (hsl hfs), hps.only ho6 (hsl hps), hfp, a7.setNew 6 hX.gb0 _, Nat.le_trans a8 ho6.size⟩
theorem GM.appP (h : GM X w0 w L tc o own act bo ph lf nx fv pv fd ps) (hX : X.Ok w0.heap.size) {pv' : Value} {y : Int} (ho : Only (fun k => pv.ownBlock = some k) w w1) (hs : Sl w1 X.B0 31 pv' (ou64s (ps ++ [y]))) (hn : pv'.ownBlock = pv.ownBlock ∨ ∃ g, pv'.ownBlock = some g ∧ w.heap.size ≤ g) :
    GM X w0 (w1.setCell ⟨X.gb, 7, none⟩ pv') L tc o (ownJ own w.heap.size (X.n + 1)) act bo ph lf nx fv pv' fd (ps ++ [y]) := by
  obtain ⟨a1, a2, a3, a4, a5, a6, a7, a8⟩ := h.grow_ hX h.psl ho
  have hpv : ∀ g, fv.ownBlock = some g → ¬ (pv.ownBlock = some g) := fun g hg e => h.fp g hg e
  have hfs : GSl X w1 (ownJ own w.heap.size (X.n + 1)) pv' (ps ++ [y]) := ⟨hs, fun g hg => by
    unfold ownJ
    by_cases e : w.heap.size ≤ g
    · rw [if_pos e]
    · rw [if_neg e]
      rcases hn with e2 | ⟨g2, e2, e3⟩
      · exact h.psl.off g (by rw [← e2]; exact hg)
      · rw [hg] at e2; injection e2 with e2; omega⟩
  have hps := (h.fsl.own' _ (X.n + 1) (Nat.le_refl _)).only ho hpv
  have hfp : ∀ g, fv.ownBlock = some g → pv'.ownBlock ≠ some g := fun g hg e => by
    rcases hn with e2 | ⟨g2, e2, e3⟩
    · exact h.fp g hg (by rw [← e2]; exact e)
    · rw [e] at e2; injection e2 with e2; have := (h.fsl.sl.block hg).2; omega
  have ho6 := only_set w1 X.gb 7 pv'
  have hsl : ∀ {v : Value} {xs : List Int}, GSl X w1 (ownJ own w.heap.size (X.n + 1)) v xs → ∀ g, v.ownBlock = some g → ¬ S1 X.gb g := fun hv g hg e => by
    have := (hv.sl.block hg).1
    have := hX.gb
    unfold S1 at e
    omega
  exact ⟨a1.offg ho6 (four_off a3 gb_ty) (fun e => a3.ne_ a1.mem.cells (by decide) e.symm), fun t ht ha => ((a2 t ht ha).off ho6 ⟨fun k hk e => by have := hk.1.2; have := hX.gb; unfold S1 at e; omega, four_off a3 gb_ty, fun hx e => hx.ne_ a3 (by decide) e, .inr fun hx e => hx.ne_ a3 (by decide) e⟩).more (OwnJ.up ho6.size), h.sho, a3.set_ 7 pv', a4.far (p := ⟨X.gb, 7, none⟩) (a4.ne_ a3 (by decide)) _, a5.far (p := ⟨X.gb, 7, none⟩) (a5.ne_ a3 (by decide)) _, a6.far (p := ⟨X.gb, 7, none⟩) (a6.ne_ a3 (by decide)) _, hps.only ho6 (hsl hps), hfs.only ho6 (hsl hfs), hfp, a7.setNew 7 hX.gb0 _, Nat.le_trans a8 ho6.size⟩
end
end Go.Proofs.Ytdoaipjdldknaaa
