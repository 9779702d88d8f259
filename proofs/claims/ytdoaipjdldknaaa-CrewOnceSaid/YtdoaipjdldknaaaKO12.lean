/-
  CrewOnce: the gang in memory: workers' operations, their phases, what was found and offered.
-/
import Derived.Test.YtdoaipjdldknaaaKO11
import Derived.Test.YtdoaipjdldknaaaAppT
namespace Go.Proofs.Ytdoaipjdldknaaa
open Go.RowKit
set_option linter.unusedVariables false
/-- No worker's number lies in a box of its own. -/
def NoW : CSt → Prop
  | .src _ _ => False
  | .sleep _ _ => False
  | .take _ _ => False
  | _ => True
/-- What is written is none of an operation's own, and no box of it. -/
structure Off (w : World) (co : Nat) (st : CSt) (O S : Nat → Prop) : Prop where
  o : ∀ k, O k → ¬ S k
  t : ∀ {x : Nat} {t : TypeId} {cs : Array Value}, Blk w x t cs → t ≠ 30 → t ≠ 3 → t ≠ 31 → t ≠ 33 → ¬ S x
  b : ∀ {x : Nat}, OBox w x co → ¬ S x
  w : NoW st ∨ ∀ {x : Nat} {v : Int}, WBox w x v → ¬ S x
section
variable {w w' : World} {cb bb bg bm bc co : Nat} {bd : Nat → Nat} {O O' S : Nat → Prop} {st : CSt}
theorem CIs.off (h : CIs w cb bb bg bc bd O co st) (ho : Only S w w') (hf : Off w co st O S) : CIs w' cb bb bg bc bd O co st := by
  have nO : ∀ {x : Nat}, OBox w x co → ¬ S x := hf.b
  have nG : ∀ {x b : Nat}, GBox w x b → ¬ S x := fun hx => hf.t hx (by decide) (by decide) (by decide) (by decide)
  have nD : ∀ {x b : Nat}, DBox w x b → ¬ S x := fun hx => hf.t hx (by decide) (by decide) (by decide) (by decide)
  have nB : ∀ {x b : Nat}, BBox w x b → ¬ S x := fun hx => hf.t hx (by decide) (by decide) (by decide) (by decide)
  have nC : ∀ {x b : Nat}, CBox w x b → ¬ S x := fun hx => hf.t hx (by decide) (by decide) (by decide) (by decide)
  have nI : ∀ {x p : Nat} {t : TypeId}, IBox w x t p → ¬ S x := fun hx => hf.t hx (by decide) (by decide) (by decide) (by decide)
  have nQ : ∀ {x : Nat} {sv : Value}, QBox w x sv → ¬ S x := fun hx => hf.t hx (by decide) (by decide) (by decide) (by decide)
  have nF : ∀ (g : Nat) (cs : Array Value), Blk w g 81 cs → ¬ S g := fun g cs hx => hf.t hx (by decide) (by decide) (by decide) (by decide)
  cases st with
  | over out v => obtain ⟨c, t, h1, h2⟩ := h; exact ⟨c, t, h1.only ho (hf.o _ h2), h2⟩
  | ring b => obtain ⟨p, x, h1, h2, h3, h4, h5⟩ := h; exact ⟨p, x, h1.only ho (hf.o _ h4), h2.only ho (hf.o _ h5), h3.only ho (nO h3), h4, h5⟩
  | put v g => obtain ⟨p, xp, xo, xv, h1, h2, h3, h4, h5, h6, h7, h8⟩ := h; exact ⟨p, xp, xo, xv, h1.only ho (hf.o _ h6), GopAt.only h2 ho (hf.o _ h7), h3.only ho (nG h3), h4.only ho (nO h4), h5.only ho (hf.o _ h8.2), h6, h7, h8⟩
  | push i v d => obtain ⟨p, xp, xo, xv, h1, h2, h3, h4, h5, h6, h7, h8⟩ := h; exact ⟨p, xp, xo, xv, h1.only ho (hf.o _ h6), DopAt.only h2 ho (hf.o _ h7), h3.only ho (nD h3), h4.only ho (nO h4), h5.only ho (hf.o _ h8.2), h6, h7, h8⟩
  | src s rest =>
    have nW : ∀ {x : Nat} {v : Int}, WBox w x v → ¬ S x := fun hx => hf.w.elim (fun e => e.elim) (fun h => h hx)
    cases s with
    | dq i d => obtain ⟨p, xs, xo, xq, sv, s0, h1, h2, h3, h4, h5, h6, h7, h8⟩ := h; exact ⟨p, xs, xo, xq, sv, s0, h1.only ho (hf.o _ h7), DopAt.only h2 ho (hf.o _ h8), h3.only ho (nI h3), h4.only ho (nO h4), h5.only ho (nQ h5), h6.only ho (fun x hx => nC hx) (fun x m hx => nW hx) nF, h7, h8⟩
    | gt g => obtain ⟨p, xs, xo, xq, sv, s0, h1, h2, h3, h4, h5, h6, h7, h8⟩ := h; exact ⟨p, xs, xo, xq, sv, s0, h1.only ho (hf.o _ h7), GopAt.only h2 ho (hf.o _ h8), h3.only ho (nI h3), h4.only ho (nO h4), h5.only ho (nQ h5), h6.only ho (fun x hx => nC hx) (fun x m hx => nW hx) nF, h7, h8⟩
  | sleep i b =>
    have nW : ∀ {x : Nat} {v : Int}, WBox w x v → ¬ S x := fun hx => hf.w.elim (fun e => e.elim) (fun h => h hx)
    obtain ⟨p, xc, xo, xw, h1, h2, h3, h4, h5, h6, h7⟩ := h; exact ⟨p, xc, xo, xw, h1.only ho (hf.o _ h6), h2.only ho (hf.o _ h7), h3.only ho (nC h3), h4.only ho (nO h4), h5.only ho (nW h5), h6, h7⟩
  | take i g =>
    have nW : ∀ {x : Nat} {v : Int}, WBox w x v → ¬ S x := fun hx => hf.w.elim (fun e => e.elim) (fun h => h hx)
    obtain ⟨p, xt, xo, xc, xw, h1, h2, h3, h4, h5, h6, h7, h8⟩ := h; exact ⟨p, xt, xo, xc, xw, h1.only ho (hf.o _ h7), GopAt.only h2 ho (hf.o _ h8), h3.only ho (nG h3), h4.only ho (nO h4), h5.only ho (nC h5), h6.only ho (nW h6), h7, h8⟩
  | up i v b => obtain ⟨p, xo, xt, gp, g, h1, h2, h3, h4, h5, h6, h7, h8, h9⟩ := h; exact ⟨p, xo, xt, gp, g, h1.only ho (hf.o _ h7), h2.only ho (hf.o _ h8), h3.only ho (nO h3), h4.only ho (nG h4), GopAt.only h5 ho (hf.o _ h9), h6, h7, h8, h9⟩
  | poll b => obtain ⟨p, xo, xb, h1, h2, h3, h4, h5, h6⟩ := h; exact ⟨p, xo, xb, h1.only ho (hf.o _ h5), h2.only ho (hf.o _ h6), h3.only ho (nO h3), h4.only ho (nB h4), h5, h6⟩
theorem CIs.oinside (h : CIs w cb bb bg bc bd O co st) : CIs w cb bb bg bc bd (fun k => O k ∧ k < w.heap.size) co st := by
  cases st with
  | over out v => obtain ⟨c, t, h1, h2⟩ := h; exact ⟨c, t, h1, ⟨h2, Blk.lt h1⟩⟩
  | ring b => obtain ⟨p, x, h1, h2, h3, h4, h5⟩ := h; exact ⟨p, x, h1, h2, h3, ⟨h4, Blk.lt h1⟩, ⟨h5, Blk.lt h2⟩⟩
  | put v g => obtain ⟨p, xp, xo, xv, h1, h2, h3, h4, h5, h6, h7, h8⟩ := h; exact ⟨p, xp, xo, xv, h1, h2, h3, h4, h5, ⟨h6, Blk.lt h1⟩, ⟨h7, Blk.lt h2⟩, ⟨h8.1, h8.2, Blk.lt h5⟩⟩
  | push i v d => obtain ⟨p, xp, xo, xv, h1, h2, h3, h4, h5, h6, h7, h8⟩ := h; exact ⟨p, xp, xo, xv, h1, h2, h3, h4, h5, ⟨h6, Blk.lt h1⟩, ⟨h7, Blk.lt h2⟩, ⟨h8.1, h8.2, Blk.lt h5⟩⟩
  | src s rest =>
    cases s with
    | dq i d => obtain ⟨p, xs, xo, xq, sv, s0, h1, h2, h3, h4, h5, h6, h7, h8⟩ := h; exact ⟨p, xs, xo, xq, sv, s0, h1, h2, h3, h4, h5, h6, ⟨h7, Blk.lt h1⟩, ⟨h8, Blk.lt h2⟩⟩
    | gt g => obtain ⟨p, xs, xo, xq, sv, s0, h1, h2, h3, h4, h5, h6, h7, h8⟩ := h; exact ⟨p, xs, xo, xq, sv, s0, h1, h2, h3, h4, h5, h6, ⟨h7, Blk.lt h1⟩, ⟨h8, Blk.lt h2⟩⟩
  | sleep i b => obtain ⟨p, xc, xo, xw, h1, h2, h3, h4, h5, h6, h7⟩ := h; exact ⟨p, xc, xo, xw, h1, h2, h3, h4, h5, ⟨h6, Blk.lt h1⟩, ⟨h7, Blk.lt h2⟩⟩
  | take i g => obtain ⟨p, xt, xo, xc, xw, h1, h2, h3, h4, h5, h6, h7, h8⟩ := h; exact ⟨p, xt, xo, xc, xw, h1, h2, h3, h4, h5, h6, ⟨h7, Blk.lt h1⟩, ⟨h8, Blk.lt h2⟩⟩
  | up i v b => obtain ⟨p, xo, xt, gp, g, h1, h2, h3, h4, h5, h6, h7, h8, h9⟩ := h; exact ⟨p, xo, xt, gp, g, h1, h2, h3, h4, h5, h6, ⟨h7, Blk.lt h1⟩, ⟨h8, Blk.lt h2⟩, ⟨h9, Blk.lt h5⟩⟩
  | poll b => obtain ⟨p, xo, xb, h1, h2, h3, h4, h5, h6⟩ := h; exact ⟨p, xo, xb, h1, h2, h3, h4, ⟨h5, Blk.lt h1⟩, ⟨h6, Blk.lt h2⟩⟩
theorem cis0 {w w' : World} (h : CIs w cb bb bg bc bd O co st) (ho : Only S0 w w') : CIs w' cb bb bg bc bd O co st := h.off ho ⟨fun _ _ h => h, fun _ _ _ _ _ h => h, fun _ h => h, .inr fun _ h => h⟩
end
def tabC (n : Nat) (f : Nat → Value) : Array Value := ((List.range n).map f).toArray
theorem tabC_size (n : Nat) (f : Nat → Value) : (tabC n f).size = n := by simp [tabC]
theorem tabC_get {n i : Nat} (f : Nat → Value) (h : i < n) : (tabC n f)[i]? = some (f i) := by simp [tabC, h]
theorem tabC_set (n : Nat) (f : Nat → Value) (i : Nat) (v : Value) : (tabC n f).setIfInBounds i v = tabC n (upd f i v) := by
  unfold tabC
  rw [List.setIfInBounds_toArray]
  congr 1
  refine List.ext_getElem? fun j => ?_
  rw [List.getElem?_set, List.getElem?_map, List.getElem?_map]
  by_cases e : i = j
  · subst e
    rw [if_pos rfl]
    by_cases hi : i < n
    · simp [hi, upd_same]
    · simp [hi]
  · rw [if_neg e]
    by_cases hj : j < n
    · simp [hj, upd_ne f v (Ne.symm e)]
    · simp [hj]
theorem optr_upd (act : Nat → Bool) (bo : Nat → Nat) (t co : Nat) : (fun i => optr (upd act t true) (upd bo t co) i) = upd (fun i => optr act bo i) t (.pointer (some ⟨co, 0, none⟩)) := by
  funext i
  unfold optr
  by_cases e : i = t
  · subst e; rw [upd_same, upd_same, upd_same]; rfl
  · rw [upd_ne _ _ e, upd_ne _ _ e, upd_ne _ _ e]
theorem optr_off (act : Nat → Bool) (bo : Nat → Nat) (t : Nat) : (fun i => optr (upd act t false) bo i) = upd (fun i => optr act bo i) t (.pointer none) := by
  funext i
  unfold optr
  by_cases e : i = t
  · subst e; rw [upd_same, upd_same]; rfl
  · rw [upd_ne _ _ e, upd_ne _ _ e]
theorem fun_upd {α : Type} (f : α → Value) (g : Nat → α) (t : Nat) (x : α) : (fun i => f (upd g t x i)) = upd (fun i => f (g i)) t (f x) := by
  funext i
  by_cases e : i = t
  · subst e; rw [upd_same, upd_same]
  · rw [upd_ne _ _ e, upd_ne _ _ e]
def ou64s (l : List Int) : List Value := l.map (Value.int .u64)
theorem ou64s_len (l : List Int) : (ou64s l).length = l.length := by simp [ou64s]
theorem ou64s_snoc (l : List Int) (v : Int) : ou64s (l ++ [v]) = ou64s l ++ [.int .u64 v] := by simp [ou64s]
/-- What thread t owns. -/
def OwnJ (own : Nat → Nat) (B0 m t : Nat) : Nat → Prop := fun k => (own k = t ∧ B0 ≤ k) ∧ k < m
theorem OwnJ.up {own : Nat → Nat} {B0 m m' t : Nat} (h : m ≤ m') : ∀ k, OwnJ own B0 m t k → OwnJ own B0 m' t k := fun k hk => ⟨hk.1, Nat.lt_of_lt_of_le hk.2 h⟩
def ownJ (own : Nat → Nat) (m t : Nat) : Nat → Nat := fun k => if m ≤ k then t else own k
theorem ownJ_old {own : Nat → Nat} {B0 m m' t s : Nat} (h : m ≤ m') : ∀ k, OwnJ own B0 m s k → OwnJ (ownJ own m t) B0 m' s k := fun k hk => by
  refine ⟨⟨?_, hk.1.2⟩, Nat.lt_of_lt_of_le hk.2 h⟩
  unfold ownJ
  rw [if_neg (by have := hk.2; omega)]
  exact hk.1.1
theorem ownJ_new {own : Nat → Nat} {B0 m m' t : Nat} (hB : B0 ≤ m) : ∀ k, (m ≤ k ∧ k < m') → OwnJ (ownJ own m t) B0 m' t k := fun k hk => by
  refine ⟨⟨?_, by omega⟩, hk.2⟩
  unfold ownJ
  rw [if_pos hk.1]
/-- The blocks that stay. -/
structure GX where
  B0 : Nat
  gb : Nat
  ob : Nat
  pb : Nat
  lb : Nat
  cb : Nat
  bb : Nat
  bg : Nat
  bm : Nat
  bc : Nat
  dv : Value
  bd : Nat → Nat
  n : Nat
  s : Nat
structure GX.Ok (X : GX) (B : Nat) : Prop where
  gb : X.gb < X.B0
  ob : X.ob < X.B0
  pb : X.pb < X.B0
  lb : X.lb < X.B0
  bm : X.bm < X.B0
  bc : X.bc < X.B0
  gb0 : B ≤ X.gb
  ob0 : B ≤ X.ob
  pb0 : B ≤ X.pb
  lb0 : B ≤ X.lb
  bm0 : B ≤ X.bm
  bc0 : B ≤ X.bc
  lc : X.lb ≠ X.bc
/-- A slice that only the gang has. -/
structure GSl (X : GX) (w : World) (own : Nat → Nat) (v : Value) (xs : List Int) : Prop where
  sl : Sl w X.B0 31 v (ou64s xs)
  off : ∀ g, v.ownBlock = some g → own g = X.n + 1
def gangV (X : GX) (act : Nat → Bool) (bo : Nat → Nat) (nx : Nat) (fv pv : Value) : Array Value :=
  #[.pointer (some ⟨X.cb, 0, none⟩), .slice (some ⟨X.ob, 0, none⟩) X.n X.n, .slice (some ⟨X.pb, 0, none⟩) X.n X.n, .slice (some ⟨X.lb, 0, none⟩) X.n X.n, optr act bo X.n, .int .u64 nx, fv, pv]
structure GM (X : GX) (w0 w : World) (L : List Int) (tc : Int) (o : Nat → CSt) (own : Nat → Nat) (act : Nat → Bool) (bo : Nat → Nat) (ph : Nat → Nat) (lf : Nat → Int) (nx : Nat) (fv pv : Value) (fd ps : List Int) : Prop where
  env : CEnv w (crewF X.n X.s) X.cb X.bb X.bg X.bm X.bc X.dv X.bd tc L
  fam : ∀ t, t ≤ X.n → act t = true → CIs w X.cb X.bb X.bg X.bc X.bd (OwnJ own X.B0 w.heap.size t) (bo t) (o t)
  sho : ShO X.n (o X.n)
  g : Blk w X.gb 33 (gangV X act bo nx fv pv)
  ops : Blk w X.ob 30 (tabC X.n fun i => optr act bo i)
  phs : Blk w X.pb 3 (tabC X.n fun i => .int .i64 (ph i : Int))
  lfs : Blk w X.lb 31 (tabC X.n fun i => .int .u64 (lf i))
  fsl : GSl X w own fv fd
  psl : GSl X w own pv ps
  fp : ∀ g, fv.ownBlock = some g → pv.ownBlock ≠ some g
  only : Only S0 w0 w
  le : X.B0 ≤ w.heap.size
section
variable {w w' : World} {F : CLay} {cb bb bg bm bc : Nat} {dv : Value} {bd : Nat → Nat} {tc : Int} {L : List Int} {S : Nat → Prop}
theorem CEnv.offg (h : CEnv w F cb bb bg bm bc dv bd tc L) (ho : Only S w w') (hf : ∀ {x : Nat} {t : TypeId} {cs : Array Value}, Blk w x t cs → t ≠ 30 → t ≠ 3 → t ≠ 31 → t ≠ 33 → ¬ S x) (h2 : ¬ S bc) : CEnv w' F cb bb bg bm bc dv bd tc L := by
  have hm := h.mem.only ho (hf h.mem.mem (by decide) (by decide) (by decide) (by decide)) h2
  exact ⟨h.crew.only ho (hf h.crew (by decide) (by decide) (by decide) (by decide)), h.dqs.only ho (fun g cs hb => hf hb (by decide) (by decide) (by decide) (by decide)),
    h.bell.next hm h.bell.few rfl (h.bell.bell.only ho (hf h.bell.bell (by decide) (by decide) (by decide) (by decide))), h.gate.next hm h.bell.few h.u rfl (h.gate.gate.only ho (hf h.gate.gate (by decide) (by decide) (by decide) (by decide))),
    fun i hi => (h.deq i hi).next hm h.bell.few h.u rfl ((h.deq i hi).deq.only ho (hf (h.deq i hi).deq (by decide) (by decide) (by decide) (by decide)))⟩
end
section
variable {X : GX} {w0 w w' : World} {L : List Int} {tc : Int} {o : Nat → CSt} {own : Nat → Nat} {act : Nat → Bool} {bo : Nat → Nat} {ph : Nat → Nat} {lf : Nat → Int} {nx : Nat} {fv pv : Value} {fd ps : List Int} {g0 t : Nat}
theorem GSl.only {v : Value} {xs : List Int} {S : Nat → Prop} (h : GSl X w own v xs) (ho : Only S w w') (hs : ∀ g, v.ownBlock = some g → ¬ S g) : GSl X w' own v xs := ⟨h.sl.only ho hs, h.off⟩
theorem GM.only0 (h : GM X w0 w L tc o own act bo ph lf nx fv pv fd ps) (ho : Only S0 w w') : GM X w0 w' L tc o own act bo ph lf nx fv pv fd ps :=
  ⟨h.env.only0 ho, fun t ht ha => (cis0 (h.fam t ht ha) ho).more (OwnJ.up ho.size), h.sho, h.g.only ho (fun h => h), h.ops.only ho (fun h => h), h.phs.only ho (fun h => h), h.lfs.only ho (fun h => h), h.fsl.only ho (fun _ _ h => h), h.psl.only ho (fun _ _ h => h), h.fp, h.only.trans ho, Nat.le_trans h.le ho.size⟩
def Four (t : TypeId) : Prop := t = 33 ∨ t = 30 ∨ t = 3 ∨ t = 31
theorem four_off {ty : TypeId} {cs : Array Value} (hg : Blk w g0 ty cs) (h4 : Four ty) : ∀ {x : Nat} {t : TypeId} {cs : Array Value}, Blk w x t cs → t ≠ 30 → t ≠ 3 → t ≠ 31 → t ≠ 33 → ¬ S1 g0 x := fun {x t cs} hx h1 h2 h3 h5 e => by
  unfold S1 at e
  refine Blk.ne_ hx hg (fun e2 => ?_) e
  subst e2
  rcases h4 with e | e | e | e
  · exact h5 e
  · exact h1 e
  · exact h2 e
  · exact h3 e
/-- A cell of one of the gang's own blocks is written. -/
theorem GM.cell_ (h : GM X w0 w L tc o own act bo ph lf nx fv pv fd ps) (hX : X.Ok w0.heap.size) {ty : TypeId} {cs : Array Value} (hg : Blk w g0 ty cs) (h4 : Four ty) (h0 : g0 < X.B0) (hb : g0 ≠ X.bc) (j : Nat) (v : Value)
    (hob : ∀ t, t ≤ X.n → act t = true → ∀ {x : Nat}, OBox w x (bo t) → x ≠ g0) (hwb : ∀ t, t ≤ X.n → act t = true → NoW (o t) ∨ ∀ {x : Nat} {v : Int}, WBox w x v → x ≠ g0) :
    CEnv (w.setCell ⟨g0, j, none⟩ v) (crewF X.n X.s) X.cb X.bb X.bg X.bm X.bc X.dv X.bd tc L ∧ (∀ t, t ≤ X.n → act t = true → CIs (w.setCell ⟨g0, j, none⟩ v) X.cb X.bb X.bg X.bc X.bd (OwnJ own X.B0 (w.setCell ⟨g0, j, none⟩ v).heap.size t) (bo t) (o t)) ∧
      GSl X (w.setCell ⟨g0, j, none⟩ v) own fv fd ∧ GSl X (w.setCell ⟨g0, j, none⟩ v) own pv ps ∧ X.B0 ≤ (w.setCell ⟨g0, j, none⟩ v).heap.size := by
  have ho := only_set w g0 j v
  have hs : ∀ {v : Value} {xs : List Int}, GSl X w own v xs → ∀ g, v.ownBlock = some g → ¬ S1 g0 g := fun hv g hg e => by
    have := (hv.sl.block hg).1
    unfold S1 at e
    omega
  refine ⟨h.env.offg ho (four_off hg h4) (fun e => hb e.symm), fun t ht ha => ((h.fam t ht ha).off ho ⟨fun k hk e => ?_, four_off hg h4, fun hx e => hob t ht ha hx e, ?_⟩).more (OwnJ.up ho.size), h.fsl.only ho (hs h.fsl), h.psl.only ho (hs h.psl), Nat.le_trans h.le ho.size⟩
  · have := hk.1.2
    unfold S1 at e
    omega
  · rcases hwb t ht ha with e | e
    · exact .inl e
    · exact .inr fun hx e2 => e hx e2
theorem gb_ty : Four 33 := .inl rfl
theorem ob_ty : Four 30 := .inr (.inl rfl)
theorem pb_ty : Four 3 := .inr (.inr (.inl rfl))
theorem lb_ty : Four 31 := .inr (.inr (.inr rfl))
theorem sho_now {n : Nat} {st : CSt} (h : ShO n st) : NoW st := by cases h <;> trivial
theorem blk_eq {w : World} {g : Nat} {t t' : TypeId} {cs cs' : Array Value} (h : Blk w g t cs) (h' : Blk w g t' cs') : cs = cs' := by
  have a : w.heap[g]? = _ := h
  have b : w.heap[g]? = _ := h'
  rw [a] at b
  injection b with e
  injection e
/-- A cell of the gang's own block. -/
theorem GM.setG (h : GM X w0 w L tc o own act bo ph lf nx fv pv fd ps) (hX : X.Ok w0.heap.size) (j : Nat) (v : Value) {act' : Nat → Bool} {bo' : Nat → Nat} {nx' : Nat} (hv : (gangV X act bo nx fv pv).setIfInBounds j v = gangV X act' bo' nx' fv pv) (ha : ∀ t, t < X.n → optr act' bo' t = optr act bo t) (hac : ∀ t, t ≤ X.n → act' t = true → act t = true ∧ bo' t = bo t) :
    GM X w0 (w.setCell ⟨X.gb, j, none⟩ v) L tc o own act' bo' ph lf nx' fv pv fd ps := by
  obtain ⟨a1, a2, a3, a4, a5⟩ := h.cell_ hX h.g gb_ty hX.gb (h.g.ne_ h.env.mem.cells (by decide)) j v (fun t ht _ _ hx => hx.ne_ h.g (by decide)) (fun t ht _ => .inr fun hx => hx.ne_ h.g (by decide))
  have ht : (tabC X.n fun i => optr act' bo' i) = tabC X.n fun i => optr act bo i := by
    unfold tabC
    congr 1
    refine List.map_congr_left fun i hi => ha i (List.mem_range.1 hi)
  exact ⟨a1, fun t ht hat => by obtain ⟨e1, e2⟩ := hac t ht hat; rw [e2]; exact a2 t ht e1, h.sho, by rw [← hv]; exact h.g.set_ j v, by rw [ht]; exact h.ops.far (p := ⟨X.gb, j, none⟩) (h.ops.ne_ h.g (by decide)) v, h.phs.far (p := ⟨X.gb, j, none⟩) (h.phs.ne_ h.g (by decide)) v, h.lfs.far (p := ⟨X.gb, j, none⟩) (h.lfs.ne_ h.g (by decide)) v, a3, a4, h.fp, h.only.setNew j hX.gb0 v, a5⟩
/-- A phase. -/
theorem GM.setPh (h : GM X w0 w L tc o own act bo ph lf nx fv pv fd ps) (hX : X.Ok w0.heap.size) (j k : Nat) (hj : j < X.n) (hact : act j = false) :
    GM X w0 (w.setCell ⟨X.pb, j, none⟩ (.int .i64 (k : Int))) L tc o own act bo (upd ph j k) lf nx fv pv fd ps := by
  obtain ⟨a1, a2, a3, a4, a5⟩ := h.cell_ hX h.phs pb_ty hX.pb (h.phs.ne_ h.env.mem.cells (by decide)) j (.int .i64 (k : Int)) (fun t ht _ _ hx => hx.ne_ h.phs (by decide)) (fun t ht hat => by
    by_cases e : t = X.n
    · subst e; exact .inl (sho_now h.sho)
    · refine .inr fun hx e2 => ?_
      subst e2
      have := congrArg Array.size (blk_eq hx h.phs)
      rw [tabC_size] at this
      have h1 : X.n = 1 := this.symm
      have : t = j := by omega
      subst this
      rw [hact] at hat; cases hat)
  exact ⟨a1, a2, h.sho, h.g.far (p := ⟨X.pb, j, none⟩) (h.g.ne_ h.phs (by decide)) _, h.ops.far (p := ⟨X.pb, j, none⟩) (h.ops.ne_ h.phs (by decide)) _, by rw [fun_upd (fun k : Nat => Value.int .i64 (k : Int)), ← tabC_set]; exact h.phs.set_ j _, h.lfs.far (p := ⟨X.pb, j, none⟩) (h.lfs.ne_ h.phs (by decide)) _, a3, a4, h.fp, h.only.setNew j hX.pb0 _, a5⟩
/-- What is left of one that was found. -/
theorem GM.setLf (h : GM X w0 w L tc o own act bo ph lf nx fv pv fd ps) (hX : X.Ok w0.heap.size) (j : Nat) (x : Int) :
    GM X w0 (w.setCell ⟨X.lb, j, none⟩ (.int .u64 x)) L tc o own act bo ph (upd lf j x) nx fv pv fd ps := by
  obtain ⟨a1, a2, a3, a4, a5⟩ := h.cell_ hX h.lfs lb_ty hX.lb hX.lc j (.int .u64 x) (fun t ht _ _ hx => hx.ne_ h.lfs (by decide)) (fun t ht hat => .inr fun hx => hx.ne_ h.lfs (by decide))
  exact ⟨a1, a2, h.sho, h.g.far (p := ⟨X.lb, j, none⟩) (h.g.ne_ h.lfs (by decide)) _, h.ops.far (p := ⟨X.lb, j, none⟩) (h.ops.ne_ h.lfs (by decide)) _, h.phs.far (p := ⟨X.lb, j, none⟩) (h.phs.ne_ h.lfs (by decide)) _, by rw [fun_upd (fun x : Int => Value.int .u64 x), ← tabC_set]; exact h.lfs.set_ j _, a3, a4, h.fp, h.only.setNew j hX.lb0 _, a5⟩
/-- A worker's operation is forgotten. -/
theorem GM.clear_ (h : GM X w0 w L tc o own act bo ph lf nx fv pv fd ps) (hX : X.Ok w0.heap.size) (j : Nat) (hj : j < X.n) :
    GM X w0 (w.setCell ⟨X.ob, j, none⟩ (.pointer none)) L tc o own (upd act j false) bo ph lf nx fv pv fd ps := by
  have h' : GM X w0 w L tc o own act bo ph lf nx fv pv fd ps := h
  have hob : ∀ t, t ≤ X.n → upd act j false t = true → ∀ {x : Nat}, OBox w x (bo t) → x ≠ X.ob := fun t ht hat x hx e => by
    subst e
    have htj : t ≠ j := fun e => by subst e; rw [upd_same] at hat; cases hat
    rw [upd_ne _ _ htj] at hat
    have hc := blk_eq hx h.ops
    have hsz := congrArg Array.size hc
    rw [tabC_size] at hsz
    have h1 : X.n = 1 := hsz.symm
    have hj0 : j = 0 := by omega
    subst hj0
    have hg := tabC_get (fun i => optr act bo i) (show 0 < X.n by omega)
    rw [← hc] at hg
    have hg' : Value.pointer (some ⟨bo t, 0, none⟩) = optr act bo 0 := by simpa using hg
    unfold optr at hg'
    cases ha0 : act 0 with
    | false => rw [ha0] at hg'; cases hg'
    | true =>
      rw [ha0] at hg'
      have e2 : bo t = bo 0 := by simpa using hg'
      have o1 := (h.fam t ht hat).own.1.1
      have o2 := (h.fam 0 (by omega) ha0).own.1.1
      rw [e2] at o1
      omega
  have hrest : ∀ t, t ≤ X.n → upd act j false t = true → act t = true := fun t ht hat => by
    by_cases e : t = j
    · subst e; rw [upd_same] at hat; cases hat
    · rwa [upd_ne _ _ e] at hat
  have h2 : GM X w0 w L tc o own (upd act j false) bo ph lf nx fv pv fd ps → True := fun _ => trivial
  have ho := only_set w X.ob j (.pointer none)
  have hs : ∀ {v : Value} {xs : List Int}, GSl X w own v xs → ∀ g, v.ownBlock = some g → ¬ S1 X.ob g := fun hv g hg e => by
    have := (hv.sl.block hg).1
    have := hX.ob
    unfold S1 at e
    omega
  have hgo : optr (upd act j false) bo X.n = optr act bo X.n := by unfold optr; rw [upd_ne _ _ (by omega)]
  refine ⟨h.env.offg ho (four_off h.ops ob_ty) (fun e => h.ops.ne_ h.env.mem.cells (by decide) e.symm), fun t ht hat => ((h.fam t ht (hrest t ht hat)).off ho ⟨fun k hk e => ?_, four_off h.ops ob_ty, fun hx e => hob t ht hat hx e, .inr fun hx e => hx.ne_ h.ops (by decide) e⟩).more (OwnJ.up ho.size), h.sho, ?_, ?_, h.phs.far (p := ⟨X.ob, j, none⟩) (h.phs.ne_ h.ops (by decide)) _, h.lfs.far (p := ⟨X.ob, j, none⟩) (h.lfs.ne_ h.ops (by decide)) _, h.fsl.only ho (hs h.fsl), h.psl.only ho (hs h.psl), h.fp, h.only.setNew j hX.ob0 _, Nat.le_trans h.le ho.size⟩
  · have := hk.1.2
    have := hX.ob
    unfold S1 at e
    omega
  · have := h.g.far (p := ⟨X.ob, j, none⟩) (h.g.ne_ h.ops (by decide)) (.pointer none)
    unfold gangV at this ⊢
    rw [hgo]
    exact this
  · rw [optr_off, ← tabC_set]; exact h.ops.set_ j _
end
end Go.Proofs.Ytdoaipjdldknaaa
