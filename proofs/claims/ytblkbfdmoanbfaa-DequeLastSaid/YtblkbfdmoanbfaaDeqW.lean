/-
  The gang of troupelaw04 as it lies in memory: what it is made of, and what a store turns.
-/
import Derived.Test.YtblkbfdmoanbfaaDeqG
import Derived.Test.YtblkbfdmoanbfaaPlay
import Derived.Deep.AppendLies
namespace Go.Proofs.Ytblkbfdmoanbfaa
open Go.RowKit
set_option linter.unusedVariables false

def u64s (l : List Int) : List Value := l.map (Value.int .u64)
theorem u64s_len (l : List Int) : (u64s l).length = l.length := by simp [u64s]
theorem u64s_snoc (l : List Int) (v : Int) : u64s (l ++ [v]) = u64s l ++ [.int .u64 v] := by simp [u64s]
theorem u64s_get {l : List Int} {i : Nat} (h : i < l.length) : (u64s l)[i]? = some (.int .u64 (l.getD i 0)) := by
  simp [u64s, List.getD, h]
def gangC (bd tb : Nat) (act : Nat → Bool) (bo : Nat → Nat) (pu : Bool) (nx : Int) (sv : Nat → Value) (lost most : Int) : Array Value :=
  #[.pointer (some ⟨bd, 0, none⟩), optr act bo 0, .bool pu, .int .u64 nx, sv 0, sv 1, .slice (some ⟨tb, 0, none⟩) 2 2, sv 2, .int .i64 lost, .int .i64 most]
def thC (act : Nat → Bool) (bo : Nat → Nat) : Array Value := #[optr act bo 1, optr act bo 2]
/-- Where the slices lie in it. -/
def ixS (i : Nat) : Nat := if i = 0 then 4 else if i = 1 then 5 else 7
structure GW (w : World) (B gb tb bd bm bc n : Nat) (L : List Int) (tc : Int) (act : Nat → Bool) (o : Nat → Dop) (bo : Nat → Nat) (pu : Bool) (nx : Int) (sv : Nat → Value) (XS : Nat → List Int) (lost most : Int) : Prop where
  env : DeqEnv w bd bm bc 0 n tc L
  g : Blk w gb 50 (gangC bd tb act bo pu nx sv lost most)
  th : Blk w tb 47 (thC act bo)
  fam : OFam (fun w b o => DopIs w b bd o) w B 3 act bo o
  sl : ∀ i, i < 3 → Sl w B 28 (sv i) (u64s (XS i))
  d1 : ∀ i, i < 3 → (sv i).ownBlock ≠ some bc
  d2 : ∀ i j g, i < 3 → j < 3 → i ≠ j → (sv i).ownBlock = some g → (sv j).ownBlock ≠ some g
  b1 : B ≤ gb
  b2 : B ≤ tb
  b5 : B ≤ bd
  b6 : B ≤ bm
  b7 : B ≤ bc
section
variable {w w' : World} {B gb tb bd bm bc n p : Nat} {L : List Int} {tc : Int} {act : Nat → Bool} {o : Nat → Dop} {bo : Nat → Nat} {pu : Bool} {nx : Int} {sv : Nat → Value} {XS : Nat → List Int} {lost most : Int}
theorem GW.only0 (h : GW w B gb tb bd bm bc n L tc act o bo pu nx sv XS lost most) (ho : Only S0 w w') : GW w' B gb tb bd bm bc n L tc act o bo pu nx sv XS lost most :=
  ⟨h.env.only0 ho, h.g.only ho fun h => h, h.th.only ho fun h => h, h.fam.only0 (dop_stays bd) ho, fun i hi => (h.sl i hi).only0 ho, h.d1, h.d2, h.b1, h.b2, h.b5, h.b6, h.b7⟩
theorem GW.drewN (h : GW w B gb tb bd bm bc n L tc act o bo pu nx sv XS lost most) (k : Nat) : GW (w.drewN k) B gb tb bd bm bc n L tc act o bo pu nx sv XS lost most := h.only0 ((Only.refl S0 w).drewN k)
theorem GW.drew (h : GW w B gb tb bd bm bc n L tc act o bo pu nx sv XS lost most) : GW w.drew B gb tb bd bm bc n L tc act o bo pu nx sv XS lost most := h.only0 ((Only.refl S0 w).drew)
theorem OFam.same {α : Type} {P : World → Nat → α → Prop} {k : Nat} {o o' : Nat → α} (h : OFam P w B k act bo o) (ho : ∀ i, i < k → act i = true → o' i = o i) : OFam P w B k act bo o' :=
  ⟨fun i hi ha => by rw [ho i hi ha]; exact h.at_ i hi ha, h.ge, h.lt, h.ne⟩
theorem OFam.off {α : Type} {P : World → Nat → α → Prop} {k : Nat} {o : Nat → α} (h : OFam P w B k act bo o) (p : Nat) : OFam P w B k (upd act p false) bo o := by
  refine ⟨fun i hi ha => ?_, fun i hi ha => ?_, fun i hi ha => ?_, fun i j hi hj ha hb hij => ?_⟩
  · by_cases e : i = p
    · subst e; rw [upd_same] at ha; cases ha
    · rw [upd_ne _ _ e] at ha; exact h.at_ i hi ha
  · by_cases e : i = p
    · subst e; rw [upd_same] at ha; cases ha
    · rw [upd_ne _ _ e] at ha; exact h.ge i hi ha
  · by_cases e : i = p
    · subst e; rw [upd_same] at ha; cases ha
    · rw [upd_ne _ _ e] at ha; exact h.lt i hi ha
  · by_cases e : i = p
    · subst e; rw [upd_same] at ha; cases ha
    · by_cases e2 : j = p
      · subst e2; rw [upd_same] at hb; cases hb
      · rw [upd_ne _ _ e] at ha; rw [upd_ne _ _ e2] at hb; exact h.ne i j hi hj ha hb hij
/-- A cell of the gang's own block turns; none of its slices. -/
theorem GW.setG (h : GW w B gb tb bd bm bc n L tc act o bo pu nx sv XS lost most) {act' : Nat → Bool} {o' : Nat → Dop} {bo' : Nat → Nat} {pu' : Bool} {nx' lost' most' : Int} {j : Nat} {v : Value}
    (hv : (gangC bd tb act bo pu nx sv lost most).setIfInBounds j v = gangC bd tb act' bo' pu' nx' sv lost' most') (ht : thC act bo = thC act' bo') (hf : OFam (fun w b o => DopIs w b bd o) w B 3 act' bo' o') :
    GW (w.setCell ⟨gb, j, none⟩ v) B gb tb bd bm bc n L tc act' o' bo' pu' nx' sv XS lost' most' := by
  have ho := only_set w gb j v
  have ne : ∀ {g t cs}, Blk w g t cs → 50 ≠ t → ¬ S1 gb g := fun hg ht e => Blk.ne_ h.g hg ht (Eq.symm e)
  have ns : ∀ {v' xs}, Sl w B 28 v' xs → ∀ g, v'.ownBlock = some g → ¬ S1 gb g := fun hs g hg e => by
    unfold S1 at e
    subst e
    exact hs.ne_blk h.g (by decide) hg
  refine ⟨h.env.only ho (ne h.env.deq (by decide)) (ne h.env.mem.mem (by decide)) (ne h.env.mem.cells (by decide)), ?_, ?_,
    hf.only (dop_stays bd) ho fun i hi ha => ne (hf.at_ i hi ha) (by decide), fun i hi => (h.sl i hi).only ho (ns (h.sl i hi)), h.d1, h.d2, h.b1, h.b2, h.b5, h.b6, h.b7⟩
  · rw [← hv]; exact h.g.set_ j v
  · rw [← ht]; exact h.th.only ho (ne h.th (by decide))
/-- A thief's pointer turns. -/
theorem GW.setT (h : GW w B gb tb bd bm bc n L tc act o bo pu nx sv XS lost most) {act' : Nat → Bool} {o' : Nat → Dop} {bo' : Nat → Nat} {j : Nat} {v : Value}
    (hv : (thC act bo).setIfInBounds j v = thC act' bo') (hg : optr act bo 0 = optr act' bo' 0) (hf : OFam (fun w b o => DopIs w b bd o) w B 3 act' bo' o') :
    GW (w.setCell ⟨tb, j, none⟩ v) B gb tb bd bm bc n L tc act' o' bo' pu nx sv XS lost most := by
  have ho := only_set w tb j v
  have ne : ∀ {g t cs}, Blk w g t cs → 47 ≠ t → ¬ S1 tb g := fun hg ht e => Blk.ne_ h.th hg ht (Eq.symm e)
  have ns : ∀ {v' xs}, Sl w B 28 v' xs → ∀ g, v'.ownBlock = some g → ¬ S1 tb g := fun hs g hg e => by
    unfold S1 at e
    subst e
    exact hs.ne_blk h.th (by decide) hg
  refine ⟨h.env.only ho (ne h.env.deq (by decide)) (ne h.env.mem.mem (by decide)) (ne h.env.mem.cells (by decide)), ?_, ?_,
    hf.only (dop_stays bd) ho fun i hi ha => ne (hf.at_ i hi ha) (by decide), fun i hi => (h.sl i hi).only ho (ns (h.sl i hi)), h.d1, h.d2, h.b1, h.b2, h.b5, h.b6, h.b7⟩
  · have := h.g.only ho (ne h.g (by decide))
    unfold gangC at this ⊢
    rw [← hg]
    exact this
  · rw [← hv]; exact h.th.set_ j v
/-- A step of an operation. -/
theorem GW.step {x : Dop} {L' : List Int} {tc' : Int} (h : GW w B gb tb bd bm bc n L tc act o bo pu nx sv XS lost most) (hp : p < 3) (ha : act p = true) (ho : Only (S3 (bo p) bm bc) w w') (hx : DopIs w' (bo p) bd x) (he : DeqEnv w' bd bm bc 0 n tc' L') :
    GW w' B gb tb bd bm bc n L' tc' act (upd o p x) bo pu nx sv XS lost most := by
  have hb := h.fam.at_ p hp ha
  have ne : ∀ {g t cs}, Blk w g t cs → t ≠ 86 → t ≠ 77 → t ≠ 28 → ¬ S3 (bo p) bm bc g := fun hg h1 h2 h3 e => by
    rcases e with e | e | e
    · exact Blk.ne_ hg hb h1 e
    · exact Blk.ne_ hg h.env.mem.mem h2 e
    · exact Blk.ne_ hg h.env.mem.cells h3 e
  have ns : ∀ {v' xs}, Sl w B 28 v' xs → v'.ownBlock ≠ some bc → ∀ g, v'.ownBlock = some g → ¬ S3 (bo p) bm bc g := fun hs hbc g hg e => by
    rcases e with e | e | e
    · subst e; exact hs.ne_blk hb (by decide) hg
    · subst e; exact hs.ne_blk h.env.mem.mem (by decide) hg
    · subst e; exact hbc hg
  refine ⟨he, h.g.only ho (ne h.g (by decide) (by decide) (by decide)), h.th.only ho (ne h.th (by decide) (by decide) (by decide)),
    h.fam.step (dop_stays bd) hp ho (fun i hi hai hip e => by
      rcases e with e | e | e
      · exact h.fam.ne i p hi hp hai ha hip e
      · exact Blk.ne_ (h.fam.at_ i hi hai) h.env.mem.mem (by decide) e
      · exact Blk.ne_ (h.fam.at_ i hi hai) h.env.mem.cells (by decide) e) hx, fun i hi => (h.sl i hi).only ho (ns (h.sl i hi) (h.d1 i hi)), h.d1, h.d2, h.b1, h.b2, h.b5, h.b6, h.b7⟩
/-- One of the gang's own slices grows. -/
theorem GW.grow (h : GW w B gb tb bd bm bc n L tc act o bo pu nx sv XS lost most) (hp : p < 3) (ho : Only (fun k => (sv p).ownBlock = some k) w w') :
    DeqEnv w' bd bm bc 0 n tc L ∧ Blk w' gb 50 (gangC bd tb act bo pu nx sv lost most) ∧ Blk w' tb 47 (thC act bo) ∧ OFam (fun w b o => DopIs w b bd o) w' B 3 act bo o ∧ (∀ i, i < 3 → i ≠ p → Sl w' B 28 (sv i) (u64s (XS i))) := by
  have hs := h.sl p hp
  have ne : ∀ {g t cs}, Blk w g t cs → 28 ≠ t → ¬ ((sv p).ownBlock = some g) := fun hg ht e => hs.ne_blk hg ht e
  exact ⟨h.env.only ho (ne h.env.deq (by decide)) (ne h.env.mem.mem (by decide)) (h.d1 p hp), h.g.only ho (ne h.g (by decide)), h.th.only ho (ne h.th (by decide)), h.fam.only (dop_stays bd) ho fun i hi ha => ne (h.fam.at_ i hi ha) (by decide),
    fun i hi hip => (h.sl i hi).only ho fun g hg e => h.d2 p i g hp hi (Ne.symm hip) e hg⟩
theorem fresh_off {v v' : Value} {g : Nat} (hn : v'.ownBlock = v.ownBlock ∨ ∃ k, v'.ownBlock = some k ∧ w.heap.size ≤ k) (h1 : v.ownBlock ≠ some g) (hg : g < w.heap.size) : v'.ownBlock ≠ some g := by
  rcases hn with e | ⟨k, e, hk⟩
  · rw [e]; exact h1
  · rw [e]; intro e2; injection e2 with e2; omega
theorem gangC_sl (bd tb : Nat) (act : Nat → Bool) (bo : Nat → Nat) (pu : Bool) (nx : Int) (sv : Nat → Value) (lost most : Int) (hp : p < 3) (v : Value) :
    (gangC bd tb act bo pu nx sv lost most).setIfInBounds (ixS p) v = gangC bd tb act bo pu nx (upd sv p v) lost most := by
  have : p = 0 ∨ p = 1 ∨ p = 2 := by omega
  rcases this with rfl | rfl | rfl <;> simp [gangC, ixS, upd]
theorem GW.app {v : Value} {xs : List Int} (h : GW w B gb tb bd bm bc n L tc act o bo pu nx sv XS lost most) (hp : p < 3) (ho : Only (fun k => (sv p).ownBlock = some k) w w') (hs : Sl w' B 28 v (u64s xs))
    (hn : v.ownBlock = (sv p).ownBlock ∨ ∃ k, v.ownBlock = some k ∧ w.heap.size ≤ k) : GW (w'.setCell ⟨gb, ixS p, none⟩ v) B gb tb bd bm bc n L tc act o bo pu nx (upd sv p v) (upd XS p xs) lost most := by
  obtain ⟨g1, g2, g3, g4, g5⟩ := h.grow hp ho
  have ho' := only_set w' gb (ixS p) v
  have ne : ∀ {g t cs}, Blk w' g t cs → 50 ≠ t → ¬ S1 gb g := fun hg ht e => Blk.ne_ g2 hg ht (Eq.symm e)
  have ns : ∀ {v' xs}, Sl w' B 28 v' xs → ∀ g, v'.ownBlock = some g → ¬ S1 gb g := fun hs g hg e => by
    unfold S1 at e
    subst e
    exact hs.ne_blk g2 (by decide) hg
  refine ⟨g1.only ho' (ne g1.deq (by decide)) (ne g1.mem.mem (by decide)) (ne g1.mem.cells (by decide)), ?_, g3.only ho' (ne g3 (by decide)),
    g4.only (dop_stays bd) ho' fun i hi ha => ne (g4.at_ i hi ha) (by decide), fun i hi => ?_, fun i hi => ?_, fun i j g hi hj hij hg => ?_, h.b1, h.b2, h.b5, h.b6, h.b7⟩
  · rw [← gangC_sl _ _ _ _ _ _ _ _ _ hp]; exact g2.set_ (ixS p) v
  · by_cases e : i = p
    · subst e; rw [upd_same, upd_same]; exact hs.only ho' (ns hs)
    · rw [upd_ne _ _ e, upd_ne _ _ e]; exact (g5 i hi e).only ho' (ns (g5 i hi e))
  · by_cases e : i = p
    · subst e; rw [upd_same]; exact fresh_off hn (h.d1 i hi) h.env.mem.cells.lt
    · rw [upd_ne _ _ e]; exact h.d1 i hi
  · by_cases e : i = p
    · subst e
      rw [upd_same] at hg
      rw [upd_ne _ _ (fun e => hij e.symm)]
      rcases hn with e | ⟨k, e, hk⟩
      · rw [e] at hg; exact h.d2 i j g hi hj hij hg
      · rw [e] at hg
        injection hg with hg
        intro e2
        have := ((h.sl j hj).block e2).2
        omega
    · rw [upd_ne _ _ e] at hg
      by_cases e2 : j = p
      · subst e2
        rw [upd_same]
        exact fresh_off hn (h.d2 i j g hi hj hij hg) ((h.sl i hi).block hg).2
      · rw [upd_ne _ _ e2]; exact h.d2 i j g hi hj hij hg
theorem GW.cc0 (h : GW w B gb tb bd bm bc n L tc act o bo pu nx sv XS lost most) : w.cell? ⟨gb, 0, none⟩ = some (.pointer (some ⟨bd, 0, none⟩)) := h.g.cellv rfl
theorem GW.cc1 (h : GW w B gb tb bd bm bc n L tc act o bo pu nx sv XS lost most) : w.cell? ⟨gb, 1, none⟩ = some (optr act bo 0) := h.g.cellv rfl
theorem GW.cc2 (h : GW w B gb tb bd bm bc n L tc act o bo pu nx sv XS lost most) : w.cell? ⟨gb, 2, none⟩ = some (.bool pu) := h.g.cellv rfl
theorem GW.cc3 (h : GW w B gb tb bd bm bc n L tc act o bo pu nx sv XS lost most) : w.cell? ⟨gb, 3, none⟩ = some (.int .u64 nx) := h.g.cellv rfl
theorem GW.cc4 (h : GW w B gb tb bd bm bc n L tc act o bo pu nx sv XS lost most) : w.cell? ⟨gb, 4, none⟩ = some (sv 0) := h.g.cellv rfl
theorem GW.cc5 (h : GW w B gb tb bd bm bc n L tc act o bo pu nx sv XS lost most) : w.cell? ⟨gb, 5, none⟩ = some (sv 1) := h.g.cellv rfl
theorem GW.cc6 (h : GW w B gb tb bd bm bc n L tc act o bo pu nx sv XS lost most) : w.cell? ⟨gb, 6, none⟩ = some (.slice (some ⟨tb, 0, none⟩) 2 2) := h.g.cellv rfl
theorem GW.cc7 (h : GW w B gb tb bd bm bc n L tc act o bo pu nx sv XS lost most) : w.cell? ⟨gb, 7, none⟩ = some (sv 2) := h.g.cellv rfl
theorem GW.cc8 (h : GW w B gb tb bd bm bc n L tc act o bo pu nx sv XS lost most) : w.cell? ⟨gb, 8, none⟩ = some (.int .i64 lost) := h.g.cellv rfl
theorem GW.cc9 (h : GW w B gb tb bd bm bc n L tc act o bo pu nx sv XS lost most) : w.cell? ⟨gb, 9, none⟩ = some (.int .i64 most) := h.g.cellv rfl
theorem GW.tt (h : GW w B gb tb bd bm bc n L tc act o bo pu nx sv XS lost most) (hp : p < 2) : w.cell? ⟨tb, p, none⟩ = some (optr act bo (p + 1)) := by
  have : p = 0 ∨ p = 1 := by omega
  rcases this with rfl | rfl
  · exact h.th.cellv rfl
  · exact h.th.cellv rfl
theorem optr_on {act : Nat → Bool} (bo : Nat → Nat) (h : act p = true) : optr act bo p = .pointer (some ⟨bo p, 0, none⟩) := by unfold optr; rw [h]; rfl
theorem optr_off {act : Nat → Bool} (bo : Nat → Nat) (h : act p = false) : optr act bo p = .pointer none := by unfold optr; rw [h]; rfl
theorem optr_upd {act act' : Nat → Bool} {bo bo' : Nat → Nat} {q : Nat} (h : q ≠ p) (x : Bool) (b : Nat) : optr (upd act p x) (upd bo p b) q = optr act bo q := by unfold optr; rw [upd_ne _ _ h, upd_ne _ _ h]
theorem optr_upd1 {act : Nat → Bool} {bo : Nat → Nat} {q : Nat} (h : q ≠ p) (x : Bool) : optr (upd act p x) bo q = optr act bo q := by unfold optr; rw [upd_ne _ _ h]
/-- The owner begins. -/
theorem GW.beginO {w1 : World} {rb : Nat} {x : Dop} (h : GW w B gb tb bd bm bc n L tc act o bo pu nx sv XS lost most) (ho : Only S0 w w1) (hx : DopIs w1 rb bd x) (hr : w.heap.size ≤ rb) :
    GW (w1.setCell ⟨gb, 1, none⟩ (.pointer (some ⟨rb, 0, none⟩))) B gb tb bd bm bc n L tc (upd act 0 true) (upd o 0 x) (upd bo 0 rb) pu nx sv XS lost most := by
  refine (h.only0 ho).setG ?_ ?_ (h.fam.begin_ (dop_stays bd) (by omega) ho (Nat.le_trans h.b1 (Nat.le_of_lt h.g.lt)) hx hr (Blk.lt hx))
  · have e : optr (upd act 0 true) (upd bo 0 rb) 0 = .pointer (some ⟨rb, 0, none⟩) := by rw [optr_on _ (upd_same _ _ _), upd_same]
    simp only [gangC, e]
    rfl
  · simp only [thC]
    rw [optr_upd (act' := act) (bo' := bo) (by decide), optr_upd (act' := act) (bo' := bo) (by decide)]
/-- A thief begins. -/
theorem GW.beginT {w1 : World} {rb : Nat} {x : Dop} (h : GW w B gb tb bd bm bc n L tc act o bo pu nx sv XS lost most) (hp : p < 2) (ho : Only S0 w w1) (hx : DopIs w1 rb bd x) (hr : w.heap.size ≤ rb) :
    GW (w1.setCell ⟨tb, p, none⟩ (.pointer (some ⟨rb, 0, none⟩))) B gb tb bd bm bc n L tc (upd act (p + 1) true) (upd o (p + 1) x) (upd bo (p + 1) rb) pu nx sv XS lost most := by
  refine (h.only0 ho).setT ?_ ?_ (h.fam.begin_ (dop_stays bd) (by omega) ho (Nat.le_trans h.b1 (Nat.le_of_lt h.g.lt)) hx hr (Blk.lt hx))
  · have e : optr (upd act (p + 1) true) (upd bo (p + 1) rb) (p + 1) = .pointer (some ⟨rb, 0, none⟩) := by rw [optr_on _ (upd_same _ _ _), upd_same]
    have : p = 0 ∨ p = 1 := by omega
    rcases this with rfl | rfl
    · simp only [thC, e]
      rw [optr_upd (act' := act) (bo' := bo) (by decide)]
      rfl
    · simp only [thC, e]
      rw [optr_upd (act' := act) (bo' := bo) (by decide)]
      rfl
  · rw [optr_upd (act' := act) (bo' := bo) (by omega)]
/-- An operation is over. -/
theorem GW.endO (h : GW w B gb tb bd bm bc n L tc act o bo pu nx sv XS lost most) : GW (w.setCell ⟨gb, 1, none⟩ (.pointer none)) B gb tb bd bm bc n L tc (upd act 0 false) o bo pu nx sv XS lost most := by
  refine h.setG ?_ ?_ (h.fam.off 0)
  · have e : optr (upd act 0 false) bo 0 = .pointer none := optr_off _ (upd_same _ _ _)
    simp only [gangC, e]
    rfl
  · simp only [thC]
    rw [optr_upd1 (by decide), optr_upd1 (by decide)]
theorem GW.endT (h : GW w B gb tb bd bm bc n L tc act o bo pu nx sv XS lost most) (hp : p < 2) : GW (w.setCell ⟨tb, p, none⟩ (.pointer none)) B gb tb bd bm bc n L tc (upd act (p + 1) false) o bo pu nx sv XS lost most := by
  refine h.setT ?_ ?_ (h.fam.off (p + 1))
  · have e : optr (upd act (p + 1) false) bo (p + 1) = .pointer none := optr_off _ (upd_same _ _ _)
    have : p = 0 ∨ p = 1 := by omega
    rcases this with rfl | rfl
    · simp only [thC, e]
      rw [optr_upd1 (by decide)]
      rfl
    · simp only [thC, e]
      rw [optr_upd1 (by decide)]
      rfl
  · rw [optr_upd1 (by omega)]
theorem GW.setPu (h : GW w B gb tb bd bm bc n L tc act o bo pu nx sv XS lost most) (x : Bool) : GW (w.setCell ⟨gb, 2, none⟩ (.bool x)) B gb tb bd bm bc n L tc act o bo x nx sv XS lost most := h.setG rfl rfl h.fam
theorem GW.setNx (h : GW w B gb tb bd bm bc n L tc act o bo pu nx sv XS lost most) (x : Int) : GW (w.setCell ⟨gb, 3, none⟩ (.int .u64 x)) B gb tb bd bm bc n L tc act o bo pu x sv XS lost most := h.setG rfl rfl h.fam
theorem GW.setLost (h : GW w B gb tb bd bm bc n L tc act o bo pu nx sv XS lost most) (x : Int) : GW (w.setCell ⟨gb, 8, none⟩ (.int .i64 x)) B gb tb bd bm bc n L tc act o bo pu nx sv XS x most := h.setG rfl rfl h.fam
theorem GW.setMost (h : GW w B gb tb bd bm bc n L tc act o bo pu nx sv XS lost most) (x : Int) : GW (w.setCell ⟨gb, 9, none⟩ (.int .i64 x)) B gb tb bd bm bc n L tc act o bo pu nx sv XS lost x := h.setG rfl rfl h.fam
end
end Go.Proofs.Ytblkbfdmoanbfaa
