/-
  The crowd of troupelaw05 as it lies in memory: what it is made of, and what a store turns.
-/
import Derived.Test.YtjjjjbfblhadnaaGateI
import Derived.Test.YtjjjjbfblhadnaaGateB
import Derived.Test.YtjjjjbfblhadnaaPlay
import Derived.Deep.AppendLies
namespace Go.Proofs.Ytjjjjbfblhadnaa
open Go.RowKit
set_option linter.unusedVariables false

def u64s (l : List Int) : List Value := l.map (Value.int .u64)
theorem u64s_len (l : List Int) : (u64s l).length = l.length := by simp [u64s]
theorem u64s_snoc (l : List Int) (v : Int) : u64s (l ++ [v]) = u64s l ++ [.int .u64 v] := by simp [u64s]
theorem u64s_get {l : List Int} {i : Nat} (h : i < l.length) : (u64s l)[i]? = some (.int .u64 (l.getD i 0)) := by
  simp [u64s, List.getD, h]
def nxC (nx : Nat → Nat) : Array Value := #[.int .u64 (nx 0 : Int), .int .u64 (nx 1 : Int)]
def tvC (tv : Nat → Value) : Array Value := #[tv 0, tv 1]
def crowdC (bg ob nb tb : Nat) (iv : Value) : Array Value := #[.pointer (some ⟨bg, 0, none⟩), .slice (some ⟨ob, 0, none⟩) 4 4, .slice (some ⟨nb, 0, none⟩) 2 2, iv, .slice (some ⟨tb, 0, none⟩) 2 2, .int .i64 0]
theorem gop_stays (bg : Nat) : Stays (fun w b o => GopIs w b bg o) := fun w w' S b x h ho hs => GopAt.only h ho hs
structure CW (w : World) (B cb ob nb tb bg bm bc n : Nat) (L : List Int) (tc : Int) (act : Nat → Bool) (o : Nat → Gop) (bo nx : Nat → Nat) (iv : Value) (tv : Nat → Value) (IN : List Int) (TK : Nat → List Int) : Prop where
  env : GateEnv w bg bm bc 0 n tc L
  c : Blk w cb 50 (crowdC bg ob nb tb iv)
  ops : Blk w ob 56 (optrs 4 act bo)
  nxt : Blk w nb 28 (nxC nx)
  tks : Blk w tb 35 (tvC tv)
  fam : OFam (fun w b o => GopIs w b bg o) w B 4 act bo o
  inS : Sl w B 28 iv (u64s IN)
  tkS : ∀ i, i < 2 → Sl w B 28 (tv i) (u64s (TK i))
  d1 : iv.ownBlock ≠ some nb ∧ iv.ownBlock ≠ some bc
  d2 : ∀ i, i < 2 → (tv i).ownBlock ≠ some nb ∧ (tv i).ownBlock ≠ some bc
  d3 : ∀ i g, i < 2 → iv.ownBlock = some g → (tv i).ownBlock ≠ some g
  d4 : ∀ g, (tv 0).ownBlock = some g → (tv 1).ownBlock ≠ some g
  d5 : nb ≠ bc
  b1 : B ≤ cb
  b2 : B ≤ ob
  b3 : B ≤ nb
  b4 : B ≤ tb
  b5 : B ≤ bg
  b6 : B ≤ bm
  b7 : B ≤ bc
section
variable {w w' : World} {B cb ob nb tb bg bm bc n p : Nat} {L : List Int} {tc : Int} {act : Nat → Bool} {o : Nat → Gop} {bo nx : Nat → Nat} {iv : Value} {tv : Nat → Value} {IN : List Int} {TK : Nat → List Int}
theorem CW.only0 (h : CW w B cb ob nb tb bg bm bc n L tc act o bo nx iv tv IN TK) (ho : Only S0 w w') : CW w' B cb ob nb tb bg bm bc n L tc act o bo nx iv tv IN TK :=
  ⟨h.env.only0 ho, h.c.only ho fun h => h, h.ops.only ho fun h => h, h.nxt.only ho fun h => h, h.tks.only ho fun h => h, h.fam.only0 (gop_stays bg) ho, h.inS.only0 ho, fun i hi => (h.tkS i hi).only0 ho, h.d1, h.d2, h.d3, h.d4, h.d5, h.b1, h.b2, h.b3, h.b4, h.b5, h.b6, h.b7⟩
theorem CW.drewN (h : CW w B cb ob nb tb bg bm bc n L tc act o bo nx iv tv IN TK) (k : Nat) : CW (w.drewN k) B cb ob nb tb bg bm bc n L tc act o bo nx iv tv IN TK := h.only0 ((Only.refl S0 w).drewN k)
theorem CW.drew (h : CW w B cb ob nb tb bg bm bc n L tc act o bo nx iv tv IN TK) : CW w.drew B cb ob nb tb bg bm bc n L tc act o bo nx iv tv IN TK := h.only0 ((Only.refl S0 w).drew)
/-- A pointer of the table turns. -/
theorem CW.setOps (h : CW w B cb ob nb tb bg bm bc n L tc act o bo nx iv tv IN TK) {act' : Nat → Bool} {o' : Nat → Gop} {bo' : Nat → Nat} {v : Value} (hv : (optrs 4 act bo).setIfInBounds p v = optrs 4 act' bo') (hf : OFam (fun w b o => GopIs w b bg o) w B 4 act' bo' o') :
    CW (w.setCell ⟨ob, p, none⟩ v) B cb ob nb tb bg bm bc n L tc act' o' bo' nx iv tv IN TK := by
  have ho := only_set w ob p v
  have ne : ∀ {g t cs}, Blk w g t cs → 56 ≠ t → ¬ S1 ob g := fun hg ht e => Blk.ne_ h.ops hg ht (Eq.symm e)
  have ns : ∀ {v' xs}, Sl w B 28 v' xs → ∀ g, v'.ownBlock = some g → ¬ S1 ob g := fun hs g hg e => by
    unfold S1 at e
    subst e
    exact hs.ne_blk h.ops (by decide) hg
  refine ⟨h.env.only ho (ne h.env.gate (by decide)) (ne h.env.mem.mem (by decide)) (ne h.env.mem.cells (by decide)), h.c.only ho (ne h.c (by decide)), ?_, h.nxt.only ho (ne h.nxt (by decide)), h.tks.only ho (ne h.tks (by decide)),
    hf.only (gop_stays bg) ho fun i hi ha => ne (hf.at_ i hi ha) (by decide), h.inS.only ho (ns h.inS), fun i hi => (h.tkS i hi).only ho (ns (h.tkS i hi)), h.d1, h.d2, h.d3, h.d4, h.d5, h.b1, h.b2, h.b3, h.b4, h.b5, h.b6, h.b7⟩
  rw [← hv]
  exact h.ops.set_ p v
theorem CW.begin_ {w1 : World} {rb : Nat} {x : Gop} (h : CW w B cb ob nb tb bg bm bc n L tc act o bo nx iv tv IN TK) (hp : p < 4) (ho : Only S0 w w1) (hx : GopIs w1 rb bg x) (hr : w.heap.size ≤ rb) :
    CW (w1.setCell ⟨ob, p, none⟩ (.pointer (some ⟨rb, 0, none⟩))) B cb ob nb tb bg bm bc n L tc (upd act p true) (upd o p x) (upd bo p rb) nx iv tv IN TK :=
  (h.only0 ho).setOps (optrs_set 4 p rb act bo) (h.fam.begin_ (gop_stays bg) hp ho (Nat.le_trans h.b1 (Nat.le_of_lt h.c.lt)) hx hr (Blk.lt hx))
theorem optrs_nil (k p : Nat) (act : Nat → Bool) (bo : Nat → Nat) : (optrs k act bo).setIfInBounds p (.pointer none) = optrs k (upd act p false) bo := by
  have h := map_set (k := k) (optr act bo) (optr (upd act p false) bo) p (fun i hi => by unfold optr; rw [upd_ne _ _ hi])
  have e : optr (upd act p false) bo p = .pointer none := by unfold optr; rw [upd_same]; rfl
  rw [e] at h
  exact h
theorem CW.nil_ (h : CW w B cb ob nb tb bg bm bc n L tc act o bo nx iv tv IN TK) : CW (w.setCell ⟨ob, p, none⟩ (.pointer none)) B cb ob nb tb bg bm bc n L tc (upd act p false) o bo nx iv tv IN TK := by
  refine h.setOps (optrs_nil 4 p act bo) ⟨fun i hi ha => ?_, fun i hi ha => ?_, fun i hi ha => ?_, fun i j hi hj ha hb hij => ?_⟩
  · by_cases e : i = p
    · subst e; rw [upd_same] at ha; cases ha
    · rw [upd_ne _ _ e] at ha; exact h.fam.at_ i hi ha
  · by_cases e : i = p
    · subst e; rw [upd_same] at ha; cases ha
    · rw [upd_ne _ _ e] at ha; exact h.fam.ge i hi ha
  · by_cases e : i = p
    · subst e; rw [upd_same] at ha; cases ha
    · rw [upd_ne _ _ e] at ha; exact h.fam.lt i hi ha
  · by_cases e : i = p
    · subst e; rw [upd_same] at ha; cases ha
    · by_cases e2 : j = p
      · subst e2; rw [upd_same] at hb; cases hb
      · rw [upd_ne _ _ e] at ha; rw [upd_ne _ _ e2] at hb; exact h.fam.ne i j hi hj ha hb hij
theorem CW.next (h : CW w B cb ob nb tb bg bm bc n L tc act o bo nx iv tv IN TK) (hp : p < 2) (k : Nat) : CW (w.setCell ⟨nb, p, none⟩ (.int .u64 (k : Int))) B cb ob nb tb bg bm bc n L tc act o bo (upd nx p k) iv tv IN TK := by
  have ho := only_set w nb p (.int .u64 (k : Int))
  have ne : ∀ {g t cs}, Blk w g t cs → 28 ≠ t → ¬ S1 nb g := fun hg ht e => Blk.ne_ h.nxt hg ht (Eq.symm e)
  have ns : ∀ {v' : Value}, v'.ownBlock ≠ some nb → ∀ g, v'.ownBlock = some g → ¬ S1 nb g := fun hs g hg e => by
    unfold S1 at e
    subst e
    exact hs hg
  refine ⟨h.env.only ho (ne h.env.gate (by decide)) (ne h.env.mem.mem (by decide)) (fun e => h.d5 (Eq.symm e)), h.c.only ho (ne h.c (by decide)), h.ops.only ho (ne h.ops (by decide)), ?_, h.tks.only ho (ne h.tks (by decide)),
    h.fam.only (gop_stays bg) ho fun i hi ha => ne (h.fam.at_ i hi ha) (by decide), h.inS.only ho (ns h.d1.1), fun i hi => (h.tkS i hi).only ho (ns (h.d2 i hi).1), h.d1, h.d2, h.d3, h.d4, h.d5, h.b1, h.b2, h.b3, h.b4, h.b5, h.b6, h.b7⟩
  have := h.nxt.set_ p (.int .u64 (k : Int))
  have e : (nxC nx).setIfInBounds p (.int .u64 (k : Int)) = nxC (upd nx p k) := by
    have : p = 0 ∨ p = 1 := by omega
    rcases this with rfl | rfl <;> simp [nxC, upd]
  rw [← e]
  exact this
/-- A step of an operation. -/
theorem CW.step {x : Gop} {L' : List Int} {tc' : Int} (h : CW w B cb ob nb tb bg bm bc n L tc act o bo nx iv tv IN TK) (hp : p < 4) (ha : act p = true) (ho : Only (S3 (bo p) bm bc) w w') (hx : GopIs w' (bo p) bg x) (he : GateEnv w' bg bm bc 0 n tc' L') :
    CW w' B cb ob nb tb bg bm bc n L' tc' act (upd o p x) bo nx iv tv IN TK := by
  have hb := h.fam.at_ p hp ha
  have ne : ∀ {g t cs}, Blk w g t cs → t ≠ 87 → t ≠ 76 → t ≠ 28 → ¬ S3 (bo p) bm bc g := fun hg h1 h2 h3 e => by
    rcases e with e | e | e
    · exact Blk.ne_ hg hb h1 e
    · exact Blk.ne_ hg h.env.mem.mem h2 e
    · exact Blk.ne_ hg h.env.mem.cells h3 e
  have ns : ∀ {v' xs}, Sl w B 28 v' xs → v'.ownBlock ≠ some bc → ∀ g, v'.ownBlock = some g → ¬ S3 (bo p) bm bc g := fun hs hbc g hg e => by
    rcases e with e | e | e
    · subst e; exact hs.ne_blk hb (by decide) hg
    · subst e; exact hs.ne_blk h.env.mem.mem (by decide) hg
    · subst e; exact hbc hg
  refine ⟨he, h.c.only ho (ne h.c (by decide) (by decide) (by decide)), h.ops.only ho (ne h.ops (by decide) (by decide) (by decide)), h.nxt.only ho (fun e => by
      rcases e with e | e | e
      · exact Blk.ne_ h.nxt hb (by decide) e
      · exact Blk.ne_ h.nxt h.env.mem.mem (by decide) e
      · exact h.d5 e), h.tks.only ho (ne h.tks (by decide) (by decide) (by decide)),
    h.fam.step (gop_stays bg) hp ho (fun i hi hai hip e => by
      rcases e with e | e | e
      · exact h.fam.ne i p hi hp hai ha hip e
      · exact Blk.ne_ (h.fam.at_ i hi hai) h.env.mem.mem (by decide) e
      · exact Blk.ne_ (h.fam.at_ i hi hai) h.env.mem.cells (by decide) e) hx, h.inS.only ho (ns h.inS h.d1.2), fun i hi => (h.tkS i hi).only ho (ns (h.tkS i hi) (h.d2 i hi).2), h.d1, h.d2, h.d3, h.d4, h.d5, h.b1, h.b2, h.b3, h.b4, h.b5, h.b6, h.b7⟩
/-- One of the crowd's own slices grows. -/
theorem CW.grow {v : Value} (h : CW w B cb ob nb tb bg bm bc n L tc act o bo nx iv tv IN TK) (ho : Only (fun k => v.ownBlock = some k) w w') (hs : ∃ xs, Sl w B 28 v xs) (h1 : v.ownBlock ≠ some nb) (h2 : v.ownBlock ≠ some bc) :
    GateEnv w' bg bm bc 0 n tc L ∧ Blk w' cb 50 (crowdC bg ob nb tb iv) ∧ Blk w' ob 56 (optrs 4 act bo) ∧ Blk w' nb 28 (nxC nx) ∧ Blk w' tb 35 (tvC tv) ∧ OFam (fun w b o => GopIs w b bg o) w' B 4 act bo o := by
  obtain ⟨xs, hs⟩ := hs
  have ne : ∀ {g t cs}, Blk w g t cs → 28 ≠ t → ¬ (v.ownBlock = some g) := fun hg ht e => hs.ne_blk hg ht e
  exact ⟨h.env.only ho (ne h.env.gate (by decide)) (ne h.env.mem.mem (by decide)) h2, h.c.only ho (ne h.c (by decide)), h.ops.only ho (ne h.ops (by decide)), h.nxt.only ho h1, h.tks.only ho (ne h.tks (by decide)), h.fam.only (gop_stays bg) ho fun i hi ha => ne (h.fam.at_ i hi ha) (by decide)⟩
theorem fresh_off {v v' : Value} {g : Nat} (hn : v'.ownBlock = v.ownBlock ∨ ∃ k, v'.ownBlock = some k ∧ w.heap.size ≤ k) (h1 : v.ownBlock ≠ some g) (hg : g < w.heap.size) : v'.ownBlock ≠ some g := by
  rcases hn with e | ⟨k, e, hk⟩
  · rw [e]; exact h1
  · rw [e]; intro e2; injection e2 with e2; omega
theorem CW.inApp {iv' : Value} {IN' : List Int} (h : CW w B cb ob nb tb bg bm bc n L tc act o bo nx iv tv IN TK) (ho : Only (fun k => iv.ownBlock = some k) w w') (hs : Sl w' B 28 iv' (u64s IN'))
    (hn : iv'.ownBlock = iv.ownBlock ∨ ∃ k, iv'.ownBlock = some k ∧ w.heap.size ≤ k) : CW (w'.setCell ⟨cb, 3, none⟩ iv') B cb ob nb tb bg bm bc n L tc act o bo nx iv' tv IN' TK := by
  obtain ⟨g1, g2, g3, g4, g5, g6⟩ := h.grow ho ⟨_, h.inS⟩ h.d1.1 h.d1.2
  have ho' := only_set w' cb 3 iv'
  have ne : ∀ {g t cs}, Blk w' g t cs → 50 ≠ t → ¬ S1 cb g := fun hg ht e => Blk.ne_ g2 hg ht (Eq.symm e)
  have ns : ∀ {v' xs}, Sl w' B 28 v' xs → ∀ g, v'.ownBlock = some g → ¬ S1 cb g := fun hs g hg e => by
    unfold S1 at e
    subst e
    exact hs.ne_blk g2 (by decide) hg
  have ht : ∀ i, i < 2 → Sl w' B 28 (tv i) (u64s (TK i)) := fun i hi => (h.tkS i hi).only ho fun g hg e => h.d3 i g hi e hg
  refine ⟨g1.only ho' (ne g1.gate (by decide)) (ne g1.mem.mem (by decide)) (ne g1.mem.cells (by decide)), ?_, g3.only ho' (ne g3 (by decide)), g4.only ho' (ne g4 (by decide)), g5.only ho' (ne g5 (by decide)),
    g6.only (gop_stays bg) ho' fun i hi ha => ne (g6.at_ i hi ha) (by decide), hs.only ho' (ns hs), fun i hi => (ht i hi).only ho' (ns (ht i hi)), ⟨fresh_off hn h.d1.1 h.nxt.lt, fresh_off hn h.d1.2 h.env.mem.cells.lt⟩, h.d2, fun i g hi hg => ?_, h.d4, h.d5, h.b1, h.b2, h.b3, h.b4, h.b5, h.b6, h.b7⟩
  · have := g2.set_ 3 iv'
    have e : (crowdC bg ob nb tb iv).setIfInBounds 3 iv' = crowdC bg ob nb tb iv' := by simp [crowdC]
    rw [← e]
    exact this
  · rcases hn with e | ⟨k, e, hk⟩
    · rw [e] at hg; exact h.d3 i g hi hg
    · rw [e] at hg
      injection hg with hg
      intro e2
      have := ((h.tkS i hi).block e2).2
      omega
theorem CW.tkApp {v' : Value} {xs : List Int} (h : CW w B cb ob nb tb bg bm bc n L tc act o bo nx iv tv IN TK) (hp : p < 2) (ho : Only (fun k => (tv p).ownBlock = some k) w w') (hs : Sl w' B 28 v' (u64s xs))
    (hn : v'.ownBlock = (tv p).ownBlock ∨ ∃ k, v'.ownBlock = some k ∧ w.heap.size ≤ k) : CW (w'.setCell ⟨tb, p, none⟩ v') B cb ob nb tb bg bm bc n L tc act o bo nx iv (upd tv p v') IN (upd TK p xs) := by
  obtain ⟨g1, g2, g3, g4, g5, g6⟩ := h.grow ho ⟨_, h.tkS p hp⟩ (h.d2 p hp).1 (h.d2 p hp).2
  have ho' := only_set w' tb p v'
  have ne : ∀ {g t cs}, Blk w' g t cs → 35 ≠ t → ¬ S1 tb g := fun hg ht e => Blk.ne_ g5 hg ht (Eq.symm e)
  have ns : ∀ {v' xs}, Sl w' B 28 v' xs → ∀ g, v'.ownBlock = some g → ¬ S1 tb g := fun hs g hg e => by
    unfold S1 at e
    subst e
    exact hs.ne_blk g5 (by decide) hg
  have hin : Sl w' B 28 iv (u64s IN) := h.inS.only ho fun g hg e => h.d3 p g hp hg e
  have h4 : ∀ i, i < 2 → i ≠ p → ∀ g, (tv p).ownBlock = some g → (tv i).ownBlock ≠ some g := by
    intro i hi hip g hg e
    have : (p = 0 ∧ i = 1) ∨ (p = 1 ∧ i = 0) := by omega
    rcases this with ⟨rfl, rfl⟩ | ⟨rfl, rfl⟩
    · exact h.d4 g hg e
    · exact h.d4 g e hg
  have ht : ∀ i, i < 2 → i ≠ p → Sl w' B 28 (tv i) (u64s (TK i)) := fun i hi hip => (h.tkS i hi).only ho fun g hg e => h4 i hi hip g e hg
  have hnew : ∀ i, i < 2 → i ≠ p → ∀ g, v'.ownBlock = some g → (tv i).ownBlock ≠ some g := by
    intro i hi hip g hg
    rcases hn with e | ⟨k, e, hk⟩
    · rw [e] at hg; exact h4 i hi hip g hg
    · rw [e] at hg
      injection hg with hg
      intro e2
      have := ((h.tkS i hi).block e2).2
      omega
  refine ⟨g1.only ho' (ne g1.gate (by decide)) (ne g1.mem.mem (by decide)) (ne g1.mem.cells (by decide)), g2.only ho' (ne g2 (by decide)), g3.only ho' (ne g3 (by decide)), g4.only ho' (ne g4 (by decide)), ?_,
    g6.only (gop_stays bg) ho' fun i hi ha => ne (g6.at_ i hi ha) (by decide), hin.only ho' (ns hin), fun i hi => ?_, h.d1, fun i hi => ?_, fun i g hi hg => ?_, fun g hg => ?_, h.d5, h.b1, h.b2, h.b3, h.b4, h.b5, h.b6, h.b7⟩
  · have := g5.set_ p v'
    have e : (tvC tv).setIfInBounds p v' = tvC (upd tv p v') := by
      have : p = 0 ∨ p = 1 := by omega
      rcases this with rfl | rfl <;> simp [tvC, upd]
    rw [← e]
    exact this
  · by_cases e : i = p
    · subst e; rw [upd_same, upd_same]; exact hs.only ho' (ns hs)
    · rw [upd_ne _ _ e, upd_ne _ _ e]; exact (ht i hi e).only ho' (ns (ht i hi e))
  · by_cases e : i = p
    · subst e; rw [upd_same]; exact ⟨fresh_off hn (h.d2 i hi).1 h.nxt.lt, fresh_off hn (h.d2 i hi).2 h.env.mem.cells.lt⟩
    · rw [upd_ne _ _ e]; exact h.d2 i hi
  · by_cases e : i = p
    · subst e
      rw [upd_same]
      refine fresh_off hn (h.d3 i g hi hg) ?_
      exact (h.inS.block hg).2
    · rw [upd_ne _ _ e]; exact h.d3 i g hi hg
  · have : p = 0 ∨ p = 1 := by omega
    rcases this with rfl | rfl
    · rw [upd_same] at hg
      rw [upd_ne _ _ (by decide)]
      exact hnew 1 (by omega) (by omega) g hg
    · rw [upd_ne _ _ (by decide)] at hg
      rw [upd_same]
      intro e
      exact hnew 0 (by omega) (by omega) g e hg
end
end Go.Proofs.Ytjjjjbfblhadnaa
