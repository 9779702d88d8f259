/-
  The document's operation of a crew, gone through with what its accesses have answered (plain lists; no program).
-/
import Derived.Test.YtdoaipjdldknaaaGreatKC18
import Derived.Test.YtdoaipjdldknaaaGreatKDeqN
import Derived.Test.YtdoaipjdldknaaaGreatKGateN
import Derived.Test.YtdoaipjdldknaaaGreatKBellN
namespace Go.Proofs.YtdoaipjdldknaaaGreat
open Go.RowKit
set_option linter.unusedVariables false
/-- A part: of a deque, of the gate, of the bell. -/
inductive PSt
  | d (i : Nat) (o : Dop)
  | g (o : Gop)
  | b (o : Bop)
def PSt.out : PSt → Int
  | .d _ o => o.out
  | .g o => o.out
  | .b o => o.out
def pask (F : CLay) : PSt → GW
  | .d i o => daskOf (F.db i) F.slots o
  | .g o => askOf F.gb F.actors o
  | .b o => baskOf F.base o
def pans (F : CLay) : PSt → Int → PSt
  | .d i o, x => .d i (dans F.slots o x)
  | .g o, x => .g (gans F.actors o x)
  | .b o, x => .b (bans F.n o x)
/-- A log that ends where the part is over. -/
def PProper (F : CLay) : PSt → List Int → Prop
  | _, [] => True
  | p, x :: l => p.out = 0 ∧ PProper F (pans F p x) l
/-- A part at the beginning of a log: how it stands, and how many accesses it had. -/
def prun (F : CLay) : PSt → List Int → PSt × Nat
  | p, [] => (p, 0)
  | p, x :: l => if p.out ≠ 0 then (p, 0) else ((prun F (pans F p x) l).1, (prun F (pans F p x) l).2 + 1)
theorem prun_le (F : CLay) : ∀ (l : List Int) (p : PSt), (prun F p l).2 ≤ l.length
  | [], p => Nat.le_refl _
  | x :: l, p => by
    unfold prun
    split
    · exact Nat.zero_le _
    · have := prun_le F l (pans F p x); simp only [List.length_cons]; omega
theorem prun_fold (F : CLay) : ∀ (l : List Int) (p : PSt), (prun F p l).1 = (l.take (prun F p l).2).foldl (pans F) p
  | [], p => rfl
  | x :: l, p => by
    unfold prun
    split
    · rfl
    · rw [List.take_succ_cons, List.foldl_cons]; exact prun_fold F l (pans F p x)
theorem prun_all (F : CLay) : ∀ (l : List Int) (p : PSt), (prun F p l).1.out = 0 → (prun F p l).2 = l.length
  | [], p, _ => rfl
  | x :: l, p, h => by
    unfold prun at h ⊢
    by_cases h0 : p.out = 0
    · rw [if_neg (by simpa using h0)] at h ⊢
      simp only [List.length_cons]; rw [prun_all F l _ h]
    · rw [if_pos h0] at h; exact absurd h h0
/-- Ahead of the end nothing is over; there all is proper. -/
theorem prun_before (F : CLay) : ∀ (l : List Int) (p : PSt) (k : Nat), k < (prun F p l).2 → ((l.take k).foldl (pans F) p).out = 0
  | [], p, k, h => by simp [prun] at h
  | x :: l, p, k, h => by
    unfold prun at h
    by_cases h0 : p.out = 0
    · rw [if_neg (by simpa using h0)] at h
      cases k with
      | zero => exact h0
      | succ k => rw [List.take_succ_cons, List.foldl_cons]; exact prun_before F l (pans F p x) k (by dsimp only at h; omega)
    · rw [if_pos h0] at h; simp at h
theorem prun_proper (F : CLay) : ∀ (l : List Int) (p : PSt) (k : Nat), k ≤ (prun F p l).2 → PProper F p (l.take k)
  | l, p, 0, h => by rw [List.take_zero]; trivial
  | [], p, k + 1, h => by simp [prun] at h
  | x :: l, p, k + 1, h => by
    unfold prun at h
    by_cases h0 : p.out = 0
    · rw [if_neg (by simpa using h0)] at h
      rw [List.take_succ_cons]
      exact ⟨h0, prun_proper F l (pans F p x) k (by dsimp only at h; omega)⟩
    · rw [if_pos h0] at h; simp at h
theorem prun_end (F : CLay) : ∀ (l : List Int) (p : PSt), (prun F p l).2 < l.length → (prun F p l).1.out ≠ 0 := fun l p h h0 => by
  have := prun_all F l p h0; omega
/-- What an operation asks for; what an answer makes of it. -/
def cask (F : CLay) : CSt → GW
  | .over out v => wOver out v
  | .ring b => baskOf F.base b
  | .put _ g => askOf F.gb F.actors g
  | .push i _ d => daskOf (F.db i) F.slots d
  | .src (.dq i d) _ => daskOf (F.db i) F.slots d
  | .src (.gt g) _ => askOf F.gb F.actors g
  | .sleep _ b => baskOf F.base b
  | .take _ g => askOf F.gb F.actors g
  | .up _ _ b => baskOf F.base b
  | .poll b => baskOf F.base b
def aftRing (b : Bop) : CSt := if b.out = 0 then .ring b else .over 1 0
def aftIn (F : CLay) (v out : Int) : CSt := if out = 2 then .put v (putOp F.gb v) else .ring ringB
def aftSrc (F : CLay) (rest : List Src) (out v : Int) : CSt := if out = 1 then .over 1 v else ctry F rest
def aftTake (i : Nat) (g : Gop) : CSt := if g.out = 1 then .up i (gvalue g.ahead g.v 1) ⟨1, i, 0⟩ else .over 4 0
def cans (F : CLay) : CSt → Int → CSt
  | .over out v, _ => .over out v
  | .ring b, x => if (bans F.n b x).out = 0 then .ring (bans F.n b x) else .over 1 0
  | .put v g, x => if (gans F.actors g x).out = 0 then .put v (gans F.actors g x) else aftIn F v (gans F.actors g x).out
  | .push i v d, x => if (dans F.slots d x).out = 0 then .push i v (dans F.slots d x) else aftIn F v (dans F.slots d x).out
  | .src (.dq i d) rest, x => if (dans F.slots d x).out = 0 then .src (.dq i (dans F.slots d x)) rest else aftSrc F rest (dans F.slots d x).out (dvalue (dans F.slots d x).v (dans F.slots d x).out)
  | .src (.gt g) rest, x => if (gans F.actors g x).out = 0 then .src (.gt (gans F.actors g x)) rest else aftSrc F rest (gans F.actors g x).out (gvalue (gans F.actors g x).ahead (gans F.actors g x).v (gans F.actors g x).out)
  | .sleep i b, x => if (bans F.n b x).out = 0 then .sleep i (bans F.n b x) else .take i (takeOp F.gb)
  | .take i g, x => if (gans F.actors g x).out = 0 then .take i (gans F.actors g x) else aftTake i (gans F.actors g x)
  | .up i v b, x => if (bans F.n b x).out = 0 then .up i v (bans F.n b x) else .over 1 v
  | .poll b, x => if (bans F.n b x).out = 0 then .poll (bans F.n b x) else .over (bans F.n b x).out 0
theorem srcd_eq (F : CLay) (i : Nat) (rest : List Src) (L : List Int) (d : Dop) : cstep F L (.src (.dq i d) rest) = ((dstep (F.db i) F.slots L d).1, if (dstep (F.db i) F.slots L d).2.out = 0 then CSt.src (.dq i (dstep (F.db i) F.slots L d).2) rest else aftSrc F rest (dstep (F.db i) F.slots L d).2.out (dvalue (dstep (F.db i) F.slots L d).2.v (dstep (F.db i) F.slots L d).2.out)) := by
  unfold aftSrc
  by_cases h0 : (dstep (F.db i) F.slots L d).2.out = 0
  · simp [cstep, sstep, SOp.out, h0]
  · by_cases h1 : (dstep (F.db i) F.slots L d).2.out = 1
    · simp [cstep, sstep, SOp.out, SOp.value, h1]
    · simp [cstep, sstep, SOp.out, h0, h1]
theorem srcg_eq (F : CLay) (rest : List Src) (L : List Int) (g : Gop) : cstep F L (.src (.gt g) rest) = ((gstep F.gb F.actors L g).1, if (gstep F.gb F.actors L g).2.out = 0 then CSt.src (.gt (gstep F.gb F.actors L g).2) rest else aftSrc F rest (gstep F.gb F.actors L g).2.out (gvalue (gstep F.gb F.actors L g).2.ahead (gstep F.gb F.actors L g).2.v (gstep F.gb F.actors L g).2.out)) := by
  unfold aftSrc
  by_cases h0 : (gstep F.gb F.actors L g).2.out = 0
  · simp [cstep, sstep, SOp.out, h0]
  · by_cases h1 : (gstep F.gb F.actors L g).2.out = 1
    · simp [cstep, sstep, SOp.out, SOp.value, h1]
    · simp [cstep, sstep, SOp.out, h0, h1]
theorem cstep_ask (F : CLay) (L : List Int) (st : CSt) (h : st.out = 0) {len : Nat} (hok : CStOk F len st) : cstep F L st = ((gdo L (cask F st)).1, cans F st (gdo L (cask F st)).2) := by
  cases st with
  | over out v => exact absurd h hok.1
  | ring b =>
    have e := bstep_ask F.base F.n L b hok.1 hok.2.k
    simp only [cstep, cask, cans]; rw [e]; rfl
  | put v g =>
    have e := gstep_ask F.gb F.actors L g hok.1 hok.2.1.ph
    simp only [cstep, cask, cans, aftIn]; rw [e]; rfl
  | push i v d =>
    have e := dstep_ask (F.db i) F.slots L d hok.1 hok.2.1.k
    simp only [cstep, cask, cans, aftIn]; rw [e]; rfl
  | src s rest =>
    cases s with
    | dq i d =>
      have e := dstep_ask (F.db i) F.slots L d hok.1 hok.2.1.k
      rw [srcd_eq]; simp only [cask, cans]; rw [e]; rfl
    | gt g =>
      have e := gstep_ask F.gb F.actors L g hok.1 hok.2.1.ph
      rw [srcg_eq]; simp only [cask, cans]; rw [e]; rfl
  | sleep i b =>
    have e := bstep_ask F.base F.n L b hok.1 hok.2.1.k
    simp only [cstep, cask, cans]; rw [e]; rfl
  | take i g =>
    have e := gstep_ask F.gb F.actors L g hok.1 hok.2.1.ph
    simp only [cstep, cask, cans, aftTake]; rw [e]; rfl
  | up i v b =>
    have e := bstep_ask F.base F.n L b hok.1 hok.2.1.k
    simp only [cstep, cask, cans]; rw [e]; rfl
  | poll b =>
    have e := bstep_ask F.base F.n L b hok.1 hok.2.k
    simp only [cstep, cask, cans]; rw [e]; rfl
/-- A log that ends where the operation is over. -/
def CProper (F : CLay) : CSt → List Int → Prop
  | _, [] => True
  | s, x :: l => s.out = 0 ∧ CProper F (cans F s x) l
theorem CProper.snoc {F : CLay} : ∀ {l : List Int} {s : CSt} {x : Int}, CProper F s l → (l.foldl (cans F) s).out = 0 → CProper F s (l ++ [x])
  | [], s, x, _, h => ⟨h, trivial⟩
  | y :: l, s, x, h, hx => ⟨h.1, CProper.snoc (l := l) h.2 hx⟩
theorem CProper.over {F : CLay} {l : List Int} {s : CSt} (h : CProper F s l) (ho : s.out ≠ 0) : l = [] := by
  cases l with
  | nil => rfl
  | cons x l => exact absurd h.1 ho
/-- A part's beginning of an operation's log. K: which parts; C: the operation with its part; A: what comes behind. -/
structure Phase (F : CLay) (K : PSt → Prop) (C : PSt → CSt) (A : PSt → CSt) : Prop where
  keep : ∀ p x, K p → K (pans F p x)
  out : ∀ p, (C p).out = 0
  ans : ∀ p x, K p → cans F (C p) x = if (pans F p x).out = 0 then C (pans F p x) else A (pans F p x)
theorem Phase.fold {F : CLay} {K : PSt → Prop} {C A : PSt → CSt} (h : Phase F K C A) : ∀ (l : List Int) (p : PSt), K p → p.out = 0 → CProper F (C p) l →
    K (prun F p l).1 ∧ (((prun F p l).1.out = 0 ∧ l.foldl (cans F) (C p) = C (prun F p l).1) ∨
    ((prun F p l).1.out ≠ 0 ∧ 1 ≤ (prun F p l).2 ∧ l.foldl (cans F) (C p) = (l.drop (prun F p l).2).foldl (cans F) (A (prun F p l).1) ∧ CProper F (A (prun F p l).1) (l.drop (prun F p l).2)))
  | [], p, hk, hp, _ => ⟨hk, .inl ⟨hp, rfl⟩⟩
  | x :: l, p, hk, hp, hc => by
    have hr : prun F p (x :: l) = ((prun F (pans F p x) l).1, (prun F (pans F p x) l).2 + 1) := by
      conv => lhs; unfold prun
      rw [if_neg (by simpa using hp)]
    rw [hr, List.foldl_cons, h.ans p x hk]
    have hc2 := hc.2
    rw [h.ans p x hk] at hc2
    by_cases hz : (pans F p x).out = 0
    · rw [if_pos hz] at hc2 ⊢
      obtain ⟨h0, h1 | h1⟩ := Phase.fold h l (pans F p x) (h.keep p x hk) hz hc2
      · exact ⟨h0, .inl h1⟩
      · obtain ⟨h1, h2, h3, h4⟩ := h1
        exact ⟨h0, .inr ⟨h1, by dsimp only; omega, by rw [List.drop_succ_cons]; exact h3, by rw [List.drop_succ_cons]; exact h4⟩⟩
    · rw [if_neg hz] at hc2 ⊢
      have hp0 : prun F (pans F p x) l = (pans F p x, 0) := by
        cases l with
        | nil => rfl
        | cons y l => unfold prun; rw [if_pos hz]
      rw [hp0]
      exact ⟨h.keep p x hk, .inr ⟨hz, Nat.le_refl _, by rw [List.drop_succ_cons]; rfl, by rw [List.drop_succ_cons]; exact hc2⟩⟩
/-- The phases that there are. -/
def PSt.dop : PSt → Dop
  | .d _ o => o
  | _ => popOp
def PSt.gop : PSt → Gop
  | .g o => o
  | _ => takeOp 0
def PSt.bop : PSt → Bop
  | .b o => o
  | _ => ringB
def KPush (i : Nat) (p : PSt) : Prop := ∃ o, p = .d i o ∧ (1 ≤ o.k ∧ o.k ≤ 4) ∧ (o.out = 0 ∨ o.out = 1 ∨ o.out = 2)
def KPut (p : PSt) : Prop := ∃ o, p = .g o ∧ o.ahead = 0 ∧ (o.out = 0 ∨ o.out = 1 ∨ o.out = 2)
def KDq (i : Nat) (p : PSt) : Prop := ∃ o, p = .d i o
def KGt (p : PSt) : Prop := ∃ o, p = .g o
def KBl (p : PSt) : Prop := ∃ o, p = .b o
def KPoll (p : PSt) : Prop := ∃ o, p = .b o ∧ o.k = 2 ∧ (o.out = 0 ∨ o.out = 1 ∨ o.out = 4)
theorem phase_push (F : CLay) (i : Nat) (v : Int) : Phase F (KPush i) (fun p => .push i v p.dop) (fun p => aftIn F v p.out) := by
  refine ⟨?_, fun p => rfl, ?_⟩
  · rintro p x ⟨o, rfl, ⟨k1, k4⟩, ho⟩
    refine ⟨_, rfl, ?_⟩
    by_cases h0 : o.out = 0
    · have hk : o.k = 1 ∨ o.k = 2 ∨ o.k = 3 ∨ o.k = 4 := by omega
      rcases hk with hk | hk | hk | hk
      · simp [dans, dansPush, h0, hk]
      · simp [dans, dansPush, h0, hk]; unfold dfull; split <;> simp
      · simp [dans, dansPush, h0, hk]
      · simp [dans, dansPush, h0, hk]
    · rw [show dans F.slots o x = o from by unfold dans; rw [if_pos h0]]
      exact ⟨⟨k1, k4⟩, ho⟩
  · rintro p x ⟨o, rfl, -⟩
    rfl
theorem phase_put (F : CLay) (v : Int) : Phase F KPut (fun p => .put v p.gop) (fun p => aftIn F v p.out) := by
  refine ⟨?_, fun p => rfl, ?_⟩
  · rintro p x ⟨o, rfl, ha, ho⟩
    refine ⟨_, rfl, ?_⟩
    unfold gans
    by_cases h0 : o.out = 0
    · rw [if_neg (by simpa using h0)]
      split
      · exact ⟨ha, ho⟩
      split
      · refine ⟨ha, ?_⟩
        show turnOut x _ o.ahead = 0 ∨ turnOut x _ o.ahead = 1 ∨ turnOut x _ o.ahead = 2
        rw [ha]
        unfold turnOut
        split
        · exact .inl rfl
        · exact .inr (.inr rfl)
      split
      · exact ⟨ha, ho⟩
      split
      · exact ⟨ha, ho⟩
      · exact ⟨ha, .inr (.inl rfl)⟩
    · rw [if_pos h0]; exact ⟨ha, ho⟩
  · rintro p x ⟨o, rfl, -⟩
    rfl
theorem phase_srcd (F : CLay) (i : Nat) (rest : List Src) : Phase F (KDq i) (fun p => .src (.dq i p.dop) rest) (fun p => aftSrc F rest p.out (dvalue p.dop.v p.out)) :=
  ⟨fun p x ⟨o, e⟩ => by subst e; exact ⟨_, rfl⟩, fun p => rfl, fun p x ⟨o, e⟩ => by subst e; rfl⟩
theorem phase_srcg (F : CLay) (rest : List Src) : Phase F KGt (fun p => .src (.gt p.gop) rest) (fun p => aftSrc F rest p.out (gvalue p.gop.ahead p.gop.v p.out)) :=
  ⟨fun p x ⟨o, e⟩ => by subst e; exact ⟨_, rfl⟩, fun p => rfl, fun p x ⟨o, e⟩ => by subst e; rfl⟩
theorem phase_sleep (F : CLay) (i : Nat) : Phase F KBl (fun p => .sleep i p.bop) (fun _ => .take i (takeOp F.gb)) :=
  ⟨fun p x ⟨o, e⟩ => by subst e; exact ⟨_, rfl⟩, fun p => rfl, fun p x ⟨o, e⟩ => by subst e; rfl⟩
theorem phase_take (F : CLay) (i : Nat) : Phase F KGt (fun p => .take i p.gop) (fun p => aftTake i p.gop) :=
  ⟨fun p x ⟨o, e⟩ => by subst e; exact ⟨_, rfl⟩, fun p => rfl, fun p x ⟨o, e⟩ => by subst e; rfl⟩
theorem phase_up (F : CLay) (i : Nat) (v : Int) : Phase F KBl (fun p => .up i v p.bop) (fun _ => .over 1 v) :=
  ⟨fun p x ⟨o, e⟩ => by subst e; exact ⟨_, rfl⟩, fun p => rfl, fun p x ⟨o, e⟩ => by subst e; rfl⟩
theorem phase_ring (F : CLay) : Phase F KBl (fun p => .ring p.bop) (fun _ => .over 1 0) :=
  ⟨fun p x ⟨o, e⟩ => by subst e; exact ⟨_, rfl⟩, fun p => rfl, fun p x ⟨o, e⟩ => by subst e; rfl⟩
theorem phase_poll (F : CLay) : Phase F KPoll (fun p => .poll p.bop) (fun p => .over p.out 0) := by
  refine ⟨?_, fun p => rfl, ?_⟩
  · rintro p x ⟨o, rfl, hk, ho⟩
    refine ⟨_, rfl, ?_⟩
    by_cases h0 : o.out = 0
    · simp [bans, h0, hk]
      unfold pollOut
      split <;> simp
    · rw [show bans F.n o x = o from by unfold bans; rw [if_pos h0]]
      exact ⟨hk, ho⟩
  · rintro p x ⟨o, rfl, -⟩
    rfl
/-- What the document has of a part that is over. -/
theorem pask_over {F : CLay} {p : PSt} (h : p.out ≠ 0) : (pask F p).over = true ∧ (pask F p).out = p.out := by
  cases p with
  | d i o =>
    have h' : o.out ≠ 0 := h
    show (daskOf (F.db i) F.slots o).over = true ∧ (daskOf (F.db i) F.slots o).out = o.out
    unfold daskOf; rw [if_pos h']; exact ⟨rfl, rfl⟩
  | g o =>
    have h' : o.out ≠ 0 := h
    show (askOf F.gb F.actors o).over = true ∧ (askOf F.gb F.actors o).out = o.out
    unfold askOf; rw [if_pos h']; exact ⟨rfl, rfl⟩
  | b o =>
    have h' : o.out ≠ 0 := h
    show (baskOf F.base o).over = true ∧ (baskOf F.base o).out = o.out
    unfold baskOf; rw [if_pos h']; exact ⟨rfl, rfl⟩
theorem pask_go {F : CLay} {p : PSt} (h : p.out = 0) : (pask F p).over = false := by
  cases p with
  | d i o =>
    have h' : ¬ o.out ≠ 0 := fun k => k h
    show (daskOf (F.db i) F.slots o).over = false
    unfold daskOf daskPush daskPop daskSteal; rw [if_neg h']; (repeat' split) <;> rfl
  | g o =>
    have h' : ¬ o.out ≠ 0 := fun k => k h
    show (askOf F.gb F.actors o).over = false
    unfold askOf; rw [if_neg h']; (repeat' split) <;> rfl
  | b o =>
    have h' : ¬ o.out ≠ 0 := fun k => k h
    show (baskOf F.base o).over = false
    unfold baskOf; rw [if_neg h']; (repeat' split) <;> rfl
/-- How parts begin: of what, of whom, the kind, the number. -/
inductive PBeg (F : CLay) : Int → Int → Int → Int → PSt → Prop
  | d (i : Nat) (kind V : Int) (hi : i < F.n) (h1 : 1 ≤ kind) (h3 : kind ≤ 3) (hV : U64 V) : PBeg F 1 i kind V (.d i (dbegin kind V))
  | put (V : Int) (hV : U64 V) : PBeg F 2 0 1 V (.g (putOp F.gb V))
  | take (w : Int) : PBeg F 2 w 2 0 (.g (takeOp F.gb))
  | sleep (i : Nat) (hi : i < F.n) : PBeg F 3 0 1 i (.b ⟨0, i, 0⟩)
  | up (i : Nat) (hi : i < F.n) : PBeg F 3 0 2 i (.b ⟨1, i, 0⟩)
  | poll (i : Nat) (hi : i < F.n) : PBeg F 3 0 3 i (.b ⟨2, i, 0⟩)
  | ring : PBeg F 3 0 4 0 (.b ringB)
theorem PBeg.pend {F : CLay} {of w kind V : Int} {p : PSt} (h : PBeg F of w kind V p) : p.out = 0 := by
  cases h with
  | d i kind V hi h1 h3 hV => unfold dbegin; (repeat' split) <;> rfl
  | _ => rfl
/-- Logs of parts. -/
theorem pproper_d {F : CLay} {i : Nat} : ∀ {l : List Int} {o : Dop}, PProper F (.d i o) l → DProper F.slots o l ∧ l.foldl (pans F) (.d i o) = .d i (l.foldl (dans F.slots) o)
  | [], o, _ => ⟨trivial, rfl⟩
  | x :: l, o, h => by
    obtain ⟨h1, h2⟩ := pproper_d (l := l) (o := dans F.slots o x) h.2
    exact ⟨⟨h.1, h1⟩, h2⟩
theorem pproper_g {F : CLay} : ∀ {l : List Int} {o : Gop}, PProper F (.g o) l → Proper F.actors o l ∧ l.foldl (pans F) (.g o) = .g (l.foldl (gans F.actors) o)
  | [], o, _ => ⟨trivial, rfl⟩
  | x :: l, o, h => by
    obtain ⟨h1, h2⟩ := pproper_g (l := l) (o := gans F.actors o x) h.2
    exact ⟨⟨h.1, h1⟩, h2⟩
theorem pproper_b {F : CLay} : ∀ {l : List Int} {o : Bop}, PProper F (.b o) l → BProper F.n o l ∧ l.foldl (pans F) (.b o) = .b (l.foldl (bans F.n) o)
  | [], o, _ => ⟨trivial, rfl⟩
  | x :: l, o, h => by
    obtain ⟨h1, h2⟩ := pproper_b (l := l) (o := bans F.n o x) h.2
    exact ⟨⟨h.1, h1⟩, h2⟩
/-- What an operation begins as. -/
def cbegin (F : CLay) (kind W V : Int) : CSt := if kind = 1 then offerC F W V else if kind = 2 then findC F W (ordZ V.toNat F.n W) else if kind = 3 then restC F W else pollC F W
/-- A thread's operation and its log. -/
structure CThr (F : CLay) (st : CSt) (kind W V : Int) (l : List Int) : Prop where
  k1 : 1 ≤ kind
  k4 : kind ≤ 4
  u : AllU l
  uV : U64 V
  pr : CProper F (cbegin F kind W V) l
  eq : st = l.foldl (cans F) (cbegin F kind W V)
theorem cthr_new (F : CLay) (kind W V : Int) (h1 : 1 ≤ kind) (h4 : kind ≤ 4) (hV : U64 V) : CThr F (cbegin F kind W V) kind W V [] := ⟨h1, h4, (by intro x hx; cases hx), hV, trivial, rfl⟩
theorem CThr.step {F : CLay} {st : CSt} {kind W V : Int} {l : List Int} (h : CThr F st kind W V l) (ho : st.out = 0) {x : Int} (hx : U64 x) : CThr F (cans F st x) kind W V (l ++ [x]) :=
  ⟨h.k1, h.k4, by
    intro y hy
    rcases List.mem_append.1 hy with hy | hy
    · exact h.u y hy
    · rw [List.mem_singleton.1 hy]; exact hx, h.uV, h.pr.snoc (by rw [← h.eq]; exact ho), by rw [List.foldl_append, ← h.eq]; rfl⟩
end Go.Proofs.YtdoaipjdldknaaaGreat
