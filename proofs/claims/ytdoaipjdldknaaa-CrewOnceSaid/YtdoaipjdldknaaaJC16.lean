/-
  A crew's operation in memory, whatever it is at; what stays while others go on.
-/
import Derived.Test.YtdoaipjdldknaaaKC15
namespace Go.Proofs.Ytdoaipjdldknaaa
open Go.RowKit
set_option linter.unusedVariables false
theorem bstep_u {base n : Int} {L : List Int} (o : Bop) (h : AllU L) : AllU (bstep base n L o).1 := by
  unfold bstep
  (repeat' split) <;> first | exact h | exact h.set _ ⟨by omega, by omega⟩
def SrcsOk (n : Nat) (l : List Src) : Prop := ∀ s ∈ l, match s with | .pop w => w < n | .take => True | .steal v => v < n
/-- An operation that fits. -/
def CStOk (F : CLay) (len : Nat) : CSt → Prop
  | .over out v => out ≠ 0 ∧ U64 v
  | .ring b => b.out = 0 ∧ BopOk F.n b
  | .put v g => g.out = 0 ∧ GopOk F.gb len g ∧ U64 v
  | .push i v d => d.out = 0 ∧ DopOk d ∧ U64 v ∧ i < F.n
  | .src (.dq i d) rest => d.out = 0 ∧ DopOk d ∧ i < F.n ∧ SrcsOk F.n rest
  | .src (.gt g) rest => g.out = 0 ∧ GopOk F.gb len g ∧ SrcsOk F.n rest
  | .sleep i b => b.out = 0 ∧ BopOk F.n b ∧ i < F.n
  | .take i g => g.out = 0 ∧ GopOk F.gb len g ∧ i < F.n
  | .up i v b => b.out = 0 ∧ BopOk F.n b ∧ i < F.n ∧ U64 v
  | .poll b => b.out = 0 ∧ BopOk F.n b
/-- A block that a step may write. -/
def OpT (t : TypeId) : Prop := t = 70 ∨ t = 109 ∨ t = 103 ∨ t = 99
def CFoot (w : World) (bm bc : Nat) (O S : Nat → Prop) : Prop := ∀ k, S k → k = bm ∨ k = bc ∨ (O k ∧ ∃ t cs, Blk w k t cs ∧ OpT t)
/-- What is written is none of an operation's own. -/
structure Away (w : World) (bm bc : Nat) (O S : Nat → Prop) : Prop where
  wr : ∀ k, S k → k = bm ∨ k = bc ∨ ∃ t cs, Blk w k t cs ∧ OpT t
  off : ∀ k, O k → ¬ S k
theorem Away.not_ {w : World} {bm bc x : Nat} {O S : Nat → Prop} {t : TypeId} {cs cm : Array Value} (h : Away w bm bc O S) (hx : Blk w x t cs) (hm : Blk w bm 64 cm) (h1 : t ≠ 64) (h2 : x ≠ bc) (h3 : ¬ OpT t) : ¬ S x := by
  intro hs
  rcases h.wr x hs with rfl | rfl | ⟨t', cs', hb, ht⟩
  · exact Blk.ne_ hx hm h1 rfl
  · exact h2 rfl
  · by_cases e : t = t'
    · subst e; exact h3 ht
    · exact Blk.ne_ hx hb e rfl
/-- An operation in memory. -/
def CIs (w : World) (cb bb bg bc : Nat) (bd : Nat → Nat) (O : Nat → Prop) (co : Nat) : CSt → Prop
  | .over out v => ∃ cur thn, CopAt w co cb cur thn out v ∧ O co
  | .ring b => ∃ p x, CopAt w co cb (.iface 87 (.pointer (some ⟨p, 0, none⟩))) (ringK x) 0 0 ∧ BopIs w p bb b ∧ OBox w x co ∧ O co ∧ O p
  | .put v g => ∃ p xp xo xv, CopAt w co cb (.iface 82 (.pointer (some ⟨p, 0, none⟩))) (enterK xp xo xv) 0 0 ∧ GopIs w p bg g ∧ GBox w xp p ∧ OBox w xo co ∧ VBox w xv v ∧ O co ∧ O p ∧ (xv ≠ bc ∧ O xv)
  | .push i v d => ∃ p xp xo xv, CopAt w co cb (.iface 73 (.pointer (some ⟨p, 0, none⟩))) (offerK xp xo xv) 0 0 ∧ DopIs w p (bd i) d ∧ DBox w xp p ∧ OBox w xo co ∧ VBox w xv v ∧ O co ∧ O p ∧ (xv ≠ bc ∧ O xv)
  | .src (.dq i d) rest => ∃ p xs xo xq sv s0, CopAt w co cb (.iface 73 (.pointer (some ⟨p, 0, none⟩))) (tryK xs xo xq) 0 0 ∧ DopIs w p (bd i) d ∧ IBox w xs 73 p ∧ OBox w xo co ∧ QBox w xq sv ∧ SrcsAt w cb sv (s0 :: rest) ∧ O co ∧ O p
  | .src (.gt g) rest => ∃ p xs xo xq sv s0, CopAt w co cb (.iface 82 (.pointer (some ⟨p, 0, none⟩))) (tryK xs xo xq) 0 0 ∧ GopIs w p bg g ∧ IBox w xs 82 p ∧ OBox w xo co ∧ QBox w xq sv ∧ SrcsAt w cb sv (s0 :: rest) ∧ O co ∧ O p
  | .sleep i b => ∃ p xc xo xw, CopAt w co cb (.iface 87 (.pointer (some ⟨p, 0, none⟩))) (rest1K xc xo xw) 0 0 ∧ BopIs w p bb b ∧ CBox w xc cb ∧ OBox w xo co ∧ WBox w xw i ∧ O co ∧ O p
  | .take i g => ∃ p xt xo xc xw, CopAt w co cb (.iface 82 (.pointer (some ⟨p, 0, none⟩))) (rest2K xt xo xc xw) 0 0 ∧ GopIs w p bg g ∧ GBox w xt p ∧ OBox w xo co ∧ CBox w xc cb ∧ WBox w xw i ∧ O co ∧ O p
  | .up i v b => ∃ p xo xt gp g, CopAt w co cb (.iface 87 (.pointer (some ⟨p, 0, none⟩))) (rest3K xo xt) 0 0 ∧ BopIs w p bb b ∧ OBox w xo co ∧ GBox w xt gp ∧ GopIs w gp bg g ∧ v = gvalue g.ahead g.v g.out ∧ O co ∧ O p ∧ O gp
  | .poll b => ∃ p xo xb, CopAt w co cb (.iface 87 (.pointer (some ⟨p, 0, none⟩))) (pollK xo xb) 0 0 ∧ BopIs w p bb b ∧ OBox w xo co ∧ BBox w xb p ∧ O co ∧ O p
section
variable {w w' : World} {cb bb bg bm bc co : Nat} {bd : Nat → Nat} {O O' S : Nat → Prop} {st : CSt}
theorem CIs.own (h : CIs w cb bb bg bc bd O co st) : O co := by
  cases st with
  | over out v => obtain ⟨_, _, _, h⟩ := h; exact h
  | ring b => obtain ⟨_, _, _, _, _, h, _⟩ := h; exact h
  | put v g => obtain ⟨_, _, _, _, _, _, _, _, _, h, _⟩ := h; exact h
  | push i v d => obtain ⟨_, _, _, _, _, _, _, _, _, h, _⟩ := h; exact h
  | src s rest =>
    cases s with
    | dq i d => obtain ⟨_, _, _, _, _, _, _, _, _, _, _, _, h, _⟩ := h; exact h
    | gt g => obtain ⟨_, _, _, _, _, _, _, _, _, _, _, _, h, _⟩ := h; exact h
  | sleep i b => obtain ⟨_, _, _, _, _, _, _, _, _, h, _⟩ := h; exact h
  | take i g => obtain ⟨_, _, _, _, _, _, _, _, _, _, _, h, _⟩ := h; exact h
  | up i v b => obtain ⟨_, _, _, _, _, _, _, _, _, _, _, h, _⟩ := h; exact h
  | poll b => obtain ⟨_, _, _, _, _, _, _, h, _⟩ := h; exact h
theorem CIs.cop (h : CIs w cb bb bg bc bd O co st) : ∃ cur thn, CopAt w co cb cur thn st.out st.value := by
  cases st with
  | over out v => obtain ⟨_, _, h, _⟩ := h; exact ⟨_, _, h⟩
  | ring b => obtain ⟨_, _, h, _⟩ := h; exact ⟨_, _, h⟩
  | put v g => obtain ⟨_, _, _, _, h, _⟩ := h; exact ⟨_, _, h⟩
  | push i v d => obtain ⟨_, _, _, _, h, _⟩ := h; exact ⟨_, _, h⟩
  | src s rest =>
    cases s with
    | dq i d => obtain ⟨_, _, _, _, _, _, h, _⟩ := h; exact ⟨_, _, h⟩
    | gt g => obtain ⟨_, _, _, _, _, _, h, _⟩ := h; exact ⟨_, _, h⟩
  | sleep i b => obtain ⟨_, _, _, _, h, _⟩ := h; exact ⟨_, _, h⟩
  | take i g => obtain ⟨_, _, _, _, _, h, _⟩ := h; exact ⟨_, _, h⟩
  | up i v b => obtain ⟨_, _, _, _, _, h, _⟩ := h; exact ⟨_, _, h⟩
  | poll b => obtain ⟨_, _, _, h, _⟩ := h; exact ⟨_, _, h⟩
theorem CopAt.out_eq {cur thn cur' thn' : Value} {out val out' val' : Int} (h : CopAt w co cb cur thn out val) (h' : CopAt w co cb cur' thn' out' val') : out = out' ∧ val = val' := by
  have h1 := h.c2.symm.trans h'.c2
  have h2 := h.c3.symm.trans h'.c3
  simp at h1 h2
  exact ⟨h1, h2⟩
/-- Others go on. -/
theorem CIs.away {cm : Array Value} (h : CIs w cb bb bg bc bd O co st) (hm : Blk w bm 64 cm) (hc : ∃ cs, Blk w bc 31 cs) (ho : Only S w w') (ha : Away w bm bc O S) : CIs w' cb bb bg bc bd O co st := by
  obtain ⟨cc, hcc⟩ := hc
  have nO : ∀ {x : Nat}, OBox w x co → ¬ S x := fun hx => ha.not_ hx hm (by decide) (Blk.ne_ hx hcc (by decide)) (by unfold OpT; decide)
  have nG : ∀ {x b : Nat}, GBox w x b → ¬ S x := fun hx => ha.not_ hx hm (by decide) (Blk.ne_ hx hcc (by decide)) (by unfold OpT; decide)
  have nD : ∀ {x b : Nat}, DBox w x b → ¬ S x := fun hx => ha.not_ hx hm (by decide) (Blk.ne_ hx hcc (by decide)) (by unfold OpT; decide)
  have nB : ∀ {x b : Nat}, BBox w x b → ¬ S x := fun hx => ha.not_ hx hm (by decide) (Blk.ne_ hx hcc (by decide)) (by unfold OpT; decide)
  have nC : ∀ {x b : Nat}, CBox w x b → ¬ S x := fun hx => ha.not_ hx hm (by decide) (Blk.ne_ hx hcc (by decide)) (by unfold OpT; decide)
  have nW : ∀ {x : Nat} {v : Int}, WBox w x v → ¬ S x := fun hx => ha.not_ hx hm (by decide) (Blk.ne_ hx hcc (by decide)) (by unfold OpT; decide)
  have nV : ∀ {x : Nat} {v : Int}, VBox w x v → x ≠ bc → ¬ S x := fun hx hn => ha.not_ hx hm (by decide) hn (by unfold OpT; decide)
  have nI : ∀ {x p : Nat} {t : TypeId}, IBox w x t p → ¬ S x := fun hx => ha.not_ hx hm (by decide) (Blk.ne_ hx hcc (by decide)) (by unfold OpT; decide)
  have nQ : ∀ {x : Nat} {sv : Value}, QBox w x sv → ¬ S x := fun hx => ha.not_ hx hm (by decide) (Blk.ne_ hx hcc (by decide)) (by unfold OpT; decide)
  have nF : ∀ (g : Nat) (cs : Array Value), Blk w g 81 cs → ¬ S g := fun g cs hx => ha.not_ hx hm (by decide) (Blk.ne_ hx hcc (by decide)) (by unfold OpT; decide)
  cases st with
  | over out v => obtain ⟨c, t, h1, h2⟩ := h; exact ⟨c, t, h1.only ho (ha.off _ h2), h2⟩
  | ring b => obtain ⟨p, x, h1, h2, h3, h4, h5⟩ := h; exact ⟨p, x, h1.only ho (ha.off _ h4), h2.only ho (ha.off _ h5), h3.only ho (nO h3), h4, h5⟩
  | put v g => obtain ⟨p, xp, xo, xv, h1, h2, h3, h4, h5, h6, h7, h8⟩ := h; exact ⟨p, xp, xo, xv, h1.only ho (ha.off _ h6), GopAt.only h2 ho (ha.off _ h7), h3.only ho (nG h3), h4.only ho (nO h4), h5.only ho (nV h5 h8.1), h6, h7, h8⟩
  | push i v d => obtain ⟨p, xp, xo, xv, h1, h2, h3, h4, h5, h6, h7, h8⟩ := h; exact ⟨p, xp, xo, xv, h1.only ho (ha.off _ h6), DopAt.only h2 ho (ha.off _ h7), h3.only ho (nD h3), h4.only ho (nO h4), h5.only ho (nV h5 h8.1), h6, h7, h8⟩
  | src s rest =>
    cases s with
    | dq i d => obtain ⟨p, xs, xo, xq, sv, s0, h1, h2, h3, h4, h5, h6, h7, h8⟩ := h; exact ⟨p, xs, xo, xq, sv, s0, h1.only ho (ha.off _ h7), DopAt.only h2 ho (ha.off _ h8), h3.only ho (nI h3), h4.only ho (nO h4), h5.only ho (nQ h5), h6.only ho (fun x hx => nC hx) (fun x m hx => nW hx) nF, h7, h8⟩
    | gt g => obtain ⟨p, xs, xo, xq, sv, s0, h1, h2, h3, h4, h5, h6, h7, h8⟩ := h; exact ⟨p, xs, xo, xq, sv, s0, h1.only ho (ha.off _ h7), GopAt.only h2 ho (ha.off _ h8), h3.only ho (nI h3), h4.only ho (nO h4), h5.only ho (nQ h5), h6.only ho (fun x hx => nC hx) (fun x m hx => nW hx) nF, h7, h8⟩
  | sleep i b => obtain ⟨p, xc, xo, xw, h1, h2, h3, h4, h5, h6, h7⟩ := h; exact ⟨p, xc, xo, xw, h1.only ho (ha.off _ h6), h2.only ho (ha.off _ h7), h3.only ho (nC h3), h4.only ho (nO h4), h5.only ho (nW h5), h6, h7⟩
  | take i g => obtain ⟨p, xt, xo, xc, xw, h1, h2, h3, h4, h5, h6, h7, h8⟩ := h; exact ⟨p, xt, xo, xc, xw, h1.only ho (ha.off _ h7), GopAt.only h2 ho (ha.off _ h8), h3.only ho (nG h3), h4.only ho (nO h4), h5.only ho (nC h5), h6.only ho (nW h6), h7, h8⟩
  | up i v b => obtain ⟨p, xo, xt, gp, g, h1, h2, h3, h4, h5, h6, h7, h8, h9⟩ := h; exact ⟨p, xo, xt, gp, g, h1.only ho (ha.off _ h7), h2.only ho (ha.off _ h8), h3.only ho (nO h3), h4.only ho (nG h4), GopAt.only h5 ho (ha.off _ h9), h6, h7, h8, h9⟩
  | poll b => obtain ⟨p, xo, xb, h1, h2, h3, h4, h5, h6⟩ := h; exact ⟨p, xo, xb, h1.only ho (ha.off _ h5), h2.only ho (ha.off _ h6), h3.only ho (nO h3), h4.only ho (nB h4), h5, h6⟩
theorem CIs.more (h : CIs w cb bb bg bc bd O co st) (ho : ∀ k, O k → O' k) : CIs w cb bb bg bc bd O' co st := by
  cases st with
  | over out v => obtain ⟨c, t, h1, h2⟩ := h; exact ⟨c, t, h1, ho _ h2⟩
  | ring b => obtain ⟨p, x, h1, h2, h3, h4, h5⟩ := h; exact ⟨p, x, h1, h2, h3, ho _ h4, ho _ h5⟩
  | put v g => obtain ⟨p, xp, xo, xv, h1, h2, h3, h4, h5, h6, h7, h8⟩ := h; exact ⟨p, xp, xo, xv, h1, h2, h3, h4, h5, ho _ h6, ho _ h7, ⟨h8.1, ho _ h8.2⟩⟩
  | push i v d => obtain ⟨p, xp, xo, xv, h1, h2, h3, h4, h5, h6, h7, h8⟩ := h; exact ⟨p, xp, xo, xv, h1, h2, h3, h4, h5, ho _ h6, ho _ h7, ⟨h8.1, ho _ h8.2⟩⟩
  | src s rest =>
    cases s with
    | dq i d => obtain ⟨p, xs, xo, xq, sv, s0, h1, h2, h3, h4, h5, h6, h7, h8⟩ := h; exact ⟨p, xs, xo, xq, sv, s0, h1, h2, h3, h4, h5, h6, ho _ h7, ho _ h8⟩
    | gt g => obtain ⟨p, xs, xo, xq, sv, s0, h1, h2, h3, h4, h5, h6, h7, h8⟩ := h; exact ⟨p, xs, xo, xq, sv, s0, h1, h2, h3, h4, h5, h6, ho _ h7, ho _ h8⟩
  | sleep i b => obtain ⟨p, xc, xo, xw, h1, h2, h3, h4, h5, h6, h7⟩ := h; exact ⟨p, xc, xo, xw, h1, h2, h3, h4, h5, ho _ h6, ho _ h7⟩
  | take i g => obtain ⟨p, xt, xo, xc, xw, h1, h2, h3, h4, h5, h6, h7, h8⟩ := h; exact ⟨p, xt, xo, xc, xw, h1, h2, h3, h4, h5, h6, ho _ h7, ho _ h8⟩
  | up i v b => obtain ⟨p, xo, xt, gp, g, h1, h2, h3, h4, h5, h6, h7, h8, h9⟩ := h; exact ⟨p, xo, xt, gp, g, h1, h2, h3, h4, h5, h6, ho _ h7, ho _ h8, ho _ h9⟩
  | poll b => obtain ⟨p, xo, xb, h1, h2, h3, h4, h5, h6⟩ := h; exact ⟨p, xo, xb, h1, h2, h3, h4, ho _ h5, ho _ h6⟩
end
section
variable {w w' : World} {F : CLay} {cb bb bg bm bc : Nat} {dv : Value} {bd : Nat → Nat} {tc tc' : Int} {L L' : List Int} {S : Nat → Prop}
theorem CEnv.n1 (h : CEnv w F cb bb bg bm bc dv bd tc L) : 1 ≤ F.n := by have := h.bell.n1; omega
theorem CEnv.n8 (h : CEnv w F cb bb bg bm bc dv bd tc L) : F.n ≤ 8 := by have := h.bell.n8; omega
theorem CEnv.u (h : CEnv w F cb bb bg bm bc dv bd tc L) : AllU L := h.gate.u
theorem CEnv.mem (h : CEnv w F cb bb bg bm bc dv bd tc L) : MemAt w bm bc L tc := h.bell.mem
/-- The crew's own blocks are none that a step writes. -/
theorem CEnv.keep (h : CEnv w F cb bb bg bm bc dv bd tc L) (ho : Only S w w') (hs : ∀ k, S k → k = bm ∨ k = bc ∨ ∃ t cs, Blk w k t cs ∧ OpT t) :
    CrewAt w' cb bb bg dv ∧ DqsAt w' dv F.n bd ∧ BellAt w' bb bm F.base F.n ∧ GateAt w' bg bm F.gb F.actors ∧ ∀ i, i < F.n → DeqAt w' (bd i) bm (F.db i) F.slots := by
  have hm := h.mem
  have nx : ∀ {x : Nat} {t : TypeId} {cs : Array Value}, Blk w x t cs → t ≠ 64 → t ≠ 31 → ¬ OpT t → ¬ S x := fun hx h1 h2 h3 hsx => by
    rcases hs _ hsx with rfl | rfl | ⟨t', cs', hb, ht⟩
    · exact Blk.ne_ hx hm.mem h1 rfl
    · exact Blk.ne_ hx hm.cells h2 rfl
    · exact Blk.ne_ hx hb (fun e => h3 (e ▸ ht)) rfl
  exact ⟨h.crew.only ho (nx h.crew (by decide) (by decide) (by unfold OpT; decide)), h.dqs.only ho (fun g cs hb => nx hb (by decide) (by decide) (by unfold OpT; decide)),
    h.bell.bell.only ho (nx h.bell.bell (by decide) (by decide) (by unfold OpT; decide)), h.gate.gate.only ho (nx h.gate.gate (by decide) (by decide) (by unfold OpT; decide)),
    fun i hi => (h.deq i hi).deq.only ho (nx (h.deq i hi).deq (by decide) (by decide) (by unfold OpT; decide))⟩
theorem CEnv.next (h : CEnv w F cb bb bg bm bc dv bd tc L) (ho : Only S w w') (hs : ∀ k, S k → k = bm ∨ k = bc ∨ ∃ t cs, Blk w k t cs ∧ OpT t) (hm : MemAt w' bm bc L' tc') (hf : Few tc') (hu : AllU L') (hl : L'.length = L.length) : CEnv w' F cb bb bg bm bc dv bd tc' L' := by
  obtain ⟨k1, k2, k3, k4, k5⟩ := h.keep ho hs
  exact ⟨k1, k2, h.bell.next hm hf hl k3, h.gate.next hm hf hu hl k4, fun i hi => (h.deq i hi).next hm hf hu hl (k5 i hi)⟩
theorem CEnv.only (h : CEnv w F cb bb bg bm bc dv bd tc L) (ho : Only S w w') (hs : ∀ k, S k → ∃ t cs, Blk w k t cs ∧ OpT t) : CEnv w' F cb bb bg bm bc dv bd tc L := by
  refine h.next ho (fun k hk => .inr (.inr (hs k hk))) (h.mem.only ho (fun hk => ?_) (fun hk => ?_)) h.bell.few h.u rfl
  · obtain ⟨t, cs, hb, ht⟩ := hs _ hk
    exact Blk.ne_ h.mem.mem hb (fun e => by rw [← e] at ht; revert ht; unfold OpT; decide) rfl
  · obtain ⟨t, cs, hb, ht⟩ := hs _ hk
    exact Blk.ne_ h.mem.cells hb (fun e => by rw [← e] at ht; revert ht; unfold OpT; decide) rfl
theorem CEnv.only0 (h : CEnv w F cb bb bg bm bc dv bd tc L) (ho : Only S0 w w') : CEnv w' F cb bb bg bm bc dv bd tc L := h.only ho fun _ h => h.elim
end
end Go.Proofs.Ytdoaipjdldknaaa
