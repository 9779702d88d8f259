/-
  The crowd under way: its memory and the plain law together; one step.
-/
import Derived.Test.YtjjjjbfblhadnaaGateK
namespace Go.Proofs.Ytjjjjbfblhadnaa
open Go.RowKit
set_option linter.unusedVariables false

def actOf (o : Nat → Gop) : Nat → Bool := fun i => decide ((o i).out = 0)
structure Sit (w wr : World) (B cb ob nb tb bg bm bc n : Nat) (L : List Int) (tc : Int) (o : Nat → Gop) (bo nx : Nat → Nat) (iv : Value) (tv : Nat → Value) (IN : List Int) (TK : Nat → List Int) (T H s : Nat) : Prop where
  cw : CW wr B cb ob nb tb bg bm bc n L tc (actOf o) o bo nx iv tv IN TK
  cr : Crowd n L o nx IN TK T H
  tc : tc ≤ 2000 + s
  tl : T ≤ s
  nl : ∀ p, p < 2 → nx p ≤ s
  il : IN.length ≤ s
  kl : ∀ i, i < 2 → (TK i).length ≤ s
  on : Only S0 w wr
  B0 : B = w.heap.size
section
variable {w wr : World} {B cb ob nb tb bg bm bc n p : Nat} {L : List Int} {tc : Int} {o : Nat → Gop} {bo nx : Nat → Nat} {iv : Value} {tv : Nat → Value} {IN : List Int} {TK : Nat → List Int} {T H s : Nat}
theorem actOf_upd (o : Nat → Gop) (p : Nat) (x : Gop) : upd (actOf o) p (decide (x.out = 0)) = actOf (upd o p x) := by
  funext i
  unfold actOf
  by_cases e : i = p
  · subst e; rw [upd_same, upd_same]
  · rw [upd_ne _ _ e, upd_ne _ _ e]
theorem act_bOp (o : Nat → Gop) (nx : Nat → Nat) (p : Nat) (x : Gop) : upd (actOf o) p (decide (x.out = 0)) = actOf (upd (bOp (actOf o) o nx p) p x) := by
  unfold bOp
  split
  · exact actOf_upd o p x
  · rw [upd_upd]; exact actOf_upd o p x
theorem Sit.below (h : Sit w wr B cb ob nb tb bg bm bc n L tc o bo nx iv tv IN TK T H s) {w' : World} (ho : Only (SB B) wr w') : Only S0 w w' :=
  h.on.then ho fun i hi hs => by have := h.B0; unfold SB at hs; omega
/-- The operation that p steps with. -/
theorem Sit.begun (h : Sit w wr B cb ob nb tb bg bm bc n L tc o bo nx iv tv IN TK T H s) (hp : p < 4) (hs : s ≤ 100000) :
    Crowd n L (bOp (actOf o) o nx p) (bNx (actOf o) nx p) IN TK T H ∧ (bOp (actOf o) o nx p p).out = 0 ∧ (bOp (actOf o) o nx p p).ahead = aheadOf p ∧ GopOk 0 L.length (bOp (actOf o) o nx p p) ∧ (∀ q, q < 2 → bNx (actOf o) nx p q ≤ s + 1) := by
  have htl := h.tl
  have hnp : nx p ≤ s ∨ 2 ≤ p := by
    rcases Nat.lt_or_ge p 2 with h1 | h1
    · exact .inl (h.nl p h1)
    · exact .inr h1
  by_cases ha : (o p).out = 0
  · have e1 : bOp (actOf o) o nx p = o := by unfold bOp actOf; rw [if_pos (by simpa using ha)]
    have e2 : bNx (actOf o) nx p = nx := by unfold bNx actOf; rw [if_pos (by simpa using ha)]
    rw [e1, e2]
    have hg := h.cr.gi
    obtain ⟨_, _, _, _, hh, _⟩ := h.cr.ex
    exact ⟨h.cr, ha, hh.ahd p hp, (hg.ok p hp).okk hg.c (by omega), fun q hq => by have := h.nl q hq; omega⟩
  · have e1 : bOp (actOf o) o nx p = upd o p (begunOp nx p) := by unfold bOp actOf; rw [if_neg (by simpa using ha)]
    have e2 : bNx (actOf o) nx p = nxOf nx p := by unfold bNx actOf; rw [if_neg (by simpa using ha)]
    have hnp' : p < 2 → nx p ≤ 1000000 := fun h1 => by have := h.nl p h1; omega
    have hc : Crowd n L (upd o p (begunOp nx p)) (nxOf nx p) IN TK T H := by
      rcases Nat.lt_or_ge p 2 with h1 | h1
      · exact h.cr.begin_ hp ha (hnp' h1)
      · have e3 : begunOp nx p = begunOp (fun _ => 0) p := by unfold begunOp; rw [if_neg (by omega), if_neg (by omega)]
        obtain ⟨who, num, inT, tk, hh, q1, q2⟩ := h.cr.ex
        obtain ⟨f1, f2, f3⟩ := begun_flat nx p
        refine ⟨who, num, inT, tk, hh.begin_ hp (hh.gi.keep hp (GO.begun (by rw [e3]; exact begun_fresh (by show 0 ≤ _; omega))) fun e => by rcases e.2 with e | e <;> omega) f3 ha f1 rfl fun hp2 => by omega, q1, q2⟩
    obtain ⟨f1, f2, f3⟩ := begun_flat nx p
    rw [e1, e2, upd_same]
    have hg := hc.gi
    have := (hg.ok p hp).okk hg.c (by omega)
    rw [upd_same] at this
    refine ⟨hc, f2, f3, this, fun q hq => ?_⟩
    unfold nxOf
    have := h.nl q hq
    split
    · by_cases e : q = p
      · subst e; rw [upd_same]; omega
      · rw [upd_ne _ _ e]; omega
    · omega
def SitStep (w w' : World) (B cb ob nb tb bg bm bc n : Nat) (L : List Int) (o : Nat → Gop) (nx : Nat → Nat) (p s : Nat) : Prop :=
  ∃ tc' bo' nx' iv' tv' IN' TK' T' H', Sit w w' B cb ob nb tb bg bm bc n (gstep 0 n L (bOp (actOf o) o nx p p)).1 tc' (upd (bOp (actOf o) o nx p) p (gstep 0 n L (bOp (actOf o) o nx p p)).2) bo' nx' iv' tv' IN' TK' T' H' s
theorem Sit.step (h : Sit w wr B cb ob nb tb bg bm bc n L tc o bo nx iv tv IN TK T H s) (hp : p < 4) (hs : s ≤ 10000) (more : Bool) (hm : (o p).out = 0 ∨ more = true) :
    Calls Try.prog 33 #[.pointer (some ⟨cb, 0, none⟩), .int .i64 p, .bool more] wr fun e w' => e = .returned (.tuple #[]) ∧ SitStep w w' B cb ob nb tb bg bm bc n L o nx p (s + 1) := by
  obtain ⟨hc, h0, hah, hok, hnx⟩ := h.begun hp (by omega)
  have htl := h.tl
  have htc := h.tc
  have hil := h.il
  have hlt := h.cw.env.mem.tc0
  obtain ⟨T', H', hc', hT'⟩ := hc.step h.cw.env.u hp (by omega) h0
  have fin : ∀ {w' : World}, Stepped wr w' B cb ob nb tb bg bm bc n (tc + 1) (actOf o) p (bOp (actOf o) o nx p) (gstep 0 n L (bOp (actOf o) o nx p p)) (bNx (actOf o) nx p) IN TK → SitStep w w' B cb ob nb tb bg bm bc n L o nx p (s + 1) := by
    rintro w' ⟨bo', iv', tv', k1, k2⟩
    rw [act_bOp] at k1
    refine ⟨_, bo', _, iv', tv', _, _, T', H', k1, hc', by omega, by omega, hnx, ?_, fun i hi => ?_, h.below k2, h.B0⟩
    · unfold inN
      split
      · rw [List.length_append]; have : [v64 p (bNx (actOf o) nx p p)].length = 1 := rfl; omega
      · omega
    · have := h.kl i hi
      unfold tkN
      split
      · by_cases e : i = p - 2
        · rw [e] at this ⊢; rw [upd_same, List.length_append]; simp; omega
        · rw [upd_ne _ _ e]; omega
      · omega
  have hm' : actOf o p = true ∨ more = true := hm.imp (fun e => by unfold actOf; simpa using e) id
  have hf : Few (tc + 10) := few_of _ (by omega)
  have hn : p < 2 → nx p ≤ 100000 := fun e => by have := h.nl p e; omega
  have hk : ∀ i, i < 2 → (TK i).length ≤ 100000 := fun i hi => by have := h.kl i hi; omega
  have h4 : p = 0 ∨ p = 1 ∨ p = 2 ∨ p = 3 := by omega
  rcases h4 with rfl | rfl | rfl | rfl
  · exact (cstep_0 h.cw more hm' hok h0 hah hn hf (by omega) hk).mono fun _ _ ⟨e1, e2⟩ => ⟨e1, fin e2⟩
  · exact (cstep_1 h.cw more hm' hok h0 hah hn hf (by omega) hk).mono fun _ _ ⟨e1, e2⟩ => ⟨e1, fin e2⟩
  · exact (cstep_2 h.cw more hm' hok h0 hah hn hf (by omega) hk).mono fun _ _ ⟨e1, e2⟩ => ⟨e1, fin e2⟩
  · exact (cstep_3 h.cw more hm' hok h0 hah hn hf (by omega) hk).mono fun _ _ ⟨e1, e2⟩ => ⟨e1, fin e2⟩
set_option maxRecDepth 100000 in
theorem Sit.idle (h : Sit w wr B cb ob nb tb bg bm bc n L tc o bo nx iv tv IN TK T H s) (hp : p < 4) (h0 : (o p).out ≠ 0) :
    Calls Try.prog 33 #[.pointer (some ⟨cb, 0, none⟩), .int .i64 p, .bool false] wr fun e w' => e = .returned (.tuple #[]) ∧ wr = w' := by
  have k1 := h.cw.cc1
  have ko := h.cw.off (p := p) hp (by unfold actOf; simpa using h0)
  clear h h0
  go_enter Try.func33, Try.ntmps33
  go_wp2_with fail
  refine bodyPost_ret (results_none rfl _ _ _) rfl ?_
  exact ⟨rfl, rfl⟩
end
end Go.Proofs.Ytjjjjbfblhadnaa
