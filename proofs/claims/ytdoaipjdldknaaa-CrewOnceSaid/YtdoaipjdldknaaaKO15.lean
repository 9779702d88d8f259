/-
  CrewOnce: a worker makes a step (troupelaw20.gang.work): what it begins.
-/
import Derived.Test.YtdoaipjdldknaaaKO14
namespace Go.Proofs.Ytdoaipjdldknaaa
open Go.RowKit
set_option linter.unusedVariables false
section
variable {P : Program}
theorem WS.npoll {n s p T H : Nat} {pw : Prop} {S S' : Nat → List Int} {M M' : Nat → Int} {st st' : CSt} {H' : Nat} (h : WS n s p T H pw S M st st' H' S' M') : ∀ b, st' ≠ .poll b := by
  intro b e
  subst e
  generalize hy : CSt.poll b = y at h
  have hc : ∀ {F : CLay} {r : List Src}, ctry F r ≠ .poll b := fun {F r} => by
    cases r with
    | nil => intro e; cases e
    | cons a r => cases a <;> (intro e; cases e)
  cases h with
  | ring k q st' M' h1 h2 => subst hy; cases h2
  | tkno g r h1 h2 h3 => exact hc hy.symm
  | stealno v d r h1 h2 h3 => exact hc hy.symm
  | _ => cases hy
theorem ordZ_st {n p : Nat} (d : Nat) (h0 : n ≤ 4) (h1 : p < n) : StL n p ((ordZ d n p).map Src.steal) ∧ ((ordZ d n p).map Src.steal).length ≤ 3 := by
  refine ⟨fun x hx => ?_, ?_⟩
  · obtain ⟨v, hv, rfl⟩ := List.mem_map.1 hx
    unfold ordZ at hv
    have := ordN_mem _ _ _ _ hv
    rw [othZ_good n p (by omega) h1] at this
    exact ⟨v, rfl, (mem_othN n p v).1 this⟩
  · rw [List.length_map, ordZ_len, othZ_good n p (by omega) h1, othN_len n p h1]
    omega
end
section
variable {X : GX} {w0 w : World} {r : Int} {c tm : Nat} {L : List Int} {tc : Int} {o : Nat → CSt} {own : Nat → Nat} {act : Nat → Bool} {bo : Nat → Nat} {ph : Nat → Nat} {lf : Nat → Int} {nx : Nat} {fv pv : Value} {fd ps : List Int} {T H : Nat} {S : Nat → List Int} {M : Nat → Int}
def WMid (X : GX) (w0 w' : World) (r : Int) (c tm : Nat) (o : Nat → CSt) (act : Nat → Bool) (p : Nat) (ph : Nat → Nat) (lf : Nat → Int) (nx : Nat) (fv : Value) (fd : List Int) (T H : Nat) (S : Nat → List Int) (M : Nat → Int) : Prop :=
  ∃ L' tc' o' own' act' bo' pv' ps', GM X w0 w' L' tc' o' own' act' bo' ph lf nx fv pv' fd ps' ∧ BI X.n X.s r L' o' ph lf nx fd ps' c T H S M ∧ act' p = true ∧ (o' p).out = 0 ∧ (∀ t, t ≤ X.n → t ≠ p → act' t = act t ∧ o' t = o t) ∧ tc' ≤ tm + c ∧ ps'.length ≤ 301 + c ∧ Psi X.n T H o' ph lf S M ≤ Psi X.n T H o ph lf S M
def Worked (X : GX) (w0 w' : World) (r : Int) (c tm : Nat) (o : Nat → CSt) (p : Nat) (ph : Nat → Nat) (lf : Nat → Int) (nx : Nat) (T H : Nat) (S : Nat → List Int) (M : Nat → Int) : Prop :=
  ∃ L' tc' o' own' act' bo' ph' lf' fv' pv' fd' ps' H' S' M', GS X w0 w' r (c + 1) tm L' tc' o' own' act' bo' ph' lf' nx fv' pv' fd' ps' T H' S' M' ∧ o' X.n = o X.n ∧
    (Psi X.n T H' o' ph' lf' S' M' + 1 ≤ Psi X.n T H o ph lf S M ∨ (ph p = 2 ∧ M p = 1 ∧ Psi X.n T H' o' ph' lf' S' M' ≤ Psi X.n T H o ph lf S M ∧ (∀ t, t < X.n → ph' t = ph t) ∧ M' = M))
theorem mk_worked (h : GS X w0 w r c tm L tc o own act bo ph lf nx fv pv fd ps T H S M) {p : Nat} (hp : p < X.n) {w' : World} {L' : List Int} {tc' : Int} {o' : Nat → CSt} {own' : Nat → Nat} {act' : Nat → Bool} {bo' : Nat → Nat} {ph' : Nat → Nat} {lf' : Nat → Int} {fv' pv' : Value} {fd' ps' : List Int} {H' : Nat} {S' : Nat → List Int} {M' : Nat → Int}
    (gm : GM X w0 w' L' tc' o' own' act' bo' ph' lf' nx fv' pv' fd' ps') (bi : BI X.n X.s r L' o' ph' lf' nx fd' ps' (c + 1) T H' S' M') (hoth : ∀ t, t ≤ X.n → t ≠ p → act' t = act t ∧ o' t = o t) (hap : act' p = decide ((o' p).out = 0)) (hid : (o' p).out ≠ 0 → o' p = idleC) (hnp : ∀ b, o' p ≠ .poll b)
    (tcb : tc' ≤ tm + (c + 1 : Nat)) (pl : ps'.length ≤ 300 + (c + 1)) (fl : fd'.length ≤ 300 + (c + 1)) (psi : Psi X.n T H' o' ph' lf' S' M' + 1 ≤ Psi X.n T H o ph lf S M ∨ (ph p = 2 ∧ M p = 1 ∧ Psi X.n T H' o' ph' lf' S' M' ≤ Psi X.n T H o ph lf S M ∧ (∀ t, t < X.n → ph' t = ph t) ∧ M' = M)) : Worked X w0 w' r c tm o p ph lf nx T H S M := by
  refine ⟨L', tc', o', own', act', bo', ph', lf', fv', pv', fd', ps', H', S', M', ⟨gm, bi, fun t ht => ?_, fun t ht hne => ?_, tcb, fun t ht => ?_, pl, fl⟩, (hoth X.n (Nat.le_refl _) (by omega)).2, psi⟩
  · by_cases e : t = p
    · subst e; exact hap
    · rw [(hoth t ht e).1, (hoth t ht e).2]; exact h.ac t ht
  · by_cases e : t = p
    · subst e; exact hid hne
    · rw [(hoth t ht e).2] at hne ⊢; exact h.idl t ht hne
  · by_cases e : t = p
    · subst e; exact hnp
    · rw [(hoth t (by omega) e).2]; exact h.npl t ht
theorem psi_end {a b c d : Int} (h : a + 1 ≤ b) (h2 : b ≤ c) (h3 : d ≤ a) : d + 1 ≤ c := by omega
theorem Sh.overs {n p k : Nat} {S : List Int} {m a v : Int} (h : Sh n p k (.over a v) S m) (h3 : CSt.over a v ≠ idleC) : (k = 0 ∧ a = 1) ∨ (k = 0 ∧ a = 4) ∨ (k = 1 ∧ a = 1) ∨ (k = 1 ∧ a = 4) ∨ (k = 2 ∧ a = 1) ∨ (k = 2 ∧ a = 4) ∨ (k = 3 ∧ a = 1) := by
  generalize hst : CSt.over a v = st at h
  cases h <;> first | exact absurd hst h3 | (cases hst; simp) | cases hst
theorem psi_work (h : BI X.n X.s r L o ph lf nx fd ps c T H S M) {p : Nat} (hp : p < X.n) {pw : Prop} {st' : CSt} {H' : Nat} {S' : Nat → List Int} {M' : Nat → Int} (e : WS X.n X.s p T H pw S M (o p) st' H' S' M') :
    Psi X.n T H' (upd o p st') ph lf S' M' + 1 ≤ Psi X.n T H o ph lf S M ∨ (ph p = 2 ∧ M p = 1 ∧ st' = .over 4 0 ∧ Psi X.n T H' (upd o p st') ph lf S' M' ≤ Psi X.n T H o ph lf S M ∧ M' = M) := by
  have hsh := h.ci.sh p hp
  have hT : T ≤ 200 := by
    have h1 := h.nxT
    have h2 := h.nx200
    have h3 : 0 ≤ wl (fun _ => 1) (handO (o X.n)) := wl_nonneg (fun _ => by omega) _
    omega
  have hnot : ∀ i, i < X.n → ∀ y, y ∈ S i → 1 ≤ y ∧ y ≤ 1800 := fun i hi y hy => h.val y (h.in_hand hi (.inr hy))
  rcases e.psi h.ci.n4 hT h.ci.gv.gi.c.le (fun y hy => by have := h.val y (h.in_hand hp (.inl hy)); omega) (fun i hi y hy => by have := hnot i hi y hy; omega) hp hsh.phase (h.M0 hp) with q | ⟨q1, q2, q3, q4, q5, q6⟩
  · exact .inl q
  · have hk : ph p = 2 := by
      rw [q1] at hsh
      generalize hk : ph p = k at hsh
      generalize hM : M p = m at hsh
      generalize hS : S p = z at hsh
      generalize hst : CSt.poll ⟨2, p, 0⟩ = st at hsh
      cases hsh <;> first | rfl | cases hst
    refine .inr ⟨hk, q2, q3, ?_, q6⟩
    subst q3 q4 q5 q6
    have := psi_turn (n := X.n) (T := T) (H := H') (o := o) (ph := ph) (lf := lf) (S := S') (M := M') (st' := .over 4 0) hp (ph p) (lf p) (by rw [hk, q1]; exact Int.le_refl _)
    rw [upd_self', upd_self'] at this
    exact this
end
end Go.Proofs.Ytdoaipjdldknaaa
