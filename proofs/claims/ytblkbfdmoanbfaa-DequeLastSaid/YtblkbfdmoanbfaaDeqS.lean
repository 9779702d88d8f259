/-
  The gang under way: its memory and the plain law together; one step.
-/
import Derived.Test.YtblkbfdmoanbfaaDeqF
namespace Go.Proofs.Ytblkbfdmoanbfaa
open Go.RowKit
set_option linter.unusedVariables false

def actD (o : Nat → Dop) : Nat → Bool := fun i => decide ((o i).out = 0)
structure GSit (w wr : World) (B gb tb bd bm bc n : Nat) (L : List Int) (tc : Int) (o : Nat → Dop) (bo : Nat → Nat) (pu : Bool) (nx : Nat) (sv : Nat → Value) (XS : Nat → List Int) (lost most : Int) (T Bt : Nat) (S : List Int) (s : Nat) : Prop where
  gw : GW wr B gb tb bd bm bc n L tc (actD o) o bo pu nx sv XS lost most
  ga : Gang n L o pu nx (XS 0) (XS 1) (XS 2) T Bt S
  ok : ∀ i, i < 3 → (o i).out = 0 → DopOk (o i)
  tc : tc ≤ 2000 + s
  bl : Bt ≤ 1000 + s
  nl : nx ≤ s
  xl : ∀ i, i < 3 → (XS i).length ≤ s
  lo : 0 ≤ lost ∧ lost ≤ s
  mo : most ≤ n
  on : Only S0 w wr
  B0 : B = w.heap.size
/-- How many steps an owner's operation has before it at most; one that is not begun counts 6. -/
def rkO (x : Dop) : Int := if x.out = 0 then (if x.k ≤ 4 then 5 - x.k else 11 - x.k) else 0
def rkB (x : Dop) : Int := if x.out = 0 then rkO x else 6
def rkT (x : Dop) : Int := if x.out = 0 then 15 - x.k else 0
theorem actD_upd (o : Nat → Dop) (p : Nat) (x : Dop) : upd (actD o) p (decide (x.out = 0)) = actD (upd o p x) := by
  funext i
  unfold actD
  by_cases e : i = p
  · subst e; rw [upd_same, upd_same]
  · rw [upd_ne _ _ e, upd_ne _ _ e]
theorem actD_upd2 (o : Nat → Dop) (p : Nat) (x y : Dop) : upd (actD o) p (decide (x.out = 0)) = actD (upd (upd o p y) p x) := by
  rw [upd_upd]; exact actD_upd o p x
theorem actD_yes {o : Nat → Dop} {p : Nat} (h : (o p).out = 0) : actD o p = true := decide_eq_true h
theorem actD_no {o : Nat → Dop} {p : Nat} (h : (o p).out ≠ 0) : actD o p = false := decide_eq_false h
section
variable {w wr : World} {B gb tb bd bm bc n p s nx T Bt : Nat} {L : List Int} {tc : Int} {o : Nat → Dop} {bo : Nat → Nat} {pu : Bool} {sv : Nat → Value} {XS : Nat → List Int} {lost most : Int} {S : List Int}
theorem GSit.below (h : GSit w wr B gb tb bd bm bc n L tc o bo pu nx sv XS lost most T Bt S s) {w' : World} (ho : Only (SB B) wr w') : Only S0 w w' :=
  h.on.then ho fun i hi hs => by have := h.B0; unfold SB at hs; omega
def OwnPost (w w' : World) (B gb tb bd bm bc n : Nat) (o : Nat → Dop) (pu : Bool) (lost : Int) (S : List Int) (s what : Nat) : Prop :=
  ∃ L' tc' o' bo' pu' nx' sv' XS' most' T' Bt' S', GSit w w' B gb tb bd bm bc n L' tc' o' bo' pu' nx' sv' XS' lost most' T' Bt' S' (s + 1) ∧ (∀ i, i ≠ 0 → o' i = o i) ∧
    ((o' 0).out = 0 → S' = S ∧ 1 ≤ rkO (o' 0) ∧ rkO (o' 0) + 1 ≤ rkB (o 0)) ∧ ((o' 0).out ≠ 0 → pu' = false → S'.length + 1 = S.length ∨ (S' = [] ∧ S = [])) ∧ (what = 1 → (o 0).out ≠ 0 ∨ pu = false → pu' = false)
theorem GSit.own (h : GSit w wr B gb tb bd bm bc n L tc o bo pu nx sv XS lost most T Bt S s) {what : Nat} (hw : what < 2) (hs : s ≤ 10000) :
    Calls Try.prog 38 #[.pointer (some ⟨gb, 0, none⟩), .int .i64 what] wr fun e w' => e = .returned (.tuple #[]) ∧ OwnPost w w' B gb tb bd bm bc n o pu lost S s what := by
  have hbl := h.bl
  have hnl := h.nl
  have htc := h.tc
  have ht0 := h.gw.env.mem.tc0
  -- what it steps with
  obtain ⟨o2, ho2⟩ : ∃ o2, bOwn (actD o) o what nx = o2 := ⟨_, rfl⟩
  obtain ⟨nx2, hnx2⟩ : ∃ nx2, bNx (actD o) what nx = nx2 := ⟨_, rfl⟩
  obtain ⟨pu2, hpu2⟩ : ∃ pu2, bPu (actD o) pu what = pu2 := ⟨_, rfl⟩
  have hb : Gang n L o2 pu2 nx2 (XS 0) (XS 1) (XS 2) T Bt S ∧ (o2 0).out = 0 ∧ DopOk (o2 0) ∧ nx2 ≤ s + 1 ∧ (∀ i, i ≠ 0 → o2 i = o i) ∧ rkO (o2 0) ≤ rkB (o 0) ∧ (∀ x : Dop, upd (actD o) 0 (decide (x.out = 0)) = actD (upd o2 0 x)) ∧ (what = 1 → (o 0).out ≠ 0 ∨ pu = false → pu2 = false) := by
    by_cases ha : (o 0).out = 0
    · have e := actD_yes ha
      have e1 : o2 = o := by rw [← ho2]; unfold bOwn; rw [if_pos e]
      have e2 : nx2 = nx := by rw [← hnx2]; unfold bNx; rw [if_pos e]
      have e3 : pu2 = pu := by rw [← hpu2]; unfold bPu; rw [if_pos e]
      rw [e1, e2, e3]
      exact ⟨h.ga, ha, h.ok 0 (by omega) ha, by omega, fun _ _ => rfl, by unfold rkB; rw [if_pos ha]; omega, fun x => actD_upd o 0 x, fun _ hh => hh.elim (fun h1 => absurd ha h1) id⟩
    · have e := actD_no ha
      have hb6 : rkB (o 0) = 6 := by unfold rkB; rw [if_neg ha]
      have hw2 : what = 0 ∨ what = 1 := by omega
      rcases hw2 with rfl | rfl
      · have e1 : o2 = upd o 0 (pushOp ((nx + 1 : Nat) : Int)) := by rw [← ho2]; unfold bOwn; rw [if_neg (by rw [e]; decide), if_pos rfl]
        have e2 : nx2 = nx + 1 := by rw [← hnx2]; unfold bNx; rw [if_neg (by rw [e]; decide), if_pos rfl]
        have e3 : pu2 = true := by rw [← hpu2]; unfold bPu; rw [if_neg (by rw [e]; decide)]; rfl
        rw [e1, e2, e3]
        refine ⟨h.ga.beginOwn ha (.inl ⟨rfl, rfl, rfl⟩), by rw [upd_same]; rfl, by rw [upd_same]; exact pushOp_ok ⟨by omega, by omega⟩, by omega, fun i hi => upd_ne _ _ hi, ?_, fun x => actD_upd2 o 0 x _, fun hh => by omega⟩
        rw [upd_same, hb6]
        simp [rkO, pushOp]
      · have e1 : o2 = upd o 0 popOp := by rw [← ho2]; unfold bOwn; rw [if_neg (by rw [e]; decide), if_neg (by decide)]
        have e2 : nx2 = nx := by rw [← hnx2]; unfold bNx; rw [if_neg (by rw [e]; decide), if_neg (by decide)]
        have e3 : pu2 = false := by rw [← hpu2]; unfold bPu; rw [if_neg (by rw [e]; decide)]; rfl
        rw [e1, e2, e3]
        refine ⟨h.ga.beginOwn ha (.inr ⟨rfl, rfl, rfl⟩), by rw [upd_same]; rfl, by rw [upd_same]; exact popOp_ok, by omega, fun i hi => upd_ne _ _ hi, ?_, fun x => actD_upd2 o 0 x _, fun _ _ => rfl⟩
        rw [upd_same, hb6]
        simp [rkO, popOp]
  obtain ⟨hg, h0, hok, hn2, hoth, hrk, hact, hpp⟩ := hb
  obtain ⟨T', Bt', S', hg', hB', hm⟩ := hg.own h0 (by omega)
  have hk : ∀ i, i < 3 → (XS i).length ≤ 100000 := fun i hi => by have := h.xl i hi; omega
  have fin : ∀ {w' : World}, Owned wr w' B gb tb bd bm bc n (tc + 1) (actD o) o2 (dstep 0 n L (o2 0)) pu2 nx2 XS lost most → OwnPost w w' B gb tb bd bm bc n o pu lost S s what := by
    rintro w' ⟨bo', sv', most', k1, k2, k3⟩
    have hokx := dstep_ok 0 n L (o2 0) h.gw.env.u hok
    have hpos := hok.k
    generalize dstep 0 (n : Int) L (o2 0) = x at *
    rw [hact] at k1
    have x0 : XSo x.2 pu2 nx2 XS 0 = inG x.2 pu2 nx2 (XS 0) := by unfold XSo; rw [upd_ne _ _ (by decide), upd_same]
    have x1 : XSo x.2 pu2 nx2 XS 1 = popG x.2 pu2 (XS 1) := by unfold XSo; rw [upd_same]
    have x2 : XSo x.2 pu2 nx2 XS 2 = XS 2 := by unfold XSo; rw [upd_ne _ _ (by decide), upd_ne _ _ (by decide)]
    refine ⟨x.1, tc + 1, upd o2 0 x.2, bo', pu2, nx2, sv', XSo x.2 pu2 nx2 XS, most', T', Bt', S', ⟨k1, by rw [x0, x1, x2]; exact hg', fun i hi ha => ?_, by omega, by omega, hn2, fun i hi => ?_, ⟨h.lo.1, by have := h.lo.2; omega⟩, ?_, h.below k2, h.B0⟩, fun i hi => by rw [upd_ne _ _ hi]; exact hoth i hi, ?_, ?_, hpp⟩
    · by_cases e : i = 0
      · subst e; rw [upd_same]; exact hokx
      · rw [upd_ne _ _ e] at ha ⊢; rw [hoth i e] at ha ⊢; exact h.ok i hi ha
    · have h3 : i = 0 ∨ i = 1 ∨ i = 2 := by omega
      have q := h.xl i hi
      rcases h3 with rfl | rfl | rfl
      · rw [x0]; unfold inG; split
        · rw [List.length_append]; have : [(nx2 : Int)].length = 1 := rfl; omega
        · omega
      · rw [x1]; unfold popG; split
        · rw [List.length_append]; have : [x.2.v].length = 1 := rfl; omega
        · omega
      · rw [x2]; omega
    · rcases k3 with e | ⟨e1, e2⟩
      · rw [e]; exact h.mo
      · have q1 := hg'.len
        have q2 := hg'.idle_len (by rw [upd_same]; exact e1)
        rw [e2]
        unfold lens
        rw [x0, x1, x2]
        omega
    · rw [upd_same]
      intro e
      rcases hm with ⟨-, m1, m2, m3, m4⟩ | ⟨m1, -⟩
      · refine ⟨m1, ?_, ?_⟩
        · unfold rkO; rw [if_pos e]; split <;> omega
        · have : rkO x.2 + 1 ≤ rkO (o2 0) := by
            unfold rkO; rw [if_pos e, if_pos h0]
            by_cases c : (o2 0).k ≤ 4
            · rw [if_pos c, if_pos (m4.1 c)]; omega
            · rw [if_neg c, if_neg (fun d => c (m4.2 d))]; omega
          omega
      · exact absurd e m1
    · rw [upd_same]
      intro e
      rcases hm with ⟨m1, -⟩ | ⟨-, m2⟩
      · exact absurd m1 e
      · exact m2
  have hpe := (hg.pend h0).1
  have hf : Few (tc + 10) := few_of _ (by omega)
  have hw2 : what = 0 ∨ what = 1 := by omega
  rcases hw2 with rfl | rfl
  · rw [← hnx2, ← hpu2, ← ho2] at fin
    rw [← ho2] at hok h0
    rw [← ho2, ← hpu2] at hpe
    exact (own_0 h.gw hok h0 hpe (by omega) hf hk).mono fun _ _ ⟨e1, e2⟩ => ⟨e1, fin e2⟩
  · rw [← hnx2, ← hpu2, ← ho2] at fin
    rw [← ho2] at hok h0
    rw [← ho2, ← hpu2] at hpe
    exact (own_1 h.gw hok h0 hpe (by omega) hf hk).mono fun _ _ ⟨e1, e2⟩ => ⟨e1, fin e2⟩
def ThfPost (w w' : World) (B gb tb bd bm bc n : Nat) (o : Nat → Dop) (pu : Bool) (nx : Nat) (most : Int) (S : List Int) (s q : Nat) : Prop :=
  ∃ L' tc' o' bo' sv' XS' lost' T' Bt' S', GSit w w' B gb tb bd bm bc n L' tc' o' bo' pu nx sv' XS' lost' most T' Bt' S' (s + 1) ∧ (∀ i, i ≠ q → o' i = o i) ∧ (rkT (o' q) + 1 ≤ rkT (o q) ∨ (o q).out ≠ 0)
theorem GSit.thf (h : GSit w wr B gb tb bd bm bc n L tc o bo pu nx sv XS lost most T Bt S s) (hp : p < 2) (hs : s ≤ 10000) :
    Calls Try.prog 39 #[.pointer (some ⟨gb, 0, none⟩), .int .i64 p] wr fun e w' => e = .returned (.tuple #[]) ∧ ThfPost w w' B gb tb bd bm bc n o pu nx most S s (p + 1) := by
  have hbl := h.bl
  have htc := h.tc
  have ht0 := h.gw.env.mem.tc0
  obtain ⟨o2, ho2⟩ : ∃ o2, bThf (actD o) o (p + 1) = o2 := ⟨_, rfl⟩
  have hb : Gang n L o2 pu nx (XS 0) (XS 1) (XS 2) T Bt S ∧ (o2 (p + 1)).out = 0 ∧ DopOk (o2 (p + 1)) ∧ (∀ i, i ≠ p + 1 → o2 i = o i) ∧ ((o (p + 1)).out = 0 → o2 = o) ∧ (∀ x : Dop, upd (actD o) (p + 1) (decide (x.out = 0)) = actD (upd o2 (p + 1) x)) := by
    by_cases ha : (o (p + 1)).out = 0
    · have e := actD_yes ha
      have e1 : o2 = o := by rw [← ho2]; unfold bThf; rw [if_pos e]
      rw [e1]
      exact ⟨h.ga, ha, h.ok (p + 1) (by omega) ha, fun _ _ => rfl, fun _ => rfl, fun x => actD_upd o _ x⟩
    · have e := actD_no ha
      have e1 : o2 = upd o (p + 1) stealOp := by rw [← ho2]; unfold bThf; rw [if_neg (by rw [e]; decide)]
      rw [e1]
      exact ⟨h.ga.beginThf (by omega) (by omega), by rw [upd_same]; rfl, by rw [upd_same]; exact stealOp_ok, fun i hi => upd_ne _ _ hi, fun e => absurd e ha, fun x => actD_upd2 o _ x _⟩
  obtain ⟨hg, h0, hok, hoth, hsame, hact⟩ := hb
  obtain ⟨T', S', hg', hl', hm⟩ := hg.thf (by omega) (by omega) h0
  have fin : ∀ {w' : World}, Stolen wr w' B gb tb bd bm bc n (tc + 1) (actD o) (p + 1) o2 (dstep 0 n L (o2 (p + 1))) pu nx XS lost most → ThfPost w w' B gb tb bd bm bc n o pu nx most S s (p + 1) := by
    rintro w' ⟨bo', sv', lost', k1, k2, k3, k4⟩
    have hokx := dstep_ok 0 n L (o2 (p + 1)) h.gw.env.u hok
    generalize dstep 0 (n : Int) L (o2 (p + 1)) = x at *
    rw [hact] at k1
    refine ⟨x.1, tc + 1, upd o2 (p + 1) x.2, bo', sv', upd XS 2 (stG x.2 (XS 2)), lost', T', Bt, S', ⟨k1, by rw [upd_same, upd_ne _ _ (by decide), upd_ne _ _ (by decide)]; exact hg', fun i hi ha => ?_, by omega, by omega, by have := h.nl; omega, fun i hi => ?_, ⟨by have := h.lo.1; omega, by have := h.lo.2; omega⟩, h.mo, h.below k2, h.B0⟩, fun i hi => by rw [upd_ne _ _ hi]; exact hoth i hi, ?_⟩
    · by_cases e : i = p + 1
      · subst e; rw [upd_same]; exact hokx
      · rw [upd_ne _ _ e] at ha ⊢; rw [hoth i e] at ha ⊢; exact h.ok i hi ha
    · have q := h.xl i hi
      by_cases e : i = 2
      · subst e
        rw [upd_same]; unfold stG; split
        · rw [List.length_append]; have : [x.2.v].length = 1 := rfl; omega
        · omega
      · rw [upd_ne _ _ e]; omega
    · rw [upd_same]
      by_cases ha : (o (p + 1)).out = 0
      · refine .inl ?_
        rw [hsame ha] at hm
        have hok2 := h.ok (p + 1) (by omega) ha
        unfold rkT
        rw [if_pos ha]
        rcases hm with ⟨m1, m2, m3⟩ | m1
        · rw [if_pos m1]; omega
        · rw [if_neg m1]; have := hok2.k; omega
      · exact .inr ha
  have hf : Few (tc + 10) := few_of _ (by omega)
  have hk := h.xl 2 (by omega)
  have hp2 : p = 0 ∨ p = 1 := by omega
  rcases hp2 with rfl | rfl
  · rw [← ho2] at fin hok h0
    exact (steal_0 h.gw hok h0 hf h.lo.1 (by have := h.lo.2; omega) (by omega)).mono fun _ _ ⟨e1, e2⟩ => ⟨e1, fin e2⟩
  · rw [← ho2] at fin hok h0
    exact (steal_1 h.gw hok h0 hf h.lo.1 (by have := h.lo.2; omega) (by omega)).mono fun _ _ ⟨e1, e2⟩ => ⟨e1, fin e2⟩
/-- A thief's step, through step. -/
theorem GSit.thf2 (h : GSit w wr B gb tb bd bm bc n L tc o bo pu nx sv XS lost most T Bt S s) (hp : p < 2) (hs : s ≤ 10000) :
    Calls Try.prog 38 #[.pointer (some ⟨gb, 0, none⟩), .int .i64 ((p + 2 : Nat) : Int)] wr fun e w' => e = .returned (.tuple #[]) ∧ ThfPost w w' B gb tb bd bm bc n o pu nx most S s (p + 1) := by
  have H := hide h
  clear h
  have hp2 : p = 0 ∨ p = 1 := by omega
  rcases hp2 with rfl | rfl
  · go_enter Try.func38, Try.ntmps38
    go_wp2_with fail
    refine (H.out.thf (p := 0) hp hs).mono ?_
    rintro e w1 ⟨rfl, h1⟩
    have H1 := hide h1
    clear h1
    go_wp2_with fail
    refine bodyPost_ret (results_none rfl _ _ _) rfl ?_
    exact ⟨rfl, H1.out⟩
  · go_enter Try.func38, Try.ntmps38
    go_wp2_with fail
    refine (H.out.thf (p := 1) hp hs).mono ?_
    rintro e w1 ⟨rfl, h1⟩
    have H1 := hide h1
    clear h1
    go_wp2_with fail
    refine bodyPost_ret (results_none rfl _ _ _) rfl ?_
    exact ⟨rfl, H1.out⟩
end
end Go.Proofs.Ytblkbfdmoanbfaa
