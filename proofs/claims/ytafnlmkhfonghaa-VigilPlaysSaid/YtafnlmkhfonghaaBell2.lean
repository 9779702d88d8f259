/-
  Package bell: a step as one function of the cells and the operation; operations done at once; Size and Make.
-/
import Derived.Test.YtafnlmkhfonghaaBell
import Derived.Test.YtafnlmkhfonghaaRef1
import Derived.Deep.LoopGhost
namespace Go.Proofs.Ytafnlmkhfonghaa
open Go.RowKit
set_option linter.unusedVariables false

/-- An operation: which function is next, which worker, the outcome. -/
structure Bop where
  k : Nat
  who : Int
  out : Int
/-- The function that is next. -/
def nxF (k : Nat) : Nat := if k = 0 then 54 else if k = 1 then 73 else if k = 2 then 57 else if k = 3 then 55 else 68
/-- One step: the cells and the operation behind it. -/
def bstep (base n : Int) (L : List Int) (o : Bop) : List Int × Bop :=
  if o.out ≠ 0 then (L, o)
  else if o.k = 0 then (L.set (base + o.who).toNat 1, { o with out := 1 })
  else if o.k = 1 then (L.set (base + o.who).toNat 0, { o with out := 1 })
  else if o.k = 2 then (L, { o with out := pollOut (at_ L (base + o.who)) })
  else if o.k = 3 then (if at_ L (base + o.who) = 1 then (L, { o with k := 4 }) else (L, { o with who := o.who + 1, out := onOut n (o.who + 1) }))
  else if at_ L (base + o.who) = 1 then (L.set (base + o.who).toNat 0, { o with out := 7 }) else (L, { k := 3, who := o.who + 1, out := onOut n (o.who + 1) })
def btick (o : Bop) : Int := if o.out ≠ 0 then 0 else 1
/-- An operation that fits. -/
structure BopOk (n : Int) (o : Bop) : Prop where
  k : o.k = 0 ∨ o.k = 1 ∨ o.k = 2 ∨ o.k = 3 ∨ o.k = 4
  w0 : o.out = 0 → 0 ≤ o.who
  w1 : o.out = 0 → o.who < n
def BopIs (w : World) (bo bb : Nat) (o : Bop) : Prop := BopAt w bo bb (nxF o.k) o.who o.out

/-- A bell and its memory. -/
structure BellEnv (w : World) (bb bm bc : Nat) (base n tc : Int) (L : List Int) : Prop where
  bell : BellAt w bb bm base n
  mem : MemAt w bm bc L tc
  few : Few tc
  n1 : 1 ≤ n
  n8 : n ≤ 8
  b0 : 0 ≤ base
  b1 : base ≤ 70000
  in_ : base + n ≤ L.length

theorem bstep_len (base n : Int) (L : List Int) (o : Bop) : (bstep base n L o).1.length = L.length := by
  unfold bstep
  (repeat' split) <;> simp
theorem onOut_lt {n x : Int} (h : onOut n (x + 1) = 0) (hx : x < n) : x + 1 < n := by
  unfold onOut at h
  split at h
  · cases h
  · omega
theorem bstep_ok (base n : Int) (L : List Int) (o : Bop) (ho : BopOk n o) : BopOk n (bstep base n L o).2 := by
  unfold bstep
  split
  · exact ho
  rename_i h0
  simp only [ne_eq, Decidable.not_not] at h0
  have w0 := ho.w0 h0
  have w1 := ho.w1 h0
  (repeat' split)
  · exact ⟨ho.k, fun _ => w0, fun _ => w1⟩
  · exact ⟨ho.k, fun _ => w0, fun _ => w1⟩
  · exact ⟨ho.k, fun _ => w0, fun _ => w1⟩
  · exact ⟨by simp, fun _ => w0, fun _ => w1⟩
  · exact ⟨ho.k, fun _ => by show 0 ≤ o.who + 1; omega, fun h => onOut_lt h w1⟩
  · exact ⟨ho.k, fun _ => w0, fun _ => w1⟩
  · exact ⟨by simp, fun _ => by show 0 ≤ o.who + 1; omega, fun h => onOut_lt h w1⟩

section
variable {w : World} {bo bb bm bc : Nat} {base n tc : Int} {L : List Int} {o : Bop}
theorem BellEnv.next {w' : World} (h : BellEnv w bb bm bc base n tc L) {L' : List Int} {tc' : Int} (hm : MemAt w' bm bc L' tc') (hf : Few tc') (hl : L'.length = L.length) (hg : BellAt w' bb bm base n) : BellEnv w' bb bm bc base n tc' L' :=
  ⟨hg, hm, hf, h.n1, h.n8, h.b0, h.b1, by rw [hl]; exact h.in_⟩
theorem BellEnv.only {w' : World} {S : Nat → Prop} (he : BellEnv w bb bm bc base n tc L) (ho : Only S w w') (h1 : ¬ S bb) (h2 : ¬ S bm) (h3 : ¬ S bc) : BellEnv w' bb bm bc base n tc L :=
  ⟨he.bell.only ho h1, he.mem.only ho h2 h3, he.few, he.n1, he.n8, he.b0, he.b1, he.in_⟩
theorem BellEnv.only0 {w' : World} (he : BellEnv w bb bm bc base n tc L) (ho : Only S0 w w') : BellEnv w' bb bm bc base n tc L := he.only ho (fun h => h) (fun h => h) (fun h => h)
theorem BopIs.only {w' : World} {S : Nat → Prop} (h : BopIs w bo bb o) (ho : Only S w w') (h1 : ¬ S bo) : BopIs w' bo bb o := BopAt.only h ho h1

/-- A step of a bell's operation. -/
theorem BStep_all (he : BellEnv w bb bm bc base n tc L) (ho : BopOk n o) (h : BopIs w bo bb o) (hf : Few (tc + 1)) :
    Calls Try.prog 18 #[.pointer (some ⟨bo, 0, none⟩)] w fun e w' => e = .returned (.bool ((bstep base n L o).2.out != 0)) ∧ BopIs w' bo bb (bstep base n L o).2 ∧
      BellEnv w' bb bm bc base n (tc + btick o) (bstep base n L o).1 ∧ Only (S3 bo bm bc) w w' := by
  have hne : bb ≠ bo := Blk.ne_ he.bell h (by decide)
  have hnm : bb ≠ bm := Blk.ne_ he.bell he.mem.mem (by decide)
  have hnc : bb ≠ bc := Blk.ne_ he.bell he.mem.cells (by decide)
  have hS : ¬ S3 bo bm bc bb := fun k => by unfold S3 at k; omega
  have hl := bstep_len base n L o
  by_cases h0 : o.out = 0
  · have hS2 : ∀ {k}, o.k = k → BStepAt w bo bb bm bc (nxF k) base n o.who tc L := by
      intro k hk
      refine ⟨?_, he.bell, he.mem, he.few, ho.w0 h0, ho.w1 h0, he.n8, he.b0, he.b1, he.in_⟩
      unfold BopIs at h
      rw [h0, hk] at h
      exact h
    have htk : btick o = 1 := by simp [btick, h0]
    rw [htk]
    rcases ho.k with hp | hp | hp | hp | hp
    · have hg : bstep base n L o = (L.set (base + o.who).toNat 1, { o with out := 1 }) := by simp [bstep, h0, hp]
      rw [hg] at hl ⊢
      refine (BStep_sleep (hS2 hp).op (sleep1_any (hS2 hp))).mono ?_
      rintro e w' ⟨rfl, h1, h2, h3⟩
      refine ⟨rfl, ?_, he.next h2 hf hl (he.bell.only h3 hS), h3⟩
      unfold BopIs
      rw [hp]
      exact h1
    · have hg : bstep base n L o = (L.set (base + o.who).toNat 0, { o with out := 1 }) := by simp [bstep, h0, hp]
      rw [hg] at hl ⊢
      refine (BStep_up (hS2 hp).op (up1_any (hS2 hp))).mono ?_
      rintro e w' ⟨rfl, h1, h2, h3⟩
      refine ⟨rfl, ?_, he.next h2 hf hl (he.bell.only h3 hS), h3⟩
      unfold BopIs
      rw [hp]
      exact h1
    · have hg : bstep base n L o = (L, { o with out := pollOut (at_ L (base + o.who)) }) := by simp [bstep, h0, hp]
      rw [hg] at hl ⊢
      refine (BStep_poll (hS2 hp).op (poll1_any (hS2 hp))).mono ?_
      rintro e w' ⟨rfl, h1, h2, h3⟩
      refine ⟨rfl, ?_, he.next h2 hf hl (he.bell.only h3 hS), h3⟩
      unfold BopIs
      rw [hp]
      exact h1
    · by_cases hv : at_ L (base + o.who) = 1
      · have hg : bstep base n L o = (L, { o with k := 4 }) := by simp [bstep, h0, hp, hv]
        rw [hg] at hl ⊢
        refine (BStep_look (hS2 hp).op (look_yes (hS2 hp) hv)).mono ?_
        rintro e w' ⟨rfl, h1, h2, h3⟩
        refine ⟨by simp [h0], ?_, he.next h2 hf hl (he.bell.only h3 hS), h3⟩
        unfold BopIs
        rw [h0]
        exact h1
      · have hg : bstep base n L o = (L, { o with who := o.who + 1, out := onOut n (o.who + 1) }) := by simp [bstep, h0, hp, hv]
        rw [hg] at hl ⊢
        refine (BStep_look (hS2 hp).op (look_no (hS2 hp) hv)).mono ?_
        rintro e w' ⟨rfl, h1, h2, h3⟩
        refine ⟨rfl, ?_, he.next h2 hf hl (he.bell.only h3 hS), h3⟩
        unfold BopIs
        rw [hp]
        exact h1
    · by_cases hv : at_ L (base + o.who) = 1
      · have hg : bstep base n L o = (L.set (base + o.who).toNat 0, { o with out := 7 }) := by simp [bstep, h0, hp, hv]
        rw [hg] at hl ⊢
        refine (BStep_rouse (hS2 hp).op (rouse_yes (hS2 hp) hv)).mono ?_
        rintro e w' ⟨rfl, h1, h2, h3⟩
        refine ⟨rfl, ?_, he.next h2 hf hl (he.bell.only h3 hS), h3⟩
        unfold BopIs
        rw [hp]
        exact h1
      · have hg : bstep base n L o = (L, { k := 3, who := o.who + 1, out := onOut n (o.who + 1) }) := by simp [bstep, h0, hp, hv]
        rw [hg] at hl ⊢
        refine (BStep_rouse (hS2 hp).op (rouse_no (hS2 hp) hv)).mono ?_
        rintro e w' ⟨rfl, h1, h2, h3⟩
        exact ⟨rfl, h1, he.next h2 hf hl (he.bell.only h3 hS), h3⟩
  · have hg : bstep base n L o = (L, o) := by simp [bstep, h0]
    have htk : btick o = 0 := by simp [btick, h0]
    rw [hg, htk]
    refine (BStep_over h h0).mono ?_
    rintro e w' ⟨rfl, rfl⟩
    have hb : (o.out != 0) = true := by simp [h0]
    refine ⟨by rw [hb], h, ?_, Only.refl _ _⟩
    rw [Int.add_zero]
    exact he

/-- An operation that is done at once: the cells, the operation, how many steps. -/
def bdone (base n : Int) : Nat → List Int → Bop → List Int × Bop × Nat
  | 0, L, o => (L, o, 0)
  | k + 1, L, o => if o.out ≠ 0 then (L, o, 0) else
    ((bdone base n k (bstep base n L o).1 (bstep base n L o).2).1, (bdone base n k (bstep base n L o).1 (bstep base n L o).2).2.1, (bdone base n k (bstep base n L o).1 (bstep base n L o).2).2.2 + 1)
theorem bdone_over (base n : Int) (k : Nat) (L : List Int) (o : Bop) (h : o.out ≠ 0) : bdone base n k L o = (L, o, 0) := by
  cases k <;> simp [bdone, h]
theorem bdone_succ (base n : Int) (k : Nat) (L : List Int) (o : Bop) (h : o.out = 0) : bdone base n (k + 1) L o =
    ((bdone base n k (bstep base n L o).1 (bstep base n L o).2).1, (bdone base n k (bstep base n L o).1 (bstep base n L o).2).2.1, (bdone base n k (bstep base n L o).1 (bstep base n L o).2).2.2 + 1) := by
  simp [bdone, h]
theorem bdone_cons {base n : Int} {k j : Nat} {L L1 L2 : List Int} {o o1 o2 : Bop} (h : o.out = 0) (hs : bstep base n L o = (L1, o1)) (hr : bdone base n k L1 o1 = (L2, o2, j)) :
    bdone base n (k + 1) L o = (L2, o2, j + 1) := by
  rw [bdone_succ _ _ _ _ _ h, hs, hr]
theorem BopIs.over0 (h : BopIs w bo bb o) (ho : o.out = 0) : Calls Try.prog 17 #[.pointer (some ⟨bo, 0, none⟩)] w fun e w' => e = .returned (.bool false) ∧ w = w' := by
  unfold BopIs at h
  rw [ho] at h
  exact BOver_pend h
theorem BopIs.over1 (h : BopIs w bo bb o) (ho : o.out ≠ 0) : Calls Try.prog 17 #[.pointer (some ⟨bo, 0, none⟩)] w fun e w' => e = .returned (.bool true) ∧ w = w' := BOver_over h ho
theorem BopIs.outcome (h : BopIs w bo bb o) : Calls Try.prog 25 #[.pointer (some ⟨bo, 0, none⟩)] w fun e w' => e = .returned (.int .i64 o.out) ∧ w = w' := BOutcome_any h
theorem BopIs.whoIs (h : BopIs w bo bb o) : Calls Try.prog 23 #[.pointer (some ⟨bo, 0, none⟩)] w fun e w' => e = .returned (.int .i64 (bwho o.who o.out)) ∧ w = w' := BWho_any h

/-- What 'done' answers. -/
def bdoneV (r : List Int × Bop × Nat) : Value := .tuple #[.int .i64 r.2.1.out, .int .i64 (bwho r.2.1.who r.2.1.out), .int .i64 (r.2.2 : Int)]
set_option maxHeartbeats 1000000 in
theorem bdone_any (he : BellEnv w bb bm bc base n tc L) (ho : BopOk n o) (h : BopIs w bo bb o) (hf : Few (tc + 100)) :
    Calls Try.prog 21 #[.pointer (some ⟨bo, 0, none⟩)] w fun e w' => e = .returned (bdoneV (bdone base n 100 L o)) ∧ BopIs w' bo bb (bdone base n 100 L o).2.1 ∧
      BopOk n (bdone base n 100 L o).2.1 ∧ BellEnv w' bb bm bc base n (tc + ((bdone base n 100 L o).2.2 : Nat)) (bdone base n 100 L o).1 ∧ Only (S3 bo bm bc) w w' ∧ (bdone base n 100 L o).1.length = L.length := by
  obtain ⟨r, hr⟩ : ∃ r, bdone base n 100 L o = r := ⟨_, rfl⟩
  rw [hr]
  have HE := hide he
  have HO := hide ho
  have H := hide h
  have HF := hide hf
  have HR := hide hr
  clear he ho h hf hr
  go_enter Try.func21, Try.ntmps21
  go_wp2_with fail
  go_loopg [5] 100 (fun q iv wr => ∃ (k : Nat) (L' : List Int) (o' : Bop), q = 100 - k ∧ k ≤ 100 ∧ iv = .int .i64 k ∧ L'.length = L.length ∧ BopIs wr bo bb o' ∧ BopOk n o' ∧ BellEnv wr bb bm bc base n (tc + k) L' ∧ Only (S3 bo bm bc) w wr ∧
      r = ((bdone base n (100 - k) L' o').1, (bdone base n (100 - k) L' o').2.1, (bdone base n (100 - k) L' o').2.2 + k))
  case atStart => exact ⟨0, L, o, rfl, by omega, rfl, rfl, H.out, HO.out, by simpa using HE.out, Only.refl _ _, HR.out.symm⟩
  case round =>
    obtain ⟨k, L', o', rfl, hk, rfl, hl, hi, hok, henv, hon, hrr⟩ := hrel
    have HL := hide hl
    have HI := hide hi
    have HOK := hide hok
    have HENV := hide henv
    have HON := hide hon
    have HRR := hide hrr
    clear hl hi hok henv hon hrr
    by_cases hlt : k < 100
    · by_cases hov : o'.out = 0
      · have HOV := hide hov
        clear hov
        go_wp2_with fail
        refine (HI.out.over0 HOV.out).mono ?_
        rintro e w1 ⟨rfl, rfl⟩
        go_wp2_with fail
        refine (BStep_all HENV.out HOK.out HI.out (HF.out.le_ (by omega))).mono ?_
        rintro e w1 ⟨rfl, h1, h2, h3⟩
        generalize hb : ((bstep base n L' o').2.out != 0) = b
        have H1 := hide h1
        have htk : btick o' = 1 := by simp [btick, HOV.out]
        rw [htk] at h2
        have H2 := hide h2
        have H3 := hide (HON.out.trans h3)
        have H4 := hide (bstep_ok base n L' o' HOK.out)
        clear h1 h2 h3 hb htk
        go_wp2_with fail
        go_roundg (100 - (k + 1))
        case rel =>
          refine ⟨k + 1, (bstep base n L' o').1, (bstep base n L' o').2, rfl, by omega, by go_num, ?_, H1.out, H4.out, ?_, H3.out, ?_⟩
          · rw [bstep_len]; exact HL.out
          · have := H2.out
            rw [show tc + ((k + 1 : Nat) : Int) = tc + k + 1 by omega]
            exact this
          · rw [HRR.out, show 100 - k = (100 - (k + 1)) + 1 by omega, bdone_succ _ _ _ _ _ HOV.out]
            simp; omega
        case measure => omega
      · have HOV := hide hov
        clear hov
        go_wp2_with fail
        refine (HI.out.over1 HOV.out).mono ?_
        rintro e w1 ⟨rfl, rfl⟩
        go_wp2_with fail
        refine (HI.out.outcome).mono ?_
        rintro e w1 ⟨rfl, rfl⟩
        go_wp2_with fail
        refine (HI.out.whoIs).mono ?_
        rintro e w1 ⟨rfl, rfl⟩
        go_wp2_with fail
        go_ret3
        have hrr := HRR.out
        rw [bdone_over _ _ _ _ _ HOV.out] at hrr
        subst hrr
        refine ⟨by simp [bdoneV], HI.out, HOK.out, ?_, HON.out, HL.out⟩
        simpa using HENV.out
    · obtain rfl : k = 100 := by omega
      go_wp2_with fail
      refine (HI.out.outcome).mono ?_
      rintro e w1 ⟨rfl, rfl⟩
      go_wp2_with fail
      refine (HI.out.whoIs).mono ?_
      rintro e w1 ⟨rfl, rfl⟩
      go_wp2_with fail
      go_ret3
      have hrr := HRR.out
      rw [show 100 - 100 = 0 by omega, bdone] at hrr
      subst hrr
      refine ⟨by simp [bdoneV], HI.out, HOK.out, ?_, HON.out, HL.out⟩
      simpa using HENV.out
end
end Go.Proofs.Ytafnlmkhfonghaa
