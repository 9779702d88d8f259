/-
  A crew's operations that are done at once; the document's examples.
-/
import Derived.Test.YtdoaipjdldknaaaJC18
import Derived.Test.YtdoaipjdldknaaaKDeq5
import Derived.Test.YtdoaipjdldknaaaKGate5
namespace Go.Proofs.Ytdoaipjdldknaaa
open Go.RowKit
set_option linter.unusedVariables false

/-- An operation that is done at once: the cells, the operation, how many steps. -/
def cdone (F : CLay) : Nat → List Int → CSt → List Int × CSt × Nat
  | 0, L, o => (L, o, 0)
  | k + 1, L, o => if o.out ≠ 0 then (L, o, 0) else
    ((cdone F k (cstep F L o).1 (cstep F L o).2).1, (cdone F k (cstep F L o).1 (cstep F L o).2).2.1, (cdone F k (cstep F L o).1 (cstep F L o).2).2.2 + 1)
theorem cdone_over (F : CLay) (k : Nat) (L : List Int) (o : CSt) (h : o.out ≠ 0) : cdone F k L o = (L, o, 0) := by
  cases k <;> simp [cdone, h]
theorem cdone_succ (F : CLay) (k : Nat) (L : List Int) (o : CSt) (h : o.out = 0) : cdone F (k + 1) L o =
    ((cdone F k (cstep F L o).1 (cstep F L o).2).1, (cdone F k (cstep F L o).1 (cstep F L o).2).2.1, (cdone F k (cstep F L o).1 (cstep F L o).2).2.2 + 1) := by
  simp [cdone, h]
def SB (bm bc B : Nat) : Nat → Prop := fun k => k = bm ∨ k = bc ∨ B ≤ k
section
variable {w : World} {F : CLay} {cb bb bg bm bc co B : Nat} {dv : Value} {bd : Nat → Nat} {tc : Int} {L : List Int} {st : CSt}
/-- What 'done' answers. -/
def cdoneV (r : List Int × CSt × Nat) : Value := .tuple #[.int .i64 r.2.1.out, .int .u64 r.2.1.value, .int .i64 (r.2.2 : Int)]
theorem CLeft.below {w' : World} (h : CLeft w F cb bb bg bm bc dv bd (fun k => B ≤ k) co tc L st w') (hB : B ≤ w.heap.size) :
    CIs w' cb bb bg bc bd (fun k => B ≤ k) co (cstep F L st).2 ∧ CEnv w' F cb bb bg bm bc dv bd (tc + 1) (cstep F L st).1 ∧ Only (SB bm bc B) w w' := by
  obtain ⟨h1, h2, S, h3, h4⟩ := h
  exact ⟨h1.more fun k hk => by rcases hk with hk | hk <;> omega, h2, h3.mono fun k hk => by
    rcases h4 k hk with h | h | ⟨h, _⟩
    · exact .inl h
    · exact .inr (.inl h)
    · exact .inr (.inr h)⟩
theorem CIs.only0 {w' : World} {O : Nat → Prop} (h : CIs w cb bb bg bc bd O co st) (he : CEnv w F cb bb bg bm bc dv bd tc L) (ho : Only S0 w w') : CIs w' cb bb bg bc bd O co st :=
  h.away he.mem.mem ⟨_, he.mem.cells⟩ ho ⟨fun _ h => h.elim, fun _ _ h => h⟩
theorem cover_any (h : CIs w cb bb bg bc bd (fun k => B ≤ k) co st) : Calls Try.prog 25 #[.pointer (some ⟨co, 0, none⟩)] w fun e w' => e = .returned (.bool (st.out != 0)) ∧ w = w' := by
  obtain ⟨c, t, hc⟩ := h.cop
  exact COver_any hc
theorem coutcome_any (h : CIs w cb bb bg bc bd (fun k => B ≤ k) co st) : Calls Try.prog 27 #[.pointer (some ⟨co, 0, none⟩)] w fun e w' => e = .returned (.int .i64 st.out) ∧ w = w' := by
  obtain ⟨c, t, hc⟩ := h.cop
  exact COutcome_any hc
theorem cvalue_any (h : CIs w cb bb bg bc bd (fun k => B ≤ k) co st) : Calls Try.prog 28 #[.pointer (some ⟨co, 0, none⟩)] w fun e w' => e = .returned (.int .u64 st.value) ∧ w = w' := by
  obtain ⟨c, t, hc⟩ := h.cop
  exact CValue_any hc
set_option maxRecDepth 100000 in
set_option maxHeartbeats 1000000 in
theorem cdone_any (he : CEnv w F cb bb bg bm bc dv bd tc L) (ho : CStOk F L.length st) (h : CIs w cb bb bg bc bd (fun k => B ≤ k) co st) (hB : B ≤ w.heap.size) (hf : Few (tc + 200)) :
    Calls Try.prog 9 #[.pointer (some ⟨co, 0, none⟩)] w fun e w' => e = .returned (cdoneV (cdone F 200 L st)) ∧
      CEnv w' F cb bb bg bm bc dv bd (tc + ((cdone F 200 L st).2.2 : Nat)) (cdone F 200 L st).1 ∧ Only (SB bm bc B) w w' ∧ (cdone F 200 L st).1.length = L.length := by
  obtain ⟨r, hr⟩ : ∃ r, cdone F 200 L st = r := ⟨_, rfl⟩
  rw [hr]
  have HE := hide he
  have HO := hide ho
  have H := hide h
  have HF := hide hf
  have HR := hide hr
  have HB := hide hB
  clear he ho h hf hr hB
  go_enter Try.func9, Try.ntmps9
  go_wp2_with fail
  go_loopg [5] 200 (fun q iv wr => ∃ (k : Nat) (L' : List Int) (o' : CSt), q = 200 - k ∧ k ≤ 200 ∧ iv = .int .i64 k ∧ L'.length = L.length ∧ CIs wr cb bb bg bc bd (fun k => B ≤ k) co o' ∧ CStOk F L'.length o' ∧ CEnv wr F cb bb bg bm bc dv bd (tc + k) L' ∧ Only (SB bm bc B) w wr ∧
      r = ((cdone F (200 - k) L' o').1, (cdone F (200 - k) L' o').2.1, (cdone F (200 - k) L' o').2.2 + k))
  case atStart => exact ⟨0, L, st, rfl, by omega, rfl, rfl, H.out, HO.out, by simpa using HE.out, Only.refl _ _, HR.out.symm⟩
  case round =>
    obtain ⟨k, L', o', rfl, hk, rfl, hl, hi, hok, henv, hon, hrr⟩ := hrel
    have HL := hide hl
    have HI := hide hi
    have HOK := hide hok
    have HENV := hide henv
    have HON := hide hon
    have HRR := hide hrr
    clear hl hi hok henv hon hrr
    by_cases hlt : k < 200
    · by_cases hov : o'.out = 0
      · have HOV := hide hov
        clear hov
        go_wp2_with fail
        refine (cover_any HI.out).mono ?_
        rintro e w1 ⟨rfl, rfl⟩
        rw [show (o'.out != 0) = false from by rw [HOV.out]; rfl]
        go_wp2_with fail
        refine (COp_step HENV.out HOK.out HI.out (HF.out.le_ (by omega)) HOV.out).mono ?_
        rintro e w1 ⟨rfl, h1⟩
        generalize hb : ((cstep F L' o').2.out != 0) = b
        have H1 := hide (h1.below (by have := HB.out; have := HON.out.size; omega))
        have H4 := hide (cstep_ok HENV.out.fit HENV.out.u HOK.out)
        clear h1 hb
        go_wp2_with fail
        go_roundg (200 - (k + 1))
        case rel =>
          refine ⟨k + 1, (cstep F L' o').1, (cstep F L' o').2, rfl, by omega, by go_num, ?_, H1.out.1, ?_, ?_, HON.out.trans H1.out.2.2, ?_⟩
          · rw [cstep_len]; exact HL.out
          · rw [cstep_len]; exact H4.out
          · rw [show tc + ((k + 1 : Nat) : Int) = tc + k + 1 by omega]
            exact H1.out.2.1
          · rw [HRR.out, show 200 - k = (200 - (k + 1)) + 1 by omega, cdone_succ _ _ _ _ HOV.out]
            simp; omega
        case measure => omega
      · have HOV := hide hov
        clear hov
        go_wp2_with fail
        refine (cover_any HI.out).mono ?_
        rintro e w1 ⟨rfl, rfl⟩
        rw [show (o'.out != 0) = true from by simp [HOV.out]]
        go_upto_region 5 with fail
        have HQ1 := hide fun (m : Nat) => coutcome_any (HI.out.only0 HENV.out ((Only.refl S0 wr).drewN m))
        have HQ2 := hide fun (m : Nat) => cvalue_any (HI.out.only0 HENV.out ((Only.refl S0 wr).drewN m))
        have hfin := hide fun (m : Nat) => And.intro (HENV.out.only0 ((Only.refl S0 wr).drewN m)) (HON.out.drewN m)
        (go_quiet ((first | (go_at_call 27; exact quiet_eq (HQ1.out _)) | (go_at_call 28; exact quiet_eq (HQ2.out _)))))
        go_wp2_with fail
        go_ret3
        have hrr := HRR.out
        rw [cdone_over _ _ _ _ HOV.out] at hrr
        subst hrr
        exact ⟨by simp [cdoneV], by simpa using (hfin.out _).1, (hfin.out _).2, HL.out⟩
    · obtain rfl : k = 200 := by omega
      go_upto_region 5 with fail
      have HQ1 := hide fun (m : Nat) => coutcome_any (HI.out.only0 HENV.out ((Only.refl S0 wr).drewN m))
      have HQ2 := hide fun (m : Nat) => cvalue_any (HI.out.only0 HENV.out ((Only.refl S0 wr).drewN m))
      have hfin := hide fun (m : Nat) => And.intro (HENV.out.only0 ((Only.refl S0 wr).drewN m)) (HON.out.drewN m)
      (go_quiet ((first | (go_at_call 27; exact quiet_eq (HQ1.out _)) | (go_at_call 28; exact quiet_eq (HQ2.out _)))))
      go_wp2_with fail
      go_ret3
      have hrr := HRR.out
      rw [show 200 - 200 = 0 by omega, cdone] at hrr
      subst hrr
      exact ⟨by simp [cdoneV], by simpa using (hfin.out _).1, (hfin.out _).2, HL.out⟩
end
end Go.Proofs.Ytdoaipjdldknaaa
/-
  A deque that is alone: operations done at once (plain lists; no program).
-/
namespace Go.Proofs.Ytdoaipjdldknaaa
open Go.RowKit
set_option linter.unusedVariables false

theorem dslot_nat (n B : Nat) : dslotOf 0 n B = ((2 + B % n : Nat) : Int) := by unfold dslotOf; omega
theorem w64_add (B : Nat) (h : B ≤ 1000000) : IntKind.u64.wrap ((B : Int) + 1) = ((B + 1 : Nat) : Int) := by rw [IntKind.wrap_u64]; omega
theorem w64_sub (B : Nat) (h : B ≤ 1000000) (h1 : 1 ≤ B) : IntKind.u64.wrap ((B : Int) - 1) = ((B - 1 : Nat) : Int) := by rw [IntKind.wrap_u64]; omega
theorem w64_diff (B T : Nat) (h : B ≤ 1000000) (h1 : T ≤ B) : IntKind.u64.wrap ((B : Int) - T) = ((B - T : Nat) : Int) := by rw [IntKind.wrap_u64]; omega
/-- Two numbers less than n apart lie in different slots. -/
theorem dmod_ne {n a b : Nat} (hne : a ≠ b) (h1 : a < b + n) (h2 : b < a + n) : a % n ≠ b % n := by
  have key : ∀ {a b : Nat}, a < b → b < a + n → a % n ≠ b % n := by
    intro a b h1 h2 h
    have h3 : (b - a) % n = 0 := Nat.sub_mod_eq_zero_of_mod_eq h.symm
    rw [Nat.mod_eq_of_lt (by omega)] at h3
    omega
  rcases Nat.lt_or_ge a b with h | h
  · exact key h h2
  · exact fun e => key (show b < a by omega) h1 e.symm
theorem ddone_cons {base n : Int} {k j : Nat} {L L1 L2 : List Int} {o o1 o2 : Dop} (h : o.out = 0) (hs : dstep base n L o = (L1, o1)) (hr : ddone base n k L1 o1 = (L2, o2, j)) :
    ddone base n (k + 1) L o = (L2, o2, j + 1) := by
  rw [ddone_succ _ _ _ _ _ h, hs, hr]
section
variable {base n : Int} {L : List Int} {v t b : Int} {won : Bool}
theorem ds1 : dstep base n L ⟨1, 0, v, t, b, won⟩ = (L, ⟨2, 0, v, t, at_ L (base + 1), won⟩) := by simp [dstep, dpush]
theorem ds2 : dstep base n L ⟨2, 0, v, t, b, won⟩ = (L, ⟨3, dfull n b (at_ L base), v, at_ L base, b, won⟩) := by simp [dstep, dpush]
theorem ds3 : dstep base n L ⟨3, 0, v, t, b, won⟩ = (L.set (dslotOf base n b).toNat v, ⟨4, 0, v, t, b, won⟩) := by simp [dstep, dpush]
theorem ds4 : dstep base n L ⟨4, 0, v, t, b, won⟩ = (L.set (base + 1).toNat (IntKind.u64.wrap (b + 1)), ⟨4, 1, 0, t, b, won⟩) := by simp [dstep, dpush]
theorem ds5 : dstep base n L ⟨5, 0, v, t, b, won⟩ = (L, ⟨6, 0, v, t, at_ L (base + 1), won⟩) := by simp [dstep, dpop]
theorem ds6 : dstep base n L ⟨6, 0, v, t, b, won⟩ = (L.set (base + 1).toNat (IntKind.u64.wrap (b - 1)), ⟨7, 0, v, t, b, won⟩) := by simp [dstep, dpop]
theorem ds7 : dstep base n L ⟨7, 0, v, t, b, won⟩ = (L, ⟨if IntKind.u64.wrap (b - 1) < at_ L base then 10 else 8, 0, v, at_ L base, b, won⟩) := by simp [dstep, dpop]
theorem ds8 : dstep base n L ⟨8, 0, v, t, b, won⟩ = (L, ⟨9, dlast t b, at_ L (dslotOf base n (IntKind.u64.wrap (b - 1))), t, b, won⟩) := by simp [dstep, dpop]
theorem ds9 : dstep base n L ⟨9, 0, v, t, b, won⟩ = (dswapL base L t, ⟨10, 0, v, t, b, dswapB base L t⟩) := by simp [dstep, dpop]
theorem ds10 : dstep base n L ⟨10, 0, v, t, b, won⟩ = (L.set (base + 1).toNat b, ⟨10, dwon won, v, t, b, won⟩) := by simp [dstep, dpop]
theorem ds11 : dstep base n L ⟨11, 0, v, t, b, won⟩ = (L, ⟨12, 0, v, at_ L base, b, won⟩) := by simp [dstep, dsteal]
theorem ds12 : dstep base n L ⟨12, 0, v, t, b, won⟩ = (L, ⟨13, dnone t (at_ L (base + 1)), v, t, at_ L (base + 1), won⟩) := by simp [dstep, dsteal]
theorem ds13 : dstep base n L ⟨13, 0, v, t, b, won⟩ = (L, ⟨14, 0, at_ L (dslotOf base n t), t, b, won⟩) := by simp [dstep, dsteal]
theorem ds14 : dstep base n L ⟨14, 0, v, t, b, won⟩ = (dswapL base L t, ⟨14, if dswapB base L t then 1 else 6, v, t, b, won⟩) := by simp [dstep, dsteal]
end
structure DAlone (n : Nat) (L : List Int) (T B : Nat) (val : Nat → Int) : Prop where
  n1 : 1 ≤ n
  n64 : n ≤ 64
  len : L.length = 2 + n
  top : at_ L ((0 : Nat) : Int) = T
  bot : at_ L ((1 : Nat) : Int) = B
  t1 : 1 ≤ T
  le : T ≤ B
  ge : B ≤ T + n
  small : B ≤ 1000000
  has : ∀ t, T ≤ t → t < B → at_ L ((2 + t % n : Nat) : Int) = val t
section
variable {n T B : Nat} {L : List Int} {val : Nat → Int}
theorem DAlone.push (h : DAlone n L T B val) (v : Int) (hr : B < T + n) (hs : B + 1 ≤ 1000000) : ∃ L' o k, ddone 0 n 100 L (pushOp v) = (L', o, k) ∧ o.out = 1 ∧ k ≤ 6 ∧ DAlone n L' T (B + 1) (fun t => if t = B then v else val t) := by
  have hl := h.len
  have h1 := h.n1
  have hle := h.le
  have hsm := h.small
  have hm := Nat.mod_lt B (show n > 0 by omega)
  have ht := h.top
  have hb := h.bot
  have e1 : dstep 0 n L (pushOp v) = (L, ⟨2, 0, v, 0, B, false⟩) := by
    unfold pushOp; rw [ds1, show at_ L ((0 : Int) + 1) = (B : Int) from hb]
  have e2 : dstep 0 n L ⟨2, 0, v, 0, B, false⟩ = (L, ⟨3, 0, v, T, B, false⟩) := by
    rw [ds2, show at_ L (0 : Int) = (T : Int) from ht]
    have : dfull n B T = 0 := by unfold dfull; rw [w64_diff B T hsm hle, if_neg (by omega)]
    rw [this]
  have e3 : dstep 0 n L ⟨3, 0, v, T, B, false⟩ = (L.set (2 + B % n) v, ⟨4, 0, v, T, B, false⟩) := by rw [ds3, dslot_nat, Int.toNat_natCast]
  have e4 : dstep 0 n (L.set (2 + B % n) v) ⟨4, 0, v, T, B, false⟩ = ((L.set (2 + B % n) v).set 1 ((B + 1 : Nat) : Int), ⟨4, 1, 0, T, B, false⟩) := by
    rw [ds4, w64_add B hsm]
    rfl
  refine ⟨_, _, 4, ddone_cons rfl e1 (ddone_cons rfl e2 (ddone_cons rfl e3 (ddone_cons rfl e4 (ddone_over _ _ _ _ _ (by simp))))), rfl, by omega, ?_⟩
  have g : ∀ k : Nat, at_ ((L.set (2 + B % n) v).set 1 ((B + 1 : Nat) : Int)) (k : Int) = if k = 1 then ((B + 1 : Nat) : Int) else if k = 2 + B % n then v else at_ L (k : Int) := by
    intro k
    rw [at_set _ _ _ _ (by simp; omega), at_set _ _ _ _ (by omega)]
  refine ⟨h.n1, h.n64, by simpa using hl, ?_, ?_, h.t1, by omega, by omega, hs, fun t t1 t2 => ?_⟩
  · rw [g, if_neg (by omega), if_neg (by omega)]; exact ht
  · rw [g, if_pos rfl]
  · have hmt := Nat.mod_lt t (show n > 0 by omega)
    by_cases e : t = B
    · subst e
      rw [g, if_neg (by omega), if_pos rfl, if_pos rfl]
    · have := dmod_ne (n := n) e (by omega) (by omega)
      rw [g, if_neg (by omega), if_neg (by omega), if_neg e]
      exact h.has t t1 (by omega)
theorem DAlone.push_full (h : DAlone n L T B val) (v : Int) (hr : B = T + n) : ∃ o, ddone 0 n 100 L (pushOp v) = (L, o, 2) ∧ o.out = 2 := by
  have hle := h.le
  have hsm := h.small
  have e1 : dstep 0 n L (pushOp v) = (L, ⟨2, 0, v, 0, B, false⟩) := by
    unfold pushOp; rw [ds1, show at_ L ((0 : Int) + 1) = (B : Int) from h.bot]
  have e2 : dstep 0 n L ⟨2, 0, v, 0, B, false⟩ = (L, ⟨3, 2, v, T, B, false⟩) := by
    rw [ds2, show at_ L (0 : Int) = (T : Int) from h.top]
    have : dfull n B T = 2 := by unfold dfull; rw [w64_diff B T hsm hle, if_pos (by omega)]
    rw [this]
  exact ⟨_, ddone_cons rfl e1 (ddone_cons rfl e2 (ddone_over _ _ _ _ _ (by simp))), rfl⟩
theorem DAlone.pop_none (h : DAlone n L T B val) (hr : B = T) : ∃ L' o k, ddone 0 n 100 L popOp = (L', o, k) ∧ o.out = 4 ∧ k ≤ 6 ∧ DAlone n L' T B val := by
  have hl := h.len
  have h1 := h.n1
  have hsm := h.small
  have ht := h.top
  have hb := h.bot
  have ht1 := h.t1
  have e1 : dstep 0 n L popOp = (L, ⟨6, 0, 0, 0, B, false⟩) := by
    unfold popOp; rw [ds5, show at_ L ((0 : Int) + 1) = (B : Int) from hb]
  have e2 : dstep 0 n L ⟨6, 0, 0, 0, B, false⟩ = (L.set 1 ((B - 1 : Nat) : Int), ⟨7, 0, 0, 0, B, false⟩) := by rw [ds6, w64_sub B hsm (by omega)]; rfl
  have g1 : ∀ k : Nat, at_ (L.set 1 ((B - 1 : Nat) : Int)) (k : Int) = if k = 1 then ((B - 1 : Nat) : Int) else at_ L (k : Int) := fun k => at_set _ _ _ _ (by omega)
  have e3 : dstep 0 n (L.set 1 ((B - 1 : Nat) : Int)) ⟨7, 0, 0, 0, B, false⟩ = (L.set 1 ((B - 1 : Nat) : Int), ⟨10, 0, 0, T, B, false⟩) := by
    have : at_ (L.set 1 ((B - 1 : Nat) : Int)) (0 : Int) = T := by have := g1 0; rw [if_neg (by omega)] at this; rw [← ht]; exact this
    rw [ds7, this, w64_sub B hsm (by omega), if_pos (by omega)]
  have e4 : dstep 0 n (L.set 1 ((B - 1 : Nat) : Int)) ⟨10, 0, 0, T, B, false⟩ = ((L.set 1 ((B - 1 : Nat) : Int)).set 1 (B : Int), ⟨10, 4, 0, T, B, false⟩) := by rw [ds10]; rfl
  refine ⟨_, _, 4, ddone_cons rfl e1 (ddone_cons rfl e2 (ddone_cons rfl e3 (ddone_cons rfl e4 (ddone_over _ _ _ _ _ (by simp))))), rfl, by omega, ?_⟩
  have g : ∀ k : Nat, at_ ((L.set 1 ((B - 1 : Nat) : Int)).set 1 (B : Int)) (k : Int) = if k = 1 then (B : Int) else at_ L (k : Int) := by
    intro k
    rw [at_set _ _ _ _ (by simp; omega), g1]
    split <;> rfl
  refine ⟨h.n1, h.n64, by simpa using hl, ?_, ?_, h.t1, h.le, h.ge, hsm, fun t t1 t2 => by omega⟩
  · rw [g, if_neg (by omega)]; exact ht
  · rw [g, if_pos rfl]
theorem DAlone.pop (h : DAlone n L T B val) (hr : T < B) : ∃ L' o k T' B', ddone 0 n 100 L popOp = (L', o, k) ∧ o.out = 1 ∧ o.v = val (B - 1) ∧ k ≤ 6 ∧ DAlone n L' T' B' val ∧ ((T' = T ∧ B' = B - 1) ∨ (B = T + 1 ∧ T' = B ∧ B' = B)) := by
  have hl := h.len
  have h1 := h.n1
  have hsm := h.small
  have ht := h.top
  have hb := h.bot
  have ht1 := h.t1
  have hm := Nat.mod_lt (B - 1) (show n > 0 by omega)
  have hv := h.has (B - 1) (by omega) (by omega)
  have e1 : dstep 0 n L popOp = (L, ⟨6, 0, 0, 0, B, false⟩) := by
    unfold popOp; rw [ds5, show at_ L ((0 : Int) + 1) = (B : Int) from hb]
  have e2 : dstep 0 n L ⟨6, 0, 0, 0, B, false⟩ = (L.set 1 ((B - 1 : Nat) : Int), ⟨7, 0, 0, 0, B, false⟩) := by rw [ds6, w64_sub B hsm (by omega)]; rfl
  have g1 : ∀ k : Nat, at_ (L.set 1 ((B - 1 : Nat) : Int)) (k : Int) = if k = 1 then ((B - 1 : Nat) : Int) else at_ L (k : Int) := fun k => at_set _ _ _ _ (by omega)
  have t0 : at_ (L.set 1 ((B - 1 : Nat) : Int)) (0 : Int) = T := by have := g1 0; rw [if_neg (by omega)] at this; rw [← ht]; exact this
  have e3 : dstep 0 n (L.set 1 ((B - 1 : Nat) : Int)) ⟨7, 0, 0, 0, B, false⟩ = (L.set 1 ((B - 1 : Nat) : Int), ⟨8, 0, 0, T, B, false⟩) := by
    rw [ds7, t0, w64_sub B hsm (by omega), if_neg (by omega)]
  have hv2 : at_ (L.set 1 ((B - 1 : Nat) : Int)) (dslotOf 0 n (IntKind.u64.wrap ((B : Int) - 1))) = val (B - 1) := by
    rw [w64_sub B hsm (by omega), dslot_nat, g1, if_neg (by omega), hv]
  by_cases hlast : T + 1 = B
  · have e4 : dstep 0 n (L.set 1 ((B - 1 : Nat) : Int)) ⟨8, 0, 0, T, B, false⟩ = (L.set 1 ((B - 1 : Nat) : Int), ⟨9, 0, val (B - 1), T, B, false⟩) := by
      rw [ds8, hv2]
      have : dlast T B = 0 := by unfold dlast; rw [w64_sub B hsm (by omega), if_neg (by omega)]
      rw [this]
    have e5 : dstep 0 n (L.set 1 ((B - 1 : Nat) : Int)) ⟨9, 0, val (B - 1), T, B, false⟩ = ((L.set 1 ((B - 1 : Nat) : Int)).set 0 ((T + 1 : Nat) : Int), ⟨10, 0, val (B - 1), T, B, true⟩) := by
      rw [ds9]
      unfold dswapL dswapB
      rw [if_pos t0, w64_add T (by omega), decide_eq_true t0]
      rfl
    have e6 : dstep 0 n ((L.set 1 ((B - 1 : Nat) : Int)).set 0 ((T + 1 : Nat) : Int)) ⟨10, 0, val (B - 1), T, B, true⟩ = (((L.set 1 ((B - 1 : Nat) : Int)).set 0 ((T + 1 : Nat) : Int)).set 1 (B : Int), ⟨10, 1, val (B - 1), T, B, true⟩) := by rw [ds10]; rfl
    refine ⟨_, _, 6, B, B, ddone_cons rfl e1 (ddone_cons rfl e2 (ddone_cons rfl e3 (ddone_cons rfl e4 (ddone_cons rfl e5 (ddone_cons rfl e6 (ddone_over _ _ _ _ _ (by simp))))))), rfl, rfl, by omega, ?_, .inr ⟨by omega, rfl, rfl⟩⟩
    have g : ∀ k : Nat, at_ (((L.set 1 ((B - 1 : Nat) : Int)).set 0 ((T + 1 : Nat) : Int)).set 1 (B : Int)) (k : Int) = if k = 1 then (B : Int) else if k = 0 then ((T + 1 : Nat) : Int) else at_ L (k : Int) := by
      intro k
      rw [at_set _ _ _ _ (by simp; omega), at_set _ _ _ _ (by simp; omega), g1]
      split
      · rfl
      · split
        · rfl
        · rfl
    refine ⟨h.n1, h.n64, by simpa using hl, ?_, ?_, by omega, Nat.le_refl _, by omega, hsm, fun t t1 t2 => by omega⟩
    · rw [g, if_neg (by omega), if_pos rfl, hlast]
    · rw [g, if_pos rfl]
  · have e4 : dstep 0 n (L.set 1 ((B - 1 : Nat) : Int)) ⟨8, 0, 0, T, B, false⟩ = (L.set 1 ((B - 1 : Nat) : Int), ⟨9, 1, val (B - 1), T, B, false⟩) := by
      rw [ds8, hv2]
      have : dlast T B = 1 := by unfold dlast; rw [w64_sub B hsm (by omega), if_pos (by omega)]
      rw [this]
    refine ⟨_, _, 4, T, B - 1, ddone_cons rfl e1 (ddone_cons rfl e2 (ddone_cons rfl e3 (ddone_cons rfl e4 (ddone_over _ _ _ _ _ (by simp))))), rfl, rfl, by omega, ?_, .inl ⟨rfl, rfl⟩⟩
    refine ⟨h.n1, h.n64, by simpa using hl, ?_, ?_, by omega, by omega, by have := h.ge; omega, by omega, fun t t1 t2 => ?_⟩
    · rw [g1, if_neg (by omega)]; exact ht
    · rw [g1, if_pos rfl]
    · rw [g1, if_neg (by omega)]; exact h.has t t1 (by omega)
end
end Go.Proofs.Ytdoaipjdldknaaa
/-
  A gate that is alone: its cells as tickets; an operation that is done at once (plain lists; no program).
-/
namespace Go.Proofs.Ytdoaipjdldknaaa
open Go.RowKit
set_option linter.unusedVariables false

theorem slot_nat (n T : Nat) : slotOf 0 (n : Int) (T : Int) = ((2 + 2 * (T % n) : Nat) : Int) := by
  unfold slotOf
  have : (T : Int) % (n : Int) = ((T % n : Nat) : Int) := (Int.natCast_emod T n).symm
  rw [this]
  omega
theorem want_nat (n T : Nat) (a : Int) (hT : T ≤ 100000000) (ha : a = 0 ∨ a = 1) : wantOf (n : Int) a (T : Int) = 2 * ((T / n : Nat) : Int) + a := by
  unfold wantOf add64
  rw [IntKind.wrap_u64, IntKind.wrap_u64, ← Int.natCast_ediv]
  have h : T / n ≤ T := Nat.div_le_self _ _
  generalize T / n = q at h
  omega
theorem add64_nat (T : Nat) (hT : T ≤ 1000000000) : add64 (T : Int) 1 = ((T + 1 : Nat) : Int) := by
  unfold add64
  rw [IntKind.wrap_u64]
  omega
theorem add64_want (q a : Nat) (hT : q ≤ 100000000) (ha : a ≤ 1) : add64 (2 * (q : Int) + (a : Int)) 1 = 2 * (q : Int) + ((a + 1 : Nat) : Int) := by
  unfold add64
  rw [IntKind.wrap_u64]
  omega
/-- Two tickets less than n apart lie in different slots. -/
theorem mod_ne {n a b : Nat} (h1 : a < b) (h2 : b < a + n) : a % n ≠ b % n := by
  intro h
  have h3 : (b - a) % n = 0 := Nat.sub_mod_eq_zero_of_mod_eq h.symm
  rw [Nat.mod_eq_of_lt (by omega)] at h3
  omega
theorem mod_ne' {n a b : Nat} (hne : a ≠ b) (h1 : a < b + n) (h2 : b < a + n) : a % n ≠ b % n := by
  rcases Nat.lt_or_ge a b with h | h
  · exact mod_ne h h2
  · exact fun e => mod_ne (show b < a by omega) h1 e.symm

theorem gstep0 {base n : Int} {L : List Int} {o : Gop} (h : o.out = 0) (hp : o.ph = 0) : gstep base n L o = (L, { o with ph := 1, t := at_ L o.cell }) := by simp [gstep, h, hp]
theorem gstep1 {base n : Int} {L : List Int} {o : Gop} (h : o.out = 0) (hp : o.ph = 1) : gstep base n L o = (L, { o with ph := turnPh (at_ L (slotOf base n o.t)) (wantOf n o.ahead o.t), out := turnOut (at_ L (slotOf base n o.t)) (wantOf n o.ahead o.t) o.ahead }) := by simp [gstep, h, hp]
theorem gstep2 {base n : Int} {L : List Int} {o : Gop} (h : o.out = 0) (hp : o.ph = 2) : gstep base n L o = (swapL L o.cell o.t, { o with ph := swapPh L o.cell o.t }) := by simp [gstep, h, hp]
theorem gstep3 {base n : Int} {L : List Int} {o : Gop} (h : o.out = 0) (hp : o.ph = 3) : gstep base n L o = (valL L (slotOf base n o.t) o.ahead o.v, { o with ph := 4, v := valV L (slotOf base n o.t) o.ahead o.v }) := by simp [gstep, h, hp]
theorem gstep4 {base n : Int} {L : List Int} {o : Gop} (h : o.out = 0) (hp : o.ph = 4) : gstep base n L o = (L.set (slotOf base n o.t).toNat (add64 (wantOf n o.ahead o.t) 1), { o with out := 1 }) := by simp [gstep, h, hp]
theorem turn_eq {s wt : Int} (a : Int) (h : s = wt) : turnPh s wt = 2 ∧ turnOut s wt a = 0 := by simp [turnPh, turnOut, h]
theorem turn_gt {s wt : Int} (a : Int) (h : wt < s) : turnPh s wt = 0 ∧ turnOut s wt a = 0 := by
  unfold turnPh turnOut
  rw [if_neg (by omega), if_pos h, if_pos (by omega)]
  exact ⟨rfl, rfl⟩
theorem turn_lt {s wt : Int} (a : Int) (h : s < wt) : turnPh s wt = 1 ∧ turnOut s wt a = if a = 0 then 2 else 4 := by
  unfold turnPh turnOut
  rw [if_neg (by omega), if_neg (by omega), if_neg (by omega)]
  exact ⟨rfl, rfl⟩

theorem gdone_cons {base n : Int} {k j : Nat} {L L1 L2 : List Int} {o o1 o2 : Gop} (h : o.out = 0) (hs : gstep base n L o = (L1, o1)) (hr : gdone base n k L1 o1 = (L2, o2, j)) :
    gdone base n (k + 1) L o = (L2, o2, j + 1) := by
  rw [gdone_succ _ _ _ _ _ h, hs, hr]

structure Alone (n : Nat) (L : List Int) (T H : Nat) (val : Nat → Int) : Prop where
  n1 : 1 ≤ n
  n64 : n ≤ 64
  len : L.length = 2 + 2 * n
  tail : at_ L ((0 : Nat) : Int) = T
  head : at_ L ((1 : Nat) : Int) = H
  le : H ≤ T
  ge : T ≤ H + n
  small : T ≤ 1000000
  full : ∀ t, H ≤ t → t < T → at_ L ((2 + 2 * (t % n) : Nat) : Int) = 2 * ((t / n : Nat) : Int) + 1 ∧ at_ L ((3 + 2 * (t % n) : Nat) : Int) = val t
  free : ∀ t, T ≤ t → t < H + n → at_ L ((2 + 2 * (t % n) : Nat) : Int) = 2 * ((t / n : Nat) : Int)
section
variable {n T H : Nat} {L : List Int} {val : Nat → Int}
theorem Alone.fresh (h1 : 1 ≤ n) (h64 : n ≤ 64) (val : Nat → Int) : Alone n (List.replicate (2 + 2 * n) 0) 0 0 val := by
  have hz : ∀ k : Nat, at_ (List.replicate (2 + 2 * n) 0) (k : Int) = 0 := by
    intro k
    unfold at_
    simp only [List.getD, Int.toNat_natCast, List.getElem?_replicate]
    split <;> rfl
  refine ⟨h1, h64, by simp, by rw [hz]; rfl, by rw [hz]; rfl, Nat.le_refl _, by omega, by omega, fun t h2 h3 => by omega, fun t h2 h3 => ?_⟩
  rw [hz, Nat.div_eq_of_lt (by omega)]
  rfl

/-- The five steps of an operation that goes through. -/
theorem Alone.put (h : Alone n L T H val) (v : Int) (ht : T < H + n) (hs : T + 1 ≤ 1000000) : ∃ L' o k, gdone 0 n 100 L (putOp 0 v) = (L', o, k) ∧ o.out = 1 ∧ k ≤ 5 ∧ Alone n L' (T + 1) H (fun t => if t = T then v else val t) := by
  have hm := Nat.mod_lt T (show n > 0 by have := h.n1; omega)
  have hl := h.len
  have h1 := h.n1
  have hsm := h.small
  have hle := h.le
  have hf := h.free T (Nat.le_refl _) ht
  have hq : T / n ≤ T := Nat.div_le_self _ _
  have hw := want_nat n T 0 (by omega) (.inl rfl)
  have e1 : gstep 0 n L (putOp 0 v) = (L, { (putOp 0 v) with ph := 1, t := T }) := by
    rw [gstep0 rfl rfl]
    show (L, ({ (putOp 0 v) with ph := 1, t := at_ L (0) } : Gop)) = _
    rw [show at_ L 0 = (T : Int) from h.tail]
  have e2 : gstep 0 n L { (putOp 0 v) with ph := 1, t := T } = (L, { (putOp 0 v) with ph := 2, t := T }) := by
    rw [gstep1 rfl rfl]
    show (L, ({ (putOp 0 v) with ph := turnPh (at_ L (slotOf 0 n T)) (wantOf n 0 T), t := T, out := turnOut (at_ L (slotOf 0 n T)) (wantOf n 0 T) 0 } : Gop)) = _
    obtain ⟨s1, s2⟩ := turn_eq 0 (show at_ L (slotOf 0 n T) = wantOf n 0 T by rw [slot_nat, hf, hw]; omega)
    rw [s1, s2]
    rfl
  have e3 : gstep 0 n L { (putOp 0 v) with ph := 2, t := T } = (L.set 0 ((T + 1 : Nat) : Int), { (putOp 0 v) with ph := 3, t := T }) := by
    rw [gstep2 rfl rfl]
    obtain ⟨s1, s2⟩ := swap_yes_of (show at_ L 0 = (T : Int) from h.tail)
    show (swapL L (0) T, ({ (putOp 0 v) with ph := swapPh L (0) T, t := T } : Gop)) = _
    rw [s1, s2, add64_nat T (by omega)]
    rfl
  have e4 : gstep 0 n (L.set 0 ((T + 1 : Nat) : Int)) { (putOp 0 v) with ph := 3, t := T } = ((L.set 0 ((T + 1 : Nat) : Int)).set (3 + 2 * (T % n)) v, { (putOp 0 v) with ph := 4, t := T }) := by
    rw [gstep3 rfl rfl]
    obtain ⟨s1, s2⟩ := val_put_of (L := L.set 0 ((T + 1 : Nat) : Int)) (v := v) (slotOf 0 n T) (show (0 : Int) = 0 from rfl)
    show (valL (L.set 0 ((T + 1 : Nat) : Int)) (slotOf 0 n T) 0 v, ({ (putOp 0 v) with ph := 4, t := T, v := valV (L.set 0 ((T + 1 : Nat) : Int)) (slotOf 0 n T) 0 v } : Gop)) = _
    rw [s1, s2, slot_nat, show (((2 + 2 * (T % n) : Nat) : Int) + 1).toNat = 3 + 2 * (T % n) by omega]
    rfl
  have e5 : gstep 0 n ((L.set 0 ((T + 1 : Nat) : Int)).set (3 + 2 * (T % n)) v) { (putOp 0 v) with ph := 4, t := T } =
      (((L.set 0 ((T + 1 : Nat) : Int)).set (3 + 2 * (T % n)) v).set (2 + 2 * (T % n)) (2 * ((T / n : Nat) : Int) + 1), { (putOp 0 v) with ph := 4, t := T, out := 1 }) := by
    rw [gstep4 rfl rfl]
    show (((L.set 0 ((T + 1 : Nat) : Int)).set (3 + 2 * (T % n)) v).set (slotOf 0 n T).toNat (add64 (wantOf n 0 T) 1), ({ (putOp 0 v) with ph := 4, t := T, out := 1 } : Gop)) = _
    have := add64_want (T / n) 0 (by omega) (by omega)
    rw [slot_nat, hw, Int.toNat_natCast]
    rw [show 2 * ((T / n : Nat) : Int) + 0 = 2 * ((T / n : Nat) : Int) + ((0 : Nat) : Int) by omega, this]
    rfl
  refine ⟨_, _, 5, gdone_cons rfl e1 (gdone_cons rfl e2 (gdone_cons rfl e3 (gdone_cons rfl e4 (gdone_cons rfl e5 (gdone_over _ _ _ _ _ (by simp)))))), rfl, Nat.le_refl _, ?_⟩
  have g : ∀ k : Nat, at_ (((L.set 0 ((T + 1 : Nat) : Int)).set (3 + 2 * (T % n)) v).set (2 + 2 * (T % n)) (2 * ((T / n : Nat) : Int) + 1)) (k : Int) =
      if k = 2 + 2 * (T % n) then 2 * ((T / n : Nat) : Int) + 1 else if k = 3 + 2 * (T % n) then v else if k = 0 then ((T + 1 : Nat) : Int) else at_ L (k : Int) := by
    intro k
    rw [at_set _ _ _ _ (by simp; omega), at_set _ _ _ _ (by simp; omega), at_set _ _ _ _ (by omega)]
  refine ⟨h.n1, h.n64, by simpa using h.len, ?_, ?_, by omega, by omega, by omega, fun t t1 t2 => ?_, fun t t1 t2 => ?_⟩
  · rw [g, if_neg (by omega), if_neg (by omega), if_pos rfl]
  · rw [g, if_neg (by omega), if_neg (by omega), if_neg (by omega)]
    exact h.head
  · by_cases he : t = T
    · subst he
      rw [g, g, if_pos rfl, if_neg (by omega), if_pos rfl, if_pos rfl]
      exact ⟨rfl, rfl⟩
    · have hne := mod_ne' (n := n) he (by omega) (by omega)
      obtain ⟨f1, f2⟩ := h.full t t1 (by omega)
      rw [g, g, if_neg (by omega), if_neg (by omega), if_neg (by omega), if_neg (by omega), if_neg (by omega), if_neg (by omega), if_neg he]
      exact ⟨f1, f2⟩
  · have hne := mod_ne' (n := n) (show t ≠ T by omega) (by omega) (by omega)
    rw [g, if_neg (by omega), if_neg (by omega), if_neg (by omega)]
    exact h.free t (by omega) t2
theorem Alone.put_full (h : Alone n L T H val) (v : Int) (ht : T = H + n) : ∃ o, gdone 0 n 100 L (putOp 0 v) = (L, o, 2) ∧ o.out = 2 := by
  have h1 := h.n1
  have hsm := h.small
  obtain ⟨hf, _⟩ := h.full H (Nat.le_refl _) (by omega)
  have hw := want_nat n T 0 (by omega) (.inl rfl)
  have hm : T % n = H % n := by rw [ht]; simp
  have hd : T / n = H / n + 1 := by rw [ht]; exact Nat.add_div_right _ (by omega)
  have e1 : gstep 0 n L (putOp 0 v) = (L, { (putOp 0 v) with ph := 1, t := T }) := by
    rw [gstep0 rfl rfl]
    show (L, ({ (putOp 0 v) with ph := 1, t := at_ L (0) } : Gop)) = _
    rw [show at_ L 0 = (T : Int) from h.tail]
  have e2 : gstep 0 n L { (putOp 0 v) with ph := 1, t := T } = (L, { (putOp 0 v) with ph := 1, t := T, out := 2 }) := by
    rw [gstep1 rfl rfl]
    show (L, ({ (putOp 0 v) with ph := turnPh (at_ L (slotOf 0 n T)) (wantOf n 0 T), t := T, out := turnOut (at_ L (slotOf 0 n T)) (wantOf n 0 T) 0 } : Gop)) = _
    obtain ⟨s1, s2⟩ := turn_lt 0 (show at_ L (slotOf 0 n T) < wantOf n 0 T by rw [slot_nat, hw, hm, hf, hd]; omega)
    rw [s1, s2]
    rfl
  exact ⟨_, gdone_cons rfl e1 (gdone_cons rfl e2 (gdone_over _ _ _ _ _ (by simp))), rfl⟩
theorem Alone.take (h : Alone n L T H val) (ht : H < T) : ∃ L' o k, gdone 0 n 100 L (takeOp 0) = (L', o, k) ∧ o.out = 1 ∧ gvalue o.ahead o.v o.out = val H ∧ k ≤ 5 ∧ Alone n L' T (H + 1) val := by
  have hm := Nat.mod_lt H (show n > 0 by have := h.n1; omega)
  have hl := h.len
  have h1 := h.n1
  have hsm := h.small
  have hge := h.ge
  obtain ⟨hf, hv⟩ := h.full H (Nat.le_refl _) ht
  have hq : H / n ≤ H := Nat.div_le_self _ _
  have hw := want_nat n H 1 (by omega) (.inr rfl)
  have e1 : gstep 0 n L (takeOp 0) = (L, { (takeOp 0) with ph := 1, t := H }) := by
    rw [gstep0 rfl rfl]
    show (L, ({ (takeOp 0) with ph := 1, t := at_ L (0 + 1) } : Gop)) = _
    rw [show at_ L (0 + 1) = (H : Int) from h.head]
  have e2 : gstep 0 n L { (takeOp 0) with ph := 1, t := H } = (L, { (takeOp 0) with ph := 2, t := H }) := by
    rw [gstep1 rfl rfl]
    show (L, ({ (takeOp 0) with ph := turnPh (at_ L (slotOf 0 n H)) (wantOf n 1 H), t := H, out := turnOut (at_ L (slotOf 0 n H)) (wantOf n 1 H) 1 } : Gop)) = _
    obtain ⟨s1, s2⟩ := turn_eq 1 (show at_ L (slotOf 0 n H) = wantOf n 1 H by rw [slot_nat, hf, hw])
    rw [s1, s2]
    rfl
  have e3 : gstep 0 n L { (takeOp 0) with ph := 2, t := H } = (L.set 1 ((H + 1 : Nat) : Int), { (takeOp 0) with ph := 3, t := H }) := by
    rw [gstep2 rfl rfl]
    obtain ⟨s1, s2⟩ := swap_yes_of (show at_ L (0 + 1) = (H : Int) from h.head)
    show (swapL L (0 + 1) H, ({ (takeOp 0) with ph := swapPh L (0 + 1) H, t := H } : Gop)) = _
    rw [s1, s2, add64_nat H (by omega)]
    rfl
  have g1 : ∀ k : Nat, at_ (L.set 1 ((H + 1 : Nat) : Int)) (k : Int) = if k = 1 then ((H + 1 : Nat) : Int) else at_ L (k : Int) := fun k => at_set _ _ _ _ (by omega)
  have e4 : gstep 0 n (L.set 1 ((H + 1 : Nat) : Int)) { (takeOp 0) with ph := 3, t := H } = (L.set 1 ((H + 1 : Nat) : Int), { (takeOp 0) with ph := 4, t := H, v := val H }) := by
    rw [gstep3 rfl rfl]
    have s1 : valL (L.set 1 ((H + 1 : Nat) : Int)) (slotOf 0 n H) 1 0 = L.set 1 ((H + 1 : Nat) : Int) := rfl
    have s2 : valV (L.set 1 ((H + 1 : Nat) : Int)) (slotOf 0 n H) 1 0 = val H := by
      show at_ (L.set 1 ((H + 1 : Nat) : Int)) (slotOf 0 n H + 1) = val H
      rw [slot_nat, show ((2 + 2 * (H % n) : Nat) : Int) + 1 = ((3 + 2 * (H % n) : Nat) : Int) by omega, g1, if_neg (by omega), hv]
    show (valL (L.set 1 ((H + 1 : Nat) : Int)) (slotOf 0 n H) 1 0, ({ (takeOp 0) with ph := 4, t := H, v := valV (L.set 1 ((H + 1 : Nat) : Int)) (slotOf 0 n H) 1 0 } : Gop)) = _
    rw [s1, s2]
  have e5 : gstep 0 n (L.set 1 ((H + 1 : Nat) : Int)) { (takeOp 0) with ph := 4, t := H, v := val H } =
      ((L.set 1 ((H + 1 : Nat) : Int)).set (2 + 2 * (H % n)) (2 * ((H / n : Nat) : Int) + 2), { (takeOp 0) with ph := 4, t := H, v := val H, out := 1 }) := by
    rw [gstep4 rfl rfl]
    show ((L.set 1 ((H + 1 : Nat) : Int)).set (slotOf 0 n H).toNat (add64 (wantOf n 1 H) 1), ({ (takeOp 0) with ph := 4, t := H, v := val H, out := 1 } : Gop)) = _
    have := add64_want (H / n) 1 (by omega) (by omega)
    rw [slot_nat, hw, Int.toNat_natCast]
    rw [show 2 * ((H / n : Nat) : Int) + 1 = 2 * ((H / n : Nat) : Int) + ((1 : Nat) : Int) by omega, this]
    rfl
  refine ⟨_, _, 5, gdone_cons rfl e1 (gdone_cons rfl e2 (gdone_cons rfl e3 (gdone_cons rfl e4 (gdone_cons rfl e5 (gdone_over _ _ _ _ _ (by simp)))))), rfl, by simp [gvalue, takeOp], Nat.le_refl _, ?_⟩
  have g : ∀ k : Nat, at_ ((L.set 1 ((H + 1 : Nat) : Int)).set (2 + 2 * (H % n)) (2 * ((H / n : Nat) : Int) + 2)) (k : Int) =
      if k = 2 + 2 * (H % n) then 2 * ((H / n : Nat) : Int) + 2 else if k = 1 then ((H + 1 : Nat) : Int) else at_ L (k : Int) := by
    intro k
    rw [at_set _ _ _ _ (by simp; omega), g1]
  refine ⟨h.n1, h.n64, by simpa using h.len, ?_, ?_, by omega, by omega, by omega, fun t t1 t2 => ?_, fun t t1 t2 => ?_⟩
  · rw [g, if_neg (by omega), if_neg (by omega)]
    exact h.tail
  · rw [g, if_neg (by omega), if_pos rfl]
  · have hne := mod_ne' (n := n) (show t ≠ H by omega) (by omega) (by omega)
    obtain ⟨f1, f2⟩ := h.full t (by omega) (by omega)
    rw [g, g, if_neg (by omega), if_neg (by omega), if_neg (by omega), if_neg (by omega)]
    exact ⟨f1, f2⟩
  · by_cases he : t = H + n
    · subst he
      rw [Nat.add_mod_right, Nat.add_div_right _ (by omega), g, if_pos rfl]
      omega
    · have hne := mod_ne' (n := n) (show t ≠ H by omega) (by omega) (by omega)
      rw [g, if_neg (by omega), if_neg (by omega)]
      exact h.free t t1 (by omega)
theorem Alone.take_none (h : Alone n L T H val) (ht : H = T) : ∃ o, gdone 0 n 100 L (takeOp 0) = (L, o, 2) ∧ o.out = 4 := by
  have h1 := h.n1
  have hsm := h.small
  have hf := h.free T (Nat.le_refl _) (by omega)
  have hw := want_nat n H 1 (by omega) (.inr rfl)
  have e1 : gstep 0 n L (takeOp 0) = (L, { (takeOp 0) with ph := 1, t := H }) := by
    rw [gstep0 rfl rfl]
    show (L, ({ (takeOp 0) with ph := 1, t := at_ L (0 + 1) } : Gop)) = _
    rw [show at_ L (0 + 1) = (H : Int) from h.head]
  have e2 : gstep 0 n L { (takeOp 0) with ph := 1, t := H } = (L, { (takeOp 0) with ph := 1, t := H, out := 4 }) := by
    rw [gstep1 rfl rfl]
    show (L, ({ (takeOp 0) with ph := turnPh (at_ L (slotOf 0 n H)) (wantOf n 1 H), t := H, out := turnOut (at_ L (slotOf 0 n H)) (wantOf n 1 H) 1 } : Gop)) = _
    obtain ⟨s1, s2⟩ := turn_lt 1 (show at_ L (slotOf 0 n H) < wantOf n 1 H by rw [slot_nat, hw]; subst ht; rw [hf]; omega)
    rw [s1, s2]
    rfl
  exact ⟨_, gdone_cons rfl e1 (gdone_cons rfl e2 (gdone_over _ _ _ _ _ (by simp))), rfl⟩
end
end Go.Proofs.Ytdoaipjdldknaaa
/-
  Parts of the cells: a step of a part sees its own cells alone, and turns no other (plain lists; no program).
-/
namespace Go.Proofs.Ytdoaipjdldknaaa
open Go.RowKit
set_option linter.unusedVariables false
/-- k cells from b on. -/
def sub (L : List Int) (b k : Nat) : List Int := (L.drop b).take k
theorem sub_len {L : List Int} {b k : Nat} (h : b + k ≤ L.length) : (sub L b k).length = k := by simp [sub]; omega
theorem sub_get (L : List Int) (b k i : Nat) (h : i < k) : (sub L b k)[i]? = L[b + i]? := by simp [sub, h]
theorem sub_out (L : List Int) (b k j : Nat) (h : k ≤ j) : (sub L b k)[j]? = none := List.getElem?_eq_none (by simp [sub]; omega)
theorem at_get (L : List Int) (i : Nat) : at_ L (i : Int) = (L[i]?).getD 0 := by unfold at_; simp [List.getD]
theorem at_sub (L : List Int) (b k i : Nat) (h : i < k) : at_ (sub L b k) (i : Int) = at_ L ((b + i : Nat) : Int) := by rw [at_get, at_get, sub_get L b k i h]
theorem sub_set (L : List Int) (b k i : Nat) (v : Int) (h : i < k) : sub (L.set (b + i) v) b k = (sub L b k).set i v := by
  refine List.ext_getElem? fun j => ?_
  rw [List.getElem?_set]
  by_cases hj : j < k
  · rw [sub_get _ _ _ _ hj, List.getElem?_set]
    by_cases e : i = j
    · subst e
      simp [sub]
      by_cases hl : b + i < L.length
      · rw [if_pos hl, if_pos (by omega)]
      · rw [if_neg hl, if_neg (by omega)]
    · rw [if_neg (by omega), if_neg e, sub_get _ _ _ _ hj]
  · rw [if_neg (by omega), sub_out _ _ _ _ (by omega), sub_out _ _ _ _ (by omega)]
/-- As it was, outside of k cells from b on. -/
structure Agr (L L' : List Int) (b k : Nat) : Prop where
  len : L'.length = L.length
  get : ∀ j, j < b ∨ b + k ≤ j → L'[j]? = L[j]?
theorem Agr.refl (L : List Int) (b k : Nat) : Agr L L b k := ⟨rfl, fun _ _ => rfl⟩
theorem Agr.trans {L L' L'' : List Int} {b k : Nat} (h : Agr L L' b k) (h' : Agr L' L'' b k) : Agr L L'' b k := ⟨h'.len.trans h.len, fun j hj => (h'.get j hj).trans (h.get j hj)⟩
theorem Agr.set {L L' : List Int} {b k i : Nat} (h : Agr L L' b k) (v : Int) (h1 : b ≤ i) (h2 : i < b + k) : Agr L (L'.set i v) b k :=
  ⟨by simpa using h.len, fun j hj => by rw [List.getElem?_set, if_neg (by omega)]; exact h.get j hj⟩
theorem Agr.sub {L L' : List Int} {b k b' k' : Nat} (h : Agr L L' b k) (hd : b' + k' ≤ b ∨ b + k ≤ b') : sub L' b' k' = sub L b' k' := by
  refine List.ext_getElem? fun j => ?_
  by_cases hj : j < k'
  · rw [sub_get _ _ _ _ hj, sub_get _ _ _ _ hj, h.get _ (by omega)]
  · rw [sub_out _ _ _ _ (by omega), sub_out _ _ _ _ (by omega)]
theorem AllU.sub {L : List Int} (h : AllU L) (b k : Nat) : AllU (sub L b k) := fun x hx => h x (List.mem_of_mem_drop (List.mem_of_mem_take hx))
/-- A bell's step. -/
theorem bstep_sub (b n : Nat) (L : List Int) (o : Bop) (ho : BopOk n o) :
    (bstep b n L o).2 = (bstep 0 n (sub L b n) o).2 ∧ sub (bstep b n L o).1 b n = (bstep 0 n (sub L b n) o).1 ∧ Agr L (bstep b n L o).1 b n := by
  obtain ⟨k, who, out⟩ := o
  by_cases h0 : out = 0
  · subst h0
    obtain ⟨q, rfl⟩ := Int.eq_ofNat_of_zero_le (ho.w0 rfl)
    have hq : q < n := by have := ho.w1 rfl; simp at this; omega
    have e1 : at_ (sub L b n) (0 + (q : Int)) = at_ L ((b : Int) + (q : Int)) := by
      rw [Int.zero_add, at_sub L b n q hq]; rfl
    have e2 : ∀ v, sub (L.set ((b : Int) + (q : Int)).toNat v) b n = (sub L b n).set (0 + (q : Int)).toNat v := fun v => by
      rw [show ((b : Int) + (q : Int)).toNat = b + q by omega, show (0 + (q : Int)).toNat = q by omega, sub_set L b n q v hq]
    have e3 : ∀ v, Agr L (L.set ((b : Int) + (q : Int)).toNat v) b n := fun v => (Agr.refl L b n).set v (by omega) (by omega)
    have hk := ho.k
    simp only at hk
    unfold bstep
    simp only [e1, ne_eq, not_true_eq_false, if_false]
    (repeat' split) <;> first | exact ⟨rfl, rfl, Agr.refl _ _ _⟩ | exact ⟨rfl, e2 _, e3 _⟩
  · simp [bstep, h0]
    exact Agr.refl _ _ _
/-- A deque's step. -/
theorem dslot_sub {b n : Nat} {t : Int} (ht : U64 t) (hn : 1 ≤ n) : ∃ i, i < 2 + n ∧ dslotOf 0 n t = (i : Nat) ∧ dslotOf b n t = ((b + i : Nat) : Int) := by
  obtain ⟨-, m1, m2⟩ := u64_mod ht (show (1 : Int) ≤ n by omega)
  refine ⟨2 + (t % n).toNat, by omega, ?_, ?_⟩
  · unfold dslotOf; omega
  · unfold dslotOf; omega
theorem dstep_sub (b n : Nat) (hn : 1 ≤ n) (L : List Int) (o : Dop) (ho : DopOk o) :
    (dstep b n L o).2 = (dstep 0 n (sub L b (2 + n)) o).2 ∧ sub (dstep b n L o).1 b (2 + n) = (dstep 0 n (sub L b (2 + n)) o).1 ∧ Agr L (dstep b n L o).1 b (2 + n) := by
  have a0 : at_ (sub L b (2 + n)) (0 : Int) = at_ L (b : Int) := at_sub L b (2 + n) 0 (by omega)
  have a1 : at_ (sub L b (2 + n)) ((0 : Int) + 1) = at_ L ((b : Int) + 1) := by
    have := at_sub L b (2 + n) 1 (by omega)
    rw [show ((b + 1 : Nat) : Int) = (b : Int) + 1 by omega] at this
    exact this
  have s0 : ∀ v, sub (L.set (b : Int).toNat v) b (2 + n) = (sub L b (2 + n)).set (0 : Int).toNat v := fun v => by
    have := sub_set L b (2 + n) 0 v (by omega)
    simpa using this
  have s1 : ∀ v, sub (L.set ((b : Int) + 1).toNat v) b (2 + n) = (sub L b (2 + n)).set ((0 : Int) + 1).toNat v := fun v => by
    have := sub_set L b (2 + n) 1 v (by omega)
    rw [show ((b : Int) + 1).toNat = b + 1 by omega]
    exact this
  have g0 : ∀ v, Agr L (L.set (b : Int).toNat v) b (2 + n) := fun v => (Agr.refl L b (2 + n)).set v (by omega) (by omega)
  have g1 : ∀ v, Agr L (L.set ((b : Int) + 1).toNat v) b (2 + n) := fun v => (Agr.refl L b (2 + n)).set v (by omega) (by omega)
  have sl : ∀ {t : Int}, U64 t → at_ (sub L b (2 + n)) (dslotOf 0 n t) = at_ L (dslotOf b n t) ∧ (∀ v, sub (L.set (dslotOf b n t).toNat v) b (2 + n) = (sub L b (2 + n)).set (dslotOf 0 n t).toNat v) ∧ ∀ v, Agr L (L.set (dslotOf b n t).toNat v) b (2 + n) := fun ht => by
    obtain ⟨i, hi, e1, e2⟩ := dslot_sub (b := b) ht hn
    refine ⟨by rw [e1, e2]; exact at_sub L b (2 + n) i hi, fun v => by rw [e1, e2, Int.toNat_natCast, Int.toNat_natCast]; exact sub_set L b (2 + n) i v hi, fun v => by rw [e2, Int.toNat_natCast]; exact (Agr.refl L b (2 + n)).set v (by omega) (by omega)⟩
  obtain ⟨k, out, v, t, bb, won⟩ := o
  by_cases h0 : out = 0
  · subst h0
    have hk := ho.k
    simp only at hk
    have hk' : k = 1 ∨ k = 2 ∨ k = 3 ∨ k = 4 ∨ k = 5 ∨ k = 6 ∨ k = 7 ∨ k = 8 ∨ k = 9 ∨ k = 10 ∨ k = 11 ∨ k = 12 ∨ k = 13 ∨ k = 14 := by omega
    obtain ⟨x1, x2, x3⟩ := sl ho.b
    obtain ⟨y1, y2, y3⟩ := sl ho.t
    obtain ⟨z1, z2, z3⟩ := sl (u64_wrap (bb - 1))
    clear hk
    rcases hk' with rfl | rfl | rfl | rfl | rfl | rfl | rfl | rfl | rfl | rfl | rfl | rfl | rfl | rfl
    · rw [ds1, ds1]; exact ⟨by rw [a1], rfl, Agr.refl _ _ _⟩
    · rw [ds2, ds2]; exact ⟨by rw [a0], rfl, Agr.refl _ _ _⟩
    · rw [ds3, ds3]; exact ⟨rfl, x2 v, x3 v⟩
    · rw [ds4, ds4]; exact ⟨rfl, s1 _, g1 _⟩
    · rw [ds5, ds5]; exact ⟨by rw [a1], rfl, Agr.refl _ _ _⟩
    · rw [ds6, ds6]; exact ⟨rfl, s1 _, g1 _⟩
    · rw [ds7, ds7]; exact ⟨by rw [a0], rfl, Agr.refl _ _ _⟩
    · rw [ds8, ds8]; exact ⟨by rw [z1], rfl, Agr.refl _ _ _⟩
    · rw [ds9, ds9]
      unfold dswapL dswapB
      rw [a0]
      by_cases hs : at_ L (b : Int) = t
      · rw [if_pos hs, if_pos hs]; exact ⟨rfl, s0 _, g0 _⟩
      · rw [if_neg hs, if_neg hs]; exact ⟨rfl, rfl, Agr.refl _ _ _⟩
    · rw [ds10, ds10]; exact ⟨rfl, s1 _, g1 _⟩
    · rw [ds11, ds11]; exact ⟨by rw [a0], rfl, Agr.refl _ _ _⟩
    · rw [ds12, ds12]; exact ⟨by rw [a1], rfl, Agr.refl _ _ _⟩
    · rw [ds13, ds13]; exact ⟨by rw [y1], rfl, Agr.refl _ _ _⟩
    · rw [ds14, ds14]
      unfold dswapL dswapB
      rw [a0]
      by_cases hs : at_ L (b : Int) = t
      · rw [if_pos hs, if_pos hs]; exact ⟨rfl, s0 _, g0 _⟩
      · rw [if_neg hs, if_neg hs]; exact ⟨rfl, rfl, Agr.refl _ _ _⟩
  · simp [dstep, h0]
    exact Agr.refl _ _ _
/-- A gate's operation, told from its own beginning. -/
def gsh (b : Int) (o : Gop) : Gop := { o with cell := o.cell - b }
theorem gslot_sub {b n : Nat} {t : Int} (ht : U64 t) (hn : 1 ≤ n) : ∃ i, i + 1 < 2 + 2 * n ∧ slotOf 0 n t = (i : Nat) ∧ slotOf b n t = ((b + i : Nat) : Int) := by
  obtain ⟨-, m1, m2⟩ := u64_mod ht (show (1 : Int) ≤ n by omega)
  refine ⟨2 + 2 * (t % n).toNat, by omega, ?_, ?_⟩
  · unfold slotOf; omega
  · unfold slotOf; omega
theorem gstep_sub (b n : Nat) (hn : 1 ≤ n) (L : List Int) (o : Gop) (len : Nat) (ho : GopOk b len o) (hc : o.cell = b ∨ o.cell = (b : Int) + 1) :
    gsh b (gstep b n L o).2 = (gstep 0 n (sub L b (2 + 2 * n)) (gsh b o)).2 ∧ sub (gstep b n L o).1 b (2 + 2 * n) = (gstep 0 n (sub L b (2 + 2 * n)) (gsh b o)).1 ∧ Agr L (gstep b n L o).1 b (2 + 2 * n) := by
  obtain ⟨ph, cell, ahead, t, v, out⟩ := o
  by_cases h0 : out = 0
  · subst h0
    obtain ⟨c, hc2, hc3⟩ : ∃ c : Nat, c < 2 ∧ cell = ((b + c : Nat) : Int) := by
      rcases hc with hc | hc
      · exact ⟨0, by omega, by simpa using hc⟩
      · exact ⟨1, by omega, by simpa using hc⟩
    subst hc3
    have ec : ((b + c : Nat) : Int) - (b : Int) = ((c : Nat) : Int) := by omega
    obtain ⟨i, hi, e1, e2⟩ := gslot_sub (b := b) ho.t hn
    have q1 := at_sub L b (2 + 2 * n) c (by omega)
    have q2 := at_sub L b (2 + 2 * n) i (by omega)
    have q3 := at_sub L b (2 + 2 * n) (i + 1) (by omega)
    have w1 : ∀ x, sub (L.set (b + c) x) b (2 + 2 * n) = (sub L b (2 + 2 * n)).set c x := fun x => sub_set _ _ _ _ _ (by omega)
    have w2 : ∀ x, sub (L.set (b + i) x) b (2 + 2 * n) = (sub L b (2 + 2 * n)).set i x := fun x => sub_set _ _ _ _ _ (by omega)
    have w3 : ∀ x, sub (L.set (b + i + 1) x) b (2 + 2 * n) = (sub L b (2 + 2 * n)).set (i + 1) x := fun x => sub_set L b (2 + 2 * n) (i + 1) x (by omega)
    have v1 : ∀ x, Agr L (L.set (b + c) x) b (2 + 2 * n) := fun x => (Agr.refl _ _ _).set x (by omega) (by omega)
    have v2 : ∀ x, Agr L (L.set (b + i) x) b (2 + 2 * n) := fun x => (Agr.refl _ _ _).set x (by omega) (by omega)
    have v3 : ∀ x, Agr L (L.set (b + i + 1) x) b (2 + 2 * n) := fun x => (Agr.refl _ _ _).set x (by omega) (by omega)
    have t1 : (((b + c : Nat) : Int)).toNat = b + c := by omega
    have t2 : (((b + i : Nat) : Int)).toNat = b + i := by omega
    have t3 : (((b + i : Nat) : Int) + 1).toNat = b + i + 1 := by omega
    have t4 : ((i : Int) + 1).toNat = i + 1 := by omega
    have p3 : at_ (sub L b (2 + 2 * n)) ((i : Int) + 1) = at_ L (((b + i : Nat) : Int) + 1) := by
      have := q3
      rw [show ((i + 1 : Nat) : Int) = (i : Int) + 1 by omega, show ((b + (i + 1) : Nat) : Int) = ((b + i : Nat) : Int) + 1 by omega] at this
      exact this
    have hp := ho.ph
    simp only at hp e1 e2
    have hg : gsh b ⟨ph, ((b + c : Nat) : Int), ahead, t, v, 0⟩ = ⟨ph, ((c : Nat) : Int), ahead, t, v, 0⟩ := by unfold gsh; simp only [ec]
    rw [hg]
    rcases hp with rfl | rfl | rfl | rfl | rfl
    · rw [gstep0 rfl rfl, gstep0 rfl rfl]
      refine ⟨?_, rfl, Agr.refl _ _ _⟩
      show (⟨1, ((b + c : Nat) : Int) - b, ahead, at_ L ((b + c : Nat) : Int), v, 0⟩ : Gop) = ⟨1, ((c : Nat) : Int), ahead, at_ (sub L b (2 + 2 * n)) ((c : Nat) : Int), v, 0⟩
      rw [ec, q1]
    · rw [gstep1 rfl rfl, gstep1 rfl rfl]
      refine ⟨?_, rfl, Agr.refl _ _ _⟩
      unfold gsh
      simp only [ec, e1, e2, q2]
    · rw [gstep2 rfl rfl, gstep2 rfl rfl]
      unfold gsh swapPh swapL
      simp only [ec, q1, t1, Int.toNat_natCast]
      by_cases hs : at_ L (((b + c : Nat) : Int)) = t
      · simp only [if_pos hs]
        exact ⟨trivial, w1 _, v1 _⟩
      · simp only [if_neg hs]
        exact ⟨trivial, trivial, Agr.refl _ _ _⟩
    · rw [gstep3 rfl rfl, gstep3 rfl rfl]
      unfold gsh valV valL
      simp only [ec, e1, e2, p3, t3, t4]
      by_cases hs : ahead = 0
      · simp only [if_pos hs]
        exact ⟨trivial, w3 _, v3 _⟩
      · simp only [if_neg hs]
        exact ⟨trivial, trivial, Agr.refl _ _ _⟩
    · rw [gstep4 rfl rfl, gstep4 rfl rfl]
      unfold gsh
      simp only [ec, e1, e2, t2, Int.toNat_natCast]
      exact ⟨trivial, w2 _, v2 _⟩
  · simp [gstep, gsh, h0]
    exact Agr.refl _ _ _
end Go.Proofs.Ytdoaipjdldknaaa
