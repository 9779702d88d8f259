/-
  CrewOnce: how it begins, how much is left at most, and how it ends (plain lists; no program).
-/
import Derived.Test.YtdoaipjdldknaaaKO10
namespace Go.Proofs.Ytdoaipjdldknaaa
open Go.RowKit
set_option linter.unusedVariables false
section
variable {n s p T H c nx : Nat} {r : Int} {L L' : List Int} {o : Nat → CSt} {ph : Nat → Nat} {lf : Nat → Int} {fd ps : List Int} {S S' : Nat → List Int} {M M' : Nat → Int} {st' : CSt} {H' : Nat} {pw : Prop}
theorem ew_le (v : Int) : ew v ≤ 7 := by unfold ew; (repeat' split) <;> omega
theorem Wl_le7 (v : Int) : Wl v ≤ 7 := by unfold Wl; split; · exact ew_le _
                                          · omega
theorem dist_le {k : Nat} {l m : Int} {st : CSt} {Sp : List Int} (hn : n ≤ 4) (hsh : Sh n p k st Sp m) (hok : CStOk (crewF n s) 1000 st) : dist n H k l m st ≤ 700 * (wl (fun _ => 1) (hand k st) + pend k st) + 100 := by
  have hD := Dp_le m
  cases hsh with
  | fpop d rs _ h5 h6 h7 h8 =>
    show (if d.k ≤ 10 then (11 - d.k) + 4 * (((Src.take :: rs).length : Int) - 1) + 11 else (15 - d.k) + 4 * ((Src.take :: rs).length : Int) + 6) ≤ 700 * (0 + 0) + 100
    rw [List.length_cons]
    split <;> omega
  | ftk g rs h7 h8 =>
    have hph := hok.2.1.ph
    show dg H g + 4 * (rs.length : Int) + 6 ≤ 700 * (wl _ (handG g) + 0) + 100
    unfold dg handG
    rcases hph with e | e | e | e | e <;> simp [e, wl] <;> (try split) <;> omega
  | fst v d rs h5 h6 h7 h8 =>
    have := hok.2.1.k
    show (if d.k ≤ 10 then (11 - d.k) + 4 * ((rs.length : Int) - 1) + 11 else (15 - d.k) + 4 * (rs.length : Int) + 6) ≤ 700 * (0 + 0) + 100
    split <;> omega
  | fyes v => have := Wl_le7 v; have := Nf_le v; show 100 * Wl v + Nf v ≤ 700 * ((1 + 0) + 0) + 100; omega
  | ryes v => have := Wl_le7 v; have := Nf_le v; show 100 * Wl v + Nf v ≤ 700 * ((1 + 0) + 0) + 100; omega
  | rtk g =>
    have hph := hok.2.1.ph
    show dg H g + Dp m ≤ 700 * (wl _ (handG g) + 0) + 100
    unfold dg handG
    rcases hph with e | e | e | e | e <;> simp [e, wl] <;> (try split) <;> omega
  | rup t => show (700 : Int) ≤ 700 * ((1 + 0) + 0) + 100; omega
  | opu v d h4 => have := ew_le v; have := hok.2.1.k; show (5 - d.k) + 67 + 100 * ew v ≤ 700 * ((1 + 0) + 0) + 100; omega
  | org k' q => show 2 * ((n : Int) - (q : Nat)) - (if k' = 4 then 1 else 0) + 59 ≤ 700 * (0 + 0) + 100; split <;> omega
  | o0 => have := ew_le l; show 71 + 100 * ew l ≤ 700 * (0 + 1) + 100; omega
  | f0 => show (29 : Int) ≤ 700 * (0 + 0) + 100; omega
  | fno => show (6 : Int) ≤ 700 * (0 + 0) + 100; omega
  | r0 => show (6 : Int) ≤ 700 * (0 + 0) + 100; omega
  | rsl => show (6 : Int) ≤ 700 * (0 + 0) + 100; omega
  | rno => show Dp m ≤ 700 * (0 + 0) + 100; omega
  | p0 => show Dp m ≤ 700 * (0 + 0) + 100; omega
  | ppl => show Dp m ≤ 700 * (0 + 0) + 100; omega
  | pyes => show (29 : Int) ≤ 700 * (0 + 0) + 100; omega
  | pno => show Dp m ≤ 700 * (0 + 0) + 100; omega
  | oend => show (29 : Int) ≤ 700 * (0 + 0) + 100; omega
theorem BI.psi0 (h : BI n s r L o ph lf nx fd ps c T H S M) : Psi n T H o ph lf S M ≤ 50000 := by
  unfold Psi
  rw [wl_const 710]
  have hn := h.ci.n4
  have h1 := sumW_le (n := n) (f := fun i => dist n H (ph i) (lf i) (M i) (o i) + wl (fun x => 100 * ew x) (S i)) (g := fun i => 700 * ((wl (fun _ => 1) (hand (ph i) (o i)) + wl (fun _ => 1) (S i)) + pend (ph i) (o i)) + 100) (fun i hi => by
    have a := dist_le (H := H) (l := lf i) hn (h.ci.sh i hi) (h.ci.ok i (by omega))
    have b := wl_le (w := fun x => 100 * ew x) (w' := fun _ => 700) (fun x => by have := ew_le x; omega) (S i)
    rw [wl_const 700] at b
    rw [Int.mul_add] at a ⊢
    rw [Int.mul_add]
    omega)
  have e6 := sumW_add n (fun i => 700 * ((wl (fun _ => 1) (hand (ph i) (o i)) + wl (fun _ => 1) (S i)) + pend (ph i) (o i))) (fun _ => 100)
  rw [sumW_mul, sumW_const, sumW_add n (fun i => wl (fun _ => 1) (hand (ph i) (o i)) + wl (fun _ => 1) (S i)) (fun i => pend (ph i) (o i))] at e6
  have h2 := h.few
  have h3 := wl_nonneg (w := fun _ => (1 : Int)) (fun _ => by omega) (handO (o n))
  have h4 := wl_nonneg (w := fun _ => (1 : Int)) (fun _ => by omega) (inD H T tv)
  have h5 : 0 ≤ sumW n (fun i => wl (fun _ => (1 : Int)) (hand (ph i) (o i)) + wl (fun _ => (1 : Int)) (S i)) := sumW_nonneg fun i hi => by
    have := wl_nonneg (w := fun _ => (1 : Int)) (fun _ => by omega) (hand (ph i) (o i))
    have := wl_nonneg (w := fun _ => (1 : Int)) (fun _ => by omega) (S i)
    omega
  have h6 : 0 ≤ sumW n (fun i => pend (ph i) (o i)) := sumW_nonneg fun i hi => by unfold pend; split <;> (try split) <;> omega
  omega
/-- All sleep: what was offered was found. -/
theorem BI.final (h : BI n s r L o ph lf nx fd ps c T H S M) (hall : ∀ p, p < n → ph p = 2 ∧ o p = idleC ∧ M p = 1) (ho : o n = idleC) (w : Int → Int) : wl w ps = wl w fd := by
  have hTH : T = H := by
    rcases h.wake (fun w hw => ⟨(hall w hw).2.2, .inl (hall w hw).1⟩) with e | e
    · exact e
    · rw [ho] at e
      rcases e with e | ⟨b, e⟩
      · exact absurd e idleG_own
      · unfold idleC at e; cases e
  have hk := h.keep w
  have hz : sumW n (fun i => wl w (hand (ph i) (o i)) + wl w (S i)) = 0 := by
    have : sumW n (fun i => wl w (hand (ph i) (o i)) + wl w (S i)) = sumW n (fun _ => 0) := sumW_eq fun i hi => by
      obtain ⟨a, b, d⟩ := hall i hi
      have hsh := h.ci.sh i hi
      rw [a, b, d] at hsh
      have hS : S i = [] := by
        obtain ⟨q, hq⟩ : ∃ q, S i = q := ⟨_, rfl⟩
        rw [hq] at hsh
        rw [hq]
        generalize hx : idleC = st at hsh
        cases hsh <;> first | rfl | cases hx
      rw [b, hand_idle, hS]; rfl
    rw [this, sumW_const]; omega
  rw [hz, ho, hTH, inD_nil tv (Nat.le_refl _)] at hk
  have e1 : wl w (handO idleC) = 0 := rfl
  have e2 : wl w [] = 0 := rfl
  omega
end
theorem osub_layD (L : List Int) (b k m : Nat) (h : k ≤ m) : sub (layD L b k) b m = layD (sub L b m) 0 k := by
  induction k with
  | zero => rfl
  | succ k ih =>
    simp only [layD]
    rw [sub_set _ _ _ _ _ (by omega), ih (by omega), Nat.zero_add]
theorem osub_rep (n b k : Nat) (h : b + k ≤ n) : sub (List.replicate n (0 : Int)) b k = List.replicate k 0 := by
  refine List.ext_getElem? fun j => ?_
  by_cases hj : j < k
  · rw [sub_get _ _ _ _ hj, List.getElem?_replicate, List.getElem?_replicate, if_pos hj, if_pos (by omega)]
  · rw [sub_out _ _ _ _ (by omega), List.getElem?_replicate, if_neg hj]
theorem olayD_agr (L : List Int) (b k : Nat) : Agr L (layD L b k) b k := by
  have : ∀ j m, j ≤ m → Agr L (layD L b j) b m := by
    intro j m hm
    induction j with
    | zero => exact Agr.refl _ _ _
    | succ j ih => exact (ih (by omega)).set _ (by omega) (by omega)
  exact this k k (Nat.le_refl _)
theorem layDs_low (L : List Int) (n s k j : Nat) (hj : j < n + 130) : (layDs L (crewF n s).db s k)[j]? = L[j]? := by
  induction k with
  | zero => rfl
  | succ k ih =>
    rw [layDs, (olayD_agr _ _ _).get j (.inl (by rw [cf_db]; omega)), ih]
theorem layDs_at (n s k i m : Nat) (hi : i < k) (hm : ∀ j, j < k → (crewF n s).db j + (2 + s) ≤ m) : sub (layDs (List.replicate m 0) (crewF n s).db s k) ((crewF n s).db i) (2 + s) = layD (List.replicate (2 + s) 0) 0 (2 + s) := by
  have hout : ∀ k i, k ≤ i → i < k + 1 → ((crewF n s).db i + (2 + s) ≤ m) → sub (layDs (List.replicate m 0) (crewF n s).db s k) ((crewF n s).db i) (2 + s) = List.replicate (2 + s) 0 := by
    intro k i hk hk2 hm
    have : ∀ k', k' ≤ k → sub (layDs (List.replicate m 0) (crewF n s).db s k') ((crewF n s).db i) (2 + s) = List.replicate (2 + s) 0 := by
      intro k' hk'
      induction k' with
      | zero => exact osub_rep _ _ _ hm
      | succ k' ih => rw [layDs, (olayD_agr _ _ _).sub (db_apart n s (by omega))]; exact ih (by omega)
    exact this k (Nat.le_refl _)
  induction k with
  | zero => omega
  | succ k ih =>
    rw [layDs]
    by_cases e : i = k
    · subst e
      rw [osub_layD _ _ _ _ (Nat.le_refl _), hout i i (Nat.le_refl _) (by omega) (hm i (by omega))]
    · rw [(olayD_agr _ _ _).sub (db_apart n s e)]
      exact ih (by omega) (fun j hj => hm j (by omega))
theorem at_rep (m : Nat) (i : Int) : at_ (List.replicate m 0) i = 0 := by
  unfold at_
  rw [List.getD_eq_getElem?_getD, List.getElem?_replicate]
  split <;> rfl
theorem BI.start (n s : Nat) (n1 : 1 ≤ n) (n4 : n ≤ 4) (s1 : 1 ≤ s) (s4 : s ≤ 4) (r : Int) (hr : (r = 1 ∧ n = 1) ∨ (r = 2 ∧ 2 ≤ n)) :
    BI n s r (layC (List.replicate 1000 0) (crewF n s)) (fun _ => idleC) (fun _ => 0) (fun _ => 0) 0 [] [] 0 0 0 (fun _ => []) (fun _ => 0) := by
  have hL : layC (List.replicate 1000 0) (crewF n s) = layDs (List.replicate 1000 0) (crewF n s).db s n := by unfold layC; rw [zeroL_rep, zeroL_rep]; rfl
  have hdb : ∀ i, i < n → (crewF n s).db i + (2 + s) ≤ 1000 := fun i hi => by
    rw [cf_db]
    have : (i + 1) * (2 + s) ≤ 4 * 6 := Nat.mul_le_mul (by omega) (by omega)
    rw [Nat.add_mul, Nat.one_mul] at this
    omega
  have hsz : ∀ w : Int → Int, sumW n (fun i => wl w (hand 0 idleC) + wl w []) = 0 := fun w => by
    have : sumW n (fun i => wl w (hand 0 idleC) + wl w []) = sumW n (fun _ => 0) := sumW_eq fun i hi => by rw [hand_idle]; rfl
    rw [this, sumW_const]; omega
  have hgs : sub (layC (List.replicate 1000 0) (crewF n s)) (crewF n s).gb 130 = List.replicate 130 0 := by
    refine List.ext_getElem? fun j => ?_
    by_cases hj : j < 130
    · rw [sub_get _ _ _ _ hj, hL, layDs_low _ _ _ _ _ (by rw [cf_gb]; omega), List.getElem?_replicate, List.getElem?_replicate, if_pos hj, if_pos (by rw [cf_gb]; omega)]
    · rw [sub_out _ _ _ _ (by omega), List.getElem?_replicate, if_neg hj]
  have hz130 : ∀ t, tn 64 (List.replicate 130 0) t = 0 := fun t => at_rep _ _
  refine ⟨⟨n1, n4, s1, s4, by rw [layC_len, List.length_replicate], layC_u _ _ (allU_zero _), fun j hj => ⟨by decide, u64_zero⟩, fun w hw => ⟨?_, .inl rfl⟩, ?_, fun i hi => ?_, fun i hi => Nat.zero_le _, fun p hp => .f0 _, .idle, Nat.zero_le _⟩, hr, fun x hx => (by cases hx), fun p hp e => (by omega), fun w => ?_, rfl, by omega, ?_, ?_, fun _ => .inl rfl, fun v g e => (by unfold idleC at e; cases e)⟩
  · rw [hL, at_get, layDs_low _ _ _ _ _ (by omega), ← at_get]; exact at_rep _ _
  · rw [hgs]
    refine ⟨⟨⟨by omega, by omega, by simp, at_rep _ _, at_rep _ _, Nat.le_refl _, by omega, fun t _ => by rw [hz130]; unfold qn; omega, fun t ht => by omega, fun t _ => by rw [hz130]; unfold qn; omega, fun t ht => by omega⟩, fun i hi => ⟨.inr ⟨rfl, rfl⟩, .inl rfl, u64_zero, 0, rfl, Nat.zero_le _, fun _ => Nat.zero_le _, fun h9 => absurd h9 (show ¬ (4 : Int) = 0 by decide), fun h9 => absurd h9 (show ¬ (4 : Int) = 0 by decide)⟩, fun i j hi hj hij h1 => absurd h1 idleG_own⟩, allU_zero _, fun i hi => rfl, fun h9 => absurd h9 (show ¬ (4 : Int) = 0 by decide), fun h9 => absurd h9 (show ¬ (4 : Int) = 0 by decide), fun t ht => by omega, fun h9 => absurd h9 (show ¬ (4 : Int) = 0 by decide), fun i hi h9 => absurd h9 (show ¬ (4 : Int) = 0 by decide), fun t ht => by omega, fun t ht => by omega⟩
  · rw [hL, layDs_at n s n i 1000 hi hdb]
    have hd := layD_alone s1 (show s ≤ 64 by omega) (fun _ => (0 : Int))
    exact ⟨1, 1, 1, fun _ => 0, [], ⟨hd.n1, hd.n64, hd.len, hd.top, hd.bot, hd.t1, hd.le, hd.ge, hd.small, hd.has⟩, by omega, by rw [inD_nil _ (Nat.le_refl _)]; rfl, fun o ho => (by cases ho), fun _ => ⟨rfl, rfl⟩, fun j hj hji x hx => (by cases hx)⟩
  · have := hsz w
    have e1 : wl w (handO idleC) = 0 := rfl
    have e2 : wl w ([] : List Int) = 0 := rfl
    rw [inD_nil tv (Nat.le_refl _)]
    omega
  · unfold Debt
    rw [inD_nil tv (Nat.le_refl _)]
    have : sumW n (fun i => ex r 0 0 idleC + wl (Wn r) []) = 0 := by rw [sumW_const]; show (n : Int) * (0 + 0) = 0; omega
    have e1 : exO r idleC = 0 := rfl
    have e2 : wl (fun _ => 27 + 2 * r) ([] : List Int) = 0 := rfl
    show (32 + 3 * r) * ((0 : Nat) : Int) ≤ ((0 : Nat) : Int) + (wl (fun _ => 27 + 2 * r) [] + sumW n (fun i => ex r 0 0 idleC + wl (Wn r) [])) + exO r idleC
    rw [this, e1, e2]
    simp
  · have := hsz (fun _ => 1)
    have e3 : sumW n (fun i => pend 0 idleC) = 0 := by rw [sumW_const]; show (n : Int) * 0 = 0; omega
    rw [inD_nil tv (Nat.le_refl _), e3]
    have e1 : wl (fun _ => (1 : Int)) (handO idleC) = 0 := rfl
    have e2 : wl (fun _ => (1 : Int)) ([] : List Int) = 0 := rfl
    omega
end Go.Proofs.Ytdoaipjdldknaaa
