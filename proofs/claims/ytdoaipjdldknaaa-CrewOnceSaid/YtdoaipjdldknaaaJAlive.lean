/-
  A region that draws its order, and whose last operation (number m) waits for all others: the loads are taken first under a condition F that holds till that last one. No program in sight.
-/
import Derived.Deep.RegionHeld
import Derived.Deep.AppendLies
import Derived.Lib.Hide
import Derived.WalkKit
import Derived.Test.YtdoaipjdldknaaaJSub
namespace Go.Proofs.Ytdoaipjdldknaaa
open Go Go.RowKit
set_option linter.unusedVariables false

section
variable {P : Program} {ops : Array Oper} {Q : Exit → Act → World → Prop} {md : Region.Mode} {F : World → Prop} {m : Nat}
/-- Whatever comes up next; F holds behind each but the last one. -/
def wpLast (P : Program) (md : Region.Mode) (ops : Array Oper) (Q : Exit → Act → World → Prop) (F : World → Prop) (m : Nat) : Nat → Array Bool → Act → World → Prop
  | 0, listed, a, w => Region.ready md ops listed = [] ∧ Q .normal a w
  | k + 1, listed, a, w =>
    (Region.ready md ops listed = [] → Q .normal a w) ∧
    ∀ i ∈ Region.ready md ops listed, wpOp P ops Q i (fun a' w' => (i ≠ m → F w') ∧ wpLast P md ops Q F m k (listed.setIfInBounds i true) a' w') a w
theorem wpLast_any : ∀ (k : Nat) (listed : Array Bool) (a : Act) (w : World), wpLast P md ops Q F m k listed a w → wpAny P md ops Q k listed a w
  | 0, _, _, _, h => h
  | k + 1, _, _, _, h => ⟨h.1, fun i hi => wpOp_mono (fun a' w' h' => wpLast_any k _ a' w' h'.2) (h.2 i hi)⟩
/-- The last one waits for number i. -/
def waits (md : Region.Mode) (ops : Array Oper) (m i : Nat) : Bool := match ops[m]? with | some o => o.after.any fun e => e.on == i && Region.binds md e | none => false
theorem waits_not {i : Nat} {listed : Array Bool} (hw : waits md ops m i = true) (hi : i ∈ Region.ready md ops listed) : ¬ m ∈ Region.ready md ops listed := by
  intro hm
  obtain ⟨-, o, ho, hall⟩ := mem_ready.1 hm
  unfold waits at hw
  rw [ho] at hw
  simp only [Array.any_eq_true, Bool.and_eq_true, beq_iff_eq] at hw
  obtain ⟨j, hj, h1, h2⟩ := hw
  have h3 := hall o.after[j] (Array.getElem_mem hj) h2
  rw [h1] at h3
  have h0 := (mem_ready.1 hi).1
  rcases Nat.lt_or_ge i listed.size with h' | h'
  · simp [h'] at h0 h3; rw [h0] at h3; cases h3
  · simp [Array.getElem?_eq_none h'] at h3
theorem wpLast_first {i : Nat} {oi : Oper} {v : Value} (hi : ops[i]? = some oi) (hsel : ∀ (j : Nat) (o : Oper) cs b, ops[j]? = some o → o.op ≠ .select cs b) (hQ : ∀ c a w, Q (.panic c) (a.put oi.dst v) w → Q (.panic c) a w)
    (him : i ≠ m) (hwm : waits md ops m i = true) : ∀ (k : Nat) (listed : Array Bool) (a : Act) (w : World),
      (∀ j oj, ops[j]? = some oj → j ≠ i → listed.getD j true = false → (∀ e ∈ oj.after, Region.binds md e = true → e.on ≠ i) → oi.apart ops oj = true) →
      i ∈ Region.ready md ops listed → YieldsIf P ops F oi v a → F w → wpLast P md ops Q F m k (listed.setIfInBounds i true) (a.put oi.dst v) w → wpLast P md ops Q F m (k + 1) listed a w := by
  intro k
  induction k with
  | zero =>
    intro listed a w _ hr hy hF H
    refine ⟨fun h => (by rw [h] at hr; cases hr), fun j hj => ?_⟩
    by_cases hji : j = i
    · subst hji; exact hy.wpOp hi hF ⟨fun _ => hF, H⟩
    · have := ready_mono hj hji
      rw [H.1] at this
      cases this
  | succ k ih =>
    intro listed a w hfree hr hy hF H
    refine ⟨fun h => (by rw [h] at hr; cases hr), fun j hj => ?_⟩
    by_cases hji : j = i
    · subst hji; exact hy.wpOp hi hF ⟨fun _ => hF, H⟩
    have hjm : j ≠ m := fun e => waits_not hwm hr (e ▸ hj)
    have h1 := H.2 j (ready_mono hj hji)
    obtain ⟨hjun, oj, hoj, hall⟩ := mem_ready.1 hj
    have hnot : ∀ e ∈ oj.after, Region.binds md e = true → e.on ≠ i := fun e he hb heq => by
      have h1 := hall e he hb
      have h0 := (mem_ready.1 hr).1
      rw [heq] at h1
      rcases Nat.lt_or_ge i listed.size with h' | h'
      · simp [h'] at h0 h1; rw [h0] at h1; cases h1
      · simp [Array.getElem?_eq_none h'] at h1
    have h2 := wpOp_putIf hoj (hfree j oj hoj hji hjun hnot) (fun cs b => hsel i oi cs b hi) (fun cs b => hsel j oj cs b hoj) hQ hy h1
    have hfree' : ∀ k ok, ops[k]? = some ok → k ≠ i → (listed.setIfInBounds j true).getD k true = false → (∀ e ∈ ok.after, Region.binds md e = true → e.on ≠ i) → oi.apart ops ok = true := fun k ok hk hki hun hno => by
      refine hfree k ok hk hki ?_ hno
      by_cases hjk : j = k
      · subst hjk; exact hjun
      · rw [getD_set_ne true hjk] at hun; exact hun
    refine wpOp_mono (fun a' w' h3 => ⟨fun _ => h3.2.1 hjm, ih (listed.setIfInBounds j true) a' w' hfree' (ready_mono hr (Ne.symm hji)) h3.1 (h3.2.1 hjm) ?_⟩) h2
    rw [Array.setIfInBounds_comm _ _ hji]
    exact h3.2.2
theorem wpLast_take {i : Nat} {oi : Oper} {v : Value} {k : Nat} {listed : Array Bool} {a : Act} {w : World} (hi : ops[i]? = some oi) (hs : Region.noSelect ops = true) (hf : Region.free md ops listed i = true)
    (hr : (Region.ready md ops listed).contains i = true) (hwm : waits md ops m i = true) (him : i ≠ m) (hQ : ∀ c a w, Q (.panic c) (a.put oi.dst v) w → Q (.panic c) a w) (hy : YieldsIf P ops F oi v a) (hF : F w)
    (h : wpLast P md ops Q F m k (listed.setIfInBounds i true) (a.put oi.dst v) w) : wpLast P md ops Q F m (k + 1) listed a w :=
  wpLast_first hi (Region.noSelect_spec hs) hQ him hwm k listed a w (Region.free_spec hi hf) (by simpa using hr) hy hF h
/-- One alone may come up. -/
theorem wpLast_one {i : Nat} {o : Oper} {k : Nat} {listed : Array Bool} {a : Act} {w : World} (hr : Region.ready md ops listed = [i]) (ho : ops[i]? = some o)
    (h : ∀ K' : Act → World → Prop, Hid (∀ a w, (i ≠ m → F w) → wpLast P md ops Q F m k (listed.setIfInBounds i true) a w → K' a w) → if Region.wanted o (yielded ops a.tmps) = true then Oper.wp P o a w K' Q else K' (a.put o.dst undef) w) :
    wpLast P md ops Q F m (k + 1) listed a w := by
  refine ⟨fun h0 => (by rw [hr] at h0; cases h0), fun j hj => ?_⟩
  rw [hr, List.mem_singleton] at hj
  subst hj
  exact wpOp_step ho (fun K' hK => h K' (Lib.hid fun a w hS hW => hK a w ⟨hS, hW⟩))
theorem wpLast_done {listed : Array Bool} {a : Act} {w : World} (hr : Region.ready md ops listed = []) (h : Q .normal a w) : ∀ k, wpLast P md ops Q F m k listed a w
  | 0 => ⟨hr, h⟩
  | _ + 1 => ⟨fun _ => h, by rw [hr]; simp⟩
theorem wp_region_last {id : Nat} {a : Act} {w : World} (m : Nat) (F : World → Prop) (hm : P.follows .mixedOrders = true) (h : wpLast P .any ops Q F m ops.size (Array.replicate ops.size false) a w.drew) : (Code.region id ops true).wp P Q a w :=
  wp_region_any hm (wpLast_any _ _ _ _ h)
end
end Go.Proofs.Ytdoaipjdldknaaa
/-
  LastG, and where two operations may come up next. No program in sight.
-/
namespace Go.Proofs.Ytdoaipjdldknaaa
open Go Go.RowKit
set_option linter.unusedVariables false
section
variable {P : Program} {ops : Array Oper} {Q : Exit → Act → World → Prop} {md : Region.Mode} {F : World → Prop} {m : Nat}
/-- Two may come up. -/
theorem wpLast_two {i j : Nat} {o o2 : Oper} {k : Nat} {listed : Array Bool} {a : Act} {w : World} (hr : Region.ready md ops listed = [i, j]) (ho : ops[i]? = some o) (ho2 : ops[j]? = some o2)
    (h : ∀ K' : Act → World → Prop, Hid (∀ a w, (i ≠ m → F w) → wpLast P md ops Q F m k (listed.setIfInBounds i true) a w → K' a w) → if Region.wanted o (yielded ops a.tmps) = true then Oper.wp P o a w K' Q else K' (a.put o.dst undef) w)
    (h2 : ∀ K' : Act → World → Prop, Hid (∀ a w, (j ≠ m → F w) → wpLast P md ops Q F m k (listed.setIfInBounds j true) a w → K' a w) → if Region.wanted o2 (yielded ops a.tmps) = true then Oper.wp P o2 a w K' Q else K' (a.put o2.dst undef) w) :
    wpLast P md ops Q F m (k + 1) listed a w := by
  refine ⟨fun h0 => (by rw [hr] at h0; cases h0), fun x hx => ?_⟩
  rw [hr, List.mem_cons, List.mem_singleton] at hx
  rcases hx with rfl | rfl
  · exact wpOp_step ho (fun K' hK => h K' (Lib.hid fun a w hS hW => hK a w ⟨hS, hW⟩))
  · exact wpOp_step ho2 (fun K' hK => h2 K' (Lib.hid fun a w hS hW => hK a w ⟨hS, hW⟩))
end
end Go.Proofs.Ytdoaipjdldknaaa
/-
  troupelaw20.alive answers true, and turns nothing that was there.
-/
namespace Go.Proofs.Ytdoaipjdldknaaa
open Go.RowKit
set_option linter.unusedVariables false
def aF : CLay := ⟨0, 2, 4, 4⟩
theorem aF_ok : aF.Ok := ⟨by decide, by decide, by decide, by decide, by decide, by decide⟩
def aL0 : List Int := layC (List.replicate 100 0) aF
def aL1 : List Int := (cdone aF 200 aL0 (offerC aF 0 7)).1
theorem aV1 : cdoneV (cdone aF 200 aL0 (offerC aF 0 7)) = .tuple #[.int .i64 1, .int .u64 0, .int .i64 6] := by kernel_rfl
theorem aN1 : (((cdone aF 200 aL0 (offerC aF 0 7)).2.2 : Nat) : Int) = 6 := by kernel_rfl
def aL2 : List Int := (cdone aF 200 aL1 (findC aF 1 (ordZ (0:Int).toNat aF.n 1))).1
theorem aV2 : cdoneV (cdone aF 200 aL1 (findC aF 1 (ordZ (0:Int).toNat aF.n 1))) = .tuple #[.int .i64 1, .int .u64 7, .int .i64 10] := by kernel_rfl
theorem aN2 : (((cdone aF 200 aL1 (findC aF 1 (ordZ (0:Int).toNat aF.n 1))).2.2 : Nat) : Int) = 10 := by kernel_rfl
def aL3 : List Int := (cdone aF 200 aL2 (restC aF 1)).1
theorem aV3 : cdoneV (cdone aF 200 aL2 (restC aF 1)) = .tuple #[.int .i64 4, .int .u64 0, .int .i64 3] := by kernel_rfl
theorem aN3 : (((cdone aF 200 aL2 (restC aF 1)).2.2 : Nat) : Int) = 3 := by kernel_rfl
def aL4 : List Int := (cdone aF 200 aL3 (offerC aF (-1) 8)).1
theorem aV4 : cdoneV (cdone aF 200 aL3 (offerC aF (-1) 8)) = .tuple #[.int .i64 1, .int .u64 0, .int .i64 8] := by kernel_rfl
theorem aN4 : (((cdone aF 200 aL3 (offerC aF (-1) 8)).2.2 : Nat) : Int) = 8 := by kernel_rfl
def aL5 : List Int := (cdone aF 200 aL4 (pollC aF 1)).1
theorem aV5 : cdoneV (cdone aF 200 aL4 (pollC aF 1)) = .tuple #[.int .i64 1, .int .u64 0, .int .i64 1] := by kernel_rfl
theorem aN5 : (((cdone aF 200 aL4 (pollC aF 1)).2.2 : Nat) : Int) = 1 := by kernel_rfl
def aL6 : List Int := (cdone aF 200 aL5 (findC aF 1 (ordZ (0:Int).toNat aF.n 1))).1
theorem aV6 : cdoneV (cdone aF 200 aL5 (findC aF 1 (ordZ (0:Int).toNat aF.n 1))) = .tuple #[.int .i64 1, .int .u64 8, .int .i64 9] := by kernel_rfl
theorem aN6 : (((cdone aF 200 aL5 (findC aF 1 (ordZ (0:Int).toNat aF.n 1))).2.2 : Nat) : Int) = 9 := by kernel_rfl
set_option maxRecDepth 100000 in
set_option maxHeartbeats 4000000 in
theorem alive20_any (w : World) : Calls Try.prog 5 #[] w fun e w' => e = .returned (.bool true) ∧ Only S0 w w' := by
  go_enter Try.func5, Try.ntmps5
  go_wp2_with fail
  refine (New_any 100).mono ?_
  rintro e w1 ⟨bm, bc, rfl, h1, p1, b1, b2⟩
  rw [show countOf 100 = 100 from by decide] at h1
  go_wp2_with fail
  refine (CMake_good aF aF_ok h1 (few_of _ (by decide)) (allU_zero _) (by rw [List.length_replicate]; decide)).mono ?_
  rintro e w2 ⟨cb, bb, bg, dv, bd, rfl, he, p2, -, -, -, -⟩
  have P0 := hide (S0.then2 p1 p2 b1 b2)
  have E0 := hide (show CEnv w2 aF cb bb bg bm bc dv bd 24 aL0 from he)
  clear h1 p1 he p2
  go_wp2_with fail
  refine (Offer_all 0 7 ⟨by decide, by decide⟩ E0.out).mono ?_
  rintro e w5 ⟨co, rfl, h1, h2, h3, h4, h5⟩
  have H1 := hide h1
  have H2 := hide h2
  have H3 := hide h3
  have H5 := hide h5
  clear h1 h2 h3 h4 h5
  go_wp2_with fail
  refine (cdone_any H2.out H5.out H1.out H3.out.size (few_of _ (by decide))).mono ?_
  rintro e w6 ⟨rfl, he6, o6, -⟩
  rw [aN1] at he6
  rw [aV1]
  have P1 := hide ((P0.out.trans H3.out).then o6 (fun i hi h => by have := P0.out.size; rcases h with h | h | h <;> omega))
  have E1 := hide (show CEnv w6 aF cb bb bg bm bc dv bd 30 aL1 from he6)
  clear he6 o6 H1 H2 H3 H5 P0 E0
  go_wp2_with fail
  refine (Find_all 1 0 u64_zero E1.out).mono ?_
  rintro e w5 ⟨co, rfl, h1, h2, h3, h4, h5⟩
  have H1 := hide h1
  have H2 := hide h2
  have H3 := hide h3
  have H5 := hide h5
  clear h1 h2 h3 h4 h5
  go_wp2_with fail
  refine (cdone_any H2.out H5.out H1.out H3.out.size (few_of _ (by decide))).mono ?_
  rintro e w6 ⟨rfl, he6, o6, -⟩
  rw [aN2] at he6
  rw [aV2]
  have P2 := hide ((P1.out.trans H3.out).then o6 (fun i hi h => by have := P1.out.size; rcases h with h | h | h <;> omega))
  have E2 := hide (show CEnv w6 aF cb bb bg bm bc dv bd 40 aL2 from he6)
  clear he6 o6 H1 H2 H3 H5 P1 E1
  go_wp2_with fail
  refine (Rest_all 1 E2.out).mono ?_
  rintro e w5 ⟨co, rfl, h1, h2, h3, h4, h5⟩
  have H1 := hide h1
  have H2 := hide h2
  have H3 := hide h3
  have H5 := hide h5
  clear h1 h2 h3 h4 h5
  go_wp2_with fail
  refine (cdone_any H2.out H5.out H1.out H3.out.size (few_of _ (by decide))).mono ?_
  rintro e w6 ⟨rfl, he6, o6, -⟩
  rw [aN3] at he6
  rw [aV3]
  have P3 := hide ((P2.out.trans H3.out).then o6 (fun i hi h => by have := P2.out.size; rcases h with h | h | h <;> omega))
  have E3 := hide (show CEnv w6 aF cb bb bg bm bc dv bd 43 aL3 from he6)
  clear he6 o6 H1 H2 H3 H5 P2 E2
  go_wp2_with fail
  refine (Offer_all (-1) 8 ⟨by decide, by decide⟩ E3.out).mono ?_
  rintro e w5 ⟨co, rfl, h1, h2, h3, h4, h5⟩
  have H1 := hide h1
  have H2 := hide h2
  have H3 := hide h3
  have H5 := hide h5
  clear h1 h2 h3 h4 h5
  go_wp2_with fail
  refine (cdone_any H2.out H5.out H1.out H3.out.size (few_of _ (by decide))).mono ?_
  rintro e w6 ⟨rfl, he6, o6, -⟩
  rw [aN4] at he6
  rw [aV4]
  have P4 := hide ((P3.out.trans H3.out).then o6 (fun i hi h => by have := P3.out.size; rcases h with h | h | h <;> omega))
  have E4 := hide (show CEnv w6 aF cb bb bg bm bc dv bd 51 aL4 from he6)
  clear he6 o6 H1 H2 H3 H5 P3 E3
  go_wp2_with fail
  refine (Poll_all 1 E4.out).mono ?_
  rintro e w5 ⟨co, rfl, h1, h2, h3, h4, h5⟩
  have H1 := hide h1
  have H2 := hide h2
  have H3 := hide h3
  have H5 := hide h5
  clear h1 h2 h3 h4 h5
  go_wp2_with fail
  refine (cdone_any H2.out H5.out H1.out H3.out.size (few_of _ (by decide))).mono ?_
  rintro e w6 ⟨rfl, he6, o6, -⟩
  rw [aN5] at he6
  rw [aV5]
  have P5 := hide ((P4.out.trans H3.out).then o6 (fun i hi h => by have := P4.out.size; rcases h with h | h | h <;> omega))
  have E5 := hide (show CEnv w6 aF cb bb bg bm bc dv bd 52 aL5 from he6)
  clear he6 o6 H1 H2 H3 H5 P4 E4
  go_wp2_with fail
  refine (Find_all 1 0 u64_zero E5.out).mono ?_
  rintro e w5 ⟨co, rfl, h1, h2, h3, h4, h5⟩
  have H1 := hide h1
  have H2 := hide h2
  have H3 := hide h3
  have H5 := hide h5
  clear h1 h2 h3 h4 h5
  go_wp2_with fail
  refine (cdone_any H2.out H5.out H1.out H3.out.size (few_of _ (by decide))).mono ?_
  rintro e w6 ⟨rfl, he6, o6, -⟩
  rw [aN6] at he6
  rw [aV6]
  have P6 := hide ((P5.out.trans H3.out).then o6 (fun i hi h => by have := P5.out.size; rcases h with h | h | h <;> omega))
  have E6 := hide (show CEnv w6 aF cb bb bg bm bc dv bd 61 aL6 from he6)
  clear he6 o6 H1 H2 H3 H5 P5 E5
  go_wp2_with fail
  go_ret
  exact ⟨rfl, P6.out⟩
end Go.Proofs.Ytdoaipjdldknaaa
