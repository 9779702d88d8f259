/-
  CellsApart: whatever the input, the call returns true and turns nothing that was there. No condition.
-/
import Derived.Test.YtdaddbkhdalcfaaRows
import Derived.Test.YtdaddbkhdalcfaaOpen
import Derived.Test.YtdaddbkhdalcfaaCellsApartW
import Derived.ShutString
import Derived.Carry
import Derived.Lib.SmallJoins
import Derived.Laws.IdiomArrays
namespace Go.Proofs.Ytdaddbkhdalcfaa.cellsApart
open Go.ChangeShapes Go.WideShapes Go.ChangeAt Go.RowKit Go.Joins Go.Deep
open Go.ChangeMaps (open_string shut_string)
set_option linter.unusedVariables false

theorem own : ownKnob Try.prog.godebug = none := by kernel_rfl
theorem laidOut : laidOutB Try.prog = true := by kernel_rfl
set_option maxRecDepth 100000 in
theorem lifted (os : Os) (started : os.Started) (H : Type) (enc : TypeId × Value → H) :
    ReturnsInHanded {} Try.checked os 7 .any (Rows.cellsApartSpec.pre6 enc Try.prog Try.f7 Rows.cellsApartRow.domain false) (Rows.cellsApartSpec.post enc Try.prog Try.f7 false true false false) := by
  refine returnsInHanded_of_change_sized (C := Try.checked) own started (by kernel_rfl) Try.func7
    (ChangeSpec.witness6 (enc := enc) (C := Try.checked) false ⟨#[], #[.slice none 0 0, .agg #[.int .u8 0, .int .i64 0, .int .u64 0, .int .u64 0]], []⟩ 8 (by kernel_rfl) (by kernel_rfl) (by kernel_rfl) (by kernel_rfl)) ?_
  intro W base args ds gs before hval0 hW _ hsz0 _
  have hsz : (DataW.weightsEach Try.prog (Try.f7.params.toList ++ Rows.cellsApartSpec.plain.varTypes Try.prog) (ds ++ gs)).all (· ≤ reachBytes) = true := hsz0
  clear hsz0
  have hval : ∀ (j : Nat) t v, Try.f7.params[j]? = some t → args[j]? = some v → Value.okWide Try.prog W .any base t v := hval0
  have hW' := hW
  obtain ⟨p, q, hA0, hV, rfl, hfz, hnd⟩ := hW
  have hA : DataW.TrodAll enc Try.prog W 0 (fun _ => true) true Try.f7.params.toList args.toList ds p := hA0
  rw [Try.params7] at hA hval hsz
  obtain ⟨v0, vs0, d0, ds0, p0, q0, hargs, rfl, rfl, h0, r0⟩ := trodAll_cons hA
  obtain ⟨v1, vs1, d1, ds1, p1, q1, rfl, rfl, rfl, h1, r1⟩ := trodAll_cons r0
  obtain ⟨rfl, rfl, rfl⟩ := trodAll_nil r1
  obtain rfl : args = #[v0, v1] := by cases args; simp_all
  obtain ⟨rfl, rfl⟩ := trodVars_none hV
  have k0 := h0
  have lt0 : ∀ x ∈ p0, x.block < W.heap.size := by obtain ⟨m, hm⟩ := k0; exact DataW.trod_lt m _ _ _ hm
  have k1 := h1
  have lt1 : ∀ x ∈ p1, x.block < W.heap.size := by obtain ⟨m, hm⟩ := k1; exact DataW.trod_lt m _ _ _ hm
  obtain ⟨a0, len0, cap0, rfl⟩ := okWide_slice Try.underlying23 (hval 0 23 v0 rfl rfl)
  have z0 : ∀ el sp, d0 = .slice el sp → (el.length + sp.length) * Try.prog.bytesOf 22 ≤ reachBytes := fun el sp hd => sized_slice hsz (j := 0) (t := 23) (e := 22) rfl (by rw [hd]; rfl) Try.underlying23
  obtain ⟨x0, w0⟩ := in_ints Try.underlying23 Try.underlying22 (by kernel_rfl) (of_decide_eq_true (by kernel_rfl)) h0 lt0 z0
  obtain ⟨c1_0, c1_1, c1_2, c1_3, y1_0, y1_1, y1_2, y1_3, m1, rfl, rfl, rfl, g1_0, g1_1, g1_2, g1_3⟩ := open_agg4 Try.underlying43 (by kernel_rfl) (show Try.prog.cellsOf 43 = 4 by kernel_rfl) (hval 1 43 v1 rfl rfl) h1
  obtain ⟨a1_0, e1_0, b1_0, w1_0⟩ := DataW.trod_int Try.underlying5 g1_0
  replace e1_0 := (List.cons.inj e1_0).1
  subst e1_0
  obtain ⟨a1_1, e1_1, b1_1, w1_1⟩ := DataW.trod_int Try.underlying3 g1_1
  replace e1_1 := (List.cons.inj e1_1).1
  subst e1_1
  obtain ⟨a1_2, e1_2, b1_2, w1_2⟩ := DataW.trod_int Try.underlying22 g1_2
  replace e1_2 := (List.cons.inj e1_2).1
  subst e1_2
  obtain ⟨a1_3, e1_3, b1_3, w1_3⟩ := DataW.trod_int Try.underlying22 g1_3
  replace e1_3 := (List.cons.inj e1_3).1
  subst e1_3
  clear hA0 hval0
  refine (cellsApart_walk a0 len0 cap0 x0 a1_0 a1_1 a1_2 a1_3 W w0 w1_0 w1_1 w1_2 w1_3).mono fun e W' ⟨he, bel⟩ => ?_
  subst he
  exact ⟨_, rfl, _, _, _, [], _, [], hW', trodAll_mk1 (shut_bool Try.underlying4 _), (trodAll_cons_mk (Below.trod laidOut (by kernel_rfl) (of_decide_eq_true (by kernel_rfl)) k0 bel lt0) (trodAll_cons_mk (Below.trod laidOut (by kernel_rfl) (of_decide_eq_true (by kernel_rfl)) k1 bel lt1) trodAll_mk0)), rfl, bel.frame _, fun h => by cases h⟩

theorem over : Rows.cellsApartRow.holds Try.pinned (OpenSpec.ofChange Rows.cellsApartSpec) :=
  OpenClaim.holds_of_wide 7 Try.f7 rfl rfl rfl rfl rfl rfl rfl ⟨rfl, rfl, rfl, rfl, rfl⟩ rfl rfl rfl rfl rfl (by kernel_rfl) Try.func7 (by kernel_rfl)
    (of_decide_eq_true (by kernel_rfl)) (by unfold Func.isWrapper; first | (rw [if_pos (by decide +kernel)]; kernel_rfl) | (rw [if_neg (by decide +kernel)]; exact ⟨rfl, rfl⟩))
    (fun os started H enc _ => lifted os started H enc)

theorem proved : Rows.CellsApartSaid := over
#print axioms proved
end Go.Proofs.Ytdaddbkhdalcfaa.cellsApart
