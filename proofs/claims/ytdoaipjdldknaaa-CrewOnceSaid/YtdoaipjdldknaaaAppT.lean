/-
  'append(s, u)' of a slice that the call has made: a block of one cell is never written again. No program in sight.
-/
import Derived.Test.YtdoaipjdldknaaaBase
import Derived.Deep.AppendLies
namespace Go.Proofs.Ytdoaipjdldknaaa
open Go Go.RowKit
set_option linter.unusedVariables false
section
variable {P : Program}
theorem Only.of_grown_none {w w' : World} (h : w.grownBy w' none) : Only S0 w w' := Only.of_grown h fun k hk _ => by cases hk
/-- What an append turns: the slice's own block, if it has not just one cell. -/
def AppS (w : World) (e : TypeId) (v : Value) : Nat → Prop := fun k => v.ownBlock = some k ∧ ∃ cs, Blk w k e cs ∧ cs.size ≠ 1
theorem wp_app_tight {w : World} {o : Oper} {a : Act} {K : Act → World → Prop} {Q : Exit → Act → World → Prop} (s x : Operand) (t : TypeId) (ho : o.op = .call { callee := .builtin .append, args := #[s, x], argTypes := #[t, t] })
    (e : TypeId) (z : Value) (bytes : Nat) (ht : P.underlying t = some (.slice e)) (hinfo : (P.info? e).map (fun i => (i.zero, i.size, i.bytes)) = some (some z, 1, bytes)) (hz : z.cells = #[z])
    (B : Nat) (v : Value) (xs : List Value) (u : Value) (hs : a.eval s = v) (hown : Sl w B e v xs) (hne : v = .slice none 0 0 ∨ xs ≠ []) (ad : Addr) (hx : a.eval x = .slice (some ad) 1 1) (hnews : w.cell? ad = some u) (hu : u.oneCell' = true)
    (hbytes : (xs.length + 1) * bytes ≤ 140737488355328) (h63 : xs.length + 1 ≤ maxLen) (hB : B ≤ w.heap.size)
    (h : ∀ v' w', Sl w' B e v' (xs ++ [u]) → Only (AppS w e v) w w' → (v'.ownBlock = v.ownBlock ∨ ∃ g, v'.ownBlock = some g ∧ w.heap.size ≤ g) → K (a.put o.dst v') w') : o.wp P a w K Q := by
  obtain ⟨i, hi, hz0, hz1, hz2⟩ := info_parts hinfo
  have hnews' : ∀ j u', [u][j]? = some u' → w.cell? (ad.add j) = some u' := fun j u' hj => by
    match j, hj with
    | 0, hj => simp at hj; subst hj; rw [show ad.add 0 = ad from by unfold Addr.add; split <;> simp_all]; exact hnews
    | j + 1, hj => simp at hj
  obtain ⟨v', w', hr, h2, h3, h4⟩ := run_append_own (P := P) w B t o.type e i z 1 bytes ht hi hz0 hz1 hz2 (by rw [hz]; rfl) (by decide) v xs.length xs hown ad 1 1 [u] rfl hnews' (by simpa using hu) h63 hbytes hB
  have hlen : (xs ++ [u]).length = xs.length + 1 := by simp
  have hsl : Sl w' B e v' (xs ++ [u]) := by unfold Sl; rw [hlen]; exact h2
  have hfin : Only (AppS w e v) w w' ∧ (v'.ownBlock = v.ownBlock ∨ ∃ g, v'.ownBlock = some g ∧ w.heap.size ≤ g) := by
    rcases hown.form with ⟨rfl, rfl⟩ | ⟨g, cap, cur, rfl, hBg, hb, hn, hm, hc, htk⟩
    · have hg := run_append_nil (P := P) w t o.type e i z ht hi hz0 ad 1 1 [u] (by rw [hz1]; rfl) hnews' (by omega) (by omega) (by rw [hz2]; have hb := hbytes; simp only [List.length_nil, Nat.zero_add] at hb; omega)
      rw [hg] at hr
      injection hr with hr1 hr2
      refine ⟨Only.of_grown h3 (fun k hk _ => (by cases hk)), .inr ⟨w.heap.size, by rw [← hr1]; rfl, Nat.le_refl _⟩⟩
    · by_cases h1 : cap < xs.length + 1
      · have hg := run_append_grow (P := P) w t o.type e i z ht hi hz0 ⟨g, 0, none⟩ xs.length cap xs (by rw [hz1]; omega) (by have := hown.cells (g := g) rfl; exact this) ad 1 1 [u] (by rw [hz1]; rfl) hnews' h1 (by unfold maxLen at h63; omega) (growslice_fits (by omega) (by rw [hz2]; exact hbytes))
        rw [hg] at hr
        injection hr with hr1 hr2
        refine ⟨?_, .inr ⟨w.heap.size, by rw [← hr1]; rfl, Nat.le_refl _⟩⟩
        rw [← hr2]
        exact (((Only.refl S0 w).drew).alloc _).mono fun _ h => h.elim
      · have hc1 : cur.size ≠ 1 := fun e1 => by
          rcases hne with e2 | e2
          · cases e2
          · have : xs.length ≠ 0 := fun e3 => e2 (List.eq_nil_of_length_eq_zero e3)
            omega
        have hr' := run_append_room (P := P) w t o.type e i ht hi g xs.length cap cur hb ad 1 1 [u] (by rw [hz1]; rfl) hnews' (by simpa using hu) (by omega) (by rw [hz1]; simp; omega)
        rw [hr'] at hr
        injection hr with hr1 hr2
        exact ⟨Only.of_grown h3 fun k hk _ => ⟨hk, cur, by have hk' : some g = some k := hk; injection hk' with hk'; subst hk'; exact hb, hc1⟩, .inl (by rw [← hr1]; rfl)⟩
  unfold Oper.wp execOp
  simp only [ho, resolve, invoke, builtin, Sem.run_bind, Sem.run_pure, Result.andThen_ok, List.map_toArray, List.map_cons, List.map_nil, hs, hx, hr]
  exact h v' w' hsl hfin.1 hfin.2
theorem step_app_tight {w : World} {ops : Array Oper} {o : Oper} {a : Act} {K : Act → World → Prop} {Q : Exit → Act → World → Prop} {E : Prop} (hgd : o.guard = none) (s x : Operand) (t : TypeId) (ho : o.op = .call { callee := .builtin .append, args := #[s, x], argTypes := #[t, t] })
    (e : TypeId) (z : Value) (bytes : Nat) (ht : P.underlying t = some (.slice e)) (hinfo : (P.info? e).map (fun i => (i.zero, i.size, i.bytes)) = some (some z, 1, bytes)) (hz : z.cells = #[z])
    (B : Nat) (v : Value) (xs : List Value) (u : Value) (hs : a.eval s = v) (hown : Sl w B e v xs) (hne : v = .slice none 0 0 ∨ xs ≠ []) (ad : Addr) (hx : a.eval x = .slice (some ad) 1 1) (hnews : w.cell? ad = some u) (hu : u.oneCell' = true)
    (hbytes : (xs.length + 1) * bytes ≤ 140737488355328) (h63 : xs.length + 1 ≤ maxLen) (hB : B ≤ w.heap.size)
    (h : ∀ v' w', Sl w' B e v' (xs ++ [u]) → Only (AppS w e v) w w' → (v'.ownBlock = v.ownBlock ∨ ∃ g, v'.ownBlock = some g ∧ w.heap.size ≤ g) → K (a.put o.dst v') w') :
    if Region.wanted o (yielded ops a.tmps) = true then Oper.wp P o a w K Q else E := by
  have hw : Region.wanted o (yielded ops a.tmps) = true := by simp [Region.wanted, hgd]
  rw [if_pos hw]
  exact wp_app_tight s x t ho e z bytes ht hinfo hz B v xs u hs hown hne ad hx hnews hu hbytes h63 hB h
end
end Go.Proofs.Ytdoaipjdldknaaa
