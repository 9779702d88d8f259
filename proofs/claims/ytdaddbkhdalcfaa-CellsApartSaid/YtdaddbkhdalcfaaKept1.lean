/-
  A memory that is filled from a list; All, told more of; what both laws of kept cells share.
-/
import Derived.Test.YtdaddbkhdalcfaaRef1
import Derived.Test.YtdaddbkhdalcfaaOpen
namespace Go.Proofs.Ytdaddbkhdalcfaa
open Go.RowKit
set_option linter.unusedVariables false

/-- The cells when k of the n numbers have been stored. -/
def fillTo (xs : List Int) (n k : Nat) : List Int := xs.take k ++ List.replicate (n - k) 0
theorem fill_len (xs : List Int) (n k : Nat) (hx : xs.length = n) (hk : k ≤ n) : (fillTo xs n k).length = n := by simp [fillTo]; omega
theorem fill_zero (xs : List Int) (n : Nat) : fillTo xs n 0 = List.replicate n 0 := by simp [fillTo]
theorem fill_all (xs : List Int) (n : Nat) (hx : xs.length = n) : fillTo xs n n = xs := by simp [fillTo, ← hx]
theorem fill_succ (xs : List Int) (n k : Nat) (hx : xs.length = n) (hk : k < n) : (fillTo xs n k).set k (elt xs k) = fillTo xs n (k + 1) := by
  unfold fillTo elt
  have hkx : k < xs.length := by omega
  rw [List.set_append_right _ _ (by simp; omega), List.length_take, Nat.min_eq_left (by omega), Nat.sub_self]
  obtain ⟨m, hm⟩ : ∃ m, n - k = m + 1 := ⟨n - k - 1, by omega⟩
  rw [hm, List.replicate_succ, List.set_cons_zero, show n - (k + 1) = m by omega]
  rw [List.take_succ_eq_append_getElem hkx, List.append_assoc]
  simp [List.getD, hkx]
theorem at_elt (xs : List Int) (k : Nat) : at_ xs k = elt xs k := by simp [at_, elt]

theorem All_full {w : World} {bm bc : Nat} {L : List Int} {tc : Int} (h : MemAt w bm bc L tc) :
    Calls Try.prog 30 #[.pointer (some ⟨bm, 0, none⟩)] w fun e w' => ∃ g cap cur, e = .returned (.slice (some ⟨g, 0, none⟩) L.length cap) ∧ w.heap.size ≤ g ∧ Blk w' g 22 cur ∧ L.length ≤ cap ∧ cap ≤ maxLen ∧ cur.size = cap ∧ cur.toList.take L.length = L.map (.int .u64) ∧ Only S0 w w' := by
  have c0 := h.mem.cellv (i := 0) rfl
  have hl := h.len
  have hsrc : ∀ j u, (L.map (Value.int .u64))[j]? = some u → (w.alloc (.cells #[] 22)).cell? ((⟨bc, 0, none⟩ : Addr).add j) = some u := by
    intro j u hu
    rw [add_addr, Nat.zero_add]
    exact (h.cells.alloc _).cellv (by simpa using hu)
  have HS := hide hsrc
  have hnil := Lib.run_eql_slice_nil (P := Try.prog) w 23 22 (some ⟨bc, 0, none⟩) L.length L.length 0 0 Try.underlying23
  clear h hsrc
  obtain ⟨i0, hi, hz0, hz1, hz2⟩ := info_parts info_u64
  go_enter Try.func30, Try.ntmps30
  go_wp2_with fail
  go_in
  go_wp2_with (at_builtin; (refine wpList_append_own_at _ rfl (.tmp 5) (.tmp 6) 23 rfl w.heap.size 22 i0 _ 1 8 Try.underlying23 hi hz0 hz1 hz2 rfl (by decide) (.slice (some ⟨w.heap.size, 0, none⟩) 0 0) 0 [] rfl (own_empty w 22) ⟨bc, 0, none⟩ L.length L.length (L.map (.int .u64)) rfl (by simp) HS.out (by simp [Value.oneCell']) (by unfold maxLen; omega) (by omega) (by simp) ?_); intro v' w' own' grown' hn' _)
  go_ret
  have hS : Sl w' w.heap.size 22 v' (L.map (.int .u64)) := by unfold Sl; simpa using own'
  have hO : Only S0 w w' := ((Only.refl S0 w).alloc _).then (R := fun k => k = w.heap.size) (Only.of_grown grown' fun k hk _ => by simpa [Value.ownBlock] using hk.symm) fun i hi e => by omega
  rcases hS.form with ⟨rfl, _⟩ | ⟨g, cap, cur, rfl, h1, h2, h3, h4, h5, h6⟩
  · have := (hn'.1 rfl).1
    simp at this
  · simp only [List.length_map] at h3 h6 ⊢
    exact ⟨g, cap, cur, rfl, h1, h2, h3, h4, h5, h6, hO⟩
end Go.Proofs.Ytdaddbkhdalcfaa
