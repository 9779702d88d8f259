/-
  Small words that the walks of several packages share.
-/
import Derived.Test.YtdoaipjdldknaaaMem
import Derived.Deep.RegionHeld3
import Derived.StillTailTactics
import Derived.Laws.EntriesVeiled
import Derived.Deep.LoopGhost
namespace Go.Proofs.Ytdoaipjdldknaaa
open Go.RowKit
set_option linter.unusedVariables false

def S3 (a b c : Nat) : Nat → Prop := fun k => k = a ∨ k = b ∨ k = c
theorem s3_of_s1 {bo bm bc : Nat} {w w' : World} (h : Only (S1 bm) w w') : Only (S3 bo bm bc) w w' := h.mono fun k hk => .inr (.inl hk)
theorem s3_of_s2 {bo bm bc : Nat} {w w' : World} (h : Only (S2 bm bc) w w') : Only (S3 bo bm bc) w w' := h.mono fun k hk => .inr hk
theorem S0.then3 {w w' w'' : World} {a b c : Nat} (h : Only S0 w w') (k : Only (S3 a b c) w' w'') (ha : w.heap.size ≤ a) (hb : w.heap.size ≤ b) (hc : w.heap.size ≤ c) : Only S0 w w'' :=
  h.then k fun i hi e => by unfold S3 at e; omega
theorem Few.le_ {a b : Int} (h : Few b) (hab : a ≤ b) : Few a := by unfold Few at *; omega
/-- k cells from b on are 0. -/
def zeroL (L : List Int) (b : Nat) : Nat → List Int
  | 0 => L
  | k + 1 => (zeroL L b k).set (b + k) 0
theorem zeroL_len (L : List Int) (b k : Nat) : (zeroL L b k).length = L.length := by
  induction k with
  | zero => rfl
  | succ k ih => simp [zeroL, ih]
theorem set_rep (m i : Nat) : (List.replicate m (0 : Int)).set i 0 = List.replicate m 0 := by
  refine List.ext_getElem? fun j => ?_
  rw [List.getElem?_set]
  split
  · rename_i h
    subst h
    simp only [List.length_replicate, List.getElem?_replicate]
  · rfl
theorem zeroL_rep (m b k : Nat) : zeroL (List.replicate m 0) b k = List.replicate m 0 := by
  induction k with
  | zero => rfl
  | succ k ih => simp only [zeroL, ih, set_rep]
/-- A number of 64 bits. -/
def U64 (t : Int) : Prop := 0 ≤ t ∧ t < 18446744073709551616
theorem u64_add (a b : Int) : U64 (add64 a b) := by unfold U64 add64; rw [IntKind.wrap_u64]; omega
theorem u64_zero : U64 0 := ⟨by decide, by decide⟩
theorem u64_div {t n : Int} (h : U64 t) (hn : 1 ≤ n) : t.tdiv n = t / n ∧ IntKind.u64.wrap (t / n) = t / n := by
  refine ⟨Int.tdiv_eq_ediv_of_nonneg h.1, ?_⟩
  have h1 : 0 ≤ t / n := Int.ediv_nonneg h.1 (by omega)
  have h2 : t / n ≤ t := Int.ediv_le_self n h.1
  have := h.2
  rw [IntKind.wrap_u64]; omega
theorem u64_mod {t n : Int} (h : U64 t) (hn : 1 ≤ n) : t.tmod n = t % n ∧ 0 ≤ t % n ∧ t % n < n :=
  ⟨Int.tmod_eq_emod_of_nonneg h.1, Int.emod_nonneg t (by omega), Int.emod_lt_of_pos t (by omega)⟩
/-- Every cell holds a number of 64 bits. -/
def AllU (L : List Int) : Prop := ∀ x ∈ L, U64 x
theorem AllU.at_ {L : List Int} (h : AllU L) (i : Int) : U64 (at_ L i) := by
  unfold Go.Proofs.Ytdoaipjdldknaaa.at_
  rw [List.getD]
  cases hx : L[i.toNat]? with
  | none => exact ⟨by simp, by simp⟩
  | some x => exact h x (List.mem_of_getElem? hx)
theorem AllU.set {L : List Int} (h : AllU L) (i : Nat) {x : Int} (hx : U64 x) : AllU (L.set i x) := by
  intro y hy
  rcases List.mem_or_eq_of_mem_set hy with h1 | h1
  · exact h y h1
  · rw [h1]; exact hx
theorem allU_zero (k : Nat) : AllU (List.replicate k 0) := by
  intro x hx
  rw [List.eq_of_mem_replicate hx]
  exact ⟨by omega, by omega⟩
theorem zeroL_u (L : List Int) (b k : Nat) (h : AllU L) : AllU (zeroL L b k) := by
  induction k with
  | zero => exact h
  | succ k ih => exact ih.set _ ⟨by omega, by omega⟩
theorem at_set (L : List Int) (i : Nat) (v : Int) (j : Nat) (hi : i < L.length) : at_ (L.set i v) (j : Int) = if j = i then v else at_ L (j : Int) := by
  unfold at_
  simp only [List.getD, Int.toNat_natCast, List.getElem?_set]
  by_cases h : i = j
  · subst h
    simp [hi]
  · rw [if_neg h, if_neg (fun e => h e.symm)]
theorem u64_rd {w : World} {g m : Nat} {cs : Array Value} (l : List Int) (h : Blk w g 31 cs) (hc : cs = (l.map (Value.int .u64)).toArray) (hn : m = l.length) (hm : m ≤ 1000) : Rd w (.slice (some ⟨g, 0, none⟩) m m) (l.map (Value.int .u64)) := by
  subst hc
  subst hn
  have h1 := (h.sl (B := 0) (by omega) (by rw [List.size_toArray, List.length_map]; unfold maxLen; omega)).rd
  rw [List.size_toArray, List.length_map] at h1
  exact h1
end Go.Proofs.Ytdoaipjdldknaaa
