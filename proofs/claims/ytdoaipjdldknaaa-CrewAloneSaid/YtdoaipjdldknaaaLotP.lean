/-
  Orders of the others, as plain lists. No program in sight.
-/
import Derived.Test.YtdoaipjdldknaaaBase
namespace Go.Proofs.Ytdoaipjdldknaaa
open Go.RowKit
set_option linter.unusedVariables false

/-- The numbers below n but s. -/
def othN (n s : Nat) : List Nat := (List.range n).filter (fun i => i != s)
theorem othN_succ_ne (n s : Nat) (h : n ≠ s) : othN (n + 1) s = othN n s ++ [n] := by simp [othN, List.range_succ, h]
theorem othN_succ_eq (n : Nat) : othN (n + 1) n = othN n n := by simp [othN, List.range_succ]
theorem othN_len_le (n s : Nat) : (othN n s).length ≤ n := by
  unfold othN
  have := List.length_filter_le (fun i => i != s) (List.range n)
  simpa using this
theorem othN_len (n s : Nat) (h : s < n) : (othN n s).length = n - 1 := by
  induction n with
  | zero => omega
  | succ n ih =>
    by_cases hs : n = s
    · subst hs
      rw [othN_succ_eq]
      have : othN n n = List.range n := by
        unfold othN
        rw [List.filter_eq_self]
        intro i hi
        have := List.mem_range.1 hi
        simp; omega
      rw [this]; simp
    · rw [othN_succ_ne n s hs, List.length_append, ih (by omega)]
      simp; omega
theorem mem_othN (n s v : Nat) : v ∈ othN n s ↔ v < n ∧ v ≠ s := by simp [othN]

/-- The order of a draw: f: how many are left at most. -/
def ordN : Nat → Nat → List Nat → List Nat
  | 0, _, _ => []
  | f + 1, d, l => if l = [] then [] else l.getD (d % l.length) 0 :: ordN f (d / l.length) (l.eraseIdx (d % l.length))
/-- A list of numbers as values. -/
def vN (l : List Nat) : List Value := l.map fun (i : Nat) => Value.int .i64 (i : Int)
theorem vN_len (l : List Nat) : (vN l).length = l.length := by simp [vN]
theorem vN_append (a b : List Nat) : vN (a ++ b) = vN a ++ vN b := by simp [vN]
theorem vN_at (l : List Nat) (i : Nat) (h : i < l.length) : (vN l)[i]? = some (.int .i64 (l.getD i 0 : Nat)) := by simp [vN, List.getD, h]
theorem ordN_succ (f d : Nat) (l : List Nat) (h : l ≠ []) : ordN (f + 1) d l = l.getD (d % l.length) 0 :: ordN f (d / l.length) (l.eraseIdx (d % l.length)) := by
  rw [ordN, if_neg h]
theorem ordN_nil (f d : Nat) : ordN f d [] = [] := by cases f <;> simp [ordN]

/-- A block whose cells from o on are written anew. -/
theorem Blk.setCells {t : TypeId} {g : Nat} : ∀ (vs : List Value) (o : Nat) {w : World} {cs : Array Value}, Blk w g t cs →
    ∃ cs' : Array Value, Blk (w.setCells g o vs) g t cs' ∧ cs'.size = cs.size ∧ ∀ j, j < cs.size → cs'[j]? = if o ≤ j ∧ j < o + vs.length then vs[j - o]? else cs[j]?
  | [], o, w, cs, h => ⟨cs, h, rfl, fun j _ => by rw [if_neg (by simp)]⟩
  | v :: r, o, w, cs, h => by
    obtain ⟨cs', h1, h2, h3⟩ := Blk.setCells r (o + 1) (h.set_ o v)
    refine ⟨cs', h1, by simpa using h2, fun j hj => ?_⟩
    rw [h3 j (by simpa using hj)]
    by_cases h5 : j = o
    · subst h5
      rw [if_neg (by omega), if_pos (by simp)]
      simp [hj]
    · by_cases h4 : o + 1 ≤ j ∧ j < o + 1 + r.length
      · rw [if_pos h4, if_pos (by simp; omega)]
        obtain ⟨q, hq⟩ : ∃ q, j - o = q + 1 := ⟨j - o - 1, by omega⟩
        rw [hq, show j - (o + 1) = q by omega]
        simp
      · rw [if_neg h4, if_neg (by simp; omega)]
        rw [Array.getElem?_setIfInBounds_ne (by omega)]
theorem only_setCells {S : Nat → Prop} (g : Nat) (hs : S g) : ∀ (vs : List Value) (o : Nat) {a w : World}, Only S a w → Only S a (w.setCells g o vs)
  | [], _, _, _, h => h
  | v :: r, o, a, w, h => only_setCells g hs r (o + 1) (h.set1 o hs v)

/-- A slice cut by one element: the cells behind it are moved up. -/
theorem sl_deleted {w : World} {B g cap at' : Nat} {e : TypeId} {cur : Array Value} {l : List Nat} (hb : Blk w g e cur) (hB : B ≤ g) (hn : l.length ≤ cap) (hm : cap ≤ maxLen) (hs : cur.size = cap)
    (hat : at' < l.length) (zs : List Int) (hz : zs = l.map fun (i : Nat) => (i : Int)) :
    Sl (w.setCells g 0 (((zs.take l.length).take at' ++ (zs.take l.length).drop (at' + 1) ++ List.replicate (at' + 1 - at') 0).map (Value.int .i64))) B e (.slice (some ⟨g, 0, none⟩) (l.length - (at' + 1 - at')) cap) (vN (l.eraseIdx at')) := by
  obtain ⟨cs', h1, h2, h3⟩ := hb.setCells (((zs.take l.length).take at' ++ (zs.take l.length).drop (at' + 1) ++ List.replicate (at' + 1 - at') 0).map (Value.int .i64)) 0
  have hlen : (vN (l.eraseIdx at')).length = l.length - (at' + 1 - at') := by rw [vN_len, List.length_eraseIdx_of_lt hat]; omega
  refine Sl.mk_ (g := g) (cap := cap) (cur := cs') (by rw [hlen]) hB h1 (by rw [hlen]; omega) hm (by rw [h2, hs]) ?_
  rw [hlen]
  subst hz
  apply List.ext_getElem?
  intro i
  by_cases hi : i < l.length - 1
  · have hi2 : i < l.length - (at' + 1 - at') := by omega
    rw [List.getElem?_take, if_pos hi2, Array.getElem?_toList, h3 i (by omega), if_pos (by
      refine ⟨by omega, ?_⟩
      simp only [List.length_map, List.length_append, List.length_take, List.length_drop, List.length_replicate]
      omega)]
    simp only [vN, Nat.sub_zero, List.getElem?_map, List.getElem?_eraseIdx]
    have htk : (l.map fun (i : Nat) => (i : Int)).take l.length = l.map fun (i : Nat) => (i : Int) := List.take_of_length_le (by simp)
    rw [htk]
    by_cases hia : i < at'
    · rw [if_pos hia, List.append_assoc, List.getElem?_append_left (by simp; omega), List.getElem?_take, if_pos hia]
      simp
      rfl
    · rw [if_neg hia, List.append_assoc, List.getElem?_append_right (by simp; omega), List.getElem?_append_left (by simp; omega), List.getElem?_drop]
      simp only [List.length_take, List.length_map]
      rw [show at' + 1 + (i - min at' l.length) = i + 1 by omega]
      simp
      rfl
  · rw [List.getElem?_eq_none (by simp; omega), List.getElem?_eq_none (by rw [hlen]; omega)]
end Go.Proofs.Ytdoaipjdldknaaa
