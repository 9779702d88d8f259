/-
  What run leaves behind, to be read; a block of counts (no program).
-/
import Derived.Test.YtblkbfdmoanbfaaDeqR
namespace Go.Proofs.Ytblkbfdmoanbfaa
open Go.RowKit
set_option linter.unusedVariables false

/-- What a gang's slice is, to be read. -/
theorem slice_of {w : World} {B : Nat} {v : Value} {l : List Int} (h : Sl w B 28 v (u64s l)) : ∃ a c, v = .slice a l.length c ∧ (l.length ≠ 0 → ∃ g off, a = some ⟨g, off, none⟩ ∧ g < w.heap.size ∧ ∀ i, i < l.length → w.cell? ⟨g, off + i, none⟩ = some (.int .u64 (l.getD i 0))) := by
  obtain ⟨a, c, hv, hc⟩ := h.rd
  rw [u64s_len] at hv hc
  refine ⟨a, c, hv, fun hn => ?_⟩
  obtain ⟨g, off, ha, hg, hx⟩ := hc hn
  exact ⟨g, off, ha, hg, fun i hi => hx i _ (u64s_get hi)⟩
/-- A block of counts. -/
def ints (n : Nat) (f : Nat → Int) : Array Value := ((List.range n).map fun q => Value.int .i64 (f q)).toArray
theorem ints_get {n q : Nat} (f : Nat → Int) (h : q < n) : (ints n f)[q]? = some (.int .i64 (f q)) := by simp [ints, h]
theorem ints_size (n : Nat) (f : Nat → Int) : (ints n f).size = n := by simp [ints]
theorem ints_set (n q : Nat) (f : Nat → Int) (x : Int) : (ints n f).setIfInBounds q (.int .i64 x) = ints n (upd f q x) := by
  have h := map_set (k := n) (fun q => Value.int .i64 (f q)) (fun i => Value.int .i64 (upd f q x i)) q (fun i hi => by show _ = Value.int .i64 (upd f q x i); rw [upd_ne _ _ hi])
  rw [upd_same] at h
  exact h
theorem ints_zeros (n : Nat) : zeros (.int .i64 0) n = ints n fun _ => 0 := by
  unfold zeros ints
  rw [List.map_const', List.length_range]
theorem list_next {l : List Int} {j : Nat} (h : j < l.length) : l.take (j + 1) = l.take j ++ [l.getD j 0] := by
  rw [List.take_succ_eq_append_getElem h]
  simp [List.getD, h]
theorem nodup_one {l : List Int} (h : l.Nodup) {a : Int} (ha : a ∈ l) : l.count a = 1 := by
  have h1 : 0 < l.count a := List.count_pos_iff.2 ha
  have h2 := List.nodup_iff_count.1 h a
  omega
theorem nodup_next {l : List Int} (h : l.Nodup) {j : Nat} (hj : j < l.length) : (l.take j).count (l.getD j 0) = 0 := by
  have h1 := list_next hj
  have h2 := List.nodup_iff_count.1 h (l.getD j 0)
  have h3 : (l.take (j + 1)).count (l.getD j 0) ≤ l.count (l.getD j 0) := (List.take_sublist _ _).count_le _
  rw [h1, List.count_append] at h3
  have : List.count (l.getD j 0) [l.getD j 0] = 1 := by simp
  omega
theorem sorted_nodup {l : List Int} (h : l.Pairwise (· < ·)) : l.Nodup := h.imp fun {a b} hab => by omega
theorem sorted_next {l : List Int} (h : l.Pairwise (· < ·)) {i : Nat} (h1 : 1 ≤ i) (h2 : i < l.length) : l.getD (i - 1) 0 < l.getD i 0 := by
  have := List.pairwise_iff_getElem.1 h (i - 1) i (by omega) h2 (by omega)
  simp only [List.getD]
  rw [List.getElem?_eq_getElem (by omega), List.getElem?_eq_getElem h2]
  exact this
theorem getD_mem {l : List Int} {i : Nat} (h : i < l.length) : l.getD i 0 ∈ l := by
  have : l.getD i 0 = l[i] := by simp [List.getD, h]
  rw [this]
  exact List.getElem_mem h
/-- The gang at its end: a deque alone, with nothing in it. -/
theorem GSit.alone {w wr : World} {B gb tb bd bm bc n s nx T Bt : Nat} {L : List Int} {tc : Int} {o : Nat → Dop} {bo : Nat → Nat} {pu : Bool} {sv : Nat → Value} {XS : Nat → List Int} {lost most : Int}
    (h : GSit w wr B gb tb bd bm bc n L tc o bo pu nx sv XS lost most T Bt [] s) (hs : s ≤ 2000) (h0 : (o 0).out ≠ 0) : DE wr bd bm bc n [] 4000 := by
  obtain ⟨bot, val, held, h1, h2, h3, h4⟩ := h.ga.ex
  rcases h2 with ⟨e, -⟩ | ⟨-, hb, hh⟩
  · exact absurd e h0
  subst hb
  subst hh
  have q1 := h.bl
  have q2 := h.tc
  exact ⟨L, tc, T, bot, val, h.gw.env, ⟨h1.n1, h1.n64, h1.len, h1.top, h1.bot_, h1.t1, h1.le, h1.ge, h1.small, h1.has⟩, by omega, by omega, by rw [List.append_nil] at h4; exact h4⟩
end Go.Proofs.Ytblkbfdmoanbfaa
