/-
  What a law's walk is told of a slice that came in: integers, bools, structs of integers. No program in sight.
-/
import Derived.Test.YtdoaipjdldknaaaBase
import Derived.ProofKit
import Derived.OpenShut
import Derived.ChangeOld
import Derived.SizedLaws
import Derived.Deep.Slices
import Derived.Deep.Fields
import Derived.ChangeSame
namespace Go.Proofs.Ytdoaipjdldknaaa
open Go.ChangeShapes Go.WideShapes Go.ChangeAt Go.RowKit Go.Deep

/-- An element; as a name that the walk does not open. -/
def elt (xs : List Int) (i : Nat) : Int := xs.getD i 0
def eltB (xs : List Bool) (i : Nat) : Bool := xs.getD i false
theorem elt_wf {k : IntKind} {xs : List Int} (h : ∀ n ∈ xs, (Lit.int k n).wf = true) {i : Nat} (hi : i < xs.length) : (Lit.int k (elt xs i)).wf = true := by
  refine h _ ?_
  simp [elt, List.getD, hi]

/-- A slice of integers that came in: xs are its elements. -/
structure InInts (k : IntKind) (w : World) (a : Option Addr) (len : Nat) (xs : List Int) : Prop where
  length : xs.length = len
  wf : ∀ n ∈ xs, (Lit.int k n).wf = true
  big : len ≤ 140737488355328
  cells : len ≠ 0 → ∃ g off, a = some ⟨g, off, none⟩ ∧ g < w.heap.size ∧ ∀ i, i < len → w.cell? ⟨g, off + i, none⟩ = some (.int k (elt xs i))

/-- A slice of bools that came in. -/
structure InBools (w : World) (a : Option Addr) (len : Nat) (xs : List Bool) : Prop where
  length : xs.length = len
  big : len ≤ 140737488355328
  cells : len ≠ 0 → ∃ g off, a = some ⟨g, off, none⟩ ∧ g < w.heap.size ∧ ∀ i, i < len → w.cell? ⟨g, off + i, none⟩ = some (.bool (eltB xs i))

/-- A slice of structs of integers that came in; ks are the fields' kinds. -/
structure InRows (ks : List IntKind) (w : World) (a : Option Addr) (len : Nat) (xs : Nat → Nat → Int) : Prop where
  wf : ∀ i j, i < len → j < ks.length → (Lit.int (ks.getD j .i64) (xs i j)).wf = true
  big : len ≤ 140737488355328
  cells : len ≠ 0 → ∃ g off, a = some ⟨g, off, none⟩ ∧ g < w.heap.size ∧ ∀ i j, i < len → j < ks.length → w.cell? ⟨g, off + (i * ks.length + j), none⟩ = some (.int (ks.getD j .i64) (xs i j))

section
variable {H : Type} {enc : TypeId × Value → H} {P : Program} {W : World}
theorem big_of {len n sp bytes : Nat} (hb : 1 ≤ bytes) (hn : len ≤ n + sp) (h : (n + sp) * bytes ≤ reachBytes) : len ≤ 140737488355328 := by
  have h1 : (n + sp) * 1 ≤ (n + sp) * bytes := Nat.mul_le_mul_left _ hb
  have h2 : reachBytes < 2 ^ 47 := reachBytes_lt
  omega
theorem spot_none {w : World} {g off : Nat} {sp : Option Nat} {v : Value} (h : w.cell? (Addr.add ⟨g, off, sp⟩ 0) = some v) : sp = none := by
  simpa [Addr.add] using World.cell?_spot h
theorem add_at (g off i : Nat) : Addr.add ⟨g, off, none⟩ i = ⟨g, off + i, none⟩ := by
  unfold Addr.add
  by_cases h : i = 0 <;> simp [h]

theorem in_ints {t e : TypeId} {k : IntKind} {a : Option Addr} {len cap : Nat} {d : DataW H} {p : List MemPlace} (ht : P.underlying t = some (.slice e)) (he : P.underlying e = some (.int k)) (hc : P.cellsOf e = 1) (hby : 1 ≤ P.bytesOf e)
    (h : DataW.Trod enc P W 0 (fun _ => true) true t (.slice a len cap) d p) (hlt : ∀ x ∈ p, x.block < W.heap.size) (hsz : ∀ el sp, d = .slice el sp → (el.length + sp.length) * P.bytesOf e ≤ reachBytes) :
    ∃ xs, InInts k W a len xs := by
  obtain ⟨fuel, hf⟩ := h
  rcases open_ints ht he hc hf with ⟨hcs, _⟩ | ⟨x, l, c, zs, hcs, _, hl, _, hz, hx, hcell, hwz⟩
  · simp [Value.cells] at hcs
    obtain ⟨rfl, rfl, rfl⟩ := hcs
    exact ⟨[], rfl, by simp, by omega, fun h => (h rfl).elim⟩
  · simp [Value.cells] at hcs
    obtain ⟨rfl, rfl, rfl⟩ := hcs
    simp only [Prod.mk.injEq] at hx
    obtain ⟨rfl, rfl⟩ := hx
    simp only [if_true] at hz
    have hlen : len ≤ zs.length := by omega
    refine ⟨zs.take len, by simp; omega, fun n hn => hwz n (List.mem_of_mem_take hn), ?_, fun hne => ?_⟩
    · refine big_of hby ?_ (hsz _ _ rfl)
      simp [lits]; omega
    · obtain ⟨g, off, sp⟩ := x
      obtain rfl := spot_none (hcell 0 (by omega))
      refine ⟨g, off, rfl, hlt (.cell g off) (MemPlace.mem_row.2 ⟨0, by omega, by simp⟩), fun i hi => ?_⟩
      have := hcell i (by omega)
      rw [add_at] at this
      rw [this]
      simp [elt, List.getD, hi]

theorem in_bools {t e : TypeId} {a : Option Addr} {len cap : Nat} {d : DataW H} {p : List MemPlace} (ht : P.underlying t = some (.slice e)) (he : P.underlying e = some .bool) (hc : P.cellsOf e = 1) (hby : 1 ≤ P.bytesOf e)
    (h : DataW.Trod enc P W 0 (fun _ => true) true t (.slice a len cap) d p) (hlt : ∀ x ∈ p, x.block < W.heap.size) (hsz : ∀ el sp, d = .slice el sp → (el.length + sp.length) * P.bytesOf e ≤ reachBytes) :
    ∃ xs, InBools W a len xs := by
  obtain ⟨fuel, hf⟩ := h
  rcases open_slice1 ht hc hf with ⟨hcs, _⟩ | ⟨x, l, c, m, n, V, D, Pl, hcs, _, hl, _, hm, hx, hcell⟩
  · simp [Value.cells] at hcs
    obtain ⟨rfl, rfl, rfl⟩ := hcs
    exact ⟨[], rfl, by omega, fun h => (h rfl).elim⟩
  · simp [Value.cells] at hcs
    obtain ⟨rfl, rfl, rfl⟩ := hcs
    simp only [Prod.mk.injEq] at hx
    obtain ⟨rfl, rfl⟩ := hx
    simp only [if_true] at hm
    subst hm
    have hb : ∀ i, ∃ b : Bool, i < len → V i = .bool b := fun i => by
      by_cases hi : i < len
      · obtain ⟨b, hb, _⟩ := DataW.trod_bool he (hcell i (by omega)).2
        simp at hb
        exact ⟨b, fun _ => hb⟩
      · exact ⟨false, fun h => absurd h hi⟩
    refine ⟨(List.range len).map fun i => Classical.choose (hb i), by simp, ?_, fun hne => ?_⟩
    · refine big_of hby ?_ (hsz _ _ rfl)
      simp
    · obtain ⟨g, off, sp⟩ := x
      obtain rfl := spot_none (hcell 0 (by omega)).1
      refine ⟨g, off, rfl, hlt (.cell g off) (List.mem_append.2 (.inl (MemPlace.mem_row.2 ⟨0, by omega, by simp⟩))), fun i hi => ?_⟩
      have h1 := (hcell i (by omega)).1
      rw [add_at, Classical.choose_spec (hb i) hi] at h1
      rw [h1]
      simp [eltB, List.getD, hi]

theorem in_rows {t e : TypeId} {fs : Array Field} {ks : List IntKind} {a : Option Addr} {len cap : Nat} {d : DataW H} {p : List MemPlace} (ht : P.underlying t = some (.slice e)) (he : P.underlying e = some (.struct fs))
    (hn : fs.size = ks.length) (hpos : 0 < ks.length) (hone : oneCellFields P fs = true) (hC : P.cellsOf e = ks.length) (hby : 1 ≤ P.bytesOf e)
    (hk : ∀ (j : Nat) (f : Field), fs[j]? = some f → P.underlying f.type = some (.int (ks.getD j .i64)))
    (h : DataW.Trod enc P W 0 (fun _ => true) true t (.slice a len cap) d p) (hlt : ∀ x ∈ p, x.block < W.heap.size) (hsz : ∀ el sp, d = .slice el sp → (el.length + sp.length) * P.bytesOf e ≤ reachBytes) :
    ∃ xs, InRows ks W a len xs := by
  obtain ⟨fuel, hf⟩ := h
  rcases open_slice ht hf with ⟨hcs, _⟩ | ⟨x, l, c, m, n, D, Pl, hcs, _, hl, _, hm, hx, hcell⟩
  · simp [Value.cells] at hcs
    obtain ⟨rfl, rfl, rfl⟩ := hcs
    exact ⟨fun _ _ => 0, fun i j hi => by omega, by omega, fun h => (h rfl).elim⟩
  · simp [Value.cells] at hcs
    obtain ⟨rfl, rfl, rfl⟩ := hcs
    simp only [Prod.mk.injEq] at hx
    obtain ⟨rfl, rfl⟩ := hx
    simp only [if_true] at hm
    subst hm
    have hv : ∀ i j, ∃ v : Int, i < len → j < ks.length → W.cell? (x.add (i * ks.length + j)) = some (.int (ks.getD j .i64) v) ∧ (Lit.int (ks.getD j .i64) v).wf = true := fun i j => by
      by_cases hi : i < len
      · by_cases hj : j < ks.length
        · obtain ⟨cs', hc, ht'⟩ := hcell i (by omega)
          rw [hC] at hc
          obtain ⟨ys, n', _, _, hlen, _, hfl⟩ := DataW.trod_struct he ht'
          obtain ⟨_, hcl, hat⟩ := World.cells?_some hc
          have hjf : fs[j]? = some (fs[j]'(by omega)) := Array.getElem?_eq_getElem (by omega)
          obtain ⟨ho, hcc⟩ := hone_of hone j _ hjf
          have h1 := hfl j _ hjf
          rw [ho, hcc] at h1
          have hdrop : (cs'.drop j).take 1 = [cs'[j]'(by omega)] := by
            rw [List.drop_eq_getElem_cons (by omega)]; rfl
          rw [hdrop] at h1
          have hyl : ∃ y, ys[j]? = some y := by
            cases hy : ys[j]? with
            | some y => exact ⟨y, rfl⟩
            | none =>
              rw [hy] at h1
              have hlen' : ys.length = fs.size := by assumption
              rw [List.getElem?_eq_none_iff] at hy
              omega
          obtain ⟨y, hy⟩ := hyl
          rw [hy] at h1
          obtain ⟨v, hcv, _, hwf⟩ := DataW.trod_int (hk j _ hjf) h1
          replace hcv := (List.cons.inj hcv).1
          refine ⟨v, fun _ _ => ⟨?_, hwf⟩⟩
          rw [← Go.Deep.add_add, hat j (by omega), List.getElem?_eq_getElem (by omega), hcv]
        · exact ⟨0, fun _ h => absurd h hj⟩
      · exact ⟨0, fun h => absurd h hi⟩
    obtain ⟨xs, hxs⟩ : ∃ xs : Nat → Nat → Int, ∀ i j, i < len → j < ks.length → W.cell? (x.add (i * ks.length + j)) = some (.int (ks.getD j .i64) (xs i j)) ∧ (Lit.int (ks.getD j .i64) (xs i j)).wf = true :=
      ⟨fun i j => Classical.choose (hv i j), fun i j hi hj => Classical.choose_spec (hv i j) hi hj⟩
    refine ⟨xs, fun i j hi hj => (hxs i j hi hj).2, ?_, fun hne => ?_⟩
    · refine big_of hby ?_ (hsz _ _ rfl)
      simp
    · obtain ⟨g, off, sp⟩ := x
      have h00 := (hxs 0 0 (by omega) hpos).1
      rw [show 0 * ks.length + 0 = 0 by omega] at h00
      obtain rfl := spot_none h00
      refine ⟨g, off, rfl, hlt (.cell g off) (List.mem_append.2 (.inl (MemPlace.mem_row.2 ⟨0, ?_, by simp⟩))), fun i j hi hj => ?_⟩
      · rw [hC]; exact Nat.mul_pos (by omega) hpos
      · have h1 := (hxs i j hi hj).1
        rw [add_at] at h1
        exact h1
end
end Go.Proofs.Ytdoaipjdldknaaa
