/-
  Small facts on blocks of memory that are known whole, and on what a call leaves alone. No program in sight.
-/
import Derived.WalkKit
import Derived.WalkSpells
import Derived.WalkLawsBesides
import Derived.Lib.Hide
import Derived.Deep.OwnRows
namespace Go.Proofs.Ytdaddbkhdalcfaa
open Go.RowKit

theorem hide {p : Prop} (h : p) : Hid p := h

/-- Block g is just the cells cs of element type t, none of them frozen. -/
def Blk (w : World) (g : Nat) (t : TypeId) (cs : Array Value) : Prop := w.heap[g]? = some (.cells cs t (0, 0))

section
variable {w w' w'' : World} {g : Nat} {t : TypeId} {cs : Array Value}
theorem Blk.lt (h : Blk w g t cs) : g < w.heap.size := by
  rcases Nat.lt_or_ge g w.heap.size with hlt | hge
  · exact hlt
  · unfold Blk at h; rw [Array.getElem?_eq_none hge] at h; cases h
theorem Blk.cell (h : Blk w g t cs) (i : Nat) : w.cell? ⟨g, i, none⟩ = cs[i]? := cell_of_row w g i cs t (0, 0) h
theorem Blk.cellv (h : Blk w g t cs) {i : Nat} {v : Value} (hi : cs[i]? = some v) : w.cell? ⟨g, i, none⟩ = some v := by rw [h.cell, hi]
theorem Blk.frozen (h : Blk w g t cs) (i : Nat) : w.frozen? ⟨g, i, none⟩ = false := by
  unfold Blk at h
  simp [World.frozen?, h]
theorem Blk.new (w : World) (t : TypeId) (cs : Array Value) : Blk (w.alloc (.cells cs t)) w.heap.size t cs := heap_alloc_new w _
theorem Blk.drew (h : Blk w g t cs) : Blk w.drew g t cs := h
theorem Blk.drewN (h : Blk w g t cs) (n : Nat) : Blk (w.drewN n) g t cs := h
theorem Blk.alloc (h : Blk w g t cs) (o : Obj) : Blk (w.alloc o) g t cs := (Below.heap_alloc w o g h.lt).trans h
theorem Blk.set_ (h : Blk w g t cs) (i : Nat) (u : Value) : Blk (w.setCell ⟨g, i, none⟩ u) g t (cs.setIfInBounds i u) := by
  unfold Blk at h ⊢
  simp [World.setCell, Array.getElem?_modify, h]
theorem Blk.far (h : Blk w g t cs) {p : Addr} (hp : g ≠ p.block) (u : Value) : Blk (w.setCell p u) g t cs := (Below.heap_setCell w p u g hp).trans h
theorem Blk.below {B : Nat} (h : Blk w g t cs) (hb : Below B w w') (hg : g < B) : Blk w' g t cs := (hb.block g hg).trans h
theorem Blk.ne_ {g' : Nat} {t' : TypeId} {cs' : Array Value} (h : Blk w g t cs) (h' : Blk w g' t' cs') (hne : t ≠ t') : g ≠ g' := by
  rintro rfl
  unfold Blk at h h'
  rw [h] at h'
  injection h' with h'
  injection h' with _ ht
  exact hne ht

/-- From w to w' no block that was there has turned but those in S; no block has gone; the streams are as they were. -/
structure Only (S : Nat → Prop) (w w' : World) : Prop where
  os : w'.os = w.os
  tape : w'.tape = w.tape
  output : w'.output = w.output
  size : w.heap.size ≤ w'.heap.size
  block : ∀ k, k < w.heap.size → ¬ S k → w'.heap[k]? = w.heap[k]?

variable {S R : Nat → Prop}
theorem Only.refl (S : Nat → Prop) (w : World) : Only S w w := ⟨rfl, rfl, rfl, Nat.le_refl _, fun _ _ _ => rfl⟩
theorem Only.trans (h : Only S w w') (k : Only S w' w'') : Only S w w'' :=
  ⟨k.os.trans h.os, k.tape.trans h.tape, k.output.trans h.output, Nat.le_trans h.size k.size,
    fun i hi hs => (k.block i (Nat.lt_of_lt_of_le hi h.size) hs).trans (h.block i hi hs)⟩
/-- What is said of the blocks that were there at the first world alone. -/
theorem Only.weaken (h : Only S w w') (hs : ∀ k, k < w.heap.size → S k → R k) : Only R w w' :=
  ⟨h.os, h.tape, h.output, h.size, fun k hk hr => h.block k hk fun h => hr (hs k hk h)⟩
theorem Only.mono (h : Only S w w') (hs : ∀ k, S k → R k) : Only R w w' := h.weaken fun k _ => hs k
/-- Two calls; the second one may turn, besides, what the first one has made. -/
theorem Only.then (h : Only S w w') (k : Only R w' w'') (hs : ∀ i, i < w.heap.size → R i → S i) : Only S w w'' :=
  ⟨k.os.trans h.os, k.tape.trans h.tape, k.output.trans h.output, Nat.le_trans h.size k.size,
    fun i hi hn => (k.block i (Nat.lt_of_lt_of_le hi h.size) (fun hr => hn (hs i hi hr))).trans (h.block i hi hn)⟩
theorem Only.drew (h : Only S w w') : Only S w w'.drew := ⟨h.os, h.tape, h.output, h.size, h.block⟩
theorem Only.drewN (h : Only S w w') (n : Nat) : Only S w (w'.drewN n) := ⟨h.os, h.tape, h.output, h.size, h.block⟩
theorem Only.alloc (h : Only S w w') (o : Obj) : Only S w (w'.alloc o) :=
  ⟨h.os, h.tape, h.output, Nat.le_trans h.size (by simp), fun i hi hn => (Below.heap_alloc w' o i (Nat.lt_of_lt_of_le hi h.size)).trans (h.block i hi hn)⟩
theorem Only.setCell (h : Only S w w') {p : Addr} (hp : S p.block ∨ w.heap.size ≤ p.block) (u : Value) : Only S w (w'.setCell p u) :=
  ⟨h.os, h.tape, h.output, by simpa [World.setCell] using h.size, fun i hi hn => (Below.heap_setCell w' p u i (by
    rintro rfl
    rcases hp with hp | hp
    · exact hn hp
    · omega)).trans (h.block i hi hn)⟩
theorem Only.of_below {B : Nat} (h : Below B w w') (hs : ∀ k, k < w.heap.size → B ≤ k → S k) : Only S w w' :=
  ⟨h.os, h.tape, h.output, h.size, fun k hk hn => h.block k (by
    rcases Nat.lt_or_ge k B with h1 | h1
    · exact h1
    · exact (hn (hs k hk h1)).elim)⟩
theorem Only.below {B : Nat} (h : Only S w w') (hB : B ≤ w.heap.size) (hs : ∀ k, k < w.heap.size → S k → B ≤ k) : Below B w w' :=
  ⟨h.os, h.tape, h.output, h.size, fun k hk => h.block k (by omega) fun h => by have := hs k (by omega) h; omega⟩
theorem Only.of_grown {row : Option Nat} (h : w.grownBy w' row) (hr : ∀ k, row = some k → k < w.heap.size → S k) : Only S w w' :=
  ⟨h.os, h.tape, h.output, h.size, fun k hk hn => h.block k hk fun e => hn (hr k e.symm hk)⟩
theorem Blk.only (h : Blk w g t cs) (ho : Only S w w') (hg : ¬ S g) : Blk w' g t cs := (ho.block g h.lt hg).trans h
theorem Only.cell (ho : Only S w w') {p : Addr} (hp : p.block < w.heap.size) (hg : ¬ S p.block) : w'.cell? p = w.cell? p := World.cell?_of_block (w := w) (ho.block p.block hp hg)
theorem Only.frozen (ho : Only S w w') {p : Addr} (hp : p.block < w.heap.size) (hg : ¬ S p.block) : w'.frozen? p = w.frozen? p := World.frozen?_of_block (w := w) (ho.block p.block hp hg)
end

/-- The nothing-turns footprint, one block, two. -/
def S0 : Nat → Prop := fun _ => False
def S1 (a : Nat) : Nat → Prop := fun k => k = a
def S2 (a b : Nat) : Nat → Prop := fun k => k = a ∨ k = b
theorem only_set (w : World) (g i : Nat) (u : Value) : Only (S1 g) w (w.setCell ⟨g, i, none⟩ u) := (Only.refl (S1 g) w).setCell (p := ⟨g, i, none⟩) (.inl rfl) u
theorem Only.set1 {S : Nat → Prop} {w w' : World} (h : Only S w w') {g : Nat} (i : Nat) (hs : S g) (u : Value) : Only S w (w'.setCell ⟨g, i, none⟩ u) := h.setCell (p := ⟨g, i, none⟩) (.inl hs) u
theorem Only.setNew {S : Nat → Prop} {w w' : World} (h : Only S w w') {g : Nat} (i : Nat) (hs : w.heap.size ≤ g) (u : Value) : Only S w (w'.setCell ⟨g, i, none⟩ u) := h.setCell (p := ⟨g, i, none⟩) (.inr hs) u

/-- A row of n cells that hold z each. -/
def zeros (z : Value) (n : Nat) : Array Value := (List.replicate n z).toArray
theorem madeCells_one (z : Value) (n : Nat) : madeCells #[z] n = zeros z n := by
  apply Array.ext
  · simp [madeCells, zeros]
  · intro j h1 h2
    have h : ∀ k : Nat, (#[z] : Array Value)[k % 1]! = z := fun k => by rw [Nat.mod_one]; rfl
    simp only [madeCells, zeros, Array.getElem_map, List.getElem_toArray, List.getElem_replicate]
    exact h _
/-- 'make([]T, n)' where T is of one cell. -/
theorem make_flat {P : Program} (t e : TypeId) (z : Value) (bytes : Nat) (ht : P.underlying t = some (.slice e)) (hinfo : (P.info? e).map (fun i => (i.zero, i.size, i.bytes)) = some (some z, 1, bytes))
    (hz : z.cells = #[z]) (n : Nat) (hb : bytes * n ≤ 281474976710656) (hn : n ≤ 9223372036854775807) (w : World) :
    (Instr.makeSlice t (.int .i64 (n : Int)) (.int .i64 (n : Int))).run P w = .ok (.slice (some ⟨w.heap.size, 0, none⟩) n n) (w.alloc (.cells (zeros z n) e)) := by
  rw [run_make_row' t e z bytes ht hinfo hz .i64 .i64 n hb hn w, madeCells_one]
theorem make_flat_at {P : Program} (t e : TypeId) (z : Value) (bytes : Nat) (ht : P.underlying t = some (.slice e)) (hinfo : (P.info? e).map (fun i => (i.zero, i.size, i.bytes)) = some (some z, 1, bytes))
    (hz : z.cells = #[z]) (n : Nat) (k : Int) (hk : (n : Int) = k) (hb : bytes * n ≤ 281474976710656) (hn : n ≤ 9223372036854775807) (w : World) :
    (Instr.makeSlice t (.int .i64 k) (.int .i64 k)).run P w = .ok (.slice (some ⟨w.heap.size, 0, none⟩) n n) (w.alloc (.cells (zeros z n) e)) := by
  subst hk
  exact make_flat t e z bytes ht hinfo hz n hb hn w
end Go.Proofs.Ytdaddbkhdalcfaa
