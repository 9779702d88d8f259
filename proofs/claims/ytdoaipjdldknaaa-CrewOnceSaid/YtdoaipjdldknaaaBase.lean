/-
  Small facts on blocks of memory that are known whole, and on what a call leaves alone. No program in sight.
-/
import Derived.WalkKit
import Derived.WalkSpells
import Derived.WalkLawsBesides
import Derived.Lib.Hide
import Derived.Deep.OwnRows
import Derived.Deep.QuietTactic
import Derived.BigQuiet
import Derived.Maps.AppendAt
namespace Go.Proofs.Ytdoaipjdldknaaa
open Go.RowKit

theorem hide {p : Prop} (h : p) : Hid p := h

/-- Block g is just the cells cs of element type t, none of them frozen. -/
def Blk (w : World) (g : Nat) (t : TypeId) (cs : Array Value) : Prop := w.heap[g]? = some (.cells cs t (0, 0))

section
variable {w w' w'' : World} {g : Nat} {t : TypeId} {cs : Array Value}
theorem Blk.lt (h : Blk w g t cs) : g < w.heap.size := by
  rcases Nat.lt_or_ge g w.heap.size with hlt | hge
  · exact hlt
  · unfold Blk at h; rw [Array.getElem?_eq_none hge] at h; cases h
theorem Blk.cell (h : Blk w g t cs) (i : Nat) : w.cell? ⟨g, i, none⟩ = cs[i]? := cell_of_row w g i cs t (0, 0) h
theorem Blk.cellv (h : Blk w g t cs) {i : Nat} {v : Value} (hi : cs[i]? = some v) : w.cell? ⟨g, i, none⟩ = some v := by rw [h.cell, hi]
theorem Blk.frozen (h : Blk w g t cs) (i : Nat) : w.frozen? ⟨g, i, none⟩ = false := by
  unfold Blk at h
  simp [World.frozen?, h]
theorem Blk.new (w : World) (t : TypeId) (cs : Array Value) : Blk (w.alloc (.cells cs t)) w.heap.size t cs := heap_alloc_new w _
theorem Blk.drew (h : Blk w g t cs) : Blk w.drew g t cs := h
theorem Blk.drewN (h : Blk w g t cs) (n : Nat) : Blk (w.drewN n) g t cs := h
theorem Blk.alloc (h : Blk w g t cs) (o : Obj) : Blk (w.alloc o) g t cs := (Below.heap_alloc w o g h.lt).trans h
theorem Blk.set_ (h : Blk w g t cs) (i : Nat) (u : Value) : Blk (w.setCell ⟨g, i, none⟩ u) g t (cs.setIfInBounds i u) := by
  unfold Blk at h ⊢
  simp [World.setCell, Array.getElem?_modify, h]
theorem Blk.far (h : Blk w g t cs) {p : Addr} (hp : g ≠ p.block) (u : Value) : Blk (w.setCell p u) g t cs := (Below.heap_setCell w p u g hp).trans h
theorem Blk.below {B : Nat} (h : Blk w g t cs) (hb : Below B w w') (hg : g < B) : Blk w' g t cs := (hb.block g hg).trans h
theorem Blk.ne_ {g' : Nat} {t' : TypeId} {cs' : Array Value} (h : Blk w g t cs) (h' : Blk w g' t' cs') (hne : t ≠ t') : g ≠ g' := by
  rintro rfl
  unfold Blk at h h'
  rw [h] at h'
  injection h' with h'
  injection h' with _ ht
  exact hne ht

/-- From w to w' no block that was there has turned but those in S; no block has gone; the streams are as they were. -/
structure Only (S : Nat → Prop) (w w' : World) : Prop where
  os : w'.os = w.os
  tape : w'.tape = w.tape
  output : w'.output = w.output
  size : w.heap.size ≤ w'.heap.size
  block : ∀ k, k < w.heap.size → ¬ S k → w'.heap[k]? = w.heap[k]?

variable {S R : Nat → Prop}
theorem Only.refl (S : Nat → Prop) (w : World) : Only S w w := ⟨rfl, rfl, rfl, Nat.le_refl _, fun _ _ _ => rfl⟩
theorem Only.trans (h : Only S w w') (k : Only S w' w'') : Only S w w'' :=
  ⟨k.os.trans h.os, k.tape.trans h.tape, k.output.trans h.output, Nat.le_trans h.size k.size,
    fun i hi hs => (k.block i (Nat.lt_of_lt_of_le hi h.size) hs).trans (h.block i hi hs)⟩
/-- What is said of the blocks that were there at the first world alone. -/
theorem Only.weaken (h : Only S w w') (hs : ∀ k, k < w.heap.size → S k → R k) : Only R w w' :=
  ⟨h.os, h.tape, h.output, h.size, fun k hk hr => h.block k hk fun h => hr (hs k hk h)⟩
theorem Only.mono (h : Only S w w') (hs : ∀ k, S k → R k) : Only R w w' := h.weaken fun k _ => hs k
/-- Two calls; the second one may turn, besides, what the first one has made. -/
theorem Only.then (h : Only S w w') (k : Only R w' w'') (hs : ∀ i, i < w.heap.size → R i → S i) : Only S w w'' :=
  ⟨k.os.trans h.os, k.tape.trans h.tape, k.output.trans h.output, Nat.le_trans h.size k.size,
    fun i hi hn => (k.block i (Nat.lt_of_lt_of_le hi h.size) (fun hr => hn (hs i hi hr))).trans (h.block i hi hn)⟩
theorem Only.drew (h : Only S w w') : Only S w w'.drew := ⟨h.os, h.tape, h.output, h.size, h.block⟩
theorem Only.drewN (h : Only S w w') (n : Nat) : Only S w (w'.drewN n) := ⟨h.os, h.tape, h.output, h.size, h.block⟩
theorem Only.alloc (h : Only S w w') (o : Obj) : Only S w (w'.alloc o) :=
  ⟨h.os, h.tape, h.output, Nat.le_trans h.size (by simp), fun i hi hn => (Below.heap_alloc w' o i (Nat.lt_of_lt_of_le hi h.size)).trans (h.block i hi hn)⟩
theorem Only.setCell (h : Only S w w') {p : Addr} (hp : S p.block ∨ w.heap.size ≤ p.block) (u : Value) : Only S w (w'.setCell p u) :=
  ⟨h.os, h.tape, h.output, by simpa [World.setCell] using h.size, fun i hi hn => (Below.heap_setCell w' p u i (by
    rintro rfl
    rcases hp with hp | hp
    · exact hn hp
    · omega)).trans (h.block i hi hn)⟩
theorem Only.of_below {B : Nat} (h : Below B w w') (hs : ∀ k, k < w.heap.size → B ≤ k → S k) : Only S w w' :=
  ⟨h.os, h.tape, h.output, h.size, fun k hk hn => h.block k (by
    rcases Nat.lt_or_ge k B with h1 | h1
    · exact h1
    · exact (hn (hs k hk h1)).elim)⟩
theorem Only.below {B : Nat} (h : Only S w w') (hB : B ≤ w.heap.size) (hs : ∀ k, k < w.heap.size → S k → B ≤ k) : Below B w w' :=
  ⟨h.os, h.tape, h.output, h.size, fun k hk => h.block k (by omega) fun h => by have := hs k (by omega) h; omega⟩
theorem Only.of_grown {row : Option Nat} (h : w.grownBy w' row) (hr : ∀ k, row = some k → k < w.heap.size → S k) : Only S w w' :=
  ⟨h.os, h.tape, h.output, h.size, fun k hk hn => h.block k hk fun e => hn (hr k e.symm hk)⟩
theorem Blk.only (h : Blk w g t cs) (ho : Only S w w') (hg : ¬ S g) : Blk w' g t cs := (ho.block g h.lt hg).trans h
theorem Only.cell (ho : Only S w w') {p : Addr} (hp : p.block < w.heap.size) (hg : ¬ S p.block) : w'.cell? p = w.cell? p := World.cell?_of_block (w := w) (ho.block p.block hp hg)
theorem Only.frozen (ho : Only S w w') {p : Addr} (hp : p.block < w.heap.size) (hg : ¬ S p.block) : w'.frozen? p = w.frozen? p := World.frozen?_of_block (w := w) (ho.block p.block hp hg)
end

/-- The nothing-turns footprint, one block, two. -/
def S0 : Nat → Prop := fun _ => False
def S1 (a : Nat) : Nat → Prop := fun k => k = a
def S2 (a b : Nat) : Nat → Prop := fun k => k = a ∨ k = b
theorem S0.then1 {w w' w'' : World} {a : Nat} (h : Only S0 w w') (k : Only (S1 a) w' w'') (ha : w.heap.size ≤ a) : Only S0 w w'' := h.then k fun i hi e => by unfold S1 at e; omega
theorem S0.then2 {w w' w'' : World} {a b : Nat} (h : Only S0 w w') (k : Only (S2 a b) w' w'') (ha : w.heap.size ≤ a) (hb : w.heap.size ≤ b) : Only S0 w w'' :=
  h.then k fun i hi e => by unfold S2 at e; omega
theorem S0.below {w w' : World} (h : Only S0 w w') : Below w.heap.size w w' := h.below (Nat.le_refl _) fun _ _ h => h.elim
theorem only_set (w : World) (g i : Nat) (u : Value) : Only (S1 g) w (w.setCell ⟨g, i, none⟩ u) := (Only.refl (S1 g) w).setCell (p := ⟨g, i, none⟩) (.inl rfl) u
theorem Only.set1 {S : Nat → Prop} {w w' : World} (h : Only S w w') {g : Nat} (i : Nat) (hs : S g) (u : Value) : Only S w (w'.setCell ⟨g, i, none⟩ u) := h.setCell (p := ⟨g, i, none⟩) (.inl hs) u
theorem Only.setNew {S : Nat → Prop} {w w' : World} (h : Only S w w') {g : Nat} (i : Nat) (hs : w.heap.size ≤ g) (u : Value) : Only S w (w'.setCell ⟨g, i, none⟩ u) := h.setCell (p := ⟨g, i, none⟩) (.inr hs) u

/-- A row of n cells that hold z each. -/
def zeros (z : Value) (n : Nat) : Array Value := (List.replicate n z).toArray
theorem madeCells_one (z : Value) (n : Nat) : madeCells #[z] n = zeros z n := by
  apply Array.ext
  · simp [madeCells, zeros]
  · intro j h1 h2
    have h : ∀ k : Nat, (#[z] : Array Value)[k % 1]! = z := fun k => by rw [Nat.mod_one]; rfl
    simp only [madeCells, zeros, Array.getElem_map, List.getElem_toArray, List.getElem_replicate]
    exact h _
/-- 'make([]T, n)' where T is of one cell. -/
theorem make_flat {P : Program} (t e : TypeId) (z : Value) (bytes : Nat) (ht : P.underlying t = some (.slice e)) (hinfo : (P.info? e).map (fun i => (i.zero, i.size, i.bytes)) = some (some z, 1, bytes))
    (hz : z.cells = #[z]) (n : Nat) (hb : bytes * n ≤ 281474976710656) (hn : n ≤ 9223372036854775807) (w : World) :
    (Instr.makeSlice t (.int .i64 (n : Int)) (.int .i64 (n : Int))).run P w = .ok (.slice (some ⟨w.heap.size, 0, none⟩) n n) (w.alloc (.cells (zeros z n) e)) := by
  rw [run_make_row' t e z bytes ht hinfo hz .i64 .i64 n hb hn w, madeCells_one]
theorem make_flat_at {P : Program} (t e : TypeId) (z : Value) (bytes : Nat) (ht : P.underlying t = some (.slice e)) (hinfo : (P.info? e).map (fun i => (i.zero, i.size, i.bytes)) = some (some z, 1, bytes))
    (hz : z.cells = #[z]) (n : Nat) (k : Int) (hk : (n : Int) = k) (hb : bytes * n ≤ 281474976710656) (hn : n ≤ 9223372036854775807) (w : World) :
    (Instr.makeSlice t (.int .i64 k) (.int .i64 k)).run P w = .ok (.slice (some ⟨w.heap.size, 0, none⟩) n n) (w.alloc (.cells (zeros z n) e)) := by
  subst hk
  exact make_flat t e z bytes ht hinfo hz n hb hn w

/-- A quiet call behind draws: the contract says that the world is as it was. -/
theorem quiet_add_eq {P : Program} {f : FuncId} {args : Array Value} {w : World} {a n : Nat} {v : Value}
    (h : Calls P f args (w.drewN (a + n)) fun e w' => e = .returned v ∧ w.drewN (a + n) = w') :
    Calls P f args (w.drewN (a + n)) fun e w'' => e = .returned v ∧ ∃ m, w'' = w.drewN (a + m) :=
  h.mono fun _ _ ⟨he, hm⟩ => ⟨he, n, hm.symm⟩
theorem quiet_eq {P : Program} {f : FuncId} {args : Array Value} {w : World} {n : Nat} {v : Value}
    (h : Calls P f args (w.drewN n) fun e w' => e = .returned v ∧ w.drewN n = w') :
    Calls P f args (w.drewN n) fun e w'' => e = .returned v ∧ ∃ m, w'' = w.drewN m :=
  h.mono fun _ _ ⟨he, hm⟩ => ⟨he, n, hm.symm⟩
theorem add_addr (g off i : Nat) : Addr.add ⟨g, off, none⟩ i = ⟨g, off + i, none⟩ := by
  unfold Addr.add
  by_cases h : i = 0 <;> simp [h]

/-- A slice value that reads as the values xs. -/
def Rd (w : World) (v : Value) (xs : List Value) : Prop :=
  ∃ a cap, v = .slice a xs.length cap ∧ (xs.length ≠ 0 → ∃ g off, a = some ⟨g, off, none⟩ ∧ g < w.heap.size ∧ ∀ i u, xs[i]? = some u → w.cell? ⟨g, off + i, none⟩ = some u)
theorem Rd.only0 {w w' : World} {v : Value} {xs : List Value} (h : Rd w v xs) (ho : Only S0 w w') : Rd w' v xs := by
  obtain ⟨a, cap, rfl, hc⟩ := h
  refine ⟨a, cap, rfl, fun hn => ?_⟩
  obtain ⟨g, off, rfl, hg, hx⟩ := hc hn
  exact ⟨g, off, rfl, Nat.lt_of_lt_of_le hg ho.size, fun i u hu => (ho.cell (p := ⟨g, off + i, none⟩) hg (fun h => h)).trans (hx i u hu)⟩

/-- A slice that the call has made, by make or append; its block is from B on. -/
def Sl (w : World) (B : Nat) (e : TypeId) (v : Value) (xs : List Value) : Prop := w.ownsRow B e 1 v xs.length xs
section
variable {w w' : World} {B : Nat} {e : TypeId} {v : Value} {xs : List Value}
theorem Sl.nil (w : World) (B : Nat) (e : TypeId) : Sl w B e (.slice none 0 0) [] := ⟨by simp, .inl ⟨rfl, rfl⟩⟩
theorem Sl.form (h : Sl w B e v xs) : (v = .slice none 0 0 ∧ xs = []) ∨ ∃ g cap cur, v = .slice (some ⟨g, 0, none⟩) xs.length cap ∧ B ≤ g ∧ Blk w g e cur ∧ xs.length ≤ cap ∧ cap ≤ maxLen ∧ cur.size = cap ∧ cur.toList.take xs.length = xs := by
  obtain ⟨_, h⟩ := h
  rcases h with ⟨h1, h2⟩ | ⟨g, cap, cur, h1, h2, h3, h4, h5, h6, h7⟩
  · exact .inl ⟨h1, List.eq_nil_of_length_eq_zero h2⟩
  · exact .inr ⟨g, cap, cur, h1, h2, h3, h4, h5, by simpa using h6, by simpa using h7⟩
theorem Sl.mk_ {g cap : Nat} {cur : Array Value} (hv : v = .slice (some ⟨g, 0, none⟩) xs.length cap) (hB : B ≤ g) (hb : Blk w g e cur) (hn : xs.length ≤ cap) (hm : cap ≤ maxLen) (hs : cur.size = cap) (ht : cur.toList.take xs.length = xs) : Sl w B e v xs :=
  ⟨by simp, .inr ⟨g, cap, cur, hv, hB, hb, hn, hm, by simpa using hs, by simpa using ht⟩⟩
theorem Sl.only {S : Nat → Prop} (h : Sl w B e v xs) (ho : Only S w w') (hs : ∀ g, v.ownBlock = some g → ¬ S g) : Sl w' B e v xs := by
  rcases h.form with ⟨rfl, rfl⟩ | ⟨g, cap, cur, rfl, hB, hb, hn, hm, hz, ht⟩
  · exact Sl.nil _ _ _
  · exact .mk_ rfl hB (hb.only ho (hs g rfl)) hn hm hz ht
theorem Sl.block (h : Sl w B e v xs) {g : Nat} (hg : v.ownBlock = some g) : B ≤ g ∧ g < w.heap.size := by
  rcases h.form with ⟨rfl, rfl⟩ | ⟨g', cap, cur, rfl, hB, hb, hn, hm, hz, ht⟩
  · simp [Value.ownBlock] at hg
  · simp [Value.ownBlock] at hg
    subst hg
    exact ⟨hB, hb.lt⟩
theorem Sl.ne_blk (h : Sl w B e v xs) {g : Nat} {t : TypeId} {cs : Array Value} (hg : Blk w g t cs) (hne : e ≠ t) : v.ownBlock ≠ some g := by
  rcases h.form with ⟨rfl, rfl⟩ | ⟨g', cap, cur, rfl, hB, hb, hn, hm, hz, ht⟩
  · simp [Value.ownBlock]
  · intro he
    simp [Value.ownBlock] at he
    exact hb.ne_ hg hne he
theorem Sl.ne_sl {e' : TypeId} {v' : Value} {xs' : List Value} {B' : Nat} (h : Sl w B e v xs) (h' : Sl w B' e' v' xs') (hne : e ≠ e') {g : Nat} (hg : v.ownBlock = some g) : v'.ownBlock ≠ some g := by
  rcases h.form with ⟨rfl, rfl⟩ | ⟨g1, cap, cur, rfl, hB, hb, hn, hm, hz, ht⟩
  · simp [Value.ownBlock] at hg
  · simp [Value.ownBlock] at hg
    subst hg
    exact h'.ne_blk hb (Ne.symm hne)
theorem Sl.rd (h : Sl w B e v xs) : Rd w v xs := by
  rcases h.form with ⟨rfl, rfl⟩ | ⟨g, cap, cur, rfl, hB, hb, hn, hm, hz, ht⟩
  · exact ⟨none, 0, rfl, fun h => (h rfl).elim⟩
  · refine ⟨some ⟨g, 0, none⟩, cap, rfl, fun hn => ⟨g, 0, rfl, hb.lt, fun i u hu => ?_⟩⟩
    rw [Nat.zero_add, hb.cell]
    have hi : i < xs.length := by
      rcases Nat.lt_or_ge i xs.length with h | h
      · exact h
      · rw [List.getElem?_eq_none h] at hu; cases hu
    rw [← ht, List.getElem?_take, if_pos hi] at hu
    rw [← hu, ← Array.getElem?_toList]
theorem Sl.more {B' : Nat} (h : Sl w B e v xs) (hB : B' ≤ B) : Sl w B' e v xs := by
  rcases h.form with ⟨rfl, rfl⟩ | ⟨g, cap, cur, rfl, h1, hb, hn, hm, hz, ht⟩
  · exact Sl.nil _ _ _
  · exact .mk_ rfl (Nat.le_trans hB h1) hb hn hm hz ht
/-- A block that is known whole, as a slice over all of it. -/
theorem Blk.sl {g : Nat} {cs : Array Value} (h : Blk w g e cs) (hB : B ≤ g) (hm : cs.size ≤ maxLen) : Sl w B e (.slice (some ⟨g, 0, none⟩) cs.size cs.size) cs.toList :=
  .mk_ (by simp) hB h (by simp) hm rfl (List.take_of_length_le (by simp))
end

theorem app_form {w : World} {B : Nat} {e : TypeId} {v u : Value} {xs : List Value} (h : Sl w B e v (xs ++ [u])) : ∃ g cap, v = .slice (some ⟨g, 0, none⟩) (xs ++ [u]).length cap := by
  rcases h.form with ⟨_, hb⟩ | ⟨g, cap, _, rfl, _⟩
  · simp at hb
  · exact ⟨g, cap, rfl⟩

/-- 'append(s, u)', s made by the call itself: what it appends lies in a new block of one cell. -/
theorem wpList_app1 {P : Program} {ops : Array Oper} {rest : List Oper} {o : Oper} {a : Act} {Q : Exit → Act → World → Prop} (w : World) (hgd : o.guard = none) (s x : Operand) (t : TypeId)
    (ho : o.op = .call { callee := .builtin .append, args := #[s, x], argTypes := #[t, t] })
    (e : TypeId) (z : Value) (bytes : Nat) (ht : P.underlying t = some (.slice e)) (hinfo : (P.info? e).map (fun i => (i.zero, i.size, i.bytes)) = some (some z, 1, bytes)) (hz : z.cells = #[z])
    (B : Nat) (v : Value) (xs : List Value) (u : Value) (hs : a.eval s = v) (hx : a.eval x = .slice (some ⟨w.heap.size, 0, none⟩) 1 1) (hown : Sl w B e v xs) (hu : u.oneCell' = true)
    (hbytes : (xs.length + 1) * bytes ≤ 140737488355328) (h63 : xs.length + 1 ≤ maxLen) (hB : B ≤ w.heap.size)
    (h : ∀ v' w', Sl w' B e v' (xs ++ [u]) → Only (fun k => v.ownBlock = some k) w w' → (v'.ownBlock = v.ownBlock ∨ ∃ g, v'.ownBlock = some g ∧ w.heap.size ≤ g) → wpList P ops Q rest (a.put o.dst v') w') :
    wpList P ops Q (o :: rest) a (w.alloc (.cells #[u] e)) := by
  obtain ⟨i, hi, hz0, hz1, hz2⟩ := info_parts hinfo
  refine wpList_append_own_at (w := w.alloc (.cells #[u] e)) hgd s x t ho B e i z 1 bytes ht hi hz0 hz1 hz2 (by rw [hz]; rfl) (by decide) v xs.length xs hs (hown.alloc _) ⟨w.heap.size, 0, none⟩ 1 1 [u] hx rfl (cell_one_new w u e) (by simpa using hu) h63 hbytes (by simp; omega) ?_
  intro v' w' h1 h2 _ h4
  have hlen : (xs ++ [u]).length = xs.length + 1 := by simp
  refine h v' w' (by unfold Sl; rw [hlen]; exact h1) ?_ ?_
  · exact ((Only.refl _ w).alloc _).then (R := fun k => v.ownBlock = some k) (Only.of_grown h2 fun k hk _ => hk) fun i _ hi => hi
  · rcases h4 with h4 | h4
    · exact .inl h4
    · exact .inr ⟨_, h4, by simp⟩
end Go.Proofs.Ytdoaipjdldknaaa
