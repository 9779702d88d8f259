/-
  The memory of cells (package cells): what each method does, said of the list of what the cells hold and of the count of accesses.
-/
import Derived.Test.YtdoaipjdldknaaaRows
import Derived.Test.YtdoaipjdldknaaaBase
namespace Go.Proofs.Ytdoaipjdldknaaa
open Go.RowKit

/-- A memory: block bm is the struct, block bc the row of cells, which hold L; tc accesses were made. -/
structure MemAt (w : World) (bm bc : Nat) (L : List Int) (tc : Int) : Prop where
  mem : Blk w bm 64 #[.slice (some ⟨bc, 0, none⟩) L.length L.length, .int .i64 tc]
  cells : Blk w bc 31 (L.map (Value.int .u64)).toArray
  len : L.length ≤ 65536
  tc0 : 0 ≤ tc
theorem MemAt.ne {w : World} {bm bc : Nat} {L : List Int} {tc : Int} (h : MemAt w bm bc L tc) : bm ≠ bc := h.mem.ne_ h.cells (by decide)
theorem MemAt.only {w w' : World} {S : Nat → Prop} {bm bc : Nat} {L : List Int} {tc : Int} (h : MemAt w bm bc L tc) (ho : Only S w w') (h1 : ¬ S bm) (h2 : ¬ S bc) : MemAt w' bm bc L tc :=
  ⟨h.mem.only ho h1, h.cells.only ho h2, h.len, h.tc0⟩

theorem MemAt.drew {w : World} {bm bc : Nat} {L : List Int} {tc : Int} (h : MemAt w bm bc L tc) : MemAt w.drew bm bc L tc := ⟨h.mem, h.cells, h.len, h.tc0⟩
theorem MemAt.drewN {w : World} {bm bc : Nat} {L : List Int} {tc : Int} (h : MemAt w bm bc L tc) (n : Nat) : MemAt (w.drewN n) bm bc L tc := ⟨h.mem, h.cells, h.len, h.tc0⟩

/-- A bound that no count of accesses reaches. -/
def Few (tc : Int) : Prop := tc < 1000000000000000
theorem few_of (tc : Int) (h : tc < 1000000000000000) : Few tc := h
theorem Few.le {tc : Int} (h : Few tc) : tc < 1000000000000000 := h

theorem MemAt.touched {w : World} {bm bc : Nat} {L : List Int} {tc : Int} (h : MemAt w bm bc L tc) : MemAt (w.setCell ⟨bm, 1, none⟩ (.int .i64 (tc + 1))) bm bc L (tc + 1) :=
  ⟨by simpa using h.mem.set_ 1 (.int .i64 (tc + 1)), h.cells.far (p := ⟨bm, 1, none⟩) (Ne.symm h.ne) _, h.len, by have := h.tc0; omega⟩

theorem touch_in {w : World} {bm bc : Nat} {L : List Int} {tc : Int} (i : Int) (h : MemAt w bm bc L tc) (hf : Few tc) (h0 : 0 ≤ i) (h1 : i < L.length) :
    Calls Try.prog 71 #[.pointer (some ⟨bm, 0, none⟩), .int .i64 i] w fun e w' =>
      e = .returned (.tuple #[.pointer (some ⟨bc, i.toNat, none⟩), .bool true]) ∧ MemAt w' bm bc L (tc + 1) ∧ Only (S1 bm) w w' := by
  have c0 := h.mem.cellv (i := 0) rfl
  have c1 := h.mem.cellv (i := 1) rfl
  have f1 := h.mem.frozen 1
  have hl := h.len
  have t0 := h.tc0
  have t1 := hf.le
  have H := hide h
  clear h hf
  go_enter Try.func71, Try.ntmps71
  go_wp2
  go_ret2
  exact ⟨rfl, H.out.touched, only_set _ _ _ _⟩

theorem touch_out {w : World} {bm bc : Nat} {L : List Int} {tc : Int} (i : Int) (h : MemAt w bm bc L tc) (hi : i < 0 ∨ (L.length : Int) ≤ i) :
    Calls Try.prog 71 #[.pointer (some ⟨bm, 0, none⟩), .int .i64 i] w fun e w' =>
      e = .returned (.tuple #[.pointer none, .bool false]) ∧ w = w' := by
  have c0 := h.mem.cellv (i := 0) rfl
  have hl := h.len
  have H := hide h
  clear h
  rcases hi with hi | hi
  · go_enter Try.func71, Try.ntmps71
    go_wp2
    go_ret2
    exact ⟨rfl, rfl⟩
  · have h0 : 0 ≤ i := by omega
    go_enter Try.func71, Try.ntmps71
    go_wp2
    go_ret2
    exact ⟨rfl, rfl⟩

/-- What is in a cell. -/
def at_ (L : List Int) (i : Int) : Int := L.getD i.toNat 0
theorem at0 (v : Int) : at_ [v] 0 = v := rfl
theorem MemAt.cell {w : World} {bm bc : Nat} {L : List Int} {tc : Int} (h : MemAt w bm bc L tc) (i : Int) (h0 : 0 ≤ i) (h1 : i < L.length) : w.cell? ⟨bc, i.toNat, none⟩ = some (.int .u64 (at_ L i)) := by
  refine h.cells.cellv ?_
  have h2 : i.toNat < L.length := by omega
  simp [at_, List.getD, h2]
theorem MemAt.stored {w : World} {bm bc : Nat} {L : List Int} {tc : Int} (h : MemAt w bm bc L tc) (i : Nat) (v : Int) : MemAt (w.setCell ⟨bc, i, none⟩ (.int .u64 v)) bm bc (L.set i v) tc :=
  ⟨by simpa using h.mem.far (p := ⟨bc, i, none⟩) h.ne _, by simpa [List.map_set] using h.cells.set_ i (.int .u64 v), by simpa using h.len, h.tc0⟩
theorem only_cell {w w' : World} {S : Nat → Prop} {bm bc : Nat} (h : Only S w w') (hs : ∀ k, S k → k = bm) (i : Nat) (u : Value) : Only (S2 bm bc) w (w'.setCell ⟨bc, i, none⟩ u) :=
  (h.mono (R := S2 bm bc) fun k hk => .inl (hs k hk)).setCell (.inl (.inr rfl)) u

theorem Len_any {w : World} {bm bc : Nat} {L : List Int} {tc : Int} (h : MemAt w bm bc L tc) :
    Calls Try.prog 18 #[.pointer (some ⟨bm, 0, none⟩)] w fun e w' => e = .returned (.int .i64 L.length) ∧ w = w' := by
  have c0 := h.mem.cellv (i := 0) rfl
  clear h
  go_enter Try.func18, Try.ntmps18
  go_wp2
  go_ret
  exact ⟨rfl, rfl⟩


theorem Load_in {w : World} {bm bc : Nat} {L : List Int} {tc : Int} (i : Int) (h : MemAt w bm bc L tc) (hf : Few tc) (h0 : 0 ≤ i) (h1 : i < L.length) :
    Calls Try.prog 70 #[.pointer (some ⟨bm, 0, none⟩), .int .i64 i] w fun e w' =>
      e = .returned (.tuple #[.int .u64 (at_ L i), .int .i64 0]) ∧ MemAt w' bm bc L (tc + 1) ∧ Only (S1 bm) w w' := by
  go_enter Try.func70, Try.ntmps70
  go_wp2_with (go_at_call 71; refine (touch_in i h hf h0 h1).mono ?_; rintro e w1 ⟨rfl, h1', o1⟩; have c1 := h1'.cell i h0 h1)
  go_ret2
  exact ⟨rfl, by assumption, by assumption⟩
theorem Load_out {w : World} {bm bc : Nat} {L : List Int} {tc : Int} (i : Int) (h : MemAt w bm bc L tc) (hi : i < 0 ∨ (L.length : Int) ≤ i) :
    Calls Try.prog 70 #[.pointer (some ⟨bm, 0, none⟩), .int .i64 i] w fun e w' =>
      e = .returned (.tuple #[.int .u64 0, .int .i64 1]) ∧ w = w' := by
  go_enter Try.func70, Try.ntmps70
  go_wp2_with (go_at_call 71; refine (touch_out i h hi).mono ?_; rintro e w1 ⟨rfl, rfl⟩)
  go_ret2
  exact ⟨rfl, rfl⟩

theorem Store_in {w : World} {bm bc : Nat} {L : List Int} {tc : Int} (i v : Int) (h : MemAt w bm bc L tc) (hf : Few tc) (h0 : 0 ≤ i) (h1 : i < L.length) :
    Calls Try.prog 55 #[.pointer (some ⟨bm, 0, none⟩), .int .i64 i, .int .u64 v] w fun e w' =>
      e = .returned (.int .i64 0) ∧ MemAt w' bm bc (L.set i.toNat v) (tc + 1) ∧ Only (S2 bm bc) w w' := by
  go_enter Try.func55, Try.ntmps55
  go_wp2_with (go_at_call 71; refine (touch_in i h hf h0 h1).mono ?_; rintro e w1 ⟨rfl, h1', o1⟩; have c1 := h1'.cell i h0 h1; have f1 := h1'.cells.frozen i.toNat; have H := hide h1'; clear h1')
  go_ret
  exact ⟨rfl, H.out.stored _ _, only_cell (by assumption) (fun _ h => h) _ _⟩
theorem Store_out {w : World} {bm bc : Nat} {L : List Int} {tc : Int} (i v : Int) (h : MemAt w bm bc L tc) (hi : i < 0 ∨ (L.length : Int) ≤ i) :
    Calls Try.prog 55 #[.pointer (some ⟨bm, 0, none⟩), .int .i64 i, .int .u64 v] w fun e w' =>
      e = .returned (.int .i64 1) ∧ w = w' := by
  go_enter Try.func55, Try.ntmps55
  go_wp2_with (go_at_call 71; refine (touch_out i h hi).mono ?_; rintro e w1 ⟨rfl, rfl⟩)
  go_ret
  exact ⟨rfl, rfl⟩

theorem Swap_yes {w : World} {bm bc : Nat} {L : List Int} {tc : Int} (i old v : Int) (h : MemAt w bm bc L tc) (hf : Few tc) (h0 : 0 ≤ i) (h1 : i < L.length) (he : at_ L i = old) :
    Calls Try.prog 84 #[.pointer (some ⟨bm, 0, none⟩), .int .i64 i, .int .u64 old, .int .u64 v] w fun e w' =>
      e = .returned (.tuple #[.bool true, .int .i64 0]) ∧ MemAt w' bm bc (L.set i.toNat v) (tc + 1) ∧ Only (S2 bm bc) w w' := by
  have hb : (at_ L i != old) = false := by simp [he]
  have hb' : (at_ L i == old) = true := by simp [he]
  clear he
  go_enter Try.func84, Try.ntmps84
  go_wp2_with (go_at_call 71; refine (touch_in i h hf h0 h1).mono ?_; rintro e w1 ⟨rfl, h1', o1⟩; have c1 := h1'.cell i h0 h1; have f1 := h1'.cells.frozen i.toNat; have H := hide h1'; clear h1')
  go_ret2
  exact ⟨rfl, H.out.stored _ _, only_cell (by assumption) (fun _ h => h) _ _⟩
theorem Swap_no {w : World} {bm bc : Nat} {L : List Int} {tc : Int} (i old v : Int) (h : MemAt w bm bc L tc) (hf : Few tc) (h0 : 0 ≤ i) (h1 : i < L.length) (he : at_ L i ≠ old) :
    Calls Try.prog 84 #[.pointer (some ⟨bm, 0, none⟩), .int .i64 i, .int .u64 old, .int .u64 v] w fun e w' =>
      e = .returned (.tuple #[.bool false, .int .i64 0]) ∧ MemAt w' bm bc L (tc + 1) ∧ Only (S1 bm) w w' := by
  have hb : (at_ L i != old) = true := by simp [he]
  have hb' : (at_ L i == old) = false := by simp [he]
  clear he
  go_enter Try.func84, Try.ntmps84
  go_wp2_with (go_at_call 71; refine (touch_in i h hf h0 h1).mono ?_; rintro e w1 ⟨rfl, h1', o1⟩; have c1 := h1'.cell i h0 h1)
  go_ret2
  exact ⟨rfl, by assumption, by assumption⟩
theorem Swap_out {w : World} {bm bc : Nat} {L : List Int} {tc : Int} (i old v : Int) (h : MemAt w bm bc L tc) (hi : i < 0 ∨ (L.length : Int) ≤ i) :
    Calls Try.prog 84 #[.pointer (some ⟨bm, 0, none⟩), .int .i64 i, .int .u64 old, .int .u64 v] w fun e w' =>
      e = .returned (.tuple #[.bool false, .int .i64 1]) ∧ w = w' := by
  go_enter Try.func84, Try.ntmps84
  go_wp2_with (go_at_call 71; refine (touch_out i h hi).mono ?_; rintro e w1 ⟨rfl, rfl⟩)
  go_ret2
  exact ⟨rfl, rfl⟩

/-- Addition modulo 2 to the 64th. -/
def add64 (a b : Int) : Int := IntKind.u64.wrap (a + b)


/-- How many cells a memory for n has. -/
def countOf (n : Int) : Nat := (min (max n 0) 65536).toNat
theorem info_u64 : (Try.prog.info? 31).map (fun i => (i.zero, i.size, i.bytes)) = some (some (.int .u64 0), 1, 8) := by kernel_rfl
theorem made_mem (w : World) (k : Nat) (hk : k ≤ 65536) :
    MemAt ((w.alloc (.cells (zeros (.int .u64 0) k) 31)).alloc (.cells #[.slice (some ⟨w.heap.size, 0, none⟩) k k, .int .i64 0] 64)) (w.heap.size + 1) w.heap.size (List.replicate k 0) 0 := by
  refine ⟨?_, ?_, by simpa using hk, by omega⟩
  · have h := Blk.new (w.alloc (.cells (zeros (.int .u64 0) k) 31)) 64 #[.slice (some ⟨w.heap.size, 0, none⟩) k k, .int .i64 0]
    simpa using h
  · have h := (Blk.new w 31 (zeros (.int .u64 0) k)).alloc (.cells #[.slice (some ⟨w.heap.size, 0, none⟩) k k, .int .i64 0] 64)
    simpa [zeros] using h
theorem New_any {w : World} (n : Int) :
    Calls Try.prog 8 #[.int .i64 n] w fun e w' =>
      ∃ bm bc, e = .returned (.pointer (some ⟨bm, 0, none⟩)) ∧ MemAt w' bm bc (List.replicate (countOf n) 0) 0 ∧ Only S0 w w' ∧ w.heap.size ≤ bm ∧ w.heap.size ≤ bc := by
  rcases Int.lt_or_le n 0 with h | h
  · have hk : countOf n = 0 := by unfold countOf; omega
    have hmk := make_flat_at 23 31 (.int .u64 0) 8 Try.underlying23 info_u64 rfl 0 0 rfl (by omega) (by omega)
    rw [hk]
    clear hk
    go_enter Try.func8, Try.ntmps8
    go_wp2
    go_ret
    exact ⟨_, _, rfl, made_mem w 0 (by omega), ((Only.refl _ _).alloc _).alloc _, by omega, by omega⟩
  · rcases Int.lt_or_le 65536 n with h' | h'
    · have hk : countOf n = 65536 := by unfold countOf; omega
      have hmk := make_flat_at 23 31 (.int .u64 0) 8 Try.underlying23 info_u64 rfl 65536 65536 rfl (by omega) (by omega)
      rw [hk]
      clear hk
      go_enter Try.func8, Try.ntmps8
      go_wp2
      go_ret
      exact ⟨_, _, rfl, made_mem w 65536 (by omega), ((Only.refl _ _).alloc _).alloc _, by omega, by omega⟩
    · obtain ⟨k, rfl⟩ := Int.eq_ofNat_of_zero_le h
      have hk : countOf k = k := by unfold countOf; omega
      have hmk := make_flat 23 31 (.int .u64 0) 8 Try.underlying23 info_u64 rfl k (by omega) (by omega)
      rw [hk]
      clear hk
      go_enter Try.func8, Try.ntmps8
      go_wp2
      go_ret
      exact ⟨_, _, rfl, made_mem w k (by omega), ((Only.refl _ _).alloc _).alloc _, by omega, by omega⟩
end Go.Proofs.Ytdoaipjdldknaaa
