/-
  The document's memory (trouperef01), its lists held against each other, and cells.All.
-/
import Derived.Test.YtdoaipjdldknaaaGreatMem
namespace Go.Proofs.YtdoaipjdldknaaaGreat
open Go.RowKit
set_option linter.unusedVariables false

/-- The document's memory: as MemAt, of the other struct. -/
structure RefAt (w : World) (bm bc : Nat) (L : List Int) (tc : Int) : Prop where
  mem : Blk w bm 40 #[.slice (some ⟨bc, 0, none⟩) L.length L.length, .int .i64 tc]
  cells : Blk w bc 29 (L.map (Value.int .u64)).toArray
  len : L.length ≤ 65536
  tc0 : 0 ≤ tc
section
variable {w : World} {bm bc : Nat} {L : List Int} {tc : Int}
theorem RefAt.ne (h : RefAt w bm bc L tc) : bm ≠ bc := h.mem.ne_ h.cells (by decide)
theorem RefAt.only {w' : World} {S : Nat → Prop} (h : RefAt w bm bc L tc) (ho : Only S w w') (h1 : ¬ S bm) (h2 : ¬ S bc) : RefAt w' bm bc L tc :=
  ⟨h.mem.only ho h1, h.cells.only ho h2, h.len, h.tc0⟩
theorem RefAt.touched (h : RefAt w bm bc L tc) : RefAt (w.setCell ⟨bm, 1, none⟩ (.int .i64 (tc + 1))) bm bc L (tc + 1) :=
  ⟨by simpa using h.mem.set_ 1 (.int .i64 (tc + 1)), h.cells.far (p := ⟨bm, 1, none⟩) (Ne.symm h.ne) _, h.len, by have := h.tc0; omega⟩
theorem RefAt.cell (h : RefAt w bm bc L tc) (i : Int) (h0 : 0 ≤ i) (h1 : i < L.length) : w.cell? ⟨bc, i.toNat, none⟩ = some (.int .u64 (at_ L i)) := by
  refine h.cells.cellv ?_
  have h2 : i.toNat < L.length := by omega
  simp [at_, List.getD, h2]
theorem RefAt.stored (h : RefAt w bm bc L tc) (i : Nat) (v : Int) : RefAt (w.setCell ⟨bc, i, none⟩ (.int .u64 v)) bm bc (L.set i v) tc :=
  ⟨by simpa using h.mem.far (p := ⟨bc, i, none⟩) h.ne _, by simpa [List.map_set] using h.cells.set_ i (.int .u64 v), by simpa using h.len, h.tc0⟩
theorem RefAt.rd (h : RefAt w bm bc L tc) : Rd w (.slice (some ⟨bc, 0, none⟩) L.length L.length) (L.map (.int .u64)) := by
  refine ⟨_, L.length, by simp, fun _ => ⟨bc, 0, rfl, h.cells.lt, fun i u hu => ?_⟩⟩
  rw [Nat.zero_add]
  exact h.cells.cellv (by simpa using hu)
theorem RefAt.drew (h : RefAt w bm bc L tc) : RefAt w.drew bm bc L tc := ⟨h.mem, h.cells, h.len, h.tc0⟩
theorem RefAt.drewN (h : RefAt w bm bc L tc) (n : Nat) : RefAt (w.drewN n) bm bc L tc := ⟨h.mem, h.cells, h.len, h.tc0⟩
theorem only_two (w : World) (bm bc i j : Nat) (u v : Value) : Only (S2 bm bc) w ((w.setCell ⟨bm, i, none⟩ u).setCell ⟨bc, j, none⟩ v) :=
  ((Only.refl (S2 bm bc) w).set1 i (.inl rfl) u).set1 j (.inr rfl) v

theorem Count_any (n : Int) (w : World) : Calls Tryz.prog 36 #[.int .i64 n] w fun e w' => e = .returned (.int .i64 (countOf n)) ∧ w = w' := by
  rcases Int.lt_or_le n 0 with h | h
  · have hk : countOf n = 0 := by unfold countOf; omega
    rw [hk]
    clear hk
    go_enter Tryz.func36, Tryz.ntmps36
    go_wp2
    go_ret
    exact ⟨rfl, rfl⟩
  · rcases Int.lt_or_le 65536 n with h' | h'
    · have hk : countOf n = 65536 := by unfold countOf; omega
      rw [hk]
      clear hk
      go_enter Tryz.func36, Tryz.ntmps36
      go_wp2
      go_ret
      exact ⟨rfl, rfl⟩
    · obtain ⟨k, rfl⟩ := Int.eq_ofNat_of_zero_le h
      have hk : countOf k = k := by unfold countOf; omega
      rw [hk]
      clear hk
      go_enter Tryz.func36, Tryz.ntmps36
      go_wp2
      go_ret
      exact ⟨rfl, rfl⟩

theorem made_ref (w : World) (k : Nat) (hk : k ≤ 65536) :
    RefAt ((w.alloc (.cells (zeros (.int .u64 0) k) 29)).alloc (.cells #[.slice (some ⟨w.heap.size, 0, none⟩) k k, .int .i64 0] 40)) (w.heap.size + 1) w.heap.size (List.replicate k 0) 0 := by
  refine ⟨?_, ?_, by simpa using hk, by omega⟩
  · have h := Blk.new (w.alloc (.cells (zeros (.int .u64 0) k) 29)) 40 #[.slice (some ⟨w.heap.size, 0, none⟩) k k, .int .i64 0]
    simpa using h
  · have h := (Blk.new w 29 (zeros (.int .u64 0) k)).alloc (.cells #[.slice (some ⟨w.heap.size, 0, none⟩) k k, .int .i64 0] 40)
    simpa [zeros] using h
theorem RefNew_any (n : Int) : Calls Tryz.prog 12 #[.int .i64 n] w fun e w' =>
    ∃ bm bc, e = .returned (.pointer (some ⟨bm, 0, none⟩)) ∧ RefAt w' bm bc (List.replicate (countOf n) 0) 0 ∧ Only S0 w w' ∧ w.heap.size ≤ bm ∧ w.heap.size ≤ bc := by
  have hk : countOf n ≤ 65536 := by unfold countOf; omega
  have hmk := make_flat 38 29 (.int .u64 0) 8 Tryz.underlying38 info_u64 rfl (countOf n) (by omega) (by omega)
  go_enter Tryz.func12, Tryz.ntmps12
  go_wp2_with (go_at_call 36; refine (Count_any _ _).mono ?_; rintro e w1 ⟨rfl, rfl⟩)
  go_ret
  exact ⟨_, _, rfl, made_ref w _ hk, ((Only.refl _ _).alloc _).alloc _, by omega, by omega⟩


theorem RefLoad_in (i : Int) (h : RefAt w bm bc L tc) (hf : Few tc) (h0 : 0 ≤ i) (h1 : i < L.length) :
    Calls Tryz.prog 75 #[.pointer (some ⟨bm, 0, none⟩), .int .i64 i] w fun e w' =>
      e = .returned (.int .u64 (at_ L i)) ∧ RefAt w' bm bc L (tc + 1) ∧ Only (S1 bm) w w' := by
  have c0 := h.mem.cellv (i := 0) rfl
  have c1 := h.mem.cellv (i := 1) rfl
  have f1 := h.mem.frozen 1
  have c2 := h.cell i h0 h1
  have hn := h.ne
  have hl := h.len
  have t0 := h.tc0
  have t1 := hf.le
  have H := hide h
  clear h hf
  go_enter Tryz.func75, Tryz.ntmps75
  go_wp2
  go_ret
  exact ⟨rfl, H.out.touched, only_set _ _ _ _⟩

theorem RefStore_in (i v : Int) (h : RefAt w bm bc L tc) (hf : Few tc) (h0 : 0 ≤ i) (h1 : i < L.length) :
    Calls Tryz.prog 76 #[.pointer (some ⟨bm, 0, none⟩), .int .i64 i, .int .u64 v] w fun e w' =>
      e = .returned (.tuple #[]) ∧ RefAt w' bm bc (L.set i.toNat v) (tc + 1) ∧ Only (S2 bm bc) w w' := by
  have c0 := h.mem.cellv (i := 0) rfl
  have c1 := h.mem.cellv (i := 1) rfl
  have f1 := h.mem.frozen 1
  have c2 := h.cell i h0 h1
  have f2 := h.cells.frozen i.toNat
  have hn := h.ne
  have hl := h.len
  have t0 := h.tc0
  have t1 := hf.le
  have H := hide h
  clear h hf
  go_enter Tryz.func76, Tryz.ntmps76
  go_wp2
  go_end0
  exact ⟨rfl, H.out.touched.stored _ _, only_two _ _ _ _ _ _ _⟩

theorem RefSwap_yes (i old v : Int) (h : RefAt w bm bc L tc) (hf : Few tc) (h0 : 0 ≤ i) (h1 : i < L.length) (he : at_ L i = old) :
    Calls Tryz.prog 77 #[.pointer (some ⟨bm, 0, none⟩), .int .i64 i, .int .u64 old, .int .u64 v] w fun e w' =>
      e = .returned (.bool true) ∧ RefAt w' bm bc (L.set i.toNat v) (tc + 1) ∧ Only (S2 bm bc) w w' := by
  have c0 := h.mem.cellv (i := 0) rfl
  have c1 := h.mem.cellv (i := 1) rfl
  have f1 := h.mem.frozen 1
  have c2 := h.cell i h0 h1
  rw [he] at c2
  have f2 := h.cells.frozen i.toNat
  have hn := h.ne
  have hl := h.len
  have t0 := h.tc0
  have t1 := hf.le
  have H := hide h
  clear h hf he
  go_enter Tryz.func77, Tryz.ntmps77
  go_wp2
  go_ret
  exact ⟨rfl, H.out.touched.stored _ _, only_two _ _ _ _ _ _ _⟩
theorem RefSwap_no (i old v : Int) (h : RefAt w bm bc L tc) (hf : Few tc) (h0 : 0 ≤ i) (h1 : i < L.length) (he : at_ L i ≠ old) :
    Calls Tryz.prog 77 #[.pointer (some ⟨bm, 0, none⟩), .int .i64 i, .int .u64 old, .int .u64 v] w fun e w' =>
      e = .returned (.bool false) ∧ RefAt w' bm bc L (tc + 1) ∧ Only (S1 bm) w w' := by
  have c0 := h.mem.cellv (i := 0) rfl
  have c1 := h.mem.cellv (i := 1) rfl
  have f1 := h.mem.frozen 1
  have c2 := h.cell i h0 h1
  have hb : (at_ L i == old) = false := by simp [he]
  have hn := h.ne
  have hl := h.len
  have t0 := h.tc0
  have t1 := hf.le
  have H := hide h
  clear h hf he
  go_enter Tryz.func77, Tryz.ntmps77
  go_wp2
  go_ret
  exact ⟨rfl, H.out.touched, only_set _ _ _ _⟩
theorem RefAdd_in (i d : Int) (h : RefAt w bm bc L tc) (hf : Few tc) (h0 : 0 ≤ i) (h1 : i < L.length) :
    Calls Tryz.prog 78 #[.pointer (some ⟨bm, 0, none⟩), .int .i64 i, .int .u64 d] w fun e w' =>
      e = .returned (.int .u64 (add64 (at_ L i) d)) ∧ RefAt w' bm bc (L.set i.toNat (add64 (at_ L i) d)) (tc + 1) ∧ Only (S2 bm bc) w w' := by
  have c0 := h.mem.cellv (i := 0) rfl
  have c1 := h.mem.cellv (i := 1) rfl
  have f1 := h.mem.frozen 1
  have c2 := h.cell i h0 h1
  have f2 := h.cells.frozen i.toNat
  have hn := h.ne
  have hl := h.len
  have t0 := h.tc0
  have t1 := hf.le
  have H := hide h
  clear h hf
  go_enter Tryz.func78, Tryz.ntmps78
  go_wp2
  go_region
  go_wp2
  go_ret
  exact ⟨rfl, (H.out.touched.stored _ (add64 (at_ L i) d)).drew, (only_two _ _ _ _ _ _ _).drew⟩

/-- Two lists that are the same: read in whatever order. -/
theorem Same_yes {va vb : Value} {A : List Int} (hn : A.length ≤ 1000000) (ha : Rd w va (A.map (.int .u64))) (hb : Rd w vb (A.map (.int .u64))) :
    Calls Tryz.prog 13 #[va, vb] w fun e w' => e = .returned (.bool true) ∧ Only S0 w w' := by
  obtain ⟨a, ca, rfl, ha⟩ := ha
  obtain ⟨b, cb, rfl, hb⟩ := hb
  simp only [List.length_map, List.getElem?_map] at ha hb ⊢
  have HA := hide ha
  have HB := hide hb
  clear ha hb
  go_enter Tryz.func13, Tryz.ntmps13
  go_wp2_with fail
  go_loopw [5] (fun i wr => ∃ k : Nat, k ≤ A.length ∧ i = .int .i64 k ∧ Only S0 w wr) (fun i _ => A.length - (intOf i).toNat)
  case atStart => exact ⟨0, Nat.zero_le _, rfl, Only.refl _ _⟩
  case round =>
    obtain ⟨k, hk, rfl, ho⟩ := hrel
    have HO := hide ho
    clear ho
    by_cases hlt : k < A.length
    · obtain ⟨g, off, rfl, hg, hc⟩ := HA.out (by omega)
      obtain ⟨g', off', rfl, hg', hc'⟩ := HB.out (by omega)
      have c1 := (HO.out.cell (p := ⟨g, off + k, none⟩) hg (fun h => h)).trans (hc k _ (by rw [List.getElem?_eq_getElem hlt]; rfl))
      have c2 := (HO.out.cell (p := ⟨g', off' + k, none⟩) hg' (fun h => h)).trans (hc' k _ (by rw [List.getElem?_eq_getElem hlt]; rfl))
      generalize A[k] = x at c1 c2
      clear hc hc'
      go_wp2_with fail
      go_quiet (fail)
      go_wp2_with fail
      exact ⟨⟨k + 1, by omega, by go_num, HO.out.drewN _⟩, by simp [intOf]; omega⟩
    · go_wp2_with fail
      go_ret
      exact ⟨rfl, HO.out⟩

theorem own_empty (w : World) (e : TypeId) : (w.alloc (.cells #[] e)).ownsRow w.heap.size e 1 (.slice (some ⟨w.heap.size, 0, none⟩) 0 0) 0 [] :=
  ⟨rfl, .inr ⟨w.heap.size, 0, #[], rfl, Nat.le_refl _, heap_alloc_new w _, Nat.le_refl _, by unfold maxLen; omega, rfl, rfl⟩⟩
/-- All: a new list of what the cells hold. -/
theorem All_any (h : MemAt w bm bc L tc) :
    Calls Tryz.prog 14 #[.pointer (some ⟨bm, 0, none⟩)] w fun e w' => ∃ v, e = .returned v ∧ Sl w' w.heap.size 29 v (L.map (.int .u64)) ∧ Only S0 w w' := by
  have c0 := h.mem.cellv (i := 0) rfl
  have hl := h.len
  have hsrc : ∀ j u, (L.map (Value.int .u64))[j]? = some u → (w.alloc (.cells #[] 29)).cell? ((⟨bc, 0, none⟩ : Addr).add j) = some u := by
    intro j u hu
    rw [add_addr, Nat.zero_add]
    exact (h.cells.alloc _).cellv (by simpa using hu)
  have HS := hide hsrc
  have hnil := Lib.run_eql_slice_nil (P := Tryz.prog) w 38 29 (some ⟨bc, 0, none⟩) L.length L.length 0 0 Tryz.underlying38
  clear h hsrc
  obtain ⟨i0, hi, hz0, hz1, hz2⟩ := info_parts info_u64
  go_enter Tryz.func14, Tryz.ntmps14
  go_wp2_with fail
  go_in
  go_wp2_with (at_builtin; (refine wpList_append_own_at _ rfl (.tmp 5) (.tmp 6) 38 rfl w.heap.size 29 i0 _ 1 8 Tryz.underlying38 hi hz0 hz1 hz2 rfl (by decide) (.slice (some ⟨w.heap.size, 0, none⟩) 0 0) 0 [] rfl (own_empty w 29) ⟨bc, 0, none⟩ L.length L.length (L.map (.int .u64)) rfl (by simp) HS.out (by simp [Value.oneCell']) (by unfold maxLen; omega) (by omega) (by simp) ?_); intro v' w' own' grown' _ _)
  go_ret
  refine ⟨v', rfl, ?_, ?_⟩
  · unfold Sl
    simpa using own'
  · exact ((Only.refl S0 w).alloc _).then (R := fun k => k = w.heap.size) (Only.of_grown grown' fun k hk _ => by simpa [Value.ownBlock] using hk.symm) fun i hi e => by omega
end
end Go.Proofs.YtdoaipjdldknaaaGreat
