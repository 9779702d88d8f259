/-
  A crew's operations begun; what a step keeps (plain).
-/
import Derived.Test.YtdoaipjdldknaaaJC17
namespace Go.Proofs.Ytdoaipjdldknaaa
open Go.RowKit
set_option linter.unusedVariables false
theorem u64_one : U64 0 := u64_zero
theorem ordN_mem : ∀ (f d : Nat) (l : List Nat) (v : Nat), v ∈ ordN f d l → v ∈ l
  | 0, d, l, v, h => by simp [ordN] at h
  | f + 1, d, l, v, h => by
    by_cases hl : l = []
    · rw [hl, ordN_nil] at h; simp at h
    · rw [ordN_succ f d l hl] at h
      have hlen : 0 < l.length := List.length_pos_iff.2 hl
      rcases List.mem_cons.1 h with rfl | h
      · have hlt := Nat.mod_lt d hlen
        rw [List.getD, List.getElem?_eq_getElem hlt]
        exact List.getElem_mem hlt
      · exact (List.eraseIdx_subset (k := d % l.length)) (ordN_mem f _ _ v h)
theorem ordZ_lt {n i d v : Nat} (hi : i < n) (hn : n ≤ 8) (h : v ∈ ordZ d n i) : v < n := by
  unfold ordZ at h
  have h1 := ordN_mem _ _ _ _ h
  rw [othZ_good n i hn hi] at h1
  exact ((mem_othN n i v).1 h1).1
/-- The layout fits into so many cells. -/
structure CFit (F : CLay) (len : Nat) : Prop where
  n1 : 1 ≤ F.n
  n8 : F.n ≤ 8
  g : F.gb + 2 + 2 * F.actors ≤ len
  a1 : 1 ≤ F.actors
section
variable {F : CLay} {len : Nat} {L : List Int} {st : CSt}
theorem CFit.put (h : CFit F len) {x : Int} (hx : U64 x) : GopOk F.gb len (putOp F.gb x) :=
  ⟨.inl rfl, by show (0:Int) ≤ F.gb; omega, by have := h.g; have := h.a1; show (F.gb : Int) < len; omega, u64_zero, hx⟩
theorem CFit.take (h : CFit F len) : GopOk F.gb len (takeOp F.gb) :=
  ⟨.inl rfl, by show (0:Int) ≤ F.gb + 1; omega, by have := h.g; have := h.a1; show (F.gb : Int) + 1 < len; omega, u64_zero, u64_zero⟩
theorem CFit.ring (h : CFit F len) : BopOk F.n ringB := ⟨by simp [ringB], fun _ => by simp [ringB], fun _ => by have := h.n1; show (0:Int) < F.n; omega⟩
theorem bop_new (k : Nat) (hk : k = 0 ∨ k = 1 ∨ k = 2 ∨ k = 3 ∨ k = 4) {i : Nat} (hi : i < F.n) : BopOk F.n ⟨k, i, 0⟩ := ⟨hk, fun _ => by show (0:Int) ≤ i; omega, fun _ => by show (i:Int) < F.n; omega⟩
theorem SrcsOk.tail {n : Nat} {s : Src} {r : List Src} (h : SrcsOk n (s :: r)) : SrcsOk n r := fun x hx => h x (List.mem_cons_of_mem _ hx)
theorem ctry_ok (hF : CFit F len) : ∀ {r : List Src}, SrcsOk F.n r → CStOk F len (ctry F r)
  | [], _ => ⟨by decide, u64_zero⟩
  | .pop w :: r, h => ⟨rfl, popOp_ok, h _ (List.mem_cons_self ..), h.tail⟩
  | .take :: r, h => ⟨rfl, hF.take, h.tail⟩
  | .steal v :: r, h => ⟨rfl, stealOp_ok, h _ (List.mem_cons_self ..), h.tail⟩
theorem cstep_len (F : CLay) (L : List Int) (st : CSt) : (cstep F L st).1.length = L.length := by
  cases st with
  | over out v => rfl
  | src s rest =>
    cases s with
    | dq i d => exact dstep_len _ _ _ _
    | gt g => exact gstep_len _ _ _ _
  | push i v d => exact dstep_len _ _ _ _
  | put v g => exact gstep_len _ _ _ _
  | take i g => exact gstep_len _ _ _ _
  | ring b => exact bstep_len _ _ _ _
  | sleep i b => exact bstep_len _ _ _ _
  | up i v b => exact bstep_len _ _ _ _
  | poll b => exact bstep_len _ _ _ _
theorem cstep_u (hu : AllU L) (hok : CStOk F len st) : AllU (cstep F L st).1 := by
  cases st with
  | over out v => exact hu
  | src s rest =>
    cases s with
    | dq i d => exact dstep_u _ _ _ _ hu hok.2.1.v hok.2.1.b
    | gt g => exact gstep_u _ _ _ _ hu hok.2.1.v
  | push i v d => exact dstep_u _ _ _ _ hu hok.2.1.v hok.2.1.b
  | put v g => exact gstep_u _ _ _ _ hu hok.2.1.v
  | take i g => exact gstep_u _ _ _ _ hu hok.2.1.v
  | ring b => exact bstep_u _ hu
  | sleep i b => exact bstep_u _ hu
  | up i v b => exact bstep_u _ hu
  | poll b => exact bstep_u _ hu
theorem u64_dvalue {v out : Int} (h : U64 v) : U64 (dvalue v out) := by unfold dvalue; split <;> first | exact h | exact u64_zero
theorem u64_gvalue {a v out : Int} (h : U64 v) : U64 (gvalue a v out) := by unfold gvalue; split <;> first | exact h | exact u64_zero
theorem cstep_ok (hF : CFit F L.length) (hu : AllU L) (hok : CStOk F L.length st) : CStOk F L.length (cstep F L st).2 := by
  cases st with
  | over out v => exact hok
  | ring b =>
    simp only [cstep]
    split
    · rename_i h; exact ⟨h, bstep_ok _ _ _ _ hok.2⟩
    · exact ⟨by decide, u64_one⟩
  | put v g =>
    simp only [cstep]
    split
    · rename_i h; exact ⟨h, gstep_ok _ _ _ _ hu hok.2.1, hok.2.2⟩
    · split
      · exact ⟨rfl, hF.put hok.2.2, hok.2.2⟩
      · exact ⟨rfl, hF.ring⟩
  | push i v d =>
    simp only [cstep]
    split
    · rename_i h; exact ⟨h, dstep_ok _ _ _ _ hu hok.2.1, hok.2.2⟩
    · split
      · exact ⟨rfl, hF.put hok.2.2.1, hok.2.2.1⟩
      · exact ⟨rfl, hF.ring⟩
  | src s rest =>
    cases s with
    | dq i d =>
      by_cases h0 : (dstep (F.db i) F.slots L d).2.out = 0
      · rw [show cstep F L (.src (.dq i d) rest) = (_, .src (.dq i (dstep (F.db i) F.slots L d).2) rest) from by simp [cstep, sstep, SOp.out, h0]; rfl]
        exact ⟨h0, dstep_ok _ _ _ _ hu hok.2.1, hok.2.2⟩
      · by_cases h1 : (dstep (F.db i) F.slots L d).2.out = 1
        · rw [show cstep F L (.src (.dq i d) rest) = (_, .over 1 (dvalue (dstep (F.db i) F.slots L d).2.v (dstep (F.db i) F.slots L d).2.out)) from by simp [cstep, sstep, SOp.out, SOp.value, h1]; rfl]
          exact ⟨by decide, u64_dvalue (dstep_ok _ _ _ _ hu hok.2.1).v⟩
        · rw [show cstep F L (.src (.dq i d) rest) = (_, ctry F rest) from by simp [cstep, sstep, SOp.out, h0, h1]; rfl]
          exact ctry_ok hF hok.2.2.2
    | gt g =>
      by_cases h0 : (gstep F.gb F.actors L g).2.out = 0
      · rw [show cstep F L (.src (.gt g) rest) = (_, .src (.gt (gstep F.gb F.actors L g).2) rest) from by simp [cstep, sstep, SOp.out, h0]; rfl]
        exact ⟨h0, gstep_ok _ _ _ _ hu hok.2.1, hok.2.2⟩
      · by_cases h1 : (gstep F.gb F.actors L g).2.out = 1
        · rw [show cstep F L (.src (.gt g) rest) = (_, .over 1 (gvalue (gstep F.gb F.actors L g).2.ahead (gstep F.gb F.actors L g).2.v (gstep F.gb F.actors L g).2.out)) from by simp [cstep, sstep, SOp.out, SOp.value, h1]; rfl]
          exact ⟨by decide, u64_gvalue (gstep_ok _ _ _ _ hu hok.2.1).v⟩
        · rw [show cstep F L (.src (.gt g) rest) = (_, ctry F rest) from by simp [cstep, sstep, SOp.out, h0, h1]; rfl]
          exact ctry_ok hF hok.2.2
  | sleep i b =>
    simp only [cstep]
    split
    · rename_i h; exact ⟨h, bstep_ok _ _ _ _ hok.2.1, hok.2.2⟩
    · exact ⟨rfl, hF.take, hok.2.2⟩
  | take i g =>
    simp only [cstep]
    split
    · rename_i h; exact ⟨h, gstep_ok _ _ _ _ hu hok.2.1, hok.2.2⟩
    · split
      · exact ⟨rfl, bop_new 1 (by simp) hok.2.2, hok.2.2, u64_gvalue (gstep_ok _ _ _ _ hu hok.2.1).v⟩
      · exact ⟨by decide, u64_zero⟩
  | up i v b =>
    simp only [cstep]
    split
    · rename_i h; exact ⟨h, bstep_ok _ _ _ _ hok.2.1, hok.2.2⟩
    · exact ⟨by decide, hok.2.2.2⟩
  | poll b =>
    simp only [cstep]
    split
    · rename_i h; exact ⟨h, bstep_ok _ _ _ _ hok.2⟩
    · rename_i h; exact ⟨h, u64_zero⟩
end
section
variable {w w' : World} {F : CLay} {cb bb bg bm bc : Nat} {dv : Value} {bd : Nat → Nat} {tc : Int} {L : List Int}
theorem CEnv.fit (h : CEnv w F cb bb bg bm bc dv bd tc L) : CFit F L.length := ⟨h.n1, h.n8, by have := h.gate.in_; omega, by have := h.gate.n1; omega⟩
/-- An operation begun. -/
def CBegun (w : World) (F : CLay) (cb bb bg bm bc : Nat) (dv : Value) (bd : Nat → Nat) (tc : Int) (L : List Int) (st : CSt) : Ending → World → Prop := fun e w' =>
  ∃ co, e = .returned (.pointer (some ⟨co, 0, none⟩)) ∧ CIs w' cb bb bg bc bd (fun k => w.heap.size ≤ k) co st ∧ CEnv w' F cb bb bg bm bc dv bd tc L ∧ Only S0 w w' ∧ w.heap.size ≤ co ∧ CStOk F L.length st
theorem Poll_all (wk : Int) (he : CEnv w F cb bb bg bm bc dv bd tc L) : Calls Try.prog 13 #[.pointer (some ⟨cb, 0, none⟩), .int .i64 wk] w (CBegun w F cb bb bg bm bc dv bd tc L (pollC F wk)) := by
  by_cases h : 0 ≤ wk ∧ wk < F.n
  · rw [show pollC F wk = .poll ⟨2, wk, 0⟩ from by unfold pollC; rw [if_pos h]]
    refine (poll_in he.crew he.dqs h.1 h.2 he.bell h.2).mono ?_
    rintro e w' ⟨co, bp, xo, xb, rfl, h1, h2, h3, h4, h5, h6, h7, h8, h9⟩
    exact ⟨co, rfl, ⟨bp, xo, xb, h1, h2, h3, h4, h6, h7⟩, he.only0 h5, h5, h6, rfl, ⟨by simp, fun _ => h.1, fun _ => h.2⟩⟩
  · rw [show pollC F wk = .over 4 0 from by unfold pollC; rw [if_neg h]]
    refine (poll_out he.crew he.dqs (by omega)).mono ?_
    rintro e w' ⟨co, rfl, h1, h2, h3⟩
    exact ⟨co, rfl, ⟨_, _, h1, h3⟩, he.only0 h2, h2, h3, by decide, u64_zero⟩
theorem Rest_all (wk : Int) (he : CEnv w F cb bb bg bm bc dv bd tc L) : Calls Try.prog 12 #[.pointer (some ⟨cb, 0, none⟩), .int .i64 wk] w (CBegun w F cb bb bg bm bc dv bd tc L (restC F wk)) := by
  by_cases h : 0 ≤ wk ∧ wk < F.n
  · obtain ⟨i, rfl⟩ := Int.eq_ofNat_of_zero_le h.1
    rw [show restC F i = .sleep i ⟨0, i, 0⟩ from by unfold restC; rw [if_pos h]; rfl]
    refine (rest_in he.crew he.dqs h.1 h.2 he.bell h.2).mono ?_
    rintro e w' ⟨co, bp, xc, xo, xw, rfl, h1, h2, h3, h4, h5, h6, h7, h8, h9⟩
    exact ⟨co, rfl, ⟨bp, xc, xo, xw, h1, h2, h3, h4, h5, h7, h8⟩, he.only0 h6, h6, h7, rfl, ⟨by simp, fun _ => h.1, fun _ => h.2⟩, by omega⟩
  · rw [show restC F wk = .over 4 0 from by unfold restC; rw [if_neg h]]
    refine (rest_out he.crew he.dqs (by omega)).mono ?_
    rintro e w' ⟨co, rfl, h1, h2, h3⟩
    exact ⟨co, rfl, ⟨_, _, h1, h3⟩, he.only0 h2, h2, h3, by decide, u64_zero⟩
theorem Find_all (wk dr : Int) (hdr : U64 dr) (he : CEnv w F cb bb bg bm bc dv bd tc L) : Calls Try.prog 11 #[.pointer (some ⟨cb, 0, none⟩), .int .i64 wk, .int .u64 dr] w (CBegun w F cb bb bg bm bc dv bd tc L (findC F wk (ordZ dr.toNat F.n wk))) := by
  by_cases h : 0 ≤ wk ∧ wk < F.n
  · obtain ⟨i, rfl⟩ := Int.eq_ofNat_of_zero_le h.1
    have hi : i < F.n := by omega
    rw [show findC F i (ordZ dr.toNat F.n i) = .src (.dq i popOp) (.take :: (ordZ dr.toNat F.n i).map .steal) from by unfold findC; rw [if_pos h]; rfl]
    refine (find_in he.crew he.dqs hi he.n8 hdr.1 hdr.2 (he.deq i hi)).mono ?_
    rintro e w' ⟨co, sv, rfl, h1, h2, h3, w1, h4, p, xs, xo, xq, t1, t2, t3, t4, t5, t6, t7, t8, t9, t10⟩
    have := h4.size
    refine ⟨co, rfl, ⟨p, xs, xo, xq, sv, .pop i, t1, t2, t3, t4, t5, h2, h1, by omega⟩, he.only0 h3, h3, h1, rfl, popOp_ok, hi, fun s hs => ?_⟩
    rcases List.mem_cons.1 hs with rfl | hs
    · trivial
    · obtain ⟨v, hv, rfl⟩ := List.mem_map.1 hs
      exact ordZ_lt hi he.n8 hv
  · rw [show findC F wk (ordZ dr.toNat F.n wk) = .over 4 0 from by unfold findC; rw [if_neg h]]
    refine (find_out he.crew he.dqs (by omega)).mono ?_
    rintro e w' ⟨co, rfl, h1, h2, h3⟩
    exact ⟨co, rfl, ⟨_, _, h1, h3⟩, he.only0 h2, h2, h3, by decide, u64_zero⟩
theorem Offer_all (wk v : Int) (hv : U64 v) (he : CEnv w F cb bb bg bm bc dv bd tc L) : Calls Try.prog 10 #[.pointer (some ⟨cb, 0, none⟩), .int .i64 wk, .int .u64 v] w (CBegun w F cb bb bg bm bc dv bd tc L (offerC F wk v)) := by
  by_cases h : 0 ≤ wk ∧ wk < F.n
  · obtain ⟨i, rfl⟩ := Int.eq_ofNat_of_zero_le h.1
    have hi : i < F.n := by omega
    rw [show offerC F i v = .push i v (pushOp v) from by unfold offerC; rw [if_pos h]; rfl]
    refine (offer_in v he.crew he.dqs hi (by have := he.n8; omega) (he.deq i hi)).mono ?_
    rintro e w' ⟨co, rfl, p, xp, xo, xv, h1, h2, h3, h4, h5, h6, h7, h8, h9, h10, h11⟩
    have := Blk.lt he.mem.cells
    exact ⟨co, rfl, ⟨p, xp, xo, xv, h1, h2, h3, h4, h5, h7, h8, ⟨by omega, by omega⟩⟩, he.only0 h6, h6, h7, rfl, pushOp_ok hv, hv, hi⟩
  · rw [show offerC F wk v = .put v (putOp F.gb v) from by unfold offerC; rw [if_neg h]]
    have fin : ∀ e w', (∃ w1, e = .returned (.pointer (some ⟨w.heap.size + 1, 0, none⟩)) ∧ Only S0 w w1 ∧ w.heap.size + 2 ≤ w1.heap.size ∧ Entered w1 w' (w.heap.size + 1) cb bg F.gb v 0) → CBegun w F cb bb bg bm bc dv bd tc L (.put v (putOp F.gb v)) e w' := by
      rintro e w' ⟨w1, rfl, h1, h2, gp, xp, xo, xv, t1, t2, t3, t4, t5, t6, t7, t8, t9, t10⟩
      have hO : Only S0 w w' := S0.then1 h1 t6 (by omega)
      have := Blk.lt he.mem.cells
      exact ⟨_, rfl, ⟨gp, xp, xo, xv, t1, t2, t3, t4, t5, by omega, by omega, ⟨by omega, by omega⟩⟩, he.only0 hO, hO, by omega, rfl, he.fit.put hv, hv⟩
    by_cases hn : wk < 0
    · exact (offer_neg v he.crew hn he.gate).mono fin
    · exact (offer_big v he.crew he.dqs (by omega) he.gate).mono fin
end
end Go.Proofs.Ytdoaipjdldknaaa
