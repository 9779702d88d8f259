/-
  A deque that is alone: made, and its operations done at once (contracts over the list of what is in it).
-/
import Derived.Test.YtdoaipjdldknaaaJSub
import Derived.Test.YtdoaipjdldknaaaFam
namespace Go.Proofs.Ytdoaipjdldknaaa
open Go.RowKit
set_option linter.unusedVariables false

/-- What is in it. -/
def inD (T B : Nat) (val : Nat → Int) : List Int := (List.range (B - T)).map fun i => val (T + i)
theorem inD_len (T B : Nat) (val : Nat → Int) : (inD T B val).length = B - T := by simp [inD]
theorem inD_push {T B : Nat} (val : Nat → Int) (x : Int) (h : T ≤ B) : inD T (B + 1) (fun t => if t = B then x else val t) = inD T B val ++ [x] := by
  unfold inD
  rw [show B + 1 - T = (B - T) + 1 by omega, List.range_succ, List.map_append]
  congr 1
  · refine List.map_congr_left fun i hi => ?_
    have := List.mem_range.1 hi
    show (if T + i = B then x else val (T + i)) = _
    rw [if_neg (by omega)]
  · simp [show T + (B - T) = B by omega]
theorem inD_pop {T B : Nat} (val : Nat → Int) (h : T < B) : inD T B val = inD T (B - 1) val ++ [val (B - 1)] := by
  unfold inD
  rw [show B - T = (B - 1 - T) + 1 by omega, List.range_succ, List.map_append]
  simp [show T + (B - 1 - T) = B - 1 by omega]
theorem inD_nil {T B : Nat} (val : Nat → Int) (h : B ≤ T) : inD T B val = [] := by
  unfold inD
  rw [show B - T = 0 by omega]
  rfl
section
variable {w w' : World} {bo bd bm bc n c : Nat} {s : List Int}
theorem layD_alone {n : Nat} (h1 : 1 ≤ n) (h64 : n ≤ 64) (val : Nat → Int) : DAlone n (layD (List.replicate (2 + n) 0) 0 (2 + n)) 1 1 val := by
  have key : ∀ k, k ≤ 2 + n → ∀ j : Nat, j < k → at_ (layD (List.replicate (2 + n) 0) 0 k) (j : Int) = if j < 2 then 1 else 0 := by
    intro k
    induction k with
    | zero => intro _ j hj; omega
    | succ k ih =>
      intro hk j hj
      rw [layD, Nat.zero_add, at_set _ _ _ _ (by rw [layD_len]; simp; omega)]
      by_cases e : j = k
      · rw [if_pos e, e]
      · rw [if_neg e]; exact ih (by omega) j (by omega)
  refine ⟨h1, h64, by rw [layD_len]; simp, ?_, ?_, Nat.le_refl _, Nat.le_refl _, by omega, by omega, fun t h2 h3 => by omega⟩
  · rw [key _ (Nat.le_refl _) 0 (by omega)]; rfl
  · rw [key _ (Nat.le_refl _) 1 (by omega)]; rfl


end
end Go.Proofs.Ytdoaipjdldknaaa
/-
  A part of a crew's operation that is done at once (plain lists; no program).
-/
namespace Go.Proofs.Ytdoaipjdldknaaa
open Go.RowKit
set_option linter.unusedVariables false
theorem gstep_cell (base n : Int) (L : List Int) (o : Gop) : (gstep base n L o).2.cell = o.cell := by
  unfold gstep
  (repeat' split) <;> rfl
theorem gate_run {F : CLay} {len : Nat} (ha : 1 ≤ F.actors) (C A : Gop → CSt) (hC : ∀ L g, g.out = 0 → cstep F L (C g) = ((gstep F.gb F.actors L g).1, if (gstep F.gb F.actors L g).2.out = 0 then C (gstep F.gb F.actors L g).2 else A (gstep F.gb F.actors L g).2)) (h0 : ∀ g, (C g).out = 0) :
    ∀ (k : Nat) (L : List Int) (g : Gop) (G' : List Int) (g' : Gop) (j : Nat), AllU L → L.length = len → GopOk F.gb len g → (g.cell = F.gb ∨ g.cell = (F.gb : Int) + 1) → g.out = 0 →
      gdone 0 F.actors k (sub L F.gb (2 + 2 * F.actors)) (gsh F.gb g) = (G', g', j) → g'.out ≠ 0 →
      ∃ L' g2, sub L' F.gb (2 + 2 * F.actors) = G' ∧ Agr L L' F.gb (2 + 2 * F.actors) ∧ gsh F.gb g2 = g' ∧ AllU L' ∧ ∀ m, cdone F (j + m) L (C g) = ((cdone F m L' (A g2)).1, (cdone F m L' (A g2)).2.1, (cdone F m L' (A g2)).2.2 + j) := by
  intro k
  induction k with
  | zero =>
    intro L g G' g' j hu hl hok hc hg hd ho
    rw [gdone] at hd
    injection hd with e1 e2
    injection e2 with e2 e3
    subst e2
    exact absurd hg ho
  | succ k ih =>
    intro L g G' g' j hu hl hok hc hg hd ho
    obtain ⟨s1, s2, s3⟩ := gstep_sub F.gb F.actors ha L g len hok hc
    have hcc := gstep_cell F.gb F.actors L g
    rw [gdone_succ _ _ _ _ _ (show (gsh F.gb g).out = 0 from hg), ← s1, ← s2] at hd
    have hok' : GopOk F.gb len (gstep F.gb F.actors L g).2 := by
      have := gstep_ok F.gb F.actors L g hu (by rw [hl]; exact hok)
      rw [hl] at this
      exact this
    have hu' := gstep_u F.gb F.actors L g hu hok.v
    have hl' : (gstep F.gb F.actors L g).1.length = len := by rw [gstep_len]; exact hl
    by_cases hz : (gstep F.gb F.actors L g).2.out = 0
    · obtain ⟨r, hr⟩ : ∃ r, gdone 0 F.actors k (sub (gstep F.gb F.actors L g).1 F.gb (2 + 2 * F.actors)) (gsh F.gb (gstep F.gb F.actors L g).2) = r := ⟨_, rfl⟩
      obtain ⟨G1, g1, j1⟩ := r
      rw [hr] at hd
      injection hd with e1 e2
      injection e2 with e2 e3
      dsimp only at e1 e2 e3
      subst e1 e2 e3
      obtain ⟨L', g2, t1, t2, t3, t4, t5⟩ := ih _ _ _ _ _ hu' hl' hok' (by rw [hcc]; exact hc) hz hr ho
      refine ⟨L', g2, t1, s3.trans t2, t3, t4, fun m => ?_⟩
      rw [show j1 + 1 + m = (j1 + m) + 1 by omega, cdone_succ _ _ _ _ (h0 g), hC L g hg, if_pos hz, t5 m]
      rfl
    · rw [gdone_over _ _ _ _ _ (show (gsh F.gb (gstep F.gb F.actors L g).2).out ≠ 0 from hz)] at hd
      injection hd with e1 e2
      injection e2 with e2 e3
      dsimp only at e1 e2 e3
      subst e1 e2 e3
      refine ⟨_, (gstep F.gb F.actors L g).2, rfl, s3, rfl, hu', fun m => ?_⟩
      rw [show 0 + 1 + m = m + 1 by omega, cdone_succ _ _ _ _ (h0 g), hC L g hg, if_neg hz]
theorem deq_run {F : CLay} {i : Nat} (ha : 1 ≤ F.slots) (C A : Dop → CSt) (hC : ∀ L d, d.out = 0 → cstep F L (C d) = ((dstep (F.db i) F.slots L d).1, if (dstep (F.db i) F.slots L d).2.out = 0 then C (dstep (F.db i) F.slots L d).2 else A (dstep (F.db i) F.slots L d).2)) (h0 : ∀ d, (C d).out = 0) :
    ∀ (k : Nat) (L : List Int) (d : Dop) (D' : List Int) (d' : Dop) (j : Nat), AllU L → DopOk d → d.out = 0 →
      ddone 0 F.slots k (sub L (F.db i) (2 + F.slots)) d = (D', d', j) → d'.out ≠ 0 →
      ∃ L', sub L' (F.db i) (2 + F.slots) = D' ∧ Agr L L' (F.db i) (2 + F.slots) ∧ AllU L' ∧ ∀ m, cdone F (j + m) L (C d) = ((cdone F m L' (A d')).1, (cdone F m L' (A d')).2.1, (cdone F m L' (A d')).2.2 + j) := by
  intro k
  induction k with
  | zero =>
    intro L d D' d' j hu hok hg hd ho
    rw [ddone] at hd
    injection hd with e1 e2
    injection e2 with e2 e3
    subst e2
    exact absurd hg ho
  | succ k ih =>
    intro L d D' d' j hu hok hg hd ho
    obtain ⟨s1, s2, s3⟩ := dstep_sub (F.db i) F.slots ha L d hok
    rw [ddone_succ _ _ _ _ _ hg, ← s1, ← s2] at hd
    have hok' := dstep_ok (F.db i) F.slots L d hu hok
    have hu' := dstep_u (F.db i) F.slots L d hu hok.v hok.b
    by_cases hz : (dstep (F.db i) F.slots L d).2.out = 0
    · obtain ⟨r, hr⟩ : ∃ r, ddone 0 F.slots k (sub (dstep (F.db i) F.slots L d).1 (F.db i) (2 + F.slots)) (dstep (F.db i) F.slots L d).2 = r := ⟨_, rfl⟩
      obtain ⟨D1, d1, j1⟩ := r
      rw [hr] at hd
      injection hd with e1 e2
      injection e2 with e2 e3
      dsimp only at e1 e2 e3
      subst e1 e2 e3
      obtain ⟨L', t1, t2, t4, t5⟩ := ih _ _ _ _ _ hu' hok' hz hr ho
      refine ⟨L', t1, s3.trans t2, t4, fun m => ?_⟩
      rw [show j1 + 1 + m = (j1 + m) + 1 by omega, cdone_succ _ _ _ _ (h0 d), hC L d hg, if_pos hz, t5 m]
      rfl
    · rw [ddone_over _ _ _ _ _ hz] at hd
      injection hd with e1 e2
      injection e2 with e2 e3
      dsimp only at e1 e2 e3
      subst e1 e2 e3
      refine ⟨_, rfl, s3, hu', fun m => ?_⟩
      rw [show 0 + 1 + m = m + 1 by omega, cdone_succ _ _ _ _ (h0 d), hC L d hg, if_neg hz]
/-- What is in a gate. -/
def inG (H T : Nat) (val : Nat → Int) : List Int := inD H T val
/-- One worker's crew, nothing under way. -/
structure CA (s : Nat) (L D G : List Int) (c : Nat) : Prop where
  len : L.length = 1000
  u : AllU L
  s1 : 1 ≤ s
  s64 : s ≤ 64
  bell : at_ L 0 = 0
  deq : ∃ T B val, DAlone s (sub L 131 (2 + s)) T B val ∧ D = inD T B val ∧ B ≤ c
  gate : ∃ T H val, Alone 64 (sub L 1 130) T H val ∧ G = inD H T val ∧ T ≤ c
def aloneF (s : Nat) : CLay := ⟨0, 1, s, 64⟩
section
variable {s c : Nat} {L D G : List Int} {x : Int}
theorem CA.fit (h : CA s L D G c) : CFit (aloneF s) L.length := ⟨by show 1 ≤ 1; omega, by show 1 ≤ 8; omega, by rw [h.len]; show 0 + 1 + 2 + 2 * 64 ≤ 1000; omega, by show 1 ≤ 64; omega⟩
theorem alone_gb (s : Nat) : (aloneF s).gb = 1 := rfl
theorem alone_db (s : Nat) : (aloneF s).db 0 = 131 := by show 0 + 1 + (2 + 2 * 64) + 0 * (2 + s) = 131; omega
theorem Agr.at {L L' : List Int} {b k i : Nat} (h : Agr L L' b k) (hi : i < b ∨ b + k ≤ i) : at_ L' (i : Int) = at_ L (i : Int) := by rw [at_get, at_get, h.get i hi]
theorem cdone_end (F : CLay) (k : Nat) (L : List Int) (a v : Int) (h : a ≠ 0) : cdone F k L (.over a v) = (L, .over a v, 0) := cdone_over _ _ _ _ h
/-- A ring that finds nobody asleep. -/
theorem ring_done (h0 : at_ L 0 = 0) (m : Nat) : cdone (aloneF s) (m + 1) L (.ring ringB) = (L, .over 1 0, 1) := by
  have hb : bstep (aloneF s).base (aloneF s).n L ringB = (L, ⟨3, 1, 4⟩) := by
    show bstep 0 1 L ringB = _
    simp [bstep, ringB, h0, onOut]
  rw [cdone_succ _ _ _ _ rfl]
  have hc : cstep (aloneF s) L (.ring ringB) = (L, .over 1 0) := by simp only [cstep]; rw [hb]; rfl
  rw [hc, cdone_end _ _ _ 1 _ (by decide)]
theorem put_hC (F : CLay) (v : Int) (L : List Int) (g : Gop) (h : g.out = 0) : cstep F L (.put v g) = ((gstep F.gb F.actors L g).1, if (gstep F.gb F.actors L g).2.out = 0 then CSt.put v (gstep F.gb F.actors L g).2 else (fun g' : Gop => if g'.out = 2 then CSt.put v (putOp F.gb v) else .ring ringB) (gstep F.gb F.actors L g).2) := rfl
theorem gsh_put (b : Nat) (v : Int) : gsh b (putOp b v) = putOp 0 v := by unfold gsh putOp; simp
theorem gsh_take (b : Nat) : gsh b (takeOp b) = takeOp 0 := by unfold gsh takeOp; simp; omega
/-- A number brought into the gate. -/
theorem CA.put (h : CA s L D G c) (v : Int) (hv : U64 v) (hG : G.length < 64) (hc : c + 1 ≤ 1000000) : ∃ j L', j ≤ 6 ∧ CA s L' D (G ++ [v]) (c + 1) ∧ ∀ m, 20 ≤ m → cdone (aloneF s) m L (.put v (putOp 1 v)) = (L', .over 1 0, j) := by
  obtain ⟨T, H, val, ha, rfl, hT⟩ := h.gate
  rw [inD_len] at hG
  obtain ⟨G', o, k, e1, e2, e3, e4⟩ := ha.put v (by have := ha.le; omega) (by omega)
  have hgs := gsh_put 1 v
  obtain ⟨L', g2, t1, t2, t3, t4, t5⟩ := gate_run (F := aloneF s) (len := 1000) (by show 1 ≤ 64; omega) (.put v) (fun g' => if g'.out = 2 then CSt.put v (putOp 1 v) else .ring ringB) (put_hC (aloneF s) v) (fun g => rfl) 100 L (putOp 1 v) G' o k h.u h.len (by have := h.fit.put hv; rw [h.len] at this; exact this) (.inl rfl) rfl
    (by show gdone 0 64 100 (sub L 1 130) (gsh 1 (putOp 1 v)) = _; rw [show gsh 1 (putOp 1 v) = putOp 0 v from hgs]; exact e1) (by rw [e2]; decide)
  have t2' : Agr L L' 1 130 := t2
  have hbell : at_ L' 0 = 0 := by rw [show at_ L' 0 = at_ L 0 from t2'.at (i := 0) (by omega)]; exact h.bell
  have hg2 : g2.out = 1 := by have : (gsh 1 g2).out = 1 := by rw [show gsh 1 g2 = o from t3]; exact e2
                              exact this
  refine ⟨k + 1, L', by omega, ⟨by rw [t2'.len]; exact h.len, t4, h.s1, h.s64, hbell, ?_, ⟨T + 1, H, _, by rw [show sub L' 1 130 = G' from t1]; exact e4, by rw [inD_push val v ha.le], by omega⟩⟩, fun m hm => ?_⟩
  · obtain ⟨Td, B, vd, hd, e, hB⟩ := h.deq
    exact ⟨Td, B, vd, by rw [t2'.sub (b' := 131) (by omega)]; exact hd, e, by omega⟩
  · obtain ⟨q, rfl⟩ : ∃ q, m = k + (q + 1) := ⟨m - k - 1, by omega⟩
    rw [t5 (q + 1)]
    simp only [hg2]
    rw [if_neg (by decide), ring_done hbell q]
    simp; omega
theorem push_hC (F : CLay) (i : Nat) (v : Int) (L : List Int) (d : Dop) (h : d.out = 0) : cstep F L (.push i v d) = ((dstep (F.db i) F.slots L d).1, if (dstep (F.db i) F.slots L d).2.out = 0 then CSt.push i v (dstep (F.db i) F.slots L d).2 else (fun d' : Dop => if d'.out = 2 then CSt.put v (putOp F.gb v) else .ring ringB) (dstep (F.db i) F.slots L d).2) := rfl
theorem CA.offer0_room (h : CA s L D G c) (v : Int) (hv : U64 v) (hD : D.length < s) (hc : c + 1 ≤ 1000000) : ∃ j L', j ≤ 20 ∧ CA s L' (D ++ [v]) G (c + 1) ∧ cdone (aloneF s) 200 L (.push 0 v (pushOp v)) = (L', .over 1 0, j) := by
  obtain ⟨T, B, val, ha, rfl, hT⟩ := h.deq
  rw [inD_len] at hD
  obtain ⟨D', o, k, e1, e2, e3, e4⟩ := ha.push v (by have := ha.le; omega) (by omega)
  have hdb := alone_db s
  obtain ⟨L', t1, t2, t4, t5⟩ := deq_run (F := aloneF s) (i := 0) h.s1 (.push 0 v) (fun d' => if d'.out = 2 then CSt.put v (putOp 1 v) else .ring ringB) (push_hC (aloneF s) 0 v) (fun g => rfl) 100 L (pushOp v) D' o k h.u (pushOp_ok hv) rfl
    (by rw [hdb]; exact e1) (by rw [e2]; decide)
  rw [hdb] at t1 t2
  have t2' : Agr L L' 131 (2 + s) := t2
  have hbell : at_ L' 0 = 0 := by rw [show at_ L' 0 = at_ L 0 from t2'.at (i := 0) (by omega)]; exact h.bell
  refine ⟨k + 1, L', by omega, ⟨by rw [t2'.len]; exact h.len, t4, h.s1, h.s64, hbell, ⟨T, B + 1, _, by rw [show sub L' 131 (2 + s) = D' from t1]; exact e4, by rw [inD_push val v ha.le], by omega⟩, ?_⟩, ?_⟩
  · obtain ⟨Tg, H, vd, hd, e, hB⟩ := h.gate
    exact ⟨Tg, H, vd, by rw [t2'.sub (b' := 1) (by omega)]; exact hd, e, by omega⟩
  · rw [show 200 = k + ((199 - k) + 1) by omega, t5]
    simp only [e2]
    rw [if_neg (by decide), ring_done hbell]
    simp; omega
theorem CA.offer0_full (h : CA s L D G c) (v : Int) (hv : U64 v) (hD : D.length = s) (hG : G.length < 64) (hc : c + 1 ≤ 1000000) : ∃ j L', j ≤ 20 ∧ CA s L' D (G ++ [v]) (c + 1) ∧ cdone (aloneF s) 200 L (.push 0 v (pushOp v)) = (L', .over 1 0, j) := by
  have hh := h
  obtain ⟨T, B, val, ha, rfl, hT⟩ := h.deq
  rw [inD_len] at hD
  obtain ⟨o, e1, e2⟩ := ha.push_full v (by have := ha.le; omega)
  have hdb := alone_db s
  obtain ⟨L1, t1, t2, t4, t5⟩ := deq_run (F := aloneF s) (i := 0) h.s1 (.push 0 v) (fun d' => if d'.out = 2 then CSt.put v (putOp 1 v) else .ring ringB) (push_hC (aloneF s) 0 v) (fun g => rfl) 100 L (pushOp v) _ o 2 h.u (pushOp_ok hv) rfl
    (by rw [hdb]; exact e1) (by rw [e2]; decide)
  rw [hdb] at t1 t2
  have t2' : Agr L L1 131 (2 + s) := t2
  have hL : L1 = L := by
    refine List.ext_getElem? fun j => ?_
    by_cases hj : j < 131 ∨ 131 + (2 + s) ≤ j
    · exact t2'.get j hj
    · have a1 := sub_get L1 131 (2 + s) (j - 131) (by omega)
      have a2 := sub_get L 131 (2 + s) (j - 131) (by omega)
      rw [show 131 + (j - 131) = j by omega] at a1 a2
      rw [← a1, ← a2, show sub L1 131 (2 + s) = sub L 131 (2 + s) from t1]
  subst hL
  obtain ⟨j, L', j6, k1, k2⟩ := hh.put v hv hG hc
  refine ⟨j + 2, L', by omega, k1, ?_⟩
  rw [show 200 = 2 + 198 by omega, t5]
  simp only [e2]
  rw [if_pos trivial, k2 198 (by omega)]
theorem srcd_hC (F : CLay) (i : Nat) (rest : List Src) (L : List Int) (d : Dop) (h : d.out = 0) : cstep F L (.src (.dq i d) rest) = ((dstep (F.db i) F.slots L d).1, if (dstep (F.db i) F.slots L d).2.out = 0 then CSt.src (.dq i (dstep (F.db i) F.slots L d).2) rest else (fun d' : Dop => if d'.out = 1 then CSt.over 1 (dvalue d'.v d'.out) else ctry F rest) (dstep (F.db i) F.slots L d).2) := by
  by_cases h0 : (dstep (F.db i) F.slots L d).2.out = 0
  · simp [cstep, sstep, SOp.out, h0]
  · by_cases h1 : (dstep (F.db i) F.slots L d).2.out = 1
    · simp [cstep, sstep, SOp.out, SOp.value, h1]
    · simp [cstep, sstep, SOp.out, h0, h1]
theorem srcg_hC (F : CLay) (rest : List Src) (L : List Int) (g : Gop) (h : g.out = 0) : cstep F L (.src (.gt g) rest) = ((gstep F.gb F.actors L g).1, if (gstep F.gb F.actors L g).2.out = 0 then CSt.src (.gt (gstep F.gb F.actors L g).2) rest else (fun g' : Gop => if g'.out = 1 then CSt.over 1 (gvalue g'.ahead g'.v g'.out) else ctry F rest) (gstep F.gb F.actors L g).2) := by
  by_cases h0 : (gstep F.gb F.actors L g).2.out = 0
  · simp [cstep, sstep, SOp.out, h0]
  · by_cases h1 : (gstep F.gb F.actors L g).2.out = 1
    · simp [cstep, sstep, SOp.out, SOp.value, h1]
    · simp [cstep, sstep, SOp.out, h0, h1]
theorem find1 (dr : Nat) (s : Nat) : findC (aloneF s) 0 (ordZ dr 1 0) = .src (.dq 0 popOp) [.take] := by
  have h0 : ordZ dr 1 0 = [] := by
    refine List.eq_nil_of_length_eq_zero ?_
    rw [ordZ_len]
    have := othN_len 1 0 (by omega)
    rw [show othZ 1 0 = othN 1 0 from othZ_good 1 0 (by omega) (by omega)]
    omega
  rw [h0]
  rfl
theorem CA.find_pop (h : CA s L (D ++ [x]) G c) : ∃ j L', j ≤ 20 ∧ CA s L' D G c ∧ cdone (aloneF s) 200 L (.src (.dq 0 popOp) [.take]) = (L', .over 1 x, j) := by
  obtain ⟨T, B, val, ha, hD, hT⟩ := h.deq
  have hlt : T < B := by
    have := congrArg List.length hD
    rw [inD_len] at this
    simp at this
    omega
  obtain ⟨D', o, k, T', B', e1, e2, e3, e4, e5, e6⟩ := ha.pop hlt
  have hdb := alone_db s
  obtain ⟨L', t1, t2, t4, t5⟩ := deq_run (F := aloneF s) (i := 0) h.s1 (fun d => .src (.dq 0 d) [.take]) (fun d' : Dop => if d'.out = 1 then CSt.over 1 (dvalue d'.v d'.out) else ctry (aloneF s) [.take]) (srcd_hC (aloneF s) 0 [.take]) (fun g => rfl) 100 L popOp D' o k h.u popOp_ok rfl
    (by rw [hdb]; exact e1) (by rw [e2]; decide)
  rw [hdb] at t1 t2
  have t2' : Agr L L' 131 (2 + s) := t2
  have hbell : at_ L' 0 = 0 := by rw [show at_ L' 0 = at_ L 0 from t2'.at (i := 0) (by omega)]; exact h.bell
  rw [inD_pop val hlt] at hD
  obtain ⟨hD1, hD2⟩ := List.append_inj' hD rfl
  simp at hD2
  refine ⟨k, L', by omega, ⟨by rw [t2'.len]; exact h.len, t4, h.s1, h.s64, hbell, ⟨T', B', val, by rw [show sub L' 131 (2 + s) = D' from t1]; exact e5, ?_, ?_⟩, ?_⟩, ?_⟩
  · rcases e6 with ⟨rfl, rfl⟩ | ⟨h1, rfl, rfl⟩
    · exact hD1
    · rw [hD1, inD_nil val (by omega), inD_nil val (by omega)]
  · rcases e6 with ⟨rfl, rfl⟩ | ⟨h1, rfl, rfl⟩ <;> omega
  · obtain ⟨Tg, H, vd, hd, e, hB⟩ := h.gate
    exact ⟨Tg, H, vd, by rw [t2'.sub (b' := 1) (by omega)]; exact hd, e, by omega⟩
  · rw [show 200 = k + (200 - k) by omega, t5]
    simp only [e2]
    rw [if_pos trivial, show dvalue o.v 1 = x from by rw [e3, hD2]; simp [dvalue], cdone_end _ _ _ 1 _ (by decide)]
    simp
/-- A pop that finds nothing, and what comes behind it. -/
theorem CA.pop_none (h : CA s L [] G c) : ∃ k L', k ≤ 6 ∧ CA s L' [] G c ∧ ∀ m, cdone (aloneF s) (k + m) L (.src (.dq 0 popOp) [.take]) = ((cdone (aloneF s) m L' (.src (.gt (takeOp 1)) [])).1, (cdone (aloneF s) m L' (.src (.gt (takeOp 1)) [])).2.1, (cdone (aloneF s) m L' (.src (.gt (takeOp 1)) [])).2.2 + k) := by
  obtain ⟨T, B, val, ha, hD, hT⟩ := h.deq
  have hBT : B = T := by
    have := congrArg List.length hD
    rw [inD_len] at this
    simp at this
    have := ha.le
    omega
  obtain ⟨D', o, k, e1, e2, e3, e4⟩ := ha.pop_none hBT
  have hdb := alone_db s
  obtain ⟨L', t1, t2, t4, t5⟩ := deq_run (F := aloneF s) (i := 0) h.s1 (fun d => .src (.dq 0 d) [.take]) (fun d' : Dop => if d'.out = 1 then CSt.over 1 (dvalue d'.v d'.out) else ctry (aloneF s) [.take]) (srcd_hC (aloneF s) 0 [.take]) (fun g => rfl) 100 L popOp D' o k h.u popOp_ok rfl
    (by rw [hdb]; exact e1) (by rw [e2]; decide)
  rw [hdb] at t1 t2
  have t2' : Agr L L' 131 (2 + s) := t2
  have hbell : at_ L' 0 = 0 := by rw [show at_ L' 0 = at_ L 0 from t2'.at (i := 0) (by omega)]; exact h.bell
  refine ⟨k, L', by omega, ⟨by rw [t2'.len]; exact h.len, t4, h.s1, h.s64, hbell, ⟨T, B, val, by rw [show sub L' 131 (2 + s) = D' from t1]; exact e4, hD, hT⟩, ?_⟩, fun m => ?_⟩
  · obtain ⟨Tg, H, vd, hd, e, hB⟩ := h.gate
    exact ⟨Tg, H, vd, by rw [t2'.sub (b' := 1) (by omega)]; exact hd, e, by omega⟩
  · rw [t5 m]
    simp only [e2]
    rfl
theorem inG_cons {H T : Nat} (val : Nat → Int) (h : H < T) : inD H T val = val H :: inD (H + 1) T val := by
  unfold inD
  rw [show T - H = (T - (H + 1)) + 1 by omega, List.range_succ_eq_map, List.map_cons, List.map_map]
  congr 1
  refine List.map_congr_left fun i _ => ?_
  show val (H + (i + 1)) = val (H + 1 + i)
  congr 1; omega
/-- A take of the gate, as a part of whatever. -/
theorem CA.take_run (h : CA s L D (x :: G) c) (C A : Gop → CSt) (hC : ∀ L g, g.out = 0 → cstep (aloneF s) L (C g) = ((gstep (aloneF s).gb (aloneF s).actors L g).1, if (gstep (aloneF s).gb (aloneF s).actors L g).2.out = 0 then C (gstep (aloneF s).gb (aloneF s).actors L g).2 else A (gstep (aloneF s).gb (aloneF s).actors L g).2)) (h0 : ∀ g, (C g).out = 0) :
    ∃ k L' g2, k ≤ 5 ∧ CA s L' D G c ∧ g2.out = 1 ∧ gvalue g2.ahead g2.v g2.out = x ∧ ∀ m, cdone (aloneF s) (k + m) L (C (takeOp 1)) = ((cdone (aloneF s) m L' (A g2)).1, (cdone (aloneF s) m L' (A g2)).2.1, (cdone (aloneF s) m L' (A g2)).2.2 + k) := by
  obtain ⟨T, H, val, ha, hG, hT⟩ := h.gate
  have hlt : H < T := by
    have := congrArg List.length hG
    rw [inD_len] at this
    simp at this
    omega
  rw [inG_cons val hlt] at hG
  injection hG with hx hG
  obtain ⟨G', o, k, e1, e2, e3, e4, e5⟩ := ha.take hlt
  obtain ⟨L', g2, t1, t2, t3, t4, t5⟩ := gate_run (F := aloneF s) (len := 1000) (by show 1 ≤ 64; omega) C A hC h0 100 L (takeOp 1) G' o k h.u h.len (by have := h.fit.take; rw [h.len] at this; exact this) (.inr rfl) rfl
    (by show gdone 0 64 100 (sub L 1 130) (gsh 1 (takeOp 1)) = _; rw [show gsh 1 (takeOp 1) = takeOp 0 from gsh_take 1]; exact e1) (by rw [e2]; decide)
  have t2' : Agr L L' 1 130 := t2
  have hbell : at_ L' 0 = 0 := by rw [show at_ L' 0 = at_ L 0 from t2'.at (i := 0) (by omega)]; exact h.bell
  have hgo : gsh 1 g2 = o := t3
  refine ⟨k, L', g2, by omega, ⟨by rw [t2'.len]; exact h.len, t4, h.s1, h.s64, hbell, ?_, ⟨T, H + 1, val, by rw [show sub L' 1 130 = G' from t1]; exact e5, hG, hT⟩⟩, ?_, ?_, t5⟩
  · obtain ⟨Td, B, vd, hd, e, hB⟩ := h.deq
    exact ⟨Td, B, vd, by rw [t2'.sub (b' := 131) (by omega)]; exact hd, e, hB⟩
  · have : (gsh 1 g2).out = 1 := by rw [hgo]; exact e2
    exact this
  · have : gvalue (gsh 1 g2).ahead (gsh 1 g2).v (gsh 1 g2).out = val H := by rw [hgo]; exact e3
    rw [hx]
    exact this
theorem CA.find_take (h : CA s L [] (x :: G) c) : ∃ j L', j ≤ 20 ∧ CA s L' [] G c ∧ cdone (aloneF s) 200 L (.src (.dq 0 popOp) [.take]) = (L', .over 1 x, j) := by
  obtain ⟨k, L1, hk, h1, h2⟩ := h.pop_none
  obtain ⟨j, L', g2, hj, h3, h4, h5, h6⟩ := h1.take_run (fun g => .src (.gt g) []) (fun g' : Gop => if g'.out = 1 then CSt.over 1 (gvalue g'.ahead g'.v g'.out) else ctry (aloneF s) []) (srcg_hC (aloneF s) []) (fun g => rfl)
  refine ⟨k + j, L', by omega, h3, ?_⟩
  rw [show 200 = k + (j + (200 - k - j)) by omega, h2, h6]
  rw [if_pos h4, h5, cdone_end _ _ _ 1 _ (by decide)]
  simp; omega
theorem CA.find_none (h : CA s L [] [] c) : ∃ j L', j ≤ 20 ∧ cdone (aloneF s) 200 L (.src (.dq 0 popOp) [.take]) = (L', .over 4 0, j) := by
  obtain ⟨k, L1, hk, h1, h2⟩ := h.pop_none
  obtain ⟨T, H, val, ha, hG, hT⟩ := h1.gate
  have hHT : H = T := by
    have := congrArg List.length hG
    rw [inD_len] at this
    simp at this
    have := ha.le
    omega
  obtain ⟨o, e1, e2⟩ := ha.take_none hHT
  obtain ⟨L', g2, t1, t2, t3, t4, t5⟩ := gate_run (F := aloneF s) (len := 1000) (by show 1 ≤ 64; omega) (fun g => .src (.gt g) []) (fun g' : Gop => if g'.out = 1 then CSt.over 1 (gvalue g'.ahead g'.v g'.out) else ctry (aloneF s) []) (srcg_hC (aloneF s) []) (fun g => rfl) 100 L1 (takeOp 1) _ o 2 h1.u h1.len (by have := h1.fit.take; rw [h1.len] at this; exact this) (.inr rfl) rfl
    (by show gdone 0 64 100 (sub L1 1 130) (gsh 1 (takeOp 1)) = _; rw [show gsh 1 (takeOp 1) = takeOp 0 from gsh_take 1]; exact e1) (by rw [e2]; decide)
  have hg2 : g2.out = 4 := by
    have : (gsh 1 g2).out = 4 := by rw [show gsh 1 g2 = o from t3]; exact e2
    exact this
  refine ⟨k + 2, L', by omega, ?_⟩
  rw [show 200 = k + (2 + (198 - k)) by omega, h2, t5]
  rw [if_neg (by rw [hg2]; decide)]
  rw [show ctry (aloneF s) [] = CSt.over 4 0 from rfl, cdone_end _ _ _ 4 _ (by decide)]
  simp; omega
theorem take_hC (F : CLay) (i : Nat) (L : List Int) (g : Gop) (h : g.out = 0) : cstep F L (.take i g) = ((gstep F.gb F.actors L g).1, if (gstep F.gb F.actors L g).2.out = 0 then CSt.take i (gstep F.gb F.actors L g).2 else (fun g' : Gop => if g'.out = 1 then CSt.up i (gvalue g'.ahead g'.v 1) ⟨1, i, 0⟩ else .over 4 0) (gstep F.gb F.actors L g).2) := rfl
theorem at_set0 (L : List Int) (v : Int) (i : Nat) (h : i ≠ 0) : at_ (L.set 0 v) (i : Int) = at_ L (i : Int) := by
  rw [at_get, at_get, List.getElem?_set, if_neg (by omega)]
theorem CA.set0 (h : CA s L D G c) {a : Int} (ha : U64 a) : (L.set 0 a).length = 1000 ∧ AllU (L.set 0 a) ∧ sub (L.set 0 a) 131 (2 + s) = sub L 131 (2 + s) ∧ sub (L.set 0 a) 1 130 = sub L 1 130 := by
  have g : Agr L (L.set 0 a) 0 1 := (Agr.refl L 0 1).set a (by omega) (by omega)
  exact ⟨by simpa using h.len, h.u.set 0 ha, g.sub (by omega), g.sub (by omega)⟩
theorem CA.rest_take (h : CA s L D (x :: G) c) : ∃ j L', j ≤ 20 ∧ CA s L' D G c ∧ cdone (aloneF s) 200 L (.sleep 0 ⟨0, 0, 0⟩) = (L', .over 1 x, j) := by
  have hl := h.len
  have e1 : cstep (aloneF s) L (.sleep 0 ⟨0, 0, 0⟩) = (L.set 0 1, .take 0 (takeOp 1)) := by
    have : bstep (aloneF s).base (aloneF s).n L ⟨0, 0, 0⟩ = (L.set 0 1, ⟨0, 0, 1⟩) := by show bstep 0 1 L ⟨0, 0, 0⟩ = _; simp [bstep]
    simp only [cstep]; rw [this]; rfl
  -- the marked cells, read as if nobody slept
  obtain ⟨T, H, val, ha, hG, hT⟩ := h.gate
  have hlt : H < T := by
    have := congrArg List.length hG
    rw [inD_len] at this
    simp at this
    omega
  rw [inG_cons val hlt] at hG
  injection hG with hx hG
  obtain ⟨q1, q2, q3, q4⟩ := h.set0 (a := 1) ⟨by decide, by decide⟩
  obtain ⟨G', o, k, r1, r2, r3, r4, r5⟩ := ha.take hlt
  obtain ⟨L2, g2, t1, t2, t3, t4, t5⟩ := gate_run (F := aloneF s) (len := 1000) (by show 1 ≤ 64; omega) (.take 0) (fun g' : Gop => if g'.out = 1 then CSt.up 0 (gvalue g'.ahead g'.v 1) ⟨1, (0 : Nat), 0⟩ else .over 4 0) (take_hC (aloneF s) 0) (fun g => rfl) 100 (L.set 0 1) (takeOp 1) G' o k q2 q1 (by have := h.fit.take; rw [h.len] at this; exact this) (.inr rfl) rfl
    (by show gdone 0 64 100 (sub (L.set 0 1) 1 130) (gsh 1 (takeOp 1)) = _; rw [show gsh 1 (takeOp 1) = takeOp 0 from gsh_take 1, q4]; exact r1) (by rw [r2]; decide)
  have t2' : Agr (L.set 0 1) L2 1 130 := t2
  have hgo : gsh 1 g2 = o := t3
  have hg1 : g2.out = 1 := by
    have : (gsh 1 g2).out = 1 := by rw [hgo]; exact r2
    exact this
  have hgv : gvalue g2.ahead g2.v 1 = x := by
    have : gvalue (gsh 1 g2).ahead (gsh 1 g2).v (gsh 1 g2).out = val H := by rw [hgo]; exact r3
    rw [hx]
    have h2 : gvalue g2.ahead g2.v g2.out = val H := this
    rw [hg1] at h2
    exact h2
  have hl2 : L2.length = 1000 := by rw [t2'.len]; exact q1
  have e2 : cstep (aloneF s) L2 (.up 0 x ⟨1, (0 : Nat), 0⟩) = (L2.set 0 0, .over 1 x) := by
    have : bstep (aloneF s).base (aloneF s).n L2 ⟨1, (0 : Nat), 0⟩ = (L2.set 0 0, ⟨1, (0 : Nat), 1⟩) := by show bstep 0 1 L2 ⟨1, 0, 0⟩ = _; simp [bstep]
    simp only [cstep]; rw [this]; rfl
  have g0 : Agr L2 (L2.set 0 0) 0 1 := (Agr.refl L2 0 1).set 0 (by omega) (by omega)
  refine ⟨k + 2, L2.set 0 0, by omega, ⟨by simpa using hl2, t4.set 0 u64_zero, h.s1, h.s64, ?_, ?_, ⟨T, H + 1, val, ?_, hG, hT⟩⟩, ?_⟩
  · have : at_ (L2.set 0 0) ((0 : Nat) : Int) = 0 := by rw [at_set _ _ _ _ (by omega), if_pos rfl]
    exact this
  · obtain ⟨Td, B, vd, hd, e, hB⟩ := h.deq
    exact ⟨Td, B, vd, by rw [g0.sub (b' := 131) (by omega), t2'.sub (b' := 131) (by omega), q3]; exact hd, e, hB⟩
  · rw [g0.sub (b' := 1) (by omega), show sub L2 1 130 = G' from t1]; exact r5
  · rw [show 200 = (k + ((198 - k) + 1)) + 1 by omega, cdone_succ _ _ _ _ rfl, e1]
    rw [t5]
    rw [if_pos hg1, hgv, cdone_succ _ _ _ _ rfl, e2, cdone_end _ _ _ 1 _ (by decide)]
    simp; omega
end
end Go.Proofs.Ytdoaipjdldknaaa
/-
  Many who put into a gate and take out of it at once: what holds between two steps, and what each has still to do (plain lists; no program).
-/
namespace Go.Proofs.Ytdoaipjdldknaaa
open Go.RowKit
set_option linter.unusedVariables false

theorem later {n a b : Nat} (hn : 1 ≤ n) (h : a % n = b % n) (hl : a < b) : a + n ≤ b ∧ a / n + 1 ≤ b / n := by
  have h1 := Nat.div_add_mod a n
  have h2 := Nat.div_add_mod b n
  have h3 : a / n < b / n := by
    rcases Nat.lt_or_ge (a / n) (b / n) with h3 | h3
    · exact h3
    · have := Nat.mul_le_mul_left n h3
      omega
  have h4 := Nat.mul_le_mul_left n (show a / n + 1 ≤ b / n from h3)
  rw [Nat.mul_add, Nat.mul_one] at h4
  omega
theorem same_ticket {n a b : Nat} (hn : 1 ≤ n) (h : a % n = b % n) (hq : a / n = b / n) : a = b := by
  rcases Nat.lt_trichotomy a b with h1 | h1 | h1
  · have := later hn h h1; omega
  · exact h1
  · have := later hn h.symm h1; omega
/-- The turn of a ticket's slot; twice its round. -/
def tn (n : Nat) (L : List Int) (t : Nat) : Int := at_ L ((2 + 2 * (t % n) : Nat) : Int)
def qn (n t : Nat) : Int := 2 * ((t / n : Nat) : Int)
theorem tn_same {n : Nat} {L : List Int} {a b : Nat} (h : a % n = b % n) : tn n L a = tn n L b := by unfold tn; rw [h]
/-- The cells of a gate: the tail is T, the head H. -/
structure GC (n T H : Nat) (L : List Int) : Prop where
  n1 : 1 ≤ n
  n64 : n ≤ 64
  len : L.length = 2 + 2 * n
  tail : at_ L ((0 : Nat) : Int) = T
  head : at_ L ((1 : Nat) : Int) = H
  le : H ≤ T
  ge : T ≤ H + n
  phi : ∀ t, T ≤ t → tn n L t ≤ qn n t
  plo : ∀ t, t < T → qn n t ≤ tn n L t
  thi : ∀ t, H ≤ t → tn n L t ≤ qn n t + 1
  tlo : ∀ t, t < H → qn n t + 1 ≤ tn n L t
/-- An operation that is over, or under way; E is the end at which it works. -/
structure GO (n T H : Nat) (L : List Int) (x : Gop) : Prop where
  ah : (x.ahead = 0 ∧ x.cell = 0) ∨ (x.ahead = 1 ∧ x.cell = 1)
  ph : x.ph = 0 ∨ x.ph = 1 ∨ x.ph = 2 ∨ x.ph = 3 ∨ x.ph = 4
  v : U64 x.v
  t : ∃ t : Nat, x.t = t ∧ t ≤ T ∧ (x.ahead = 1 → t ≤ H) ∧ (x.out = 0 → x.ph = 2 → qn n t + x.ahead ≤ tn n L t) ∧
    (x.out = 0 → x.ph = 3 ∨ x.ph = 4 → tn n L t = qn n t + x.ahead ∧ t < T ∧ (x.ahead = 1 → t < H))
def own (x : Gop) : Prop := x.out = 0 ∧ (x.ph = 3 ∨ x.ph = 4)
/-- The gate and k operations. -/
structure GI (n T H : Nat) (L : List Int) (k : Nat) (o : Nat → Gop) : Prop where
  c : GC n T H L
  ok : ∀ i, i < k → GO n T H L (o i)
  uq : ∀ i j, i < k → j < k → i ≠ j → own (o i) → own (o j) → (o i).ahead = (o j).ahead → (o i).t ≠ (o j).t
section
variable {n T H k p : Nat} {L : List Int} {o : Nat → Gop}
theorem GO.mono {T' H' : Nat} {L' : List Int} {x : Gop} (h : GO n T H L x) (hT : T ≤ T') (hH : H ≤ H') (hL : ∀ t, tn n L' t = tn n L t) : GO n T' H' L' x := by
  obtain ⟨t, e, a, b, c, d⟩ := h.t
  refine ⟨h.ah, h.ph, h.v, t, e, by omega, fun h1 => by have := b h1; omega, fun h1 h2 => by rw [hL]; exact c h1 h2, fun h1 h2 => ?_⟩
  obtain ⟨d1, d2, d3⟩ := d h1 h2
  exact ⟨by rw [hL]; exact d1, by omega, fun h3 => by have := d3 h3; omega⟩
theorem GO.okk {x : Gop} (h : GO n T H L x) (hc : GC n T H L) (hs : T ≤ 1000000) : GopOk 0 L.length x := by
  have := hc.len
  have := hc.n1
  obtain ⟨t, e, a, -⟩ := h.t
  exact ⟨h.ph, by rcases h.ah with ⟨_, e⟩ | ⟨_, e⟩ <;> omega, by rcases h.ah with ⟨_, e⟩ | ⟨_, e⟩ <;> omega, by rw [e]; unfold U64; omega, h.v⟩
/-- A step that turns no turn. -/
theorem GI.keep {x : Gop} (h : GI n T H L k o) (hp : p < k) (hx : GO n T H L x) (hu : own x → own (o p) ∧ x.ahead = (o p).ahead ∧ x.t = (o p).t) : GI n T H L k (upd o p x) := by
  refine ⟨h.c, fun i hi => ?_, fun i j hi hj hij h1 h2 h3 => ?_⟩
  · by_cases e : i = p
    · subst e; rw [upd_same]; exact hx
    · rw [upd_ne _ _ e]; exact h.ok i hi
  · by_cases e : i = p
    · subst e
      have e2 : j ≠ i := fun e => hij e.symm
      rw [upd_same] at h1 h3 ⊢
      rw [upd_ne _ _ e2] at h2 h3 ⊢
      obtain ⟨a, b, c⟩ := hu h1
      rw [c]
      exact h.uq i j hi hj hij a h2 (by rw [← b]; exact h3)
    · rw [upd_ne _ _ e] at h1 h3 ⊢
      by_cases e2 : j = p
      · subst e2
        rw [upd_same] at h2 h3 ⊢
        obtain ⟨a, b, c⟩ := hu h2
        rw [c]
        exact h.uq i j hi hj hij h1 a (by rw [← b]; exact h3)
      · rw [upd_ne _ _ e2] at h2 h3 ⊢
        exact h.uq i j hi hj hij h1 h2 h3
theorem GC.at_end (h : GC n T H L) {x : Gop} (hx : GO n T H L x) : ∃ E : Nat, at_ L x.cell = E ∧ E ≤ T ∧ (x.ahead = 1 → E = H) ∧ (x.ahead = 0 → E = T) := by
  rcases hx.ah with ⟨a, b⟩ | ⟨a, b⟩
  · exact ⟨T, by rw [b]; exact h.tail, Nat.le_refl _, by omega, fun _ => rfl⟩
  · exact ⟨H, by rw [b]; exact h.head, h.le, fun _ => rfl, by omega⟩
/-- Phase 0: the end is read. -/
theorem GI.s0 (h : GI n T H L k o) (hp : p < k) (h0 : (o p).out = 0) (hq : (o p).ph = 0) : ∃ E : Nat, at_ L (o p).cell = E ∧ gstep 0 n L (o p) = (L, { (o p) with ph := 1, t := E }) ∧ GI n T H L k (upd o p { (o p) with ph := 1, t := E }) := by
  have hx := h.ok p hp
  obtain ⟨E, e1, e2, e3, e4⟩ := h.c.at_end hx
  refine ⟨E, e1, by rw [gstep0 h0 hq, e1], h.keep hp ⟨hx.ah, .inr (.inl rfl), hx.v, E, rfl, e2, fun h1 => by rw [e3 h1]; exact Nat.le_refl _, fun _ h2 => by simp at h2, fun _ h2 => by simp at h2⟩ fun h1 => ?_⟩
  obtain ⟨-, h2⟩ := h1
  simp at h2
theorem GI.t_ (h : GI n T H L k o) (hp : p < k) (hs : T ≤ 1000000) : ∃ t : Nat, (o p).t = t ∧ t ≤ T ∧ at_ L (slotOf 0 n (o p).t) = tn n L t ∧ wantOf n (o p).ahead (o p).t = qn n t + (o p).ahead := by
  have hx := h.ok p hp
  obtain ⟨t, e, a, -⟩ := hx.t
  exact ⟨t, e, a, by rw [e, slot_nat]; rfl, by rw [e, want_nat n t _ (by omega) (by rcases hx.ah with ⟨a, _⟩ | ⟨a, _⟩ <;> simp [a])]; rfl⟩
/-- Phase 1: the turn is as it should be; beyond; behind. -/
theorem GI.s1e (h : GI n T H L k o) (hp : p < k) (hs : T ≤ 1000000) (h0 : (o p).out = 0) (hq : (o p).ph = 1) (hw : at_ L (slotOf 0 n (o p).t) = wantOf n (o p).ahead (o p).t) :
    gstep 0 n L (o p) = (L, { (o p) with ph := 2 }) ∧ GI n T H L k (upd o p { (o p) with ph := 2 }) := by
  have hx := h.ok p hp
  obtain ⟨t, e, a, e1, e2⟩ := h.t_ hp hs
  obtain ⟨s1, s2⟩ := turn_eq (o p).ahead hw
  obtain ⟨t', e', -, b, -⟩ := hx.t
  have ht : t' = t := by omega
  subst ht
  refine ⟨by rw [gstep1 h0 hq, s1, s2, ← h0], h.keep hp ⟨hx.ah, .inr (.inr (.inl rfl)), hx.v, t', e, a, b, fun _ _ => by rw [← e2, ← e1, hw]; exact Int.le_refl _, fun _ h2 => by simp at h2⟩ fun h1 => ?_⟩
  obtain ⟨-, h2⟩ := h1
  simp at h2
theorem GI.s1g (h : GI n T H L k o) (hp : p < k) (hs : T ≤ 1000000) (h0 : (o p).out = 0) (hq : (o p).ph = 1) (hw : wantOf n (o p).ahead (o p).t < at_ L (slotOf 0 n (o p).t)) :
    gstep 0 n L (o p) = (L, { (o p) with ph := 0 }) ∧ GI n T H L k (upd o p { (o p) with ph := 0 }) ∧ (o p).t ≠ at_ L (o p).cell := by
  have hx := h.ok p hp
  obtain ⟨t, e, a, e1, e2⟩ := h.t_ hp hs
  obtain ⟨s1, s2⟩ := turn_gt (o p).ahead hw
  obtain ⟨t', e', -, b, -⟩ := hx.t
  have ht : t' = t := by omega
  subst ht
  refine ⟨by rw [gstep1 h0 hq, s1, s2, ← h0], h.keep hp ⟨hx.ah, .inl rfl, hx.v, t', e, a, b, fun _ h2 => by simp at h2, fun _ h2 => by simp at h2⟩ fun h1 => ?_, fun he => ?_⟩
  · obtain ⟨-, h2⟩ := h1
    simp at h2
  · obtain ⟨E, f1, f2, f3, f4⟩ := h.c.at_end hx
    have hE : t' = E := by omega
    subst hE
    rw [e1, e2] at hw
    rcases hx.ah with ⟨a0, _⟩ | ⟨a1, _⟩
    · have := h.c.phi t' (by rw [f4 a0]; exact Nat.le_refl _)
      omega
    · have := h.c.thi t' (by rw [f3 a1]; exact Nat.le_refl _)
      omega
theorem GI.s1l (h : GI n T H L k o) (hp : p < k) (hs : T ≤ 1000000) (h0 : (o p).out = 0) (hq : (o p).ph = 1) (hw : at_ L (slotOf 0 n (o p).t) < wantOf n (o p).ahead (o p).t) :
    ∃ out, out ≠ 0 ∧ out ≠ 1 ∧ gstep 0 n L (o p) = (L, { (o p) with out := out }) ∧ GI n T H L k (upd o p { (o p) with out := out }) := by
  have hx := h.ok p hp
  obtain ⟨s1, s2⟩ := turn_lt (o p).ahead hw
  obtain ⟨t, e, a, b, -⟩ := hx.t
  refine ⟨if (o p).ahead = 0 then 2 else 4, by split <;> decide, by split <;> decide, by rw [gstep1 h0 hq, s1, s2, ← hq], h.keep hp ⟨hx.ah, hx.ph, hx.v, t, e, a, b, fun h1 _ => ?_, fun h1 _ => ?_⟩ fun h1 => ?_⟩
  · have h1' : (if (o p).ahead = 0 then (2 : Int) else 4) = 0 := h1
    split at h1' <;> omega
  · have h1' : (if (o p).ahead = 0 then (2 : Int) else 4) = 0 := h1
    split at h1' <;> omega
  · have h1' : (if (o p).ahead = 0 then (2 : Int) else 4) = 0 := h1.1
    split at h1' <;> omega
/-- Phase 2: the swap isn't done. -/
theorem GI.s2n (h : GI n T H L k o) (hp : p < k) (h0 : (o p).out = 0) (hq : (o p).ph = 2) (hw : at_ L (o p).cell ≠ (o p).t) :
    gstep 0 n L (o p) = (L, { (o p) with ph := 0 }) ∧ GI n T H L k (upd o p { (o p) with ph := 0 }) := by
  have hx := h.ok p hp
  obtain ⟨s1, s2⟩ := swap_no_of hw
  obtain ⟨t, e, a, b, -⟩ := hx.t
  refine ⟨by rw [gstep2 h0 hq, s1, s2], h.keep hp ⟨hx.ah, .inl rfl, hx.v, t, e, a, b, fun _ h2 => by simp at h2, fun _ h2 => by simp at h2⟩ fun h1 => ?_⟩
  obtain ⟨-, h2⟩ := h1
  simp at h2
theorem tn_set0 {c : Nat} {v : Int} (hl : L.length = 2 + 2 * n) (hn : 1 ≤ n) (hc : c ≤ 1) (t : Nat) : tn n (L.set c v) t = tn n L t := by
  unfold tn
  rw [at_set _ _ _ _ (by omega), if_neg (by omega)]
theorem tn_setv {j : Nat} {v : Int} (hl : L.length = 2 + 2 * n) (hj : j < n) (t : Nat) : tn n (L.set (3 + 2 * j) v) t = tn n L t := by
  unfold tn
  rw [at_set _ _ _ _ (by omega), if_neg (by omega)]
theorem tn_sett {s : Nat} {v : Int} (hl : L.length = 2 + 2 * n) (hn : 1 ≤ n) (t : Nat) : tn n (L.set (2 + 2 * (s % n)) v) t = if t % n = s % n then v else tn n L t := by
  have hm := Nat.mod_lt s (show n > 0 by omega)
  unfold tn
  rw [at_set _ _ _ _ (by omega)]
  by_cases h : t % n = s % n
  · rw [if_pos (by omega), if_pos h]
  · rw [if_neg (by omega), if_neg h]
/-- Phase 2: the swap is done. -/
theorem GI.s2y (h : GI n T H L k o) (hp : p < k) (hs : T ≤ 1000000) (h0 : (o p).out = 0) (hq : (o p).ph = 2) (hw : at_ L (o p).cell = (o p).t) :
    ∃ t T' H' : Nat, (o p).t = t ∧ gstep 0 n L (o p) = (L.set (o p).cell.toNat ((t + 1 : Nat) : Int), { (o p) with ph := 3 }) ∧ GI n T' H' (L.set (o p).cell.toNat ((t + 1 : Nat) : Int)) k (upd o p { (o p) with ph := 3 }) ∧
      ((o p).ahead = 0 → T' = T + 1 ∧ H' = H ∧ t = T) ∧ ((o p).ahead = 1 → T' = T ∧ H' = H + 1 ∧ t = H) := by
  have hx := h.ok p hp
  obtain ⟨s1, s2⟩ := swap_yes_of hw
  obtain ⟨t, e, a, b, c, -⟩ := hx.t
  have hc := c h0 hq
  have hl := h.c.len
  have hn := h.c.n1
  have hge := h.c.ge
  have hle := h.c.le
  obtain ⟨E, f1, f2, f3, f4⟩ := h.c.at_end hx
  have hE : t = E := by omega
  subst hE
  have hst : gstep 0 n L (o p) = (L.set (o p).cell.toNat ((t + 1 : Nat) : Int), { (o p) with ph := 3 }) := by
    rw [gstep2 h0 hq, s1, s2, show add64 (o p).t 1 = ((t + 1 : Nat) : Int) from by rw [e, add64_nat t (by omega)]]
  have hfam : ∀ (T' H' : Nat), T ≤ T' → H ≤ H' → GC n T' H' (L.set (o p).cell.toNat ((t + 1 : Nat) : Int)) → (t < T' ∧ ((o p).ahead = 1 → t < H')) → tn n L t = qn n t + (o p).ahead → (∀ i, i < k → own (o i) → (o i).ahead = (o p).ahead → (o i).t ≠ t) →
      (o p).cell.toNat ≤ 1 → GI n T' H' (L.set (o p).cell.toNat ((t + 1 : Nat) : Int)) k (upd o p { (o p) with ph := 3 }) := by
    intro T' H' hT hH hgc ht htn hne hcell
    have hmono : ∀ s, tn n (L.set (o p).cell.toNat ((t + 1 : Nat) : Int)) s = tn n L s := fun s => tn_set0 hl hn hcell s
    refine ⟨hgc, fun i hi => ?_, fun i j hi hj hij h1 h2 h3 => ?_⟩
    · by_cases e' : i = p
      · subst e'
        rw [upd_same]
        exact ⟨hx.ah, by simp, hx.v, t, e, by omega, fun h1 => by have := ht.2 h1; omega, fun _ h2 => by simp at h2, fun _ _ => ⟨by rw [hmono]; exact htn, ht.1, ht.2⟩⟩
      · rw [upd_ne _ _ e']
        exact (h.ok i hi).mono hT hH hmono
    · by_cases e' : i = p
      · subst e'
        have e2 : j ≠ i := fun e => hij e.symm
        rw [upd_ne _ _ e2] at h2
        rw [upd_same, upd_ne _ _ e2] at h3 ⊢
        exact fun h4 => hne j hj h2 h3.symm (by rw [← h4]; exact e)
      · rw [upd_ne _ _ e'] at h1 h3 ⊢
        by_cases e2 : j = p
        · subst e2
          rw [upd_same] at h3 ⊢
          exact fun h4 => hne i hi h1 h3 (by rw [h4]; exact e)
        · rw [upd_ne _ _ e2] at h2 h3 ⊢
          exact h.uq i j hi hj hij h1 h2 h3
  have hown : ∀ i, i < k → own (o i) → (o i).ahead = (o p).ahead → (o i).t ≠ t := by
    intro i hi h1 h2 h3
    obtain ⟨t', g1, -, -, -, g2⟩ := (h.ok i hi).t
    obtain ⟨g3, g4, g5⟩ := g2 h1.1 h1.2
    rcases hx.ah with ⟨a0, _⟩ | ⟨a1, _⟩
    · have := f4 a0; omega
    · have := f3 a1; have := g5 (by rw [h2]; exact a1); omega
  rcases hx.ah with ⟨a0, b0⟩ | ⟨a1, b1⟩
  · obtain rfl : t = T := f4 a0
    have hup := h.c.phi t (Nat.le_refl _)
    have hlt : t < H + n := by
      rcases Nat.lt_or_ge t (H + n) with h1 | h1
      · exact h1
      · have h2 : t = H + n := by omega
        have h3 := h.c.thi H (Nat.le_refl _)
        have h4 : H % n = t % n := by rw [h2]; simp
        have h5 : t / n = H / n + 1 := by rw [h2]; exact Nat.add_div_right _ (by omega)
        rw [tn_same h4] at h3
        unfold qn at h3 hc
        rw [h5] at hc
        omega
    refine ⟨t, t + 1, H, e, hst, hfam _ _ (by omega) (Nat.le_refl _) ?_ ⟨by omega, by omega⟩ (by omega) hown (by rw [b0]; decide), fun _ => ⟨rfl, rfl, rfl⟩, by omega⟩
    rw [b0, show (0 : Int).toNat = 0 from rfl]
    refine ⟨hn, h.c.n64, by simpa using hl, by rw [at_set _ _ _ _ (by omega), if_pos rfl], by rw [at_set _ _ _ _ (by omega), if_neg (by omega)]; exact h.c.head, by omega, by omega, fun s hs => ?_, fun s hs => ?_, fun s hs => ?_, fun s hs => ?_⟩
    · rw [tn_set0 hl hn (by omega)]; exact h.c.phi s (by omega)
    · rw [tn_set0 hl hn (by omega)]
      by_cases e' : s = t
      · subst e'; omega
      · exact h.c.plo s (by omega)
    · rw [tn_set0 hl hn (by omega)]; exact h.c.thi s (by omega)
    · rw [tn_set0 hl hn (by omega)]; exact h.c.tlo s (by omega)
  · obtain rfl : t = H := f3 a1
    have hup := h.c.thi t (Nat.le_refl _)
    have hlt : t < T := by
      rcases Nat.lt_or_ge t T with h1 | h1
      · exact h1
      · have := h.c.phi t h1
        omega
    refine ⟨t, T, t + 1, e, hst, hfam _ _ (Nat.le_refl _) (by omega) ?_ ⟨hlt, fun _ => by omega⟩ (by omega) hown (by rw [b1]; decide), by omega, fun _ => ⟨rfl, rfl, rfl⟩⟩
    rw [b1, show (1 : Int).toNat = 1 from rfl]
    refine ⟨hn, h.c.n64, by simpa using hl, by rw [at_set _ _ _ _ (by omega), if_neg (by omega)]; exact h.c.tail, by rw [at_set _ _ _ _ (by omega), if_pos rfl], by omega, by omega, fun s hs => ?_, fun s hs => ?_, fun s hs => ?_, fun s hs => ?_⟩
    · rw [tn_set0 hl hn (by omega)]; exact h.c.phi s (by omega)
    · rw [tn_set0 hl hn (by omega)]; exact h.c.plo s (by omega)
    · rw [tn_set0 hl hn (by omega)]; exact h.c.thi s (by omega)
    · rw [tn_set0 hl hn (by omega)]
      by_cases e' : s = t
      · subst e'; omega
      · exact h.c.tlo s (by omega)
/-- Phase 3: the value. -/
theorem GI.s3 (h : GI n T H L k o) (hu : AllU L) (hp : p < k) (hs : T ≤ 1000000) (h0 : (o p).out = 0) (hq : (o p).ph = 3) :
    ∃ t : Nat, (o p).t = t ∧ gstep 0 n L (o p) = (if (o p).ahead = 0 then L.set (3 + 2 * (t % n)) (o p).v else L, { (o p) with ph := 4, v := if (o p).ahead = 0 then (o p).v else at_ L ((3 + 2 * (t % n) : Nat) : Int) }) ∧
      GI n T H (if (o p).ahead = 0 then L.set (3 + 2 * (t % n)) (o p).v else L) k (upd o p { (o p) with ph := 4, v := if (o p).ahead = 0 then (o p).v else at_ L ((3 + 2 * (t % n) : Nat) : Int) }) := by
  have hx := h.ok p hp
  obtain ⟨t, e, a, b, -, d⟩ := hx.t
  have hd := d h0 (.inl hq)
  have hl := h.c.len
  have hn := h.c.n1
  have hm := Nat.mod_lt t (show n > 0 by omega)
  refine ⟨t, e, ?_, ?_⟩
  · rw [gstep3 h0 hq, show slotOf 0 n (o p).t = ((2 + 2 * (t % n) : Nat) : Int) from by rw [e, slot_nat]]
    unfold valL valV
    rw [show (((2 + 2 * (t % n) : Nat) : Int) + 1) = ((3 + 2 * (t % n) : Nat) : Int) by omega, Int.toNat_natCast]
  · have hfam : ∀ (L' : List Int), GC n T H L' → (∀ s, tn n L' s = tn n L s) → ∀ v', U64 v' → GI n T H L' k (upd o p { (o p) with ph := 4, v := v' }) := by
      intro L' hc hL v' hv'
      have h' : GI n T H L' k o := ⟨hc, fun i hi => (h.ok i hi).mono (Nat.le_refl _) (Nat.le_refl _) hL, h.uq⟩
      refine h'.keep hp ⟨hx.ah, by simp, hv', t, e, a, b, fun _ h2 => by simp at h2, fun _ _ => by rw [hL]; exact hd⟩ fun _ => ⟨⟨h0, .inl hq⟩, rfl, rfl⟩
    by_cases ha : (o p).ahead = 0
    · rw [if_pos ha, if_pos ha]
      have hL := fun s => tn_setv (L := L) (v := (o p).v) hl hm s
      refine hfam _ ⟨hn, h.c.n64, by simpa using hl, by rw [at_set _ _ _ _ (by omega), if_neg (by omega)]; exact h.c.tail, by rw [at_set _ _ _ _ (by omega), if_neg (by omega)]; exact h.c.head, h.c.le, h.c.ge, fun s hs => ?_, fun s hs => ?_, fun s hs => ?_, fun s hs => ?_⟩ hL _ hx.v
      · rw [hL]; exact h.c.phi s hs
      · rw [hL]; exact h.c.plo s hs
      · rw [hL]; exact h.c.thi s hs
      · rw [hL]; exact h.c.tlo s hs
    · rw [if_neg ha, if_neg ha]
      exact hfam L h.c (fun _ => rfl) _ (hu.at_ _)
/-- Phase 4: the turn. -/
theorem GI.s4 (h : GI n T H L k o) (hp : p < k) (hs : T ≤ 1000000) (h0 : (o p).out = 0) (hq : (o p).ph = 4) :
    ∃ t : Nat, (o p).t = t ∧ gstep 0 n L (o p) = (L.set (2 + 2 * (t % n)) (qn n t + (o p).ahead + 1), { (o p) with out := 1 }) ∧ GI n T H (L.set (2 + 2 * (t % n)) (qn n t + (o p).ahead + 1)) k (upd o p { (o p) with out := 1 }) := by
  have hx := h.ok p hp
  obtain ⟨t, e, a, b, -, d⟩ := hx.t
  obtain ⟨d1, d2, d3⟩ := d h0 (.inr hq)
  have hl := h.c.len
  have hn := h.c.n1
  have hle := h.c.le
  have hge := h.c.ge
  have hm := Nat.mod_lt t (show n > 0 by omega)
  have ha01 : (o p).ahead = 0 ∨ (o p).ahead = 1 := by rcases hx.ah with ⟨h, _⟩ | ⟨h, _⟩ <;> simp [h]
  have hst : gstep 0 n L (o p) = (L.set (2 + 2 * (t % n)) (qn n t + (o p).ahead + 1), { (o p) with out := 1 }) := by
    have hq0 : t / n ≤ t := Nat.div_le_self _ _
    have h9 : add64 (qn n t + (o p).ahead) 1 = qn n t + (o p).ahead + 1 := by
      unfold qn
      rcases ha01 with h1 | h1
      · have := add64_want (t / n) 0 (by omega) (by omega)
        rw [h1]
        simpa using this
      · have := add64_want (t / n) 1 (by omega) (by omega)
        rw [h1]
        have h2 : (2 * ((t / n : Nat) : Int) + ((1 : Nat) : Int)) = 2 * ((t / n : Nat) : Int) + 1 := by omega
        rw [h2] at this
        rw [this]
        omega
    rw [gstep4 h0 hq, show slotOf 0 n (o p).t = ((2 + 2 * (t % n) : Nat) : Int) from by rw [e, slot_nat], Int.toNat_natCast, show wantOf n (o p).ahead (o p).t = qn n t + (o p).ahead from by rw [e, want_nat n t _ (by omega) ha01]; rfl, h9]
  have hset := fun s => tn_sett (L := L) (s := t) (v := qn n t + (o p).ahead + 1) hl hn s
  have hup : ∀ s, tn n L s ≤ tn n (L.set (2 + 2 * (t % n)) (qn n t + (o p).ahead + 1)) s := by
    intro s
    rw [hset]
    split
    · rename_i h1
      rw [tn_same h1, d1]
      omega
    · exact Int.le_refl _
  have hnext : ∀ s, s % n = t % n → t < s → qn n t + 2 ≤ qn n s := by
    intro s h1 h2
    have := (later hn h1.symm h2).2
    unfold qn
    omega
  have hgc : GC n T H (L.set (2 + 2 * (t % n)) (qn n t + (o p).ahead + 1)) := by
    refine ⟨hn, h.c.n64, by simpa using hl, by rw [at_set _ _ _ _ (by omega), if_neg (by omega)]; exact h.c.tail, by rw [at_set _ _ _ _ (by omega), if_neg (by omega)]; exact h.c.head, hle, hge, fun s hs => ?_, fun s hs => ?_, fun s hs => ?_, fun s hs => ?_⟩
    · rw [hset]
      split
      · rename_i h1
        have := hnext s h1 (by omega)
        rcases ha01 with h2 | h2 <;> omega
      · exact h.c.phi s hs
    · exact Int.le_trans (h.c.plo s hs) (hup s)
    · rw [hset]
      split
      · rename_i h1
        rcases Nat.lt_trichotomy s t with h2 | h2 | h2
        · have := (later hn h1 h2).1
          omega
        · subst h2
          rcases ha01 with h3 | h3
          · omega
          · have := d3 h3; omega
        · have := hnext s h1 h2
          rcases ha01 with h2 | h2 <;> omega
      · exact h.c.thi s hs
    · exact Int.le_trans (h.c.tlo s hs) (hup s)
  refine ⟨t, e, hst, hgc, fun i hi => ?_, fun i j hi hj hij h1 h2 h3 => ?_⟩
  · by_cases e' : i = p
    · subst e'
      rw [upd_same]
      exact ⟨hx.ah, hx.ph, hx.v, t, e, a, b, fun h1 _ => by simp at h1, fun h1 _ => by simp at h1⟩
    · rw [upd_ne _ _ e']
      have hy := h.ok i hi
      obtain ⟨t', g1, g2, g3, g4, g5⟩ := hy.t
      refine ⟨hy.ah, hy.ph, hy.v, t', g1, g2, g3, fun h1 h2 => Int.le_trans (g4 h1 h2) (hup t'), fun h1 h2 => ?_⟩
      obtain ⟨f1, f2, f3⟩ := g5 h1 h2
      refine ⟨?_, f2, f3⟩
      rw [hset]
      split
      · rename_i h4
        exfalso
        rw [tn_same h4, d1] at f1
        have ha' : (o i).ahead = 0 ∨ (o i).ahead = 1 := by rcases hy.ah with ⟨h, _⟩ | ⟨h, _⟩ <;> simp [h]
        have hqq : t / n = t' / n ∧ (o i).ahead = (o p).ahead := by
          unfold qn at f1
          rcases ha01 with h5 | h5 <;> rcases ha' with h6 | h6 <;> rw [h5, h6] at f1 ⊢ <;> omega
        have := same_ticket hn h4.symm hqq.1
        exact h.uq i p hi hp e' ⟨h1, h2⟩ ⟨h0, .inr hq⟩ hqq.2 (by rw [g1, e, this])
      · exact f1
  · by_cases e' : i = p
    · subst e'
      rw [upd_same] at h1
      have : (1 : Int) = 0 := h1.1
      omega
    · rw [upd_ne _ _ e'] at h1 h3 ⊢
      by_cases e2 : j = p
      · subst e2
        rw [upd_same] at h2
        have : (1 : Int) = 0 := h2.1
        omega
      · rw [upd_ne _ _ e2] at h2 h3 ⊢
        exact h.uq i j hi hj hij h1 h2 h3
end
end Go.Proofs.Ytdoaipjdldknaaa
