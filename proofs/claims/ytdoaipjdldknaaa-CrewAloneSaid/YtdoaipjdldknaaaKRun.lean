/-
  A part of a crew's operation that is done at once (plain lists; no program).
-/
import Derived.Test.YtdoaipjdldknaaaKD
import Derived.Test.YtdoaipjdldknaaaKSub
import Derived.Test.YtdoaipjdldknaaaKDeqB
namespace Go.Proofs.Ytdoaipjdldknaaa
open Go.RowKit
set_option linter.unusedVariables false
theorem gstep_cell (base n : Int) (L : List Int) (o : Gop) : (gstep base n L o).2.cell = o.cell := by
  unfold gstep
  (repeat' split) <;> rfl
theorem gate_run {F : CLay} {len : Nat} (ha : 1 ≤ F.actors) (C A : Gop → CSt) (hC : ∀ L g, g.out = 0 → cstep F L (C g) = ((gstep F.gb F.actors L g).1, if (gstep F.gb F.actors L g).2.out = 0 then C (gstep F.gb F.actors L g).2 else A (gstep F.gb F.actors L g).2)) (h0 : ∀ g, (C g).out = 0) :
    ∀ (k : Nat) (L : List Int) (g : Gop) (G' : List Int) (g' : Gop) (j : Nat), AllU L → L.length = len → GopOk F.gb len g → (g.cell = F.gb ∨ g.cell = (F.gb : Int) + 1) → g.out = 0 →
      gdone 0 F.actors k (sub L F.gb (2 + 2 * F.actors)) (gsh F.gb g) = (G', g', j) → g'.out ≠ 0 →
      ∃ L' g2, sub L' F.gb (2 + 2 * F.actors) = G' ∧ Agr L L' F.gb (2 + 2 * F.actors) ∧ gsh F.gb g2 = g' ∧ AllU L' ∧ ∀ m, cdone F (j + m) L (C g) = ((cdone F m L' (A g2)).1, (cdone F m L' (A g2)).2.1, (cdone F m L' (A g2)).2.2 + j) := by
  intro k
  induction k with
  | zero =>
    intro L g G' g' j hu hl hok hc hg hd ho
    rw [gdone] at hd
    injection hd with e1 e2
    injection e2 with e2 e3
    subst e2
    exact absurd hg ho
  | succ k ih =>
    intro L g G' g' j hu hl hok hc hg hd ho
    obtain ⟨s1, s2, s3⟩ := gstep_sub F.gb F.actors ha L g len hok hc
    have hcc := gstep_cell F.gb F.actors L g
    rw [gdone_succ _ _ _ _ _ (show (gsh F.gb g).out = 0 from hg), ← s1, ← s2] at hd
    have hok' : GopOk F.gb len (gstep F.gb F.actors L g).2 := by
      have := gstep_ok F.gb F.actors L g hu (by rw [hl]; exact hok)
      rw [hl] at this
      exact this
    have hu' := gstep_u F.gb F.actors L g hu hok.v
    have hl' : (gstep F.gb F.actors L g).1.length = len := by rw [gstep_len]; exact hl
    by_cases hz : (gstep F.gb F.actors L g).2.out = 0
    · obtain ⟨r, hr⟩ : ∃ r, gdone 0 F.actors k (sub (gstep F.gb F.actors L g).1 F.gb (2 + 2 * F.actors)) (gsh F.gb (gstep F.gb F.actors L g).2) = r := ⟨_, rfl⟩
      obtain ⟨G1, g1, j1⟩ := r
      rw [hr] at hd
      injection hd with e1 e2
      injection e2 with e2 e3
      dsimp only at e1 e2 e3
      subst e1 e2 e3
      obtain ⟨L', g2, t1, t2, t3, t4, t5⟩ := ih _ _ _ _ _ hu' hl' hok' (by rw [hcc]; exact hc) hz hr ho
      refine ⟨L', g2, t1, s3.trans t2, t3, t4, fun m => ?_⟩
      rw [show j1 + 1 + m = (j1 + m) + 1 by omega, cdone_succ _ _ _ _ (h0 g), hC L g hg, if_pos hz, t5 m]
      rfl
    · rw [gdone_over _ _ _ _ _ (show (gsh F.gb (gstep F.gb F.actors L g).2).out ≠ 0 from hz)] at hd
      injection hd with e1 e2
      injection e2 with e2 e3
      dsimp only at e1 e2 e3
      subst e1 e2 e3
      refine ⟨_, (gstep F.gb F.actors L g).2, rfl, s3, rfl, hu', fun m => ?_⟩
      rw [show 0 + 1 + m = m + 1 by omega, cdone_succ _ _ _ _ (h0 g), hC L g hg, if_neg hz]
theorem deq_run {F : CLay} {i : Nat} (ha : 1 ≤ F.slots) (C A : Dop → CSt) (hC : ∀ L d, d.out = 0 → cstep F L (C d) = ((dstep (F.db i) F.slots L d).1, if (dstep (F.db i) F.slots L d).2.out = 0 then C (dstep (F.db i) F.slots L d).2 else A (dstep (F.db i) F.slots L d).2)) (h0 : ∀ d, (C d).out = 0) :
    ∀ (k : Nat) (L : List Int) (d : Dop) (D' : List Int) (d' : Dop) (j : Nat), AllU L → DopOk d → d.out = 0 →
      ddone 0 F.slots k (sub L (F.db i) (2 + F.slots)) d = (D', d', j) → d'.out ≠ 0 →
      ∃ L', sub L' (F.db i) (2 + F.slots) = D' ∧ Agr L L' (F.db i) (2 + F.slots) ∧ AllU L' ∧ ∀ m, cdone F (j + m) L (C d) = ((cdone F m L' (A d')).1, (cdone F m L' (A d')).2.1, (cdone F m L' (A d')).2.2 + j) := by
  intro k
  induction k with
  | zero =>
    intro L d D' d' j hu hok hg hd ho
    rw [ddone] at hd
    injection hd with e1 e2
    injection e2 with e2 e3
    subst e2
    exact absurd hg ho
  | succ k ih =>
    intro L d D' d' j hu hok hg hd ho
    obtain ⟨s1, s2, s3⟩ := dstep_sub (F.db i) F.slots ha L d hok
    rw [ddone_succ _ _ _ _ _ hg, ← s1, ← s2] at hd
    have hok' := dstep_ok (F.db i) F.slots L d hu hok
    have hu' := dstep_u (F.db i) F.slots L d hu hok.v hok.b
    by_cases hz : (dstep (F.db i) F.slots L d).2.out = 0
    · obtain ⟨r, hr⟩ : ∃ r, ddone 0 F.slots k (sub (dstep (F.db i) F.slots L d).1 (F.db i) (2 + F.slots)) (dstep (F.db i) F.slots L d).2 = r := ⟨_, rfl⟩
      obtain ⟨D1, d1, j1⟩ := r
      rw [hr] at hd
      injection hd with e1 e2
      injection e2 with e2 e3
      dsimp only at e1 e2 e3
      subst e1 e2 e3
      obtain ⟨L', t1, t2, t4, t5⟩ := ih _ _ _ _ _ hu' hok' hz hr ho
      refine ⟨L', t1, s3.trans t2, t4, fun m => ?_⟩
      rw [show j1 + 1 + m = (j1 + m) + 1 by omega, cdone_succ _ _ _ _ (h0 d), hC L d hg, if_pos hz, t5 m]
      rfl
    · rw [ddone_over _ _ _ _ _ hz] at hd
      injection hd with e1 e2
      injection e2 with e2 e3
      dsimp only at e1 e2 e3
      subst e1 e2 e3
      refine ⟨_, rfl, s3, hu', fun m => ?_⟩
      rw [show 0 + 1 + m = m + 1 by omega, cdone_succ _ _ _ _ (h0 d), hC L d hg, if_neg hz]
/-- What is in a gate. -/
def inG (H T : Nat) (val : Nat → Int) : List Int := inD H T val
/-- One worker's crew, nothing under way. -/
structure CA (s : Nat) (L D G : List Int) (c : Nat) : Prop where
  len : L.length = 1000
  u : AllU L
  s1 : 1 ≤ s
  s64 : s ≤ 64
  bell : at_ L 0 = 0
  deq : ∃ T B val, DAlone s (sub L 131 (2 + s)) T B val ∧ D = inD T B val ∧ B ≤ c
  gate : ∃ T H val, Alone 64 (sub L 1 130) T H val ∧ G = inD H T val ∧ T ≤ c
def aloneF (s : Nat) : CLay := ⟨0, 1, s, 64⟩
section
variable {s c : Nat} {L D G : List Int} {x : Int}
theorem CA.fit (h : CA s L D G c) : CFit (aloneF s) L.length := ⟨by show 1 ≤ 1; omega, by show 1 ≤ 8; omega, by rw [h.len]; show 0 + 1 + 2 + 2 * 64 ≤ 1000; omega, by show 1 ≤ 64; omega⟩
theorem alone_gb (s : Nat) : (aloneF s).gb = 1 := rfl
theorem alone_db (s : Nat) : (aloneF s).db 0 = 131 := by show 0 + 1 + (2 + 2 * 64) + 0 * (2 + s) = 131; omega
theorem Agr.at {L L' : List Int} {b k i : Nat} (h : Agr L L' b k) (hi : i < b ∨ b + k ≤ i) : at_ L' (i : Int) = at_ L (i : Int) := by rw [at_get, at_get, h.get i hi]
theorem cdone_end (F : CLay) (k : Nat) (L : List Int) (a v : Int) (h : a ≠ 0) : cdone F k L (.over a v) = (L, .over a v, 0) := cdone_over _ _ _ _ h
/-- A ring that finds nobody asleep. -/
theorem ring_done (h0 : at_ L 0 = 0) (m : Nat) : cdone (aloneF s) (m + 1) L (.ring ringB) = (L, .over 1 0, 1) := by
  have hb : bstep (aloneF s).base (aloneF s).n L ringB = (L, ⟨3, 1, 4⟩) := by
    show bstep 0 1 L ringB = _
    simp [bstep, ringB, h0, onOut]
  rw [cdone_succ _ _ _ _ rfl]
  have hc : cstep (aloneF s) L (.ring ringB) = (L, .over 1 0) := by simp only [cstep]; rw [hb]; rfl
  rw [hc, cdone_end _ _ _ 1 _ (by decide)]
theorem put_hC (F : CLay) (v : Int) (L : List Int) (g : Gop) (h : g.out = 0) : cstep F L (.put v g) = ((gstep F.gb F.actors L g).1, if (gstep F.gb F.actors L g).2.out = 0 then CSt.put v (gstep F.gb F.actors L g).2 else (fun g' : Gop => if g'.out = 2 then CSt.put v (putOp F.gb v) else .ring ringB) (gstep F.gb F.actors L g).2) := rfl
theorem gsh_put (b : Nat) (v : Int) : gsh b (putOp b v) = putOp 0 v := by unfold gsh putOp; simp
theorem gsh_take (b : Nat) : gsh b (takeOp b) = takeOp 0 := by unfold gsh takeOp; simp; omega
/-- A number brought into the gate. -/
theorem CA.put (h : CA s L D G c) (v : Int) (hv : U64 v) (hG : G.length < 64) (hc : c + 1 ≤ 1000000) : ∃ j L', j ≤ 6 ∧ CA s L' D (G ++ [v]) (c + 1) ∧ ∀ m, 20 ≤ m → cdone (aloneF s) m L (.put v (putOp 1 v)) = (L', .over 1 0, j) := by
  obtain ⟨T, H, val, ha, rfl, hT⟩ := h.gate
  rw [inD_len] at hG
  obtain ⟨G', o, k, e1, e2, e3, e4⟩ := ha.put v (by have := ha.le; omega) (by omega)
  have hgs := gsh_put 1 v
  obtain ⟨L', g2, t1, t2, t3, t4, t5⟩ := gate_run (F := aloneF s) (len := 1000) (by show 1 ≤ 64; omega) (.put v) (fun g' => if g'.out = 2 then CSt.put v (putOp 1 v) else .ring ringB) (put_hC (aloneF s) v) (fun g => rfl) 100 L (putOp 1 v) G' o k h.u h.len (by have := h.fit.put hv; rw [h.len] at this; exact this) (.inl rfl) rfl
    (by show gdone 0 64 100 (sub L 1 130) (gsh 1 (putOp 1 v)) = _; rw [show gsh 1 (putOp 1 v) = putOp 0 v from hgs]; exact e1) (by rw [e2]; decide)
  have t2' : Agr L L' 1 130 := t2
  have hbell : at_ L' 0 = 0 := by rw [show at_ L' 0 = at_ L 0 from t2'.at (i := 0) (by omega)]; exact h.bell
  have hg2 : g2.out = 1 := by have : (gsh 1 g2).out = 1 := by rw [show gsh 1 g2 = o from t3]; exact e2
                              exact this
  refine ⟨k + 1, L', by omega, ⟨by rw [t2'.len]; exact h.len, t4, h.s1, h.s64, hbell, ?_, ⟨T + 1, H, _, by rw [show sub L' 1 130 = G' from t1]; exact e4, by rw [inD_push val v ha.le], by omega⟩⟩, fun m hm => ?_⟩
  · obtain ⟨Td, B, vd, hd, e, hB⟩ := h.deq
    exact ⟨Td, B, vd, by rw [t2'.sub (b' := 131) (by omega)]; exact hd, e, by omega⟩
  · obtain ⟨q, rfl⟩ : ∃ q, m = k + (q + 1) := ⟨m - k - 1, by omega⟩
    rw [t5 (q + 1)]
    simp only [hg2]
    rw [if_neg (by decide), ring_done hbell q]
    simp; omega
theorem push_hC (F : CLay) (i : Nat) (v : Int) (L : List Int) (d : Dop) (h : d.out = 0) : cstep F L (.push i v d) = ((dstep (F.db i) F.slots L d).1, if (dstep (F.db i) F.slots L d).2.out = 0 then CSt.push i v (dstep (F.db i) F.slots L d).2 else (fun d' : Dop => if d'.out = 2 then CSt.put v (putOp F.gb v) else .ring ringB) (dstep (F.db i) F.slots L d).2) := rfl
theorem CA.offer0_room (h : CA s L D G c) (v : Int) (hv : U64 v) (hD : D.length < s) (hc : c + 1 ≤ 1000000) : ∃ j L', j ≤ 20 ∧ CA s L' (D ++ [v]) G (c + 1) ∧ cdone (aloneF s) 200 L (.push 0 v (pushOp v)) = (L', .over 1 0, j) := by
  obtain ⟨T, B, val, ha, rfl, hT⟩ := h.deq
  rw [inD_len] at hD
  obtain ⟨D', o, k, e1, e2, e3, e4⟩ := ha.push v (by have := ha.le; omega) (by omega)
  have hdb := alone_db s
  obtain ⟨L', t1, t2, t4, t5⟩ := deq_run (F := aloneF s) (i := 0) h.s1 (.push 0 v) (fun d' => if d'.out = 2 then CSt.put v (putOp 1 v) else .ring ringB) (push_hC (aloneF s) 0 v) (fun g => rfl) 100 L (pushOp v) D' o k h.u (pushOp_ok hv) rfl
    (by rw [hdb]; exact e1) (by rw [e2]; decide)
  rw [hdb] at t1 t2
  have t2' : Agr L L' 131 (2 + s) := t2
  have hbell : at_ L' 0 = 0 := by rw [show at_ L' 0 = at_ L 0 from t2'.at (i := 0) (by omega)]; exact h.bell
  refine ⟨k + 1, L', by omega, ⟨by rw [t2'.len]; exact h.len, t4, h.s1, h.s64, hbell, ⟨T, B + 1, _, by rw [show sub L' 131 (2 + s) = D' from t1]; exact e4, by rw [inD_push val v ha.le], by omega⟩, ?_⟩, ?_⟩
  · obtain ⟨Tg, H, vd, hd, e, hB⟩ := h.gate
    exact ⟨Tg, H, vd, by rw [t2'.sub (b' := 1) (by omega)]; exact hd, e, by omega⟩
  · rw [show 200 = k + ((199 - k) + 1) by omega, t5]
    simp only [e2]
    rw [if_neg (by decide), ring_done hbell]
    simp; omega
theorem CA.offer0_full (h : CA s L D G c) (v : Int) (hv : U64 v) (hD : D.length = s) (hG : G.length < 64) (hc : c + 1 ≤ 1000000) : ∃ j L', j ≤ 20 ∧ CA s L' D (G ++ [v]) (c + 1) ∧ cdone (aloneF s) 200 L (.push 0 v (pushOp v)) = (L', .over 1 0, j) := by
  have hh := h
  obtain ⟨T, B, val, ha, rfl, hT⟩ := h.deq
  rw [inD_len] at hD
  obtain ⟨o, e1, e2⟩ := ha.push_full v (by have := ha.le; omega)
  have hdb := alone_db s
  obtain ⟨L1, t1, t2, t4, t5⟩ := deq_run (F := aloneF s) (i := 0) h.s1 (.push 0 v) (fun d' => if d'.out = 2 then CSt.put v (putOp 1 v) else .ring ringB) (push_hC (aloneF s) 0 v) (fun g => rfl) 100 L (pushOp v) _ o 2 h.u (pushOp_ok hv) rfl
    (by rw [hdb]; exact e1) (by rw [e2]; decide)
  rw [hdb] at t1 t2
  have t2' : Agr L L1 131 (2 + s) := t2
  have hL : L1 = L := by
    refine List.ext_getElem? fun j => ?_
    by_cases hj : j < 131 ∨ 131 + (2 + s) ≤ j
    · exact t2'.get j hj
    · have a1 := sub_get L1 131 (2 + s) (j - 131) (by omega)
      have a2 := sub_get L 131 (2 + s) (j - 131) (by omega)
      rw [show 131 + (j - 131) = j by omega] at a1 a2
      rw [← a1, ← a2, show sub L1 131 (2 + s) = sub L 131 (2 + s) from t1]
  subst hL
  obtain ⟨j, L', j6, k1, k2⟩ := hh.put v hv hG hc
  refine ⟨j + 2, L', by omega, k1, ?_⟩
  rw [show 200 = 2 + 198 by omega, t5]
  simp only [e2]
  rw [if_pos trivial, k2 198 (by omega)]
theorem srcd_hC (F : CLay) (i : Nat) (rest : List Src) (L : List Int) (d : Dop) (h : d.out = 0) : cstep F L (.src (.dq i d) rest) = ((dstep (F.db i) F.slots L d).1, if (dstep (F.db i) F.slots L d).2.out = 0 then CSt.src (.dq i (dstep (F.db i) F.slots L d).2) rest else (fun d' : Dop => if d'.out = 1 then CSt.over 1 (dvalue d'.v d'.out) else ctry F rest) (dstep (F.db i) F.slots L d).2) := by
  by_cases h0 : (dstep (F.db i) F.slots L d).2.out = 0
  · simp [cstep, sstep, SOp.out, h0]
  · by_cases h1 : (dstep (F.db i) F.slots L d).2.out = 1
    · simp [cstep, sstep, SOp.out, SOp.value, h1]
    · simp [cstep, sstep, SOp.out, h0, h1]
theorem srcg_hC (F : CLay) (rest : List Src) (L : List Int) (g : Gop) (h : g.out = 0) : cstep F L (.src (.gt g) rest) = ((gstep F.gb F.actors L g).1, if (gstep F.gb F.actors L g).2.out = 0 then CSt.src (.gt (gstep F.gb F.actors L g).2) rest else (fun g' : Gop => if g'.out = 1 then CSt.over 1 (gvalue g'.ahead g'.v g'.out) else ctry F rest) (gstep F.gb F.actors L g).2) := by
  by_cases h0 : (gstep F.gb F.actors L g).2.out = 0
  · simp [cstep, sstep, SOp.out, h0]
  · by_cases h1 : (gstep F.gb F.actors L g).2.out = 1
    · simp [cstep, sstep, SOp.out, SOp.value, h1]
    · simp [cstep, sstep, SOp.out, h0, h1]
theorem find1 (dr : Nat) (s : Nat) : findC (aloneF s) 0 (ordZ dr 1 0) = .src (.dq 0 popOp) [.take] := by
  have h0 : ordZ dr 1 0 = [] := by
    refine List.eq_nil_of_length_eq_zero ?_
    rw [ordZ_len]
    have := othN_len 1 0 (by omega)
    rw [show othZ 1 0 = othN 1 0 from othZ_good 1 0 (by omega) (by omega)]
    omega
  rw [h0]
  rfl
theorem CA.find_pop (h : CA s L (D ++ [x]) G c) : ∃ j L', j ≤ 20 ∧ CA s L' D G c ∧ cdone (aloneF s) 200 L (.src (.dq 0 popOp) [.take]) = (L', .over 1 x, j) := by
  obtain ⟨T, B, val, ha, hD, hT⟩ := h.deq
  have hlt : T < B := by
    have := congrArg List.length hD
    rw [inD_len] at this
    simp at this
    omega
  obtain ⟨D', o, k, T', B', e1, e2, e3, e4, e5, e6⟩ := ha.pop hlt
  have hdb := alone_db s
  obtain ⟨L', t1, t2, t4, t5⟩ := deq_run (F := aloneF s) (i := 0) h.s1 (fun d => .src (.dq 0 d) [.take]) (fun d' : Dop => if d'.out = 1 then CSt.over 1 (dvalue d'.v d'.out) else ctry (aloneF s) [.take]) (srcd_hC (aloneF s) 0 [.take]) (fun g => rfl) 100 L popOp D' o k h.u popOp_ok rfl
    (by rw [hdb]; exact e1) (by rw [e2]; decide)
  rw [hdb] at t1 t2
  have t2' : Agr L L' 131 (2 + s) := t2
  have hbell : at_ L' 0 = 0 := by rw [show at_ L' 0 = at_ L 0 from t2'.at (i := 0) (by omega)]; exact h.bell
  rw [inD_pop val hlt] at hD
  obtain ⟨hD1, hD2⟩ := List.append_inj' hD rfl
  simp at hD2
  refine ⟨k, L', by omega, ⟨by rw [t2'.len]; exact h.len, t4, h.s1, h.s64, hbell, ⟨T', B', val, by rw [show sub L' 131 (2 + s) = D' from t1]; exact e5, ?_, ?_⟩, ?_⟩, ?_⟩
  · rcases e6 with ⟨rfl, rfl⟩ | ⟨h1, rfl, rfl⟩
    · exact hD1
    · rw [hD1, inD_nil val (by omega), inD_nil val (by omega)]
  · rcases e6 with ⟨rfl, rfl⟩ | ⟨h1, rfl, rfl⟩ <;> omega
  · obtain ⟨Tg, H, vd, hd, e, hB⟩ := h.gate
    exact ⟨Tg, H, vd, by rw [t2'.sub (b' := 1) (by omega)]; exact hd, e, by omega⟩
  · rw [show 200 = k + (200 - k) by omega, t5]
    simp only [e2]
    rw [if_pos trivial, show dvalue o.v 1 = x from by rw [e3, hD2]; simp [dvalue], cdone_end _ _ _ 1 _ (by decide)]
    simp
/-- A pop that finds nothing, and what comes behind it. -/
theorem CA.pop_none (h : CA s L [] G c) : ∃ k L', k ≤ 6 ∧ CA s L' [] G c ∧ ∀ m, cdone (aloneF s) (k + m) L (.src (.dq 0 popOp) [.take]) = ((cdone (aloneF s) m L' (.src (.gt (takeOp 1)) [])).1, (cdone (aloneF s) m L' (.src (.gt (takeOp 1)) [])).2.1, (cdone (aloneF s) m L' (.src (.gt (takeOp 1)) [])).2.2 + k) := by
  obtain ⟨T, B, val, ha, hD, hT⟩ := h.deq
  have hBT : B = T := by
    have := congrArg List.length hD
    rw [inD_len] at this
    simp at this
    have := ha.le
    omega
  obtain ⟨D', o, k, e1, e2, e3, e4⟩ := ha.pop_none hBT
  have hdb := alone_db s
  obtain ⟨L', t1, t2, t4, t5⟩ := deq_run (F := aloneF s) (i := 0) h.s1 (fun d => .src (.dq 0 d) [.take]) (fun d' : Dop => if d'.out = 1 then CSt.over 1 (dvalue d'.v d'.out) else ctry (aloneF s) [.take]) (srcd_hC (aloneF s) 0 [.take]) (fun g => rfl) 100 L popOp D' o k h.u popOp_ok rfl
    (by rw [hdb]; exact e1) (by rw [e2]; decide)
  rw [hdb] at t1 t2
  have t2' : Agr L L' 131 (2 + s) := t2
  have hbell : at_ L' 0 = 0 := by rw [show at_ L' 0 = at_ L 0 from t2'.at (i := 0) (by omega)]; exact h.bell
  refine ⟨k, L', by omega, ⟨by rw [t2'.len]; exact h.len, t4, h.s1, h.s64, hbell, ⟨T, B, val, by rw [show sub L' 131 (2 + s) = D' from t1]; exact e4, hD, hT⟩, ?_⟩, fun m => ?_⟩
  · obtain ⟨Tg, H, vd, hd, e, hB⟩ := h.gate
    exact ⟨Tg, H, vd, by rw [t2'.sub (b' := 1) (by omega)]; exact hd, e, by omega⟩
  · rw [t5 m]
    simp only [e2]
    rfl
theorem inG_cons {H T : Nat} (val : Nat → Int) (h : H < T) : inD H T val = val H :: inD (H + 1) T val := by
  unfold inD
  rw [show T - H = (T - (H + 1)) + 1 by omega, List.range_succ_eq_map, List.map_cons, List.map_map]
  congr 1
  refine List.map_congr_left fun i _ => ?_
  show val (H + (i + 1)) = val (H + 1 + i)
  congr 1; omega
/-- A take of the gate, as a part of whatever. -/
theorem CA.take_run (h : CA s L D (x :: G) c) (C A : Gop → CSt) (hC : ∀ L g, g.out = 0 → cstep (aloneF s) L (C g) = ((gstep (aloneF s).gb (aloneF s).actors L g).1, if (gstep (aloneF s).gb (aloneF s).actors L g).2.out = 0 then C (gstep (aloneF s).gb (aloneF s).actors L g).2 else A (gstep (aloneF s).gb (aloneF s).actors L g).2)) (h0 : ∀ g, (C g).out = 0) :
    ∃ k L' g2, k ≤ 5 ∧ CA s L' D G c ∧ g2.out = 1 ∧ gvalue g2.ahead g2.v g2.out = x ∧ ∀ m, cdone (aloneF s) (k + m) L (C (takeOp 1)) = ((cdone (aloneF s) m L' (A g2)).1, (cdone (aloneF s) m L' (A g2)).2.1, (cdone (aloneF s) m L' (A g2)).2.2 + k) := by
  obtain ⟨T, H, val, ha, hG, hT⟩ := h.gate
  have hlt : H < T := by
    have := congrArg List.length hG
    rw [inD_len] at this
    simp at this
    omega
  rw [inG_cons val hlt] at hG
  injection hG with hx hG
  obtain ⟨G', o, k, e1, e2, e3, e4, e5⟩ := ha.take hlt
  obtain ⟨L', g2, t1, t2, t3, t4, t5⟩ := gate_run (F := aloneF s) (len := 1000) (by show 1 ≤ 64; omega) C A hC h0 100 L (takeOp 1) G' o k h.u h.len (by have := h.fit.take; rw [h.len] at this; exact this) (.inr rfl) rfl
    (by show gdone 0 64 100 (sub L 1 130) (gsh 1 (takeOp 1)) = _; rw [show gsh 1 (takeOp 1) = takeOp 0 from gsh_take 1]; exact e1) (by rw [e2]; decide)
  have t2' : Agr L L' 1 130 := t2
  have hbell : at_ L' 0 = 0 := by rw [show at_ L' 0 = at_ L 0 from t2'.at (i := 0) (by omega)]; exact h.bell
  have hgo : gsh 1 g2 = o := t3
  refine ⟨k, L', g2, by omega, ⟨by rw [t2'.len]; exact h.len, t4, h.s1, h.s64, hbell, ?_, ⟨T, H + 1, val, by rw [show sub L' 1 130 = G' from t1]; exact e5, hG, hT⟩⟩, ?_, ?_, t5⟩
  · obtain ⟨Td, B, vd, hd, e, hB⟩ := h.deq
    exact ⟨Td, B, vd, by rw [t2'.sub (b' := 131) (by omega)]; exact hd, e, hB⟩
  · have : (gsh 1 g2).out = 1 := by rw [hgo]; exact e2
    exact this
  · have : gvalue (gsh 1 g2).ahead (gsh 1 g2).v (gsh 1 g2).out = val H := by rw [hgo]; exact e3
    rw [hx]
    exact this
theorem CA.find_take (h : CA s L [] (x :: G) c) : ∃ j L', j ≤ 20 ∧ CA s L' [] G c ∧ cdone (aloneF s) 200 L (.src (.dq 0 popOp) [.take]) = (L', .over 1 x, j) := by
  obtain ⟨k, L1, hk, h1, h2⟩ := h.pop_none
  obtain ⟨j, L', g2, hj, h3, h4, h5, h6⟩ := h1.take_run (fun g => .src (.gt g) []) (fun g' : Gop => if g'.out = 1 then CSt.over 1 (gvalue g'.ahead g'.v g'.out) else ctry (aloneF s) []) (srcg_hC (aloneF s) []) (fun g => rfl)
  refine ⟨k + j, L', by omega, h3, ?_⟩
  rw [show 200 = k + (j + (200 - k - j)) by omega, h2, h6]
  rw [if_pos h4, h5, cdone_end _ _ _ 1 _ (by decide)]
  simp; omega
theorem CA.find_none (h : CA s L [] [] c) : ∃ j L', j ≤ 20 ∧ cdone (aloneF s) 200 L (.src (.dq 0 popOp) [.take]) = (L', .over 4 0, j) := by
  obtain ⟨k, L1, hk, h1, h2⟩ := h.pop_none
  obtain ⟨T, H, val, ha, hG, hT⟩ := h1.gate
  have hHT : H = T := by
    have := congrArg List.length hG
    rw [inD_len] at this
    simp at this
    have := ha.le
    omega
  obtain ⟨o, e1, e2⟩ := ha.take_none hHT
  obtain ⟨L', g2, t1, t2, t3, t4, t5⟩ := gate_run (F := aloneF s) (len := 1000) (by show 1 ≤ 64; omega) (fun g => .src (.gt g) []) (fun g' : Gop => if g'.out = 1 then CSt.over 1 (gvalue g'.ahead g'.v g'.out) else ctry (aloneF s) []) (srcg_hC (aloneF s) []) (fun g => rfl) 100 L1 (takeOp 1) _ o 2 h1.u h1.len (by have := h1.fit.take; rw [h1.len] at this; exact this) (.inr rfl) rfl
    (by show gdone 0 64 100 (sub L1 1 130) (gsh 1 (takeOp 1)) = _; rw [show gsh 1 (takeOp 1) = takeOp 0 from gsh_take 1]; exact e1) (by rw [e2]; decide)
  have hg2 : g2.out = 4 := by
    have : (gsh 1 g2).out = 4 := by rw [show gsh 1 g2 = o from t3]; exact e2
    exact this
  refine ⟨k + 2, L', by omega, ?_⟩
  rw [show 200 = k + (2 + (198 - k)) by omega, h2, t5]
  rw [if_neg (by rw [hg2]; decide)]
  rw [show ctry (aloneF s) [] = CSt.over 4 0 from rfl, cdone_end _ _ _ 4 _ (by decide)]
  simp; omega
theorem take_hC (F : CLay) (i : Nat) (L : List Int) (g : Gop) (h : g.out = 0) : cstep F L (.take i g) = ((gstep F.gb F.actors L g).1, if (gstep F.gb F.actors L g).2.out = 0 then CSt.take i (gstep F.gb F.actors L g).2 else (fun g' : Gop => if g'.out = 1 then CSt.up i (gvalue g'.ahead g'.v 1) ⟨1, i, 0⟩ else .over 4 0) (gstep F.gb F.actors L g).2) := rfl
theorem at_set0 (L : List Int) (v : Int) (i : Nat) (h : i ≠ 0) : at_ (L.set 0 v) (i : Int) = at_ L (i : Int) := by
  rw [at_get, at_get, List.getElem?_set, if_neg (by omega)]
theorem CA.set0 (h : CA s L D G c) {a : Int} (ha : U64 a) : (L.set 0 a).length = 1000 ∧ AllU (L.set 0 a) ∧ sub (L.set 0 a) 131 (2 + s) = sub L 131 (2 + s) ∧ sub (L.set 0 a) 1 130 = sub L 1 130 := by
  have g : Agr L (L.set 0 a) 0 1 := (Agr.refl L 0 1).set a (by omega) (by omega)
  exact ⟨by simpa using h.len, h.u.set 0 ha, g.sub (by omega), g.sub (by omega)⟩
theorem CA.rest_take (h : CA s L D (x :: G) c) : ∃ j L', j ≤ 20 ∧ CA s L' D G c ∧ cdone (aloneF s) 200 L (.sleep 0 ⟨0, 0, 0⟩) = (L', .over 1 x, j) := by
  have hl := h.len
  have e1 : cstep (aloneF s) L (.sleep 0 ⟨0, 0, 0⟩) = (L.set 0 1, .take 0 (takeOp 1)) := by
    have : bstep (aloneF s).base (aloneF s).n L ⟨0, 0, 0⟩ = (L.set 0 1, ⟨0, 0, 1⟩) := by show bstep 0 1 L ⟨0, 0, 0⟩ = _; simp [bstep]
    simp only [cstep]; rw [this]; rfl
  -- the marked cells, read as if nobody slept
  obtain ⟨T, H, val, ha, hG, hT⟩ := h.gate
  have hlt : H < T := by
    have := congrArg List.length hG
    rw [inD_len] at this
    simp at this
    omega
  rw [inG_cons val hlt] at hG
  injection hG with hx hG
  obtain ⟨q1, q2, q3, q4⟩ := h.set0 (a := 1) ⟨by decide, by decide⟩
  obtain ⟨G', o, k, r1, r2, r3, r4, r5⟩ := ha.take hlt
  obtain ⟨L2, g2, t1, t2, t3, t4, t5⟩ := gate_run (F := aloneF s) (len := 1000) (by show 1 ≤ 64; omega) (.take 0) (fun g' : Gop => if g'.out = 1 then CSt.up 0 (gvalue g'.ahead g'.v 1) ⟨1, (0 : Nat), 0⟩ else .over 4 0) (take_hC (aloneF s) 0) (fun g => rfl) 100 (L.set 0 1) (takeOp 1) G' o k q2 q1 (by have := h.fit.take; rw [h.len] at this; exact this) (.inr rfl) rfl
    (by show gdone 0 64 100 (sub (L.set 0 1) 1 130) (gsh 1 (takeOp 1)) = _; rw [show gsh 1 (takeOp 1) = takeOp 0 from gsh_take 1, q4]; exact r1) (by rw [r2]; decide)
  have t2' : Agr (L.set 0 1) L2 1 130 := t2
  have hgo : gsh 1 g2 = o := t3
  have hg1 : g2.out = 1 := by
    have : (gsh 1 g2).out = 1 := by rw [hgo]; exact r2
    exact this
  have hgv : gvalue g2.ahead g2.v 1 = x := by
    have : gvalue (gsh 1 g2).ahead (gsh 1 g2).v (gsh 1 g2).out = val H := by rw [hgo]; exact r3
    rw [hx]
    have h2 : gvalue g2.ahead g2.v g2.out = val H := this
    rw [hg1] at h2
    exact h2
  have hl2 : L2.length = 1000 := by rw [t2'.len]; exact q1
  have e2 : cstep (aloneF s) L2 (.up 0 x ⟨1, (0 : Nat), 0⟩) = (L2.set 0 0, .over 1 x) := by
    have : bstep (aloneF s).base (aloneF s).n L2 ⟨1, (0 : Nat), 0⟩ = (L2.set 0 0, ⟨1, (0 : Nat), 1⟩) := by show bstep 0 1 L2 ⟨1, 0, 0⟩ = _; simp [bstep]
    simp only [cstep]; rw [this]; rfl
  have g0 : Agr L2 (L2.set 0 0) 0 1 := (Agr.refl L2 0 1).set 0 (by omega) (by omega)
  refine ⟨k + 2, L2.set 0 0, by omega, ⟨by simpa using hl2, t4.set 0 u64_zero, h.s1, h.s64, ?_, ?_, ⟨T, H + 1, val, ?_, hG, hT⟩⟩, ?_⟩
  · have : at_ (L2.set 0 0) ((0 : Nat) : Int) = 0 := by rw [at_set _ _ _ _ (by omega), if_pos rfl]
    exact this
  · obtain ⟨Td, B, vd, hd, e, hB⟩ := h.deq
    exact ⟨Td, B, vd, by rw [g0.sub (b' := 131) (by omega), t2'.sub (b' := 131) (by omega), q3]; exact hd, e, hB⟩
  · rw [g0.sub (b' := 1) (by omega), show sub L2 1 130 = G' from t1]; exact r5
  · rw [show 200 = (k + ((198 - k) + 1)) + 1 by omega, cdone_succ _ _ _ _ rfl, e1]
    rw [t5]
    rw [if_pos hg1, hgv, cdone_succ _ _ _ _ rfl, e2, cdone_end _ _ _ 1 _ (by decide)]
    simp; omega
end
end Go.Proofs.Ytdoaipjdldknaaa
