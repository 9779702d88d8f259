/-
  CrewOnce: rounds in which who offers from outside comes to its end, and rounds in which the workers come to sleep (what holds between two rounds; no program).
-/
import Derived.Test.YtdoaipjdldknaaaKO15W
import Derived.Test.YtdoaipjdldknaaaKO16
namespace Go.Proofs.Ytdoaipjdldknaaa
open Go.RowKit
set_option linter.unusedVariables false
section
variable {X : GX} {w0 w : World} {r : Int} {c tm : Nat} {L : List Int} {tc : Int} {o : Nat → CSt} {own : Nat → Nat} {act : Nat → Bool} {bo : Nat → Nat} {ph : Nat → Nat} {lf : Nat → Int} {nx : Nat} {fv pv : Value} {fd ps : List Int} {T H : Nat} {S : Nat → List Int} {M : Nat → Int}
theorem remO_in {n s : Nat} {L : List Int} {o : Nat → CSt} {ph : Nat → Nat} {T H b : Nat} {S : Nat → List Int} {M : Nat → Int} (h : CI n s L o ph T H S M b) : 0 ≤ remO n (o n) ∧ remO n (o n) ≤ 13 := by
  have h4 := h.n4
  have hok := h.ok n (Nat.le_refl _)
  have hs := h.sho
  generalize o n = st at hok hs
  cases hs with
  | idle => exact ⟨Int.le_refl _, by show (0 : Int) ≤ 13; omega⟩
  | over => exact ⟨Int.le_refl _, by show (0 : Int) ≤ 13; omega⟩
  | put v g hv =>
    have := hok.2.1.ph
    show 0 ≤ 5 - g.ph + 2 * (n : Int) ∧ 5 - g.ph + 2 * (n : Int) ≤ 13
    omega
  | ring k q hk hq =>
    show 0 ≤ 2 * ((n : Int) - (q : Nat)) - (if k = 4 then 1 else 0) ∧ 2 * ((n : Int) - (q : Nat)) - (if k = 4 then 1 else 0) ≤ 13
    split <;> omega
/-- A round in which who offers from outside comes to its end. -/
def Fade (X : GX) (w0 w : World) (r : Int) (k : Nat) : Prop := ∃ c L tc o own act bo ph lf nx fv pv fd ps T H S M, GS X w0 w r c 1000 L tc o own act bo ph lf nx fv pv fd ps T H S M ∧ c ≤ 800 + k ∧ (remO X.n (o X.n) + k ≤ 60 ∨ o X.n = idleC)
theorem Fade.start (h : GS X w0 w r c 1000 L tc o own act bo ph lf nx fv pv fd ps T H S M) (hc : c ≤ 800) : Fade X w0 w r 0 :=
  ⟨c, _, _, _, _, _, _, _, _, _, _, _, _, _, _, _, _, _, h, by omega, .inl (by have := (remO_in h.bi.ci).2; omega)⟩
theorem Fade.next {w' : World} {k : Nat} (h : GS X w0 w r c 1000 L tc o own act bo ph lf nx fv pv fd ps T H S M) (hc : c ≤ 800 + k) (hr : remO X.n (o X.n) + k ≤ 60 ∨ o X.n = idleC) (hb : Brought X w0 w' r c 1000 o ph lf fv fd H S false) : Fade X w0 w' r (k + 1) := by
  obtain ⟨c', L', tc', o', own', act', bo', nx', pv', ps', T', M', hgs', h1, h2, h3⟩ := hb
  refine ⟨c', _, _, _, _, _, _, _, _, _, _, _, _, _, _, _, _, _, hgs', by omega, ?_⟩
  rcases h3 rfl with h3 | h3
  · rcases hr with hr | hr
    · exact .inl (by omega)
    · rw [hr] at h3
      have e : remO X.n idleC = 0 := rfl
      have := (remO_in hgs'.bi.ci).1
      omega
  · exact .inr h3
/-- A round in which the workers come to sleep. -/
structure Calm (X : GX) (q j : Nat) (psi : Int) (ph : Nat → Nat) (M : Nat → Int) : Prop where
  jn : j < X.n
  up : psi + q ≤ 50001
  st : (psi + q ≤ 50000 ∧ (psi + q + 1 ≤ 50000 ∨ ∀ t, t < j → ph t = 2 ∧ M t = 1)) ∨ (j = 0 ∧ ∀ t, t < X.n → ph t = 2 ∧ M t = 1)
def Still (X : GX) (w0 w : World) (r : Int) (k : Nat) : Prop := ∃ q j c tm L tc o own act bo ph lf nx fv pv fd ps T H S M, k = X.n * q + j ∧ GS X w0 w r c tm L tc o own act bo ph lf nx fv pv fd ps T H S M ∧ o X.n = idleC ∧ c ≤ 860 + k ∧ tm ≤ 1000 + 8 * k ∧ Calm X q j (Psi X.n T H o ph lf S M) ph M
theorem Still.start (h : GS X w0 w r c 1000 L tc o own act bo ph lf nx fv pv fd ps T H S M) (hc : c ≤ 860) (hr : remO X.n (o X.n) + 60 ≤ 60 ∨ o X.n = idleC) : Still X w0 w r 0 := by
  have ho : o X.n = idleC := by
    rcases hr with hr | hr
    · have hok := h.bi.ci.ok X.n (Nat.le_refl _)
      have hs := h.bi.ci.sho
      have hid := h.idl X.n (Nat.le_refl _)
      have hn1 := h.bi.ci.n1
      generalize o X.n = st at hok hs hr hid
      cases hs with
      | idle => rfl
      | over => exact hid (by show (1 : Int) ≠ 0; decide)
      | put v g hv =>
        have := hok.2.1.ph
        have e : remO X.n (.put v g) = 5 - g.ph + 2 * (X.n : Int) := rfl
        omega
      | ring k q hk hq =>
        have e : remO X.n (.ring ⟨k, q, 0⟩) = 2 * ((X.n : Int) - (q : Nat)) - (if k = 4 then 1 else 0) := rfl
        split at e <;> omega
    · exact hr
  exact ⟨0, 0, c, 1000, _, _, _, _, _, _, _, _, _, _, _, _, _, _, _, _, _, rfl, h, ho, by omega, by omega, ⟨h.bi.ci.n1, by have := h.bi.psi0; omega, .inl ⟨by have := h.bi.psi0; omega, .inr fun t ht => by omega⟩⟩⟩
/-- A worker makes a step, and the round is not the last one. -/
theorem Still.next {w' : World} {q j : Nat} (h : GS X w0 w r c tm L tc o own act bo ph lf nx fv pv fd ps T H S M) (ho : o X.n = idleC) (hc : c ≤ 860 + (X.n * q + j)) (htm : tm ≤ 1000 + 8 * (X.n * q + j) + 8) (hk : Calm X q j (Psi X.n T H o ph lf S M) ph M) (hne : j = 0 → ¬ ∀ t, t < X.n → ph t = 2 ∧ M t = 1)
    (hb : Worked X w0 w' r c tm o j ph lf nx T H S M) : Still X w0 w' r (X.n * q + j + 1) := by
  obtain ⟨L', tc', o', own', act', bo', ph', lf', fv', pv', fd', ps', H', S', M', hgs', h1, h2⟩ := hb
  have hjn := hk.jn
  have hA : Psi X.n T H o ph lf S M + q ≤ 50000 ∧ (Psi X.n T H o ph lf S M + q + 1 ≤ 50000 ∨ ∀ t, t < j → ph t = 2 ∧ M t = 1) := by
    rcases hk.st with h3 | ⟨h0, h3⟩
    · exact h3
    · exact absurd h3 (hne h0)
  have hB : Psi X.n T H' o' ph' lf' S' M' + q ≤ 50000 ∧ (Psi X.n T H' o' ph' lf' S' M' + q + 1 ≤ 50000 ∨ ∀ t, t < j + 1 → ph' t = 2 ∧ M' t = 1) := by
    rcases h2 with h2 | ⟨h3, h4, h5, h6, h7⟩
    · exact ⟨by omega, .inl (by omega)⟩
    · refine ⟨by omega, ?_⟩
      rcases hA.2 with h8 | h8
      · exact .inl (by omega)
      · refine .inr fun t ht => ?_
        subst h7
        rw [h6 t (by omega)]
        by_cases e : t = j
        · subst e; exact ⟨h3, h4⟩
        · exact h8 t (by omega)
  by_cases hj : j + 1 = X.n
  · refine ⟨q + 1, 0, c + 1, tm, _, _, _, _, _, _, _, _, _, _, _, _, _, _, _, _, _, by rw [Nat.mul_add]; omega, hgs', by rw [h1]; exact ho, by omega, by omega, ⟨by omega, by omega, ?_⟩⟩
    rcases hB.2 with h8 | h8
    · exact .inl ⟨by omega, .inr fun t ht => by omega⟩
    · exact .inr ⟨rfl, fun t ht => h8 t (by omega)⟩
  · exact ⟨q, j + 1, c + 1, tm, _, _, _, _, _, _, _, _, _, _, _, _, _, _, _, _, _, by omega, hgs', by rw [h1]; exact ho, by omega, by omega, ⟨by omega, by omega, .inl hB⟩⟩
theorem Still.notEnd (h : Still X w0 w r 400000) : False := by
  obtain ⟨q, j, c, tm, L, tc, o, own, act, bo, ph, lf, nx, fv, pv, fd, ps, T, H, S, M, hk, hgs, -, -, -, hc⟩ := h
  have hn4 := hgs.bi.ci.n4
  have hjn := hc.jn
  have hu := hc.up
  have hp := BI.psi_nonneg hgs.bi
  have hq : (q : Int) ≤ 50001 := by omega
  have : X.n * q ≤ 4 * 50001 := Nat.mul_le_mul hn4 (by omega)
  omega
/-- A worker that sleeps has nothing under way. -/
theorem GS.idle2 (h : GS X w0 w r c tm L tc o own act bo ph lf nx fv pv fd ps T H S M) {p : Nat} (hp : p < X.n) (h2 : ph p = 2) : o p = idleC := by
  have hsh := h.bi.ci.sh p hp
  have hn := h.npl p hp
  have hid := h.idl p (by omega)
  rw [h2] at hsh
  generalize o p = st at hsh hn hid
  generalize S p = z at hsh
  generalize M p = m at hsh
  cases hsh with
  | p0 => rfl
  | ppl => exact absurd rfl (hn _)
  | pyes => exact hid (by show (1 : Int) ≠ 0; decide)
  | pno => exact hid (by show (4 : Int) ≠ 0; decide)
theorem GS.act_idle (h : GS X w0 w r c tm L tc o own act bo ph lf nx fv pv fd ps T H S M) {p : Nat} (hp : p ≤ X.n) (h2 : o p = idleC) : act p = false := by
  rw [h.ac p hp, h2]; rfl
/-- Behind polls. -/
theorem GS.polled {w' : World} {tc' : Int} (h : GS X w0 w r c tm L tc o own act bo ph lf nx fv pv fd ps T H S M) (hg : GM X w0 w' L tc' o own act bo ph lf nx fv pv fd ps) (htc : tc' ≤ tc + 8) : GS X w0 w' r c (tm + 8) L tc' o own act bo ph lf nx fv pv fd ps T H S M :=
  ⟨hg, h.bi, h.ac, h.idl, by have := h.tcb; show tc' ≤ ((tm + 8 : Nat) : Int) + c; omega, h.npl, h.pl, h.fl⟩
end
end Go.Proofs.Ytdoaipjdldknaaa
/-
  CrewOnce: the gang runs to its end (troupelaw20.run).
-/
namespace Go.Proofs.Ytdoaipjdldknaaa
open Go.RowKit
set_option linter.unusedVariables false
def RdT (w : World) (k : IntKind) (a : Option Addr) (len : Nat) (f : Nat → Int) : Prop := len ≠ 0 → ∃ g off, a = some ⟨g, off, none⟩ ∧ g < w.heap.size ∧ ∀ i, i < len → w.cell? ⟨g, off + i, none⟩ = some (.int k (f i))
theorem crewF_ok (n s : Nat) (n1 : 1 ≤ n) (n4 : n ≤ 4) (s1 : 1 ≤ s) (s4 : s ≤ 4) : (crewF n s).Ok := ⟨n1, by show n ≤ 8; omega, s1, by show s ≤ 64; omega, by show 1 ≤ 64; omega, by show 64 ≤ 64; omega⟩
section
variable {w : World} {c1 c2 c3 c4 : Array Value} {t1 t2 t3 t4 : TypeId}
theorem blk4_4 : Blk ((((w.alloc (.cells c1 t1)).alloc (.cells c2 t2)).alloc (.cells c3 t3)).alloc (.cells c4 t4)) (w.heap.size + 1 + 1 + 1) t4 c4 := by
  have := Blk.new (((w.alloc (.cells c1 t1)).alloc (.cells c2 t2)).alloc (.cells c3 t3)) t4 c4
  simpa using this
theorem blk4_3 : Blk ((((w.alloc (.cells c1 t1)).alloc (.cells c2 t2)).alloc (.cells c3 t3)).alloc (.cells c4 t4)) (w.heap.size + 1 + 1) t3 c3 := by
  have := (Blk.new ((w.alloc (.cells c1 t1)).alloc (.cells c2 t2)) t3 c3).alloc (.cells c4 t4)
  simpa using this
theorem blk4_2 : Blk ((((w.alloc (.cells c1 t1)).alloc (.cells c2 t2)).alloc (.cells c3 t3)).alloc (.cells c4 t4)) (w.heap.size + 1) t2 c2 := by
  have := ((Blk.new (w.alloc (.cells c1 t1)) t2 c2).alloc (.cells c3 t3)).alloc (.cells c4 t4)
  simpa using this
theorem blk4_1 : Blk ((((w.alloc (.cells c1 t1)).alloc (.cells c2 t2)).alloc (.cells c3 t3)).alloc (.cells c4 t4)) w.heap.size t1 c1 := (((Blk.new w t1 c1).alloc _).alloc _).alloc _
theorem only4 : Only S0 w ((((w.alloc (.cells c1 t1)).alloc (.cells c2 t2)).alloc (.cells c3 t3)).alloc (.cells c4 t4)) := ((((Only.refl S0 w).alloc _).alloc _).alloc _).alloc _
end
theorem zeros_tab (z : Value) (n : Nat) : zeros z n = tabC n fun _ => z := by unfold zeros tabC; simp [List.map_const']
theorem GS.start {n s : Nat} (n1 : 1 ≤ n) (n4 : n ≤ 4) (s1 : 1 ≤ s) (s4 : s ≤ 4) {r : Int} (hr : (r = 1 ∧ n = 1) ∨ (r = 2 ∧ 2 ≤ n)) {w w5 wc : World} {bm bc cb bb bg : Nat} {dv : Value} {bd : Nat → Nat} {tc : Int} (he : CEnv w5 (crewF n s) cb bb bg bm bc dv bd tc (layC (List.replicate 1000 0) (crewF n s))) (htc : tc ≤ 1000)
    (o1 : Only S0 w w5) (b1 : w.heap.size ≤ bm) (b2 : w.heap.size ≤ bc) {ob pb lb gb : Nat} (q1 : Blk wc ob 30 (zeros (.pointer none) n)) (q2 : Blk wc pb 3 (zeros (.int .i64 0) n)) (q3 : Blk wc lb 31 (zeros (.int .u64 0) n))
    (q4 : Blk wc gb 33 #[.pointer (some ⟨cb, 0, none⟩), .slice (some ⟨ob, 0, none⟩) n n, .slice (some ⟨pb, 0, none⟩) n n, .slice (some ⟨lb, 0, none⟩) n n, .pointer none, .int .u64 0, .slice none 0 0, .slice none 0 0]) (o2 : Only S0 w5 wc) (d1 : w5.heap.size ≤ ob) (d2 : w5.heap.size ≤ pb) (d3 : w5.heap.size ≤ lb) (d4 : w5.heap.size ≤ gb) :
    GX.Ok ⟨wc.heap.size, gb, ob, pb, lb, cb, bb, bg, bm, bc, dv, bd, n, s⟩ w.heap.size ∧ GS ⟨wc.heap.size, gb, ob, pb, lb, cb, bb, bg, bm, bc, dv, bd, n, s⟩ w wc r 0 1000 (layC (List.replicate 1000 0) (crewF n s)) tc (fun _ => idleC) (fun _ => 0) (fun _ => false) (fun _ => 0) (fun _ => 0) (fun _ => 0) 0 (.slice none 0 0) (.slice none 0 0) [] [] 0 0 (fun _ => []) (fun _ => 0) := by
  have z1 := o1.size
  have z2 := o2.size
  have z3 := he.mem.mem.lt
  have z4 := he.mem.cells.lt
  have e1 := q1.lt
  have e2 := q2.lt
  have e3 := q3.lt
  have e4 := q4.lt
  refine ⟨⟨e4, e1, e2, e3, by show bm < wc.heap.size; omega, by show bc < wc.heap.size; omega, by show w.heap.size ≤ gb; omega, by show w.heap.size ≤ ob; omega, by show w.heap.size ≤ pb; omega, by show w.heap.size ≤ lb; omega, b1, b2, by show lb ≠ bc; omega⟩, ?_⟩
  rw [zeros_tab] at q1 q2 q3
  exact ⟨⟨he.only0 o2, fun t ht e => (by cases e), .idle, q4, q1, q2, q3, ⟨Sl.nil _ _ _, fun g e => (by cases e)⟩, ⟨Sl.nil _ _ _, fun g e => (by cases e)⟩, fun g e => (by cases e), o1.trans o2, Nat.le_refl _⟩, BI.start n s n1 n4 s1 s4 r hr, fun t ht => rfl, fun t ht e => rfl, (by show tc ≤ ((1000 : Nat) : Int) + ((0 : Nat) : Int); omega), fun t ht b e => (by cases e), Nat.zero_le _, Nat.zero_le _⟩
theorem GS.drew {X : GX} {w0 w : World} {r : Int} {c tm : Nat} {L : List Int} {tc : Int} {o : Nat → CSt} {own : Nat → Nat} {act : Nat → Bool} {bo : Nat → Nat} {ph : Nat → Nat} {lf : Nat → Int} {nx : Nat} {fv pv : Value} {fd ps : List Int} {T H : Nat} {S : Nat → List Int} {M : Nat → Int} (h : GS X w0 w r c tm L tc o own act bo ph lf nx fv pv fd ps T H S M) : GS X w0 w.drew r c tm L tc o own act bo ph lf nx fv pv fd ps T H S M :=
  ⟨h.gm.only0 (Only.refl S0 w).drew, h.bi, h.ac, h.idl, h.tcb, h.npl, h.pl, h.fl⟩
/-- The gang, whatever it is at. -/
def Run (X : GX) (w0 w : World) (r : Int) (c tm : Nat) : Prop := ∃ L tc o own act bo ph lf nx fv pv fd ps T H S M, GS X w0 w r c tm L tc o own act bo ph lf nx fv pv fd ps T H S M
theorem sl_shape {w : World} {B : Nat} {e : TypeId} {v : Value} {xs : List Value} (h : Sl w B e v xs) : ∃ a cap, v = .slice a xs.length cap := by
  rcases h.form with ⟨e1, e2⟩ | ⟨g, cap, cur, e1, -⟩
  · subst e2; exact ⟨none, 0, e1⟩
  · exact ⟨_, cap, e1⟩
def Ran (w : World) (n : Nat) (e : Ending) (w' : World) : Prop := ∃ B gb fv pv fd ps, e = .returned (.pointer (some ⟨gb, 0, none⟩)) ∧ gb < w'.heap.size ∧ w'.cell? ⟨gb, 6, none⟩ = some fv ∧ w'.cell? ⟨gb, 7, none⟩ = some pv ∧ Sl w' B 31 fv (ou64s fd) ∧ Sl w' B 31 pv (ou64s ps) ∧ (∀ u, wl u ps = wl u fd) ∧ ps.length ≤ 2000000 ∧ fd.length ≤ 2000000 ∧ Only S0 w w'
/-- All of the first k sleep. -/
def awk (M : Nat → Int) : Nat → Bool
  | 0 => true
  | k + 1 => awk M k && (M k == 1)
theorem awk_all {M : Nat → Int} {k : Nat} : awk M k = true ↔ ∀ t, t < k → M t = 1 := by
  induction k with
  | zero => exact ⟨fun _ t ht => by omega, fun _ => rfl⟩
  | succ k ih =>
    simp only [awk, Bool.and_eq_true, ih, beq_iff_eq]
    constructor
    · intro ⟨h1, h2⟩ t ht
      by_cases e : t = k
      · subst e; exact h2
      · exact h1 t (by omega)
    · intro h
      exact ⟨fun t ht => h t (by omega), h k (by omega)⟩
set_option maxRecDepth 100000 in
set_option maxHeartbeats 4000000 in
theorem run_any (n s : Nat) (n1 : 1 ≤ n) (n4 : n ≤ 4) (s1 : 1 ≤ s) (s4 : s ≤ 4) (a2 : Option Addr) (len2 cap2 : Nat) (f : Nat → Int) (hf : ∀ i, i < len2 → 0 ≤ f i ∧ f i ≤ 255) (a3 : Option Addr) (len3 cap3 : Nat) (g : Nat → Int) (hg : ∀ i, i < len3 → U64 (g i)) (hl2 : len2 ≤ 9223372036854775807) (hl3 : len3 ≤ 9223372036854775807) (w : World) (w2 : RdT w .u8 a2 len2 f) (w3 : RdT w .u64 a3 len3 g) :
    Calls Try.prog 6 #[.int .i64 (n : Int), .int .i64 (s : Int), .slice a2 len2 cap2, .slice a3 len3 cap3] w fun e w' => Ran w n e w' := by
  have HI2 := hide w2
  have HI3 := hide w3
  have HF2 := hide hf
  have HF3 := hide hg
  clear w2 w3 hf hg
  go_enter Try.func6, Try.ntmps6
  go_wp2_with fail
  refine (New_any 1000).mono ?_
  rintro e w4 ⟨bm, bc, rfl, h3, p3, b1, b2⟩
  rw [show countOf 1000 = 1000 from by decide] at h3
  go_wp2_with fail
  have hF := crewF_ok n s n1 n4 s1 s4
  refine (CMake_good (crewF n s) hF h3 (few_of _ (by decide)) (allU_zero _) (by rw [List.length_replicate]; have := hF.size_le; show 0 + _ ≤ _; omega)).mono ?_
  rintro e w5 ⟨cb, bb, bg, dv, bd, rfl, he, p4, -, -, -, -⟩
  have HE := hide he
  have P3 := hide p3
  have P4 := hide p4
  clear he p3 p4 h3
  go_upto_region 5 with fail
  have hm1 := fun wx : World => make_flat (P := Try.prog) 28 30 (.pointer none) 8 Try.underlying28 (by kernel_rfl) rfl n (by omega) (by omega) wx
  have hm2 := fun wx : World => make_flat (P := Try.prog) 29 3 (.int .i64 0) 8 Try.underlying29 (by kernel_rfl) rfl n (by omega) (by omega) wx
  have hm3 := fun wx : World => make_flat (P := Try.prog) 23 31 (.int .u64 0) 8 Try.underlying23 (by kernel_rfl) rfl n (by omega) (by omega) wx
  go_cut [12] (fun x wx => ∃ ob pb lb gb, x = .pointer (some ⟨gb, 0, none⟩) ∧ Blk wx ob 30 (zeros (.pointer none) n) ∧ Blk wx pb 3 (zeros (.int .i64 0) n) ∧ Blk wx lb 31 (zeros (.int .u64 0) n) ∧
    Blk wx gb 33 #[.pointer (some ⟨cb, 0, none⟩), .slice (some ⟨ob, 0, none⟩) n n, .slice (some ⟨pb, 0, none⟩) n n, .slice (some ⟨lb, 0, none⟩) n n, .pointer none, .int .u64 0, .slice none 0 0, .slice none 0 0] ∧ Only S0 w5 wx ∧ w5.heap.size ≤ ob ∧ w5.heap.size ≤ pb ∧ w5.heap.size ≤ lb ∧ w5.heap.size ≤ gb)
  case first =>
    go_region
    all_goals (go_wp2_with fail; go_meet; first | exact ⟨_, _, _, _, rfl, blk4_1.drew, blk4_2.drew, blk4_3.drew, blk4_4.drew, only4.drew, by omega, by omega, by omega, by omega⟩ | exact ⟨_, _, _, _, rfl, blk4_1.drew, blk4_3.drew, blk4_2.drew, blk4_4.drew, only4.drew, by omega, by omega, by omega, by omega⟩ | exact ⟨_, _, _, _, rfl, blk4_2.drew, blk4_1.drew, blk4_3.drew, blk4_4.drew, only4.drew, by omega, by omega, by omega, by omega⟩ | exact ⟨_, _, _, _, rfl, blk4_2.drew, blk4_3.drew, blk4_1.drew, blk4_4.drew, only4.drew, by omega, by omega, by omega, by omega⟩ | exact ⟨_, _, _, _, rfl, blk4_3.drew, blk4_1.drew, blk4_2.drew, blk4_4.drew, only4.drew, by omega, by omega, by omega, by omega⟩ | exact ⟨_, _, _, _, rfl, blk4_3.drew, blk4_2.drew, blk4_1.drew, blk4_4.drew, only4.drew, by omega, by omega, by omega, by omega⟩)
  case rest =>
  obtain ⟨ob, pb, lb, gb, rfl, q1, q2, q3, q4, q5, d1, d2, d3, d4⟩ := hcut
  obtain ⟨r, hr⟩ : ∃ r : Int, (r = 1 ∧ n = 1) ∨ (r = 2 ∧ 2 ≤ n) := by
    by_cases e : n = 1
    · exact ⟨1, .inl ⟨rfl, e⟩⟩
    · exact ⟨2, .inr ⟨rfl, by omega⟩⟩
  obtain ⟨hX, hgs⟩ := GS.start n1 n4 s1 s4 hr HE.out (by have := hF.size_le; omega) (S0.then2 P3.out P4.out b1 b2) b1 b2 q1 q2 q3 q4 q5 d1 d2 d3 d4
  obtain ⟨X, rfl, rfl, rfl, rfl, hX', hgs'⟩ : ∃ X : GX, X.n = n ∧ X.s = s ∧ X.gb = gb ∧ X.cb = cb ∧ X.Ok w.heap.size ∧ GS X w wc r 0 1000 (layC (List.replicate 1000 0) (crewF n s)) (0 + ((crewF n s).size : Nat)) (fun _ => idleC) (fun _ => 0) (fun _ => false) (fun _ => 0) (fun _ => 0) (fun _ => 0) 0 (.slice none 0 0) (.slice none 0 0) [] [] 0 0 (fun _ => []) (fun _ => 0) := ⟨_, rfl, rfl, rfl, rfl, hX, hgs⟩
  have HR := hide (show Run X w wc r 0 1000 from ⟨_, _, _, _, _, _, _, _, _, _, _, _, _, _, _, _, _, hgs'⟩)
  clear hgs hX hgs' q1 q2 q3 q4 q5 d1 d2 d3 d4 HE P3 P4 hm1 hm2 hm3 b1 b2
  generalize wc = w6 at HR ⊢
  have HX := hide hX'
  clear hX'
  obtain ⟨m, hm⟩ : ∃ m, min len2 800 = m := ⟨_, rfl⟩
  go_wp2_with fail
  go_loopg [13] m (fun q iv wr => ∃ k c, q = m - k ∧ k ≤ m ∧ iv = .int .i64 k ∧ c ≤ k ∧ Run X w wr r c 1000)
  case atStart => exact ⟨0, 0, by omega, by omega, rfl, by omega, HR.out⟩
  case round =>
  clear HR
  obtain ⟨k, c, rfl, hk, rfl, hck, hrun⟩ := hrel
  have HRUN := hide hrun
  clear hrun
  go_upto_region 7 with fail
  go_cut [53] from 46 to 96 (fun x wx => wx = wr ∧ x = .bool (decide (k < m)))
  case first =>
    by_cases hk2 : (k : Int) < len2
    · by_cases hk8 : (k : Int) < 800
      · go_wp2_with fail
        go_meet
        exact ⟨rfl, congrArg Value.bool (by symm; simpa using (show k < m by omega))⟩
      · go_wp2_with fail
        go_meet
        exact ⟨rfl, congrArg Value.bool (by symm; simpa using (show ¬ k < m by omega))⟩
    · go_wp2_with fail
      go_meet
      exact ⟨rfl, congrArg Value.bool (by symm; simpa using (show ¬ k < m by omega))⟩
  case rest =>
  obtain ⟨rfl, rfl⟩ := hcut
  by_cases hlt : k < m
  · rw [decide_eq_true hlt]
    have hk2 : (k : Int) < len2 := by omega
    have hk8 : (k : Int) < 800 := by omega
    have hk0 : (0 : Int) ≤ k := by omega
    obtain ⟨g2, off2, rfl, hg2, hc2⟩ := HI2.out (by omega)
    obtain ⟨L, tc, o, own, act, bo, ph, lf, nx, fv, pv, fd, ps, T, H, S, M, hgs⟩ := HRUN.out
    have z0 := (hgs.gm.only.cell (p := ⟨g2, off2 + k, none⟩) hg2 (fun h => h)).trans (hc2 k (by omega))
    have HG := hide hgs
    have hf1 := HF2.out k (by omega)
    obtain ⟨hf1, hf2⟩ := hf1
    generalize hfk : f k = fk at z0 hf1 hf2
    clear hfk hgs hc2
    have hm0 := Int.emod_nonneg fk (b := (X.n : Int) + 1) (by omega)
    have hm1 := Int.emod_lt_of_pos fk (b := (X.n : Int) + 1) (by omega)
    obtain ⟨q, hq⟩ : ∃ q : Nat, fk % ((X.n : Int) + 1) = q := ⟨(fk % ((X.n : Int) + 1)).toNat, by omega⟩
    have hqn : q ≤ X.n := by omega
    clear hm0 hm1
    go_upto_region 10 with fail
    rw [hq]
    have hpl := HG.out.pl
    have hfl := HG.out.fl
    by_cases hqe : q = X.n
    · subst hqe
      obtain ⟨a6, cap6, rfl⟩ := sl_shape HG.out.gm.fsl.sl
      obtain ⟨a7, cap7, rfl⟩ := sl_shape HG.out.gm.psl.sl
      simp only [ou64s_len] at HG
      have c6 := HG.out.gm.c6
      have c7 := HG.out.gm.c7
      have hmo : IntKind.i64.wrap ((ps.length : Int) - fd.length) = (ps.length : Int) - fd.length := by rw [IntKind.wrap_i64]; omega
      have hbr := bring_any HG.out.drew HX.out (decide (IntKind.i64.wrap ((ps.length : Int) - fd.length) < 50)) (fun h => ⟨by have := of_decide_eq_true h; rw [hmo] at this; exact this, by omega⟩) (by omega) (by omega)
      have HBR := hide hbr
      clear hbr hmo
      go_upto_region 11 with fail
      go_region_with (go_at_call 14; refine HBR.out.mono ?_; rintro e wb ⟨rfl, hb⟩; have HB := hide hb; clear hb)
      all_goals (
        go_wp2_with fail
        go_roundg (m - (k + 1))
        case rel =>
          obtain ⟨c', L', tc', o', own', act', bo', nx', pv', ps', T', M', hgs', h1, h2, -⟩ := HB.out
          exact ⟨k + 1, c', rfl, by omega, by go_num, by omega, _, _, _, _, _, _, _, _, _, _, _, _, _, _, _, _, _, hgs'⟩
        case measure => omega)
    · have hq1 : (q : Int) ≠ X.n := by omega
      have hqx : q < X.n := by omega
      by_cases h3 : len3 = 0
      · have h3i : ¬ ((0 : Int) < len3) := by omega
        clear h3
        have hw := work_any HG.out HX.out hqx (k : Int) (by unfold U64; omega) (by omega) (by omega)
        have HW := hide hw
        clear hw
        go_wp2_with fail
        refine HW.out.mono ?_
        rintro e wb ⟨rfl, hb⟩
        have HB := hide hb
        clear hb
        go_wp2_with fail
        go_roundg (m - (k + 1))
        case rel =>
          obtain ⟨L', tc', o', own', act', bo', ph', lf', fv', pv', fd', ps', H', S', M', hgs', -⟩ := HB.out
          exact ⟨k + 1, c + 1, rfl, by omega, by go_num, by omega, _, _, _, _, _, _, _, _, _, _, _, _, _, _, _, _, _, hgs'⟩
        case measure => omega
      · have h3i : (0 : Int) < len3 := by omega
        obtain ⟨g3, off3, rfl, hg3, hc3⟩ := HI3.out h3
        have hm0 := Int.emod_nonneg (k : Int) (b := (len3 : Int)) (by omega)
        have hm1 := Int.emod_lt_of_pos (k : Int) (b := (len3 : Int)) h3i
        obtain ⟨j, hj⟩ : ∃ j : Nat, (k : Int) % (len3 : Int) = j := ⟨((k : Int) % (len3 : Int)).toNat, by omega⟩
        have hjl : (j : Int) < len3 := by omega
        have hj0 : (0 : Int) ≤ j := by omega
        have hg3' := HF3.out j (by omega)
        have z1 := (HG.out.gm.only.cell (p := ⟨g3, off3 + j, none⟩) hg3 (fun h => h)).trans (hc3 j (by omega))
        generalize hgj : g j = gj at z1 hg3'
        have hw := work_any HG.out HX.out hqx gj hg3' (by omega) (by omega)
        have HW := hide hw
        clear hc3 hm0 hm1 hw
        go_wp2_with fail
        refine HW.out.mono ?_
        rintro e wb ⟨rfl, hb⟩
        have HB := hide hb
        clear hb
        go_wp2_with fail
        go_roundg (m - (k + 1))
        case rel =>
          obtain ⟨L', tc', o', own', act', bo', ph', lf', fv', pv', fd', ps', H', S', M', hgs', -⟩ := HB.out
          exact ⟨k + 1, c + 1, rfl, by omega, by go_num, by omega, _, _, _, _, _, _, _, _, _, _, _, _, _, _, _, _, _, hgs'⟩
        case measure => omega
  · rw [decide_eq_false hlt]
    have hc8 : c ≤ 800 := by omega
    obtain ⟨L, tc, o, own, act, bo, ph, lf, nx, fv, pv, fd, ps, T, H, S, M, hgs⟩ := HRUN.out
    have HR := hide (Fade.start hgs hc8)
    clear hgs HRUN HI2 HI3 HF2 HF3 hlt
    clear L tc o own act bo ph lf nx fv pv fd ps T H S M
    go_wp2_with fail
    go_loopg [16] 60 (fun q iv wr => ∃ k, q = 60 - k ∧ k ≤ 60 ∧ iv = .int .i64 k ∧ Fade X w wr r k)
    case atStart => exact ⟨0, by omega, by omega, rfl, HR.out⟩
    case round =>
    clear HR
    obtain ⟨k, rfl, hk, rfl, hf⟩ := hrel
    by_cases hlt : k < 60
    · have hki : (k : Int) < 60 := by omega
      obtain ⟨c, L, tc, o, own, act, bo, ph, lf, nx, fv, pv, fd, ps, T, H, S, M, hgs, hc, hr⟩ := hf
      have hbr := bring_any hgs HX.out false (fun h => by cases h) (by omega) (by omega)
      have HBR := hide hbr
      have HG := hide hgs
      have HRR := hide hr
      clear hbr hgs hr
      go_wp2_with fail
      refine HBR.out.mono ?_
      rintro e wb ⟨rfl, hb⟩
      have HB := hide hb
      clear hb
      go_wp2_with fail
      go_roundg (60 - (k + 1))
      case rel => exact ⟨k + 1, rfl, by omega, by go_num, Fade.next HG.out (by omega) HRR.out HB.out⟩
      case measure => omega
    · have hki : ¬ (k : Int) < 60 := by omega
      obtain rfl : k = 60 := by omega
      obtain ⟨c, L, tc, o, own, act, bo, ph, lf, nx, fv, pv, fd, ps, T, H, S, M, hgs, hc, hr⟩ := hf
      have HR := hide (Still.start hgs (by omega) hr)
      clear hgs hr hc hki hlt hk
      clear c L tc o own act bo ph lf nx fv pv fd ps T H S M
      go_wp2_with fail
      go_loopg [17] 400000 (fun q iv wr => ∃ k, q = 400000 - k ∧ k ≤ 400000 ∧ iv = .int .i64 k ∧ Still X w wr r k)
      case atStart => exact ⟨0, by omega, by omega, rfl, HR.out⟩
      case round =>
      clear HR
      obtain ⟨k, rfl, hk, rfl, hf⟩ := hrel
      by_cases hlt : k < 400000
      · have hki : (k : Int) < 400000 := by omega
        obtain ⟨q, j, c, tm, L, tc, o, own, act, bo, ph, lf, nx, fv, pv, fd, ps, T, H, S, M, hkq, hgs, ho, hc, htm, hcalm⟩ := hf
        have HG := hide hgs
        have HO := hide ho
        have HC := hide hcalm
        have hjn := hcalm.jn
        have hmod : (k : Int) % (X.n : Int) = j := by
          rw [hkq]
          push_cast
          rw [Int.add_comm, Int.add_mul_emod_self_left]
          exact Int.emod_eq_of_lt (by omega) (by omega)
        have HKQ := hide hkq
        clear hgs ho hcalm hkq
        have hk0 : (0 : Int) ≤ k := by omega
        have hn0 : (0 : Int) < X.n := by omega
        by_cases hj : j = 0
        · subst hj
          have hm0 : (k : Int) % (X.n : Int) = 0 := hmod
          clear hmod
          have HS := hide (asleep_any HG.out.gm)
          go_wp2_with fail
          refine HS.out.mono ?_
          rintro e wx ⟨rfl, b, rfl, hb⟩
          have HB := hide hb
          clear hb HS
          cases b with
          | false =>
            have HNE := hide (show ¬ ∀ t, t < X.n → ph t = 2 ∧ M t = 1 from fun hall => by
              have := HB.out.2 ⟨fun t ht => ⟨(hall t ht).1, HG.out.act_idle (by omega) (HG.out.idle2 ht (hall t ht).1)⟩, HG.out.act_idle (Nat.le_refl _) HO.out⟩
              cases this)
            have hw := work_any HG.out HX.out hjn (k : Int) (by unfold U64; omega) (by omega) (by omega)
            rw [show ((0 : Nat) : Int) = 0 from rfl] at hw
            have HW := hide hw
            clear hw
            go_wp2_with fail
            refine HW.out.mono ?_
            rintro e wb ⟨rfl, hb⟩
            have HB2 := hide hb
            clear hb
            go_wp2_with fail
            go_roundg (400000 - (k + 1))
            case rel =>
              have hkq := HKQ.out
              exact ⟨k + 1, rfl, by omega, by go_num, by rw [hkq]; exact Still.next HG.out HO.out (by omega) (by omega) HC.out (fun _ => HNE.out) HB2.out⟩
            case measure => omega
          | true =>
            have hsl := HB.out.1 rfl
            have HSL := hide hsl
            clear hsl HB
            go_wp2_with fail
            go_loopg [18, 19] X.n (fun q a iv wx => ∃ i tcx, q = X.n - i ∧ i ≤ X.n ∧ iv = .int .i64 (i : Int) ∧ a = .bool (awk M i) ∧ tcx ≤ tc + (i : Nat) ∧ GM X w wx L tcx o own act bo ph lf nx fv pv fd ps)
            case atStart => exact ⟨0, tc, by omega, by omega, rfl, rfl, by omega, HG.out.gm⟩
            case round =>
            obtain ⟨i, tcx, rfl, hi, rfl, rfl, htcx, hgm⟩ := hrel
            have HGM := hide hgm
            have HT := hide htcx
            clear hgm htcx
            by_cases hlti : i < X.n
            · have hii : (i : Int) < X.n := by omega
              have hfew : Few (tcx + 200) := few_of _ (by have := HG.out.tcb; have := HT.out; omega)
              have HF := hide hfew
              clear hfew
              have hpo := Poll_all (i : Int) HGM.out.env
              have HPO := hide hpo
              clear hpo
              go_wp2_with fail
              refine HPO.out.mono ?_
              rintro e wp ⟨co, rfl, h1, h2, h3, h4, h5⟩
              have H1 := hide h1
              have H2 := hide h2
              have H3 := hide h3
              have H5 := hide h5
              clear h1 h2 h3 h4 h5 HPO
              go_wp2_with fail
              refine (cdone_any H2.out H5.out H1.out H3.out.size HF.out).mono ?_
              rintro e w6 ⟨rfl, he6, o6, -⟩
              rw [poll_cdone HG.out.bi.ci hlti] at he6 ⊢
              have HE6 := hide he6
              have HO6 := hide o6
              clear he6 o6
              have hmm := (HG.out.bi.ci.mks i hlti).2
              have HGM2 := hide (HGM.out.polled HX.out ((H3.out.weaken fun k _ hs => hs.elim).trans HO6.out) (Nat.le_refl _) HE6.out)
              cases haw : awk M i <;> rcases hmm with hm | hm
              all_goals (
                have HAW := hide haw
                have HM := hide hm
                clear haw hm
                simp only [cdoneV, CSt.out, CSt.value, HM.out]
                go_wp2_with fail
                go_roundg (X.n - (i + 1))
                case rel => exact ⟨i + 1, _, rfl, by omega, by go_num, by simp [awk, HAW.out, HM.out], by have := HT.out; omega, HGM2.out⟩
                case measure => omega)
            · obtain rfl : i = X.n := by omega
              have hii : ¬ (X.n : Int) < X.n := by omega
              have HG2 := hide (HG.out.polled HGM.out (by have := HT.out; omega))
              have HI2 : ∀ t, t < X.n → ph t = 2 ∧ o t = idleC := fun t ht => ⟨(HSL.out.1 t ht).1, HG.out.idle2 ht (HSL.out.1 t ht).1⟩
              have HI := hide HI2
              clear HI2
              cases haw : awk M X.n with
              | true =>
                have HA := hide (awk_all.1 haw)
                clear haw
                go_wp2_with fail
                go_ret
                exact ⟨X.B0, X.gb, fv, pv, fd, ps, rfl, HG2.out.gm.g.lt, HG2.out.gm.c6, HG2.out.gm.c7, HG2.out.gm.fsl.sl, HG2.out.gm.psl.sl, fun u => HG2.out.bi.final (fun p hp => ⟨(HI.out p hp).1, (HI.out p hp).2, HA.out p hp⟩) HO.out u, by have := HG2.out.pl; omega, by have := HG2.out.fl; omega, HG2.out.gm.only⟩
              | false =>
                have HNE := hide (show ¬ ∀ t, t < X.n → ph t = 2 ∧ M t = 1 from fun hall => by
                  have := awk_all.2 (fun t ht => (hall t ht).2)
                  rw [haw] at this
                  cases this)
                clear haw
                have hw := work_any HG2.out HX.out hjn (k : Int) (by unfold U64; omega) (by omega) (by omega)
                rw [show ((0 : Nat) : Int) = 0 from rfl] at hw
                have HW := hide hw
                clear hw
                go_wp2_with fail
                refine HW.out.mono ?_
                rintro e wb ⟨rfl, hb⟩
                have HB2 := hide hb
                clear hb
                go_wp2_with fail
                go_roundg (400000 - (k + 1))
                case rel =>
                  have hkq := HKQ.out
                  exact ⟨k + 1, rfl, by omega, by go_num, by rw [hkq]; exact Still.next HG2.out HO.out (by omega) (by omega) HC.out (fun _ => HNE.out) HB2.out⟩
                case measure => omega
        · have hjz : ¬ (j : Int) = 0 := by omega
          have HNE := hide (show j = 0 → ¬ ∀ t, t < X.n → ph t = 2 ∧ M t = 1 from fun h => absurd h hj)
          have hw := work_any HG.out HX.out hjn (k : Int) (by unfold U64; omega) (by omega) (by omega)
          have HW := hide hw
          clear hw
          go_wp2_with fail
          refine HW.out.mono ?_
          rintro e wb ⟨rfl, hb⟩
          have HB2 := hide hb
          clear hb
          go_wp2_with fail
          go_roundg (400000 - (k + 1))
          case rel =>
            have hkq := HKQ.out
            exact ⟨k + 1, rfl, by omega, by go_num, by rw [hkq]; exact Still.next HG.out HO.out (by omega) (by omega) HC.out HNE.out HB2.out⟩
          case measure => omega
      · exfalso
        obtain rfl : k = 400000 := by omega
        exact hf.notEnd
end Go.Proofs.Ytdoaipjdldknaaa
/-
  CrewOnce: what was found is what was offered, taken away one by one (plain lists; no program).
-/
namespace Go.Proofs.Ytdoaipjdldknaaa
open Go.RowKit
set_option linter.unusedVariables false
/-- The sum over those not yet used. -/
def lo : (Nat → Bool) → (Int → Int) → List Int → Int
  | _, _, [] => 0
  | us, u, x :: l => (if us 0 then 0 else u x) + lo (fun k => us (k + 1)) u l
theorem lo_fresh (u : Int → Int) (l : List Int) : lo (fun _ => false) u l = wl u l := by
  induction l with
  | nil => rfl
  | cons x l ih => simp only [lo, wl, ih]; simp
theorem lo_set {l : List Int} : ∀ {us : Nat → Bool} {k : Nat} {x : Int}, l[k]? = some x → us k = false → ∀ u, lo (upd us k true) u l = lo us u l - u x := by
  induction l with
  | nil => intro us k x h; simp at h
  | cons y l ih =>
    intro us k x h hu u
    cases k with
    | zero =>
      have e : y = x := by simpa using h
      subst e
      have e2 : (fun k => upd us 0 true (k + 1)) = fun k => us (k + 1) := by funext j; rw [upd_ne _ _ (by omega)]
      simp only [lo, e2, upd_same, hu]
      simp
      omega
    | succ k =>
      have e2 : (fun j => upd us (k + 1) true (j + 1)) = upd (fun j => us (j + 1)) k true := by
        funext j
        by_cases e : j = k
        · subst e; rw [upd_same, upd_same]
        · rw [upd_ne _ _ (by omega), upd_ne _ _ e]
      have := ih (us := fun j => us (j + 1)) (k := k) (x := x) (by simpa using h) hu u
      simp only [lo, e2, this, upd_ne us true (show (0 : Nat) ≠ k + 1 by omega)]
      omega
theorem lo_none {y : Int} {l : List Int} : ∀ {us : Nat → Bool}, (∀ k x, l[k]? = some x → us k = false → x ≠ y) → lo us (fun z => if z = y then 1 else 0) l = 0 := by
  induction l with
  | nil => intros; rfl
  | cons x l ih =>
    intro us h
    have h0 := h 0 x (by simp)
    have h1 := ih (us := fun k => us (k + 1)) (fun k x hx hu => h (k + 1) x (by simpa using hx) hu)
    simp only [lo, h1]
    cases hu : us 0 with
    | true => simp
    | false => simp [h0 hu]
theorem wl_length (l : List Int) : wl (fun _ => 1) l = (l.length : Int) := by
  induction l with
  | nil => rfl
  | cons x l ih => simp only [wl, ih, List.length_cons]; omega
theorem wl_drop {l : List Int} {i : Nat} {x : Int} (h : l[i]? = some x) (u : Int → Int) : wl u (l.drop i) = u x + wl u (l.drop (i + 1)) := by
  have hi : i < l.length := by
    rcases Nat.lt_or_ge i l.length with h1 | h1
    · exact h1
    · rw [List.getElem?_eq_none h1] at h; cases h
  rw [List.drop_eq_getElem_cons hi]
  have e : l[i] = x := by rw [List.getElem?_eq_getElem hi] at h; exact Option.some.inj h
  rw [e]; rfl
/-- Somebody who isn't used yet has what is asked next. -/
theorem lo_some {us : Nat → Bool} {fd ps : List Int} {i : Nat} {y : Int} (h : ∀ u, lo us u fd = wl u (ps.drop i)) (hy : ps[i]? = some y) (hno : ∀ k x, fd[k]? = some x → us k = false → x ≠ y) : False := by
  have h1 := h (fun z => if z = y then 1 else 0)
  rw [lo_none hno, wl_drop hy] at h1
  have h2 := wl_nonneg (w := fun z => if z = y then (1 : Int) else 0) (fun z => by show 0 ≤ if z = y then (1 : Int) else 0; split <;> omega) (ps.drop (i + 1))
  simp at h1
  omega
theorem lo_used {us : Nat → Bool} {fd ps : List Int} {i k : Nat} {y : Int} (h : ∀ u, lo us u fd = wl u (ps.drop i)) (hy : ps[i]? = some y) (hk : fd[k]? = some y) (hu : us k = false) : ∀ u, lo (upd us k true) u fd = wl u (ps.drop (i + 1)) := by
  intro u
  rw [lo_set hk hu u, h u, wl_drop hy]
  omega
end Go.Proofs.Ytdoaipjdldknaaa
