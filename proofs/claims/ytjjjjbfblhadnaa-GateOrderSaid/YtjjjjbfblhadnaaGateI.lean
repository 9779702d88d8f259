/-
  Two who put into a gate and two who take out of it: what went in, what each has taken; the steps; the end (plain lists; no program).
-/
import Derived.Test.YtjjjjbfblhadnaaGateH
namespace Go.Proofs.Ytjjjjbfblhadnaa
open Go.RowKit
set_option linter.unusedVariables false

structure Crowd (n : Nat) (L : List Int) (o : Nat → Gop) (nx : Nat → Nat) (IN : List Int) (TK : Nat → List Int) (T H : Nat) : Prop where
  ex : ∃ who num inT tk, Hist n T H L o nx who num inT tk ∧ IN = inT.map (fun t => v64 (who t) (num t)) ∧ ∀ i, i < 2 → TK i = (tk i).map fun t => v64 (who t) (num t)
def begunOp (nx : Nat → Nat) (p : Nat) : Gop := if p < 2 then putOp 0 (v64 p (nx p + 1)) else takeOp 0
def nxOf (nx : Nat → Nat) (p : Nat) : Nat → Nat := if p < 2 then upd nx p (nx p + 1) else nx
def inN (x : Gop) (p : Nat) (nx : Nat → Nat) (IN : List Int) : List Int := if x.out = 1 ∧ p < 2 then IN ++ [v64 p (nx p)] else IN
def tkN (x : Gop) (p : Nat) (TK : Nat → List Int) : Nat → List Int := if x.out = 1 ∧ 2 ≤ p then upd TK (p - 2) (TK (p - 2) ++ [x.v]) else TK
section
variable {n T H p : Nat} {L : List Int} {o : Nat → Gop} {nx : Nat → Nat} {IN : List Int} {TK : Nat → List Int}
theorem inN_no {x : Gop} (h : x.out ≠ 1) : inN x p nx IN = IN := if_neg fun e => h e.1
theorem tkN_no {x : Gop} (h : x.out ≠ 1) : tkN x p TK = TK := if_neg fun e => h e.1
theorem begun_fresh (hn : nx p ≤ 1000000) : freshOp (begunOp nx p) := by
  unfold begunOp
  split
  · refine .inl ⟨_, ?_, rfl⟩
    unfold v64 U64
    rename_i h
    have : p = 0 ∨ p = 1 := by omega
    rcases this with rfl | rfl <;> omega
  · exact .inr rfl
theorem begun_flat (nx : Nat → Nat) (p : Nat) : (begunOp nx p).ph = 0 ∧ (begunOp nx p).out = 0 ∧ (begunOp nx p).ahead = aheadOf p := by
  unfold begunOp aheadOf
  split <;> exact ⟨rfl, rfl, rfl⟩
theorem Crowd.gi (h : Crowd n L o nx IN TK T H) : GI n T H L 4 o := by
  obtain ⟨_, _, _, _, h, _⟩ := h.ex
  exact h.gi
theorem GO.begun {T H : Nat} {x : Gop} (h : freshOp x) : GO n T H L x := by
  rcases h with ⟨v, hv, e⟩ | e <;> rw [e]
  · exact ⟨.inl ⟨rfl, rfl⟩, .inl rfl, hv, 0, rfl, Nat.zero_le _, fun _ => Nat.zero_le _, fun _ h => by simp [putOp] at h, fun _ h => by simp [putOp] at h⟩
  · exact ⟨.inr ⟨rfl, rfl⟩, .inl rfl, ⟨by show (0:Int) ≤ 0; omega, by show (0:Int) < _; omega⟩, 0, rfl, Nat.zero_le _, fun _ => Nat.zero_le _, fun _ h => by simp [takeOp] at h, fun _ h => by simp [takeOp] at h⟩
theorem Crowd.begin_ (h : Crowd n L o nx IN TK T H) (hp : p < 4) (h0 : (o p).out ≠ 0) (hn : nx p ≤ 1000000) : Crowd n L (upd o p (begunOp nx p)) (nxOf nx p) IN TK T H := by
  obtain ⟨who, num, inT, tk, hh, e1, e2⟩ := h.ex
  obtain ⟨f1, f2, f3⟩ := begun_flat nx p
  refine ⟨who, num, inT, tk, hh.begin_ hp (hh.gi.keep hp (GO.begun (begun_fresh hn)) fun e => by rcases e.2 with e | e <;> omega) f3 h0 f1 rfl fun hp2 => ?_, e1, e2⟩
  unfold begunOp
  rw [if_pos hp2]
  rfl
theorem map_val_upd (who num : Nat → Nat) (l : List Nat) (T a b : Nat) (h : ∀ t ∈ l, t < T) : l.map (fun t => v64 (upd who T a t) (upd num T b t)) = l.map fun t => v64 (who t) (num t) :=
  List.map_congr_left fun t ht => by
    have := h t ht
    rw [upd_ne _ _ (by omega), upd_ne _ _ (by omega)]
theorem Crowd.step (h : Crowd n L o nx IN TK T H) (hu : AllU L) (hp : p < 4) (hs : T ≤ 1000000) (h0 : (o p).out = 0) :
    ∃ T' H', Crowd n (gstep 0 n L (o p)).1 (upd o p (gstep 0 n L (o p)).2) nx (inN (gstep 0 n L (o p)).2 p nx IN) (tkN (gstep 0 n L (o p)).2 p TK) T' H' ∧ T' ≤ T + 1 := by
  obtain ⟨who, num, inT, tk, hh, e1, e2⟩ := h.ex
  have hgi := hh.gi
  have hx := hgi.ok p hp
  have hl := hgi.c.len
  have hn := hgi.c.n1
  rcases hx.ph with hq | hq | hq | hq | hq
  · have hno : ¬ own (o p) := fun e => by rcases e.2 with e | e <;> omega
    obtain ⟨E, -, g2, g3⟩ := hgi.s0 hp h0 hq
    rw [g2]
    refine ⟨T, H, ?_, by omega⟩
    rw [inN_no (by show (o p).out ≠ 1; omega), tkN_no (by show (o p).out ≠ 1; omega)]
    exact ⟨who, num, inT, tk, hh.quiet hp g3 rfl hno (fun e => by have : (1 : Int) = 3 ∨ (1 : Int) = 4 := e.2; omega) (fun _ => ⟨h0, rfl⟩), e1, e2⟩
  · have hno : ¬ own (o p) := fun e => by rcases e.2 with e | e <;> omega
    rcases Int.lt_trichotomy (at_ L (slotOf 0 n (o p).t)) (wantOf n (o p).ahead (o p).t) with hw | hw | hw
    · obtain ⟨out, q1, q2, g2, g3⟩ := hgi.s1l hp hs h0 hq hw
      rw [g2]
      refine ⟨T, H, ?_, by omega⟩
      rw [inN_no (by exact q2), tkN_no (by exact q2)]
      exact ⟨who, num, inT, tk, hh.quiet hp g3 rfl hno (fun e => q1 e.1) (fun e => absurd e q1), e1, e2⟩
    · obtain ⟨g2, g3⟩ := hgi.s1e hp hs h0 hq hw
      rw [g2]
      refine ⟨T, H, ?_, by omega⟩
      rw [inN_no (by show (o p).out ≠ 1; omega), tkN_no (by show (o p).out ≠ 1; omega)]
      exact ⟨who, num, inT, tk, hh.quiet hp g3 rfl hno (fun e => by have : (2 : Int) = 3 ∨ (2 : Int) = 4 := e.2; omega) (fun _ => ⟨h0, rfl⟩), e1, e2⟩
    · obtain ⟨g2, g3, -⟩ := hgi.s1g hp hs h0 hq hw
      rw [g2]
      refine ⟨T, H, ?_, by omega⟩
      rw [inN_no (by show (o p).out ≠ 1; omega), tkN_no (by show (o p).out ≠ 1; omega)]
      exact ⟨who, num, inT, tk, hh.quiet hp g3 rfl hno (fun e => by have : (0 : Int) = 3 ∨ (0 : Int) = 4 := e.2; omega) (fun _ => ⟨h0, rfl⟩), e1, e2⟩
  · have hno : ¬ own (o p) := fun e => by rcases e.2 with e | e <;> omega
    by_cases hw : at_ L (o p).cell = (o p).t
    · obtain ⟨t, T', H', q1, g2, g3, q4, q5⟩ := hgi.s2y hp hs h0 hq hw
      rw [g2]
      have hcell : (o p).cell.toNat ≤ 1 := by rcases hx.ah with ⟨_, b⟩ | ⟨_, b⟩ <;> rw [b] <;> decide
      have hL : ∀ k : Nat, 2 ≤ k → at_ (L.set (o p).cell.toNat ((t + 1 : Nat) : Int)) (k : Int) = at_ L (k : Int) := fun k hk => by rw [at_set _ _ _ _ (by omega), if_neg (by omega)]
      rw [inN_no (by show (o p).out ≠ 1; omega), tkN_no (by show (o p).out ≠ 1; omega)]
      by_cases hp2 : p < 2
      · have ha : (o p).ahead = 0 := by rw [hh.ahd p hp, aheadOf, if_pos hp2]
        obtain ⟨rfl, rfl, rfl⟩ := q4 ha
        refine ⟨t + 1, H', ⟨upd who t p, upd num t (nx p), inT, tk, hh.swapPut hp2 g3 rfl h0 hq rfl h0 rfl q1 hL, ?_, fun i hi => ?_⟩, by omega⟩
        · rw [map_val_upd _ _ _ _ _ _ fun s hs => hh.in_lt hs]; exact e1
        · rw [map_val_upd _ _ _ _ _ _ fun s hs => by have := hh.tk_lt hi hs; have := hgi.c.le; omega]; exact e2 i hi
      · have ha : (o p).ahead = 1 := by rw [hh.ahd p hp, aheadOf, if_neg hp2]
        obtain ⟨rfl, rfl, rfl⟩ := q5 ha
        exact ⟨T', t + 1, ⟨who, num, inT, tk, hh.swapTake (by omega) hp g3 rfl h0 hq rfl h0 q1 hL, e1, e2⟩, by omega⟩
    · obtain ⟨g2, g3⟩ := hgi.s2n hp h0 hq hw
      rw [g2]
      refine ⟨T, H, ?_, by omega⟩
      rw [inN_no (by show (o p).out ≠ 1; omega), tkN_no (by show (o p).out ≠ 1; omega)]
      exact ⟨who, num, inT, tk, hh.quiet hp g3 rfl hno (fun e => by have : (0 : Int) = 3 ∨ (0 : Int) = 4 := e.2; omega) (fun _ => ⟨h0, rfl⟩), e1, e2⟩
  · obtain ⟨t, q1, g2, g3⟩ := hgi.s3 hu hp hs h0 hq
    rw [g2]
    refine ⟨T, H, ?_, by omega⟩
    rw [inN_no (by show (o p).out ≠ 1; omega), tkN_no (by show (o p).out ≠ 1; omega)]
    by_cases hp2 : p < 2
    · have ha : (o p).ahead = 0 := by rw [hh.ahd p hp, aheadOf, if_pos hp2]
      rw [if_pos ha, if_pos ha] at g3 ⊢
      exact ⟨who, num, inT, tk, hh.valPut hp2 g3 rfl h0 hq rfl h0 rfl rfl q1, e1, e2⟩
    · have ha : ¬ (o p).ahead = 0 := by rw [hh.ahd p hp, aheadOf, if_neg hp2]; decide
      rw [if_neg ha, if_neg ha] at g3 ⊢
      exact ⟨who, num, inT, tk, hh.valTake (by omega) hp g3 rfl h0 hq rfl h0 rfl rfl q1, e1, e2⟩
  · obtain ⟨t, q1, g2, g3⟩ := hgi.s4 hp hs h0 hq
    rw [g2]
    refine ⟨T, H, ?_, by omega⟩
    by_cases hp2 : p < 2
    · have ha : (o p).ahead = 0 := by rw [hh.ahd p hp, aheadOf, if_pos hp2]
      rw [ha] at g3 ⊢
      obtain ⟨r1, r2⟩ := hh.passPut hp2 g3 rfl h0 hq rfl q1
      refine ⟨who, num, inT ++ [t], tk, r1, ?_, fun i hi => ?_⟩
      · unfold inN
        rw [if_pos ⟨rfl, hp2⟩, List.map_append, e1, List.map_singleton, r2]
      · unfold tkN
        rw [if_neg (fun e => by have := e.2; omega)]
        exact e2 i hi
    · have ha : (o p).ahead = 1 := by rw [hh.ahd p hp, aheadOf, if_neg hp2]
      rw [ha] at g3 ⊢
      obtain ⟨r1, r2⟩ := hh.passTake (by omega) hp g3 rfl h0 hq rfl rfl q1
      refine ⟨who, num, inT, _, r1, ?_, fun i hi => ?_⟩
      · unfold inN
        rw [if_neg (fun e => hp2 e.2)]
        exact e1
      · unfold tkN
        rw [if_pos ⟨rfl, by omega⟩]
        by_cases ei : i = p - 2
        · rw [ei, upd_same, upd_same, List.map_append, e2 _ (by omega), List.map_singleton, ← r2]
        · rw [upd_ne _ _ ei, upd_ne _ _ ei]
          exact e2 i hi
/-- At the end: what went in is what was taken. -/
theorem v64_inj {a b j k : Nat} (hj : j ≤ 1000000) (hk : k ≤ 1000000) (h : v64 a j = v64 b k) : a = b ∧ j = k := by
  unfold v64 at h
  omega
theorem nodup_count {α : Type} [BEq α] [LawfulBEq α] {l : List α} (h : l.Nodup) {a : α} (ha : a ∈ l) : l.count a = 1 := by
  induction l with
  | nil => cases ha
  | cons b l ih =>
    rw [List.nodup_cons] at h
    rw [List.count_cons]
    rcases List.mem_cons.1 ha with e | e
    · subst e
      rw [List.count_eq_zero.2 h.1]
      simp
    · rw [ih h.2 e]
      have : ¬ (b == a) = true := by
        intro e2
        rw [beq_iff_eq] at e2
        subst e2
        exact h.1 e
      rw [if_neg this]
theorem perm_range {l : List Nat} {T : Nat} (h : ∀ t, l.count t = if t < T then 1 else 0) : l.Perm (List.range T) := by
  rw [List.perm_iff_count]
  intro t
  rw [h t]
  split
  · rename_i ht
    exact (nodup_count List.nodup_range (List.mem_range.2 ht)).symm
  · rename_i ht
    exact (List.count_eq_zero.2 (by simpa using ht)).symm
theorem cnt4_zero {f : Nat → Bool} (h : ∀ i, i < 4 → f i = false) : cntTo 4 f = 0 := by
  simp [cntTo, h 0 (by omega), h 1 (by omega), h 2 (by omega), h 3 (by omega)]
theorem Crowd.once (h : Crowd n L o nx IN TK T H) (hTH : H = T) (hno : ∀ i, i < 4 → ¬ own (o i)) (hnx : ∀ q, q < 2 → nx q ≤ 1000000) :
    IN.length = (TK 0).length + (TK 1).length ∧ ∀ v ∈ IN, (TK 0).count v + (TK 1).count v = 1 := by
  obtain ⟨who, num, inT, tk, hh, e1, e2⟩ := h.ex
  have p1 : inT.Perm (List.range T) := perm_range fun t => by
    have := hh.inC t
    rw [cnt4_zero fun i hi => pnd_no (hno i hi)] at this
    exact this
  have p2 : (tk 0 ++ tk 1).Perm (List.range T) := perm_range fun t => by
    have := hh.tkC t
    rw [cnt4_zero fun i hi => pnd_no (hno i hi), hTH] at this
    rw [List.count_append]
    exact this
  have p3 : IN.Perm (TK 0 ++ TK 1) := by
    rw [e1, e2 0 (by omega), e2 1 (by omega), ← List.map_append]
    exact (p1.trans p2.symm).map _
  refine ⟨by have := p3.length_eq; rw [List.length_append] at this; exact this, fun v hv => ?_⟩
  rw [← List.count_append, ← p3.count_eq]
  refine nodup_count ?_ hv
  rw [e1]
  have hnd : inT.Nodup := p1.nodup_iff.2 List.nodup_range
  rw [List.Nodup, List.pairwise_map]
  refine List.Pairwise.imp_of_mem (fun {a b} ha hb hab he => ?_) hnd
  have ha' := hh.in_lt ha
  have hb' := hh.in_lt hb
  have r1 := hh.rng a ha'
  have r2 := hh.rng b hb'
  have := hnx _ r1.1
  have := hnx _ r2.1
  obtain ⟨q1, q2⟩ := v64_inj (by omega) (by omega) he
  rcases Nat.lt_trichotomy a b with h1 | h1 | h1
  · have := hh.inc a b h1 hb' q1; omega
  · exact hab h1
  · have := hh.inc b a h1 ha' q1.symm; omega
/-- The last one of a producer. -/
def lastv (q : Int) (l : List Int) : Int := l.foldl (fun acc v => if v / 4294967296 = q then v else acc) 0
theorem lastv_nil (q : Int) : lastv q [] = 0 := rfl
theorem lastv_snoc (q : Int) (l : List Int) (v : Int) : lastv q (l ++ [v]) = if v / 4294967296 = q then v else lastv q l := by
  unfold lastv
  rw [List.foldl_append]
  rfl
theorem v64_div {p j : Nat} (hj : j ≤ 1000000) : v64 p j / 4294967296 = (p : Int) := by unfold v64; omega
theorem lastv_form' (who num : Nat → Nat) (q : Nat) (l : List Nat) (hl : ∀ t ∈ l, num t ≤ 1000000) : ∀ acc : Int, (l.map fun t => v64 (who t) (num t)).foldl (fun acc v => if v / 4294967296 = (q : Int) then v else acc) acc = acc ∨
    ∃ s ∈ l, who s = q ∧ (l.map fun t => v64 (who t) (num t)).foldl (fun acc v => if v / 4294967296 = (q : Int) then v else acc) acc = v64 (who s) (num s) := by
  induction l with
  | nil => exact fun _ => .inl rfl
  | cons t l ih =>
    intro acc
    rw [List.map_cons, List.foldl_cons]
    have ih' := ih fun s hs => hl s (List.mem_cons_of_mem _ hs)
    by_cases e : v64 (who t) (num t) / 4294967296 = (q : Int)
    · rw [if_pos e]
      rcases ih' (v64 (who t) (num t)) with h | ⟨s, hs, h1, h2⟩
      · refine .inr ⟨t, List.mem_cons_self, ?_, h⟩
        rw [v64_div (hl t List.mem_cons_self)] at e
        omega
      · exact .inr ⟨s, List.mem_cons_of_mem _ hs, h1, h2⟩
    · rw [if_neg e]
      rcases ih' acc with h | ⟨s, hs, h1, h2⟩
      · exact .inl h
      · exact .inr ⟨s, List.mem_cons_of_mem _ hs, h1, h2⟩
theorem lastv_form (who num : Nat → Nat) (q : Nat) (l : List Nat) (hl : ∀ t ∈ l, num t ≤ 1000000) : lastv q (l.map fun t => v64 (who t) (num t)) = 0 ∨ ∃ s ∈ l, who s = q ∧ lastv q (l.map fun t => v64 (who t) (num t)) = v64 (who s) (num s) :=
  lastv_form' who num q l hl 0
theorem Crowd.order (h : Crowd n L o nx IN TK T H) (hnx : ∀ q, q < 2 → nx q ≤ 1000000) {i j : Nat} (hi : i < 2) (hj : j < (TK i).length) :
    ∃ q : Nat, q < 2 ∧ ((TK i).getD j 0) / 4294967296 = (q : Int) ∧ lastv q ((TK i).take j) < (TK i).getD j 0 ∧ (TK i).getD j 0 < 18446744073709551616 := by
  obtain ⟨who, num, inT, tk, hh, e1, e2⟩ := h.ex
  rw [e2 i hi] at hj ⊢
  rw [List.length_map] at hj
  obtain ⟨t, ht⟩ : ∃ t, (tk i)[j]? = some t := ⟨(tk i)[j], List.getElem?_eq_getElem hj⟩
  have hmem : t ∈ tk i := List.mem_of_getElem? ht
  have hv : (List.map (fun t => v64 (who t) (num t)) (tk i)).getD j 0 = v64 (who t) (num t) := by
    rw [List.getD, List.getElem?_map, ht]; rfl
  have hlt := hh.tk_lt hi hmem
  have hle := hh.gi.c.le
  have r1 := hh.rng t (by omega)
  have := hnx _ r1.1
  rw [hv]
  refine ⟨who t, r1.1, v64_div (by omega), ?_, by unfold v64; omega⟩
  rw [← List.map_take]
  have hpw : ∀ s ∈ (tk i).take j, s < t := by
    intro s hs
    have h1 := hh.tkO i hi
    obtain ⟨a, ha, hs'⟩ := List.getElem_of_mem hs
    rw [List.length_take] at ha
    rw [List.getElem_take] at hs'
    have h2 := List.pairwise_iff_getElem.1 h1 a j (by omega) hj (by omega)
    rw [List.getElem?_eq_getElem hj] at ht
    injection ht with ht
    rw [hs', ht] at h2
    exact h2
  rcases lastv_form who num (who t) ((tk i).take j) (fun s hs => by
    have h1 := hh.tk_lt hi (List.mem_of_mem_take hs)
    have r2 := hh.rng s (by omega)
    have := hnx _ r2.1
    omega) with h1 | ⟨s, hs, h1, h2⟩
  · rw [h1]
    unfold v64
    omega
  · rw [h2]
    have h3 := hh.inc s t (hpw s hs) (by omega) h1
    unfold v64
    rw [h1]
    omega
/-- The end's phase: one who takes is alone. -/
structure Last (n T H : Nat) (L : List Int) (o : Nat → Gop) : Prop where
  other : ∀ i, i < 4 → i ≠ 2 → (o i).out ≠ 0
  ph : (o 2).out = 0 → ((o 2).ph = 1 ∨ (o 2).ph = 2 ∨ (o 2).ph = 3 ∨ (o 2).ph = 4)
  t : (o 2).out = 0 → ((o 2).ph = 1 ∨ (o 2).ph = 2) → (o 2).t = (H : Int)
  lt : (o 2).out = 0 → (o 2).ph = 2 → H < T
def muL (T H : Nat) (x : Gop) : Nat := if x.out ≠ 0 then 5 * (T - H) else if x.ph = 1 then 5 * (T - H) - 1 else if x.ph = 2 then 5 * (T - H) - 2 else if x.ph = 3 then 5 * (T - H) + 2 else 5 * (T - H) + 1
theorem Last.over (h : Last n T H L o) (hc : H ≤ T) (hm : muL T H (o 2) = 0) : H = T ∧ ∀ i, i < 4 → ¬ own (o i) := by
  have hT : H = T ∧ ¬ own (o 2) := by
    unfold muL at hm
    split at hm
    · exact ⟨by omega, fun e => by have := e.1; contradiction⟩
    · rename_i h0
      have h0' : (o 2).out = 0 := by simpa using h0
      split at hm
      · exact ⟨by omega, fun e => by rcases e.2 with e | e <;> omega⟩
      · split at hm
        · rename_i h2
          have := h.lt h0' h2
          omega
        · split at hm <;> omega
  refine ⟨hT.1, fun i hi e => ?_⟩
  by_cases e2 : i = 2
  · subst e2; exact hT.2 e
  · exact h.other i hi e2 e.1
theorem GC.uniq {T' H' : Nat} (h : GC n T H L) (h' : GC n T' H' L) : T' = T ∧ H' = H := by
  have h1 := h.tail
  have h2 := h.head
  rw [h'.tail] at h1
  rw [h'.head] at h2
  omega
theorem Last.step {T' H' : Nat} {o1 : Nat → Gop} {nx' : Nat → Nat} {IN' : List Int} {TK' : Nat → List Int} {o0 : Nat → Gop} (hL : Last n T H L o0) (h : Crowd n L o nx IN TK T H) (hAU : AllU L) (hs : T ≤ 1000000) (ho : ∀ i, i ≠ 2 → o i = o0 i)
    (h0 : (o 2).out = 0) (hb : o 2 = o0 2 ∨ (o0 2).out ≠ 0 ∧ (o 2).ph = 0) (ho1 : o1 = upd o 2 (gstep 0 n L (o 2)).2) (h' : Crowd n (gstep 0 n L (o 2)).1 o1 nx' IN' TK' T' H') :
    Last n T' H' (gstep 0 n L (o 2)).1 o1 ∧ muL T' H' (o1 2) ≤ muL T H (o0 2) - 1 := by
  obtain ⟨who, num, inT, tk, hh, e1, e2⟩ := h.ex
  have hgi := hh.gi
  have hgc' := h'.gi.c
  have hx := hgi.ok 2 (by omega)
  have hl := hgi.c.len
  have hn := hgi.c.n1
  have hle := hgi.c.le
  have hah : (o 2).ahead = 1 := by rw [hh.ahd 2 (by omega)]; rfl
  have hcell : (o 2).cell = 1 := by rcases hx.ah with ⟨a, _⟩ | ⟨_, b⟩ <;> omega
  have hother : ∀ i, i < 4 → i ≠ 2 → (o1 i).out ≠ 0 := fun i hi hne => by rw [ho1, upd_ne _ _ hne, ho i hne]; exact hL.other i hi hne
  have ho12 : o1 2 = (gstep 0 n L (o 2)).2 := by rw [ho1, upd_same]
  have hturn : H < T → tn n L H = qn n H + 1 := by
    intro hlt
    have a1 := hh.don H hlt (cnt4_zero fun i hi => by
      by_cases e : i = 2
      · subst e; exact pnd_other (by rw [hah]; decide)
      · exact pnd_no fun e' => hL.other i hi e (by rw [← ho i e]; exact e'.1))
    have a2 := hgi.c.thi H (Nat.le_refl _)
    omega
  rcases hx.ph with hq | hq | hq | hq | hq
  · -- the head is read
    have hov : (o0 2).out ≠ 0 := by
      rcases hb with hb | ⟨hb, _⟩
      · have := hL.ph (by rw [← hb]; exact h0)
        rw [← hb] at this
        omega
      · exact hb
    obtain ⟨E, g1, g2, g3⟩ := hgi.s0 (p := 2) (by omega) h0 hq
    have hE : E = H := by rw [hcell, show (1 : Int) = ((1 : Nat) : Int) from rfl, hgi.c.head] at g1; omega
    rw [g2] at hgc' ho12 ⊢
    obtain ⟨rfl, rfl⟩ := hgi.c.uniq hgc'
    refine ⟨⟨hother, fun _ => by rw [ho12]; exact .inl rfl, fun _ _ => by rw [ho12, ← hE], fun _ h2 => by rw [ho12] at h2; have : (1 : Int) = 2 := h2; omega⟩, ?_⟩
    rw [ho12]
    unfold muL
    rw [if_pos hov, if_neg (by simpa using h0), if_pos rfl]
    omega
  all_goals
    have hb' : o 2 = o0 2 := by
      rcases hb with hb | ⟨_, hb⟩
      · exact hb
      · omega
  · have ht := hL.t (by rw [← hb']; exact h0) (.inl (by rw [← hb']; exact hq))
    rw [← hb'] at ht
    have hslot : at_ L (slotOf 0 n (o 2).t) = tn n L H := by rw [ht, slot_nat]; rfl
    have hwant : wantOf n (o 2).ahead (o 2).t = qn n H + 1 := by rw [ht, hah, want_nat n H _ (by omega) (.inr rfl)]; rfl
    by_cases hlt : H < T
    · obtain ⟨g2, g3⟩ := hgi.s1e (p := 2) (by omega) hs h0 hq (by rw [hslot, hwant]; exact hturn hlt)
      rw [g2] at hgc' ho12 ⊢
      obtain ⟨rfl, rfl⟩ := hgi.c.uniq hgc'
      refine ⟨⟨hother, fun _ => by rw [ho12]; exact .inr (.inl rfl), fun _ _ => by rw [ho12]; exact ht, fun _ _ => hlt⟩, ?_⟩
      rw [ho12, ← hb']
      unfold muL
      rw [if_neg (by simpa using h0), if_neg (by show ¬ (2 : Int) = 1; omega), if_pos rfl, if_neg (by simpa using h0), if_pos hq]
      omega
    · obtain ⟨out, q1, q2, g2, g3⟩ := hgi.s1l (p := 2) (by omega) hs h0 hq (by
        have := hgi.c.phi H (by omega)
        rw [hslot, hwant]
        omega)
      rw [g2] at hgc' ho12 ⊢
      obtain ⟨rfl, rfl⟩ := hgi.c.uniq hgc'
      refine ⟨⟨hother, fun h9 => by rw [ho12] at h9; exact absurd h9 q1, fun h9 => by rw [ho12] at h9; exact absurd h9 q1, fun h9 => by rw [ho12] at h9; exact absurd h9 q1⟩, ?_⟩
      rw [ho12]
      unfold muL
      rw [if_pos (by exact q1)]
      omega
  · have ht := hL.t (by rw [← hb']; exact h0) (.inr (by rw [← hb']; exact hq))
    rw [← hb'] at ht
    obtain ⟨t, T1, H1, q1, g2, g3, q4, q5⟩ := hgi.s2y (p := 2) (by omega) hs h0 hq (by rw [hcell, ht]; exact hgi.c.head)
    obtain ⟨rfl, rfl, rfl⟩ := q5 hah
    rw [g2] at hgc' ho12 ⊢
    obtain ⟨rfl, rfl⟩ := g3.c.uniq hgc'
    have hlt := hL.lt (by rw [← hb']; exact h0) (by rw [← hb']; exact hq)
    refine ⟨⟨hother, fun _ => by rw [ho12]; exact .inr (.inr (.inl rfl)), fun _ h2 => by rw [ho12] at h2; have : (3 : Int) = 1 ∨ (3 : Int) = 2 := h2; omega, fun _ h2 => by rw [ho12] at h2; have : (3 : Int) = 2 := h2; omega⟩, ?_⟩
    rw [ho12, ← hb']
    unfold muL
    rw [if_neg (by simpa using h0), if_neg (by show ¬ (3 : Int) = 1; omega), if_neg (by show ¬ (3 : Int) = 2; omega), if_pos rfl, if_neg (by simpa using h0), if_neg (by omega), if_pos hq]
    omega
  · obtain ⟨t, q1, g2, g3⟩ := hgi.s3 (p := 2) hAU (by omega) hs h0 hq
    rw [g2] at hgc' ho12 ⊢
    obtain ⟨rfl, rfl⟩ := g3.c.uniq hgc'
    refine ⟨⟨hother, fun _ => by rw [ho12]; exact .inr (.inr (.inr rfl)), fun _ h2 => by rw [ho12] at h2; have : (4 : Int) = 1 ∨ (4 : Int) = 2 := h2; omega, fun _ h2 => by rw [ho12] at h2; have : (4 : Int) = 2 := h2; omega⟩, ?_⟩
    rw [ho12, ← hb']
    unfold muL
    rw [if_neg (by simpa using h0), if_neg (by show ¬ (4 : Int) = 1; omega), if_neg (by show ¬ (4 : Int) = 2; omega), if_neg (by show ¬ (4 : Int) = 3; omega), if_neg (by simpa using h0), if_neg (by omega), if_neg (by omega), if_pos hq]
    omega
  · obtain ⟨t, q1, g2, g3⟩ := hgi.s4 (p := 2) (by omega) hs h0 hq
    rw [g2] at hgc' ho12 ⊢
    obtain ⟨rfl, rfl⟩ := g3.c.uniq hgc'
    have hne : ((1 : Int) = 0) → False := by omega
    refine ⟨⟨hother, fun h9 => by rw [ho12] at h9; exact (hne h9).elim, fun h9 => by rw [ho12] at h9; exact (hne h9).elim, fun h9 => by rw [ho12] at h9; exact (hne h9).elim⟩, ?_⟩
    rw [ho12, ← hb']
    unfold muL
    rw [if_pos (by exact hne), if_neg (by simpa using h0), if_neg (by omega), if_neg (by omega), if_neg (by omega)]
    omega
end
end Go.Proofs.Ytjjjjbfblhadnaa
