/-
  troupelaw04.run, the walk: the gang is laid out; whatever is picked; all to its end.
-/
import Derived.Test.YtblkbfdmoanbfaaDeqS
import Derived.Test.YtblkbfdmoanbfaaOpen
import Derived.Deep.DeepCutAuto
import Derived.Deep.RegionWith
import Derived.Deep.DrawnRows
namespace Go.Proofs.Ytblkbfdmoanbfaa
open Go.RowKit
set_option linter.unusedVariables false
attribute [local go_sem ↓] Go.wp_at_zero Go.wp_at_succ

theorem info_dop : (Try.prog.info? 47).map (fun i => (i.zero, i.size, i.bytes)) = some (some (.pointer none), 1, 8) := by kernel_rfl
theorem Blk.new_at {w : World} {g : Nat} {t : TypeId} {cs : Array Value} (h : g = w.heap.size) : Blk (w.alloc (.cells cs t)) g t cs := by subst h; exact Blk.new _ _ _
def startD (i : Nat) : Dop := { k := 1, out := 2, v := 0, t := 0, b := 0, won := false }
theorem Gang.start {n T B : Nat} {L : List Int} {val : Nat → Int} (h : DAlone n L T B val) (hs : [] = inD T B val) : Gang n L startD false 0 [] [] [] T B [] := by
  have ho : (startD 0).out ≠ 0 := by show (2 : Int) ≠ 0; omega
  exact ⟨⟨B, val, [], ⟨h.n1, h.n64, h.len, h.top, h.bot, h.t1, h.le, h.ge, h.small, h.has⟩, .inr ⟨ho, rfl, rfl⟩, fun i _ _ e => absurd (show (2 : Int) = 0 from e) (by omega), by rw [← hs]; rfl⟩, List.Perm.refl _, List.Pairwise.nil, List.Pairwise.nil, fun x hx => (by cases hx), fun e => absurd e ho⟩
theorem Gang.rk {n nx T B : Nat} {L : List Int} {o : Nat → Dop} {pu : Bool} {IN POP STO S : List Int} (h : Gang n L o pu nx IN POP STO T B S) : 1 ≤ rkB (o 0) ∧ rkB (o 0) ≤ 6 ∧ ((o 0).out = 0 → rkO (o 0) = rkB (o 0)) ∧ ((o 0).out ≠ 0 → rkO (o 0) = 0) := by
  obtain ⟨bot, val, held, h1, h2, h3, h4⟩ := h.ex
  unfold rkB rkO
  rcases h2 with ⟨e, ho⟩ | ⟨e, -⟩
  · have := ho.k10
    rw [if_pos e, if_pos e]
    refine ⟨?_, ?_, fun _ => rfl, fun e2 => absurd e e2⟩ <;> split <;> omega
  · rw [if_neg e, if_neg e]
    exact ⟨by omega, by omega, fun e2 => absurd e2 e, fun _ => rfl⟩
theorem Gang.rkt {n nx T B i : Nat} {L : List Int} {o : Nat → Dop} {pu : Bool} {IN POP STO S : List Int} (h : Gang n L o pu nx IN POP STO T B S) (hi : 1 ≤ i) (hi3 : i < 3) : rkT (o i) ≤ 4 ∧ ((o i).out = 0 → 1 ≤ rkT (o i)) ∧ ((o i).out ≠ 0 → rkT (o i) = 0) := by
  obtain ⟨bot, val, held, h1, h2, h3, h4⟩ := h.ex
  unfold rkT
  by_cases e : (o i).out = 0
  · have := (h3 i hi hi3 e).2
    rw [if_pos e]
    refine ⟨?_, fun _ => ?_, fun e2 => absurd e e2⟩ <;> rcases this with k | ⟨k, -⟩ | ⟨k, -⟩ | ⟨k, -⟩ <;> omega
  · rw [if_neg e]
    exact ⟨by omega, fun e2 => absurd e2 e, fun _ => rfl⟩
/-- How many steps the owner's pops have before them at most, till nothing is left. -/
def muD (S : List Int) (x : Dop) : Int := if S = [] then 0 else 6 * S.length + rkB x
theorem muD_zero {S : List Int} {x : Dop} (h1 : 1 ≤ rkB x) (h : muD S x ≤ 0) : S = [] := by
  unfold muD at h
  by_cases e : S = []
  · exact e
  · rw [if_neg e] at h; omega
theorem muD_step {S S' : List Int} {x x' : Dop} {pu' : Bool} (hp : pu' = false) (h1 : 1 ≤ rkB x) (ha : x'.out = 0 → S' = S ∧ 1 ≤ rkO x' ∧ rkO x' + 1 ≤ rkB x) (hb : x'.out ≠ 0 → pu' = false → S'.length + 1 = S.length ∨ (S' = [] ∧ S = [])) : muD S' x' + 1 ≤ muD S x ∨ muD S' x' = 0 := by
  unfold muD
  by_cases e : x'.out = 0
  · obtain ⟨r1, r2, r3⟩ := ha e
    rw [r1]
    by_cases c : S = []
    · rw [if_pos c, if_pos c]; exact .inr rfl
    · rw [if_neg c, if_neg c]
      have : rkB x' = rkO x' := by unfold rkB; rw [if_pos e]
      exact .inl (by omega)
  · have h6 : rkB x' = 6 := by unfold rkB; rw [if_neg e]
    rcases hb e hp with r | ⟨r, r'⟩
    · have c : S ≠ [] := by intro c; rw [c] at r; simp at r
      rw [if_neg c]
      by_cases c2 : S' = []
      · rw [if_pos c2]; exact .inr rfl
      · rw [if_neg c2]; exact .inl (by omega)
    · rw [if_pos r]; exact .inr rfl
theorem empty_step {S' : List Int} {x' : Dop} {pu' : Bool} {x : Dop} (hp : pu' = false) (ha : x'.out = 0 → S' = [] ∧ 1 ≤ rkO x' ∧ rkO x' + 1 ≤ rkB x) (hb : x'.out ≠ 0 → pu' = false → S'.length + 1 = ([] : List Int).length ∨ (S' = [] ∧ ([] : List Int) = [])) : S' = [] := by
  by_cases e : x'.out = 0
  · exact (ha e).1
  · rcases hb e hp with r | r
    · simp at r
    · exact r.1
/-- The gang, laid out. -/
def DLaid (w wx : World) (n : Nat) (v : Value) : Prop := ∃ gb tb bd bm bc L tc T Bt, v = .pointer (some ⟨gb, 0, none⟩) ∧
  GSit w wx w.heap.size gb tb bd bm bc n L tc startD (fun _ => 0) false 0 (fun _ => .slice none 0 0) (fun _ => []) 0 0 T Bt [] 0
theorem dlaid_of {w wx : World} {n gb tb bd bm bc : Nat} (ho : Only S0 w wx) (ha : DE wx bd bm bc n [] 1000) (h1 : Blk wx gb 50 #[.pointer (some ⟨bd, 0, none⟩), .pointer none, .bool false, .int .u64 0, .slice none 0 0, .slice none 0 0, .slice (some ⟨tb, 0, none⟩) 2 2, .slice none 0 0, .int .i64 0, .int .i64 0])
    (h2 : Blk wx tb 47 (zeros (.pointer none) 2))
    (b : w.heap.size ≤ gb ∧ w.heap.size ≤ tb ∧ w.heap.size ≤ bd ∧ w.heap.size ≤ bm ∧ w.heap.size ≤ bc) : DLaid w wx n (.pointer (some ⟨gb, 0, none⟩)) := by
  obtain ⟨L, tc, T, Bt, val, he, hal, htc, hB, hS⟩ := ha.ex
  obtain ⟨b1, b2, b5, b6, b7⟩ := b
  have hact : actD startD = fun _ => false := by funext i; unfold actD startD; simp
  refine ⟨gb, tb, bd, bm, bc, L, tc, T, Bt, rfl, ⟨⟨he, ?_, ?_, ?_, fun i _ => Sl.nil _ _ _, fun i _ => by simp [Value.ownBlock], fun i j g _ _ _ e => by simp [Value.ownBlock] at e, b1, b2, b5, b6, b7⟩, Gang.start hal hS, fun i _ e => absurd (show (2 : Int) = 0 from e) (by omega), by omega, by omega, Nat.le_refl _, fun _ _ => Nat.le_refl _, ⟨by omega, by omega⟩, by omega, ho, rfl⟩⟩
  · rw [hact]; exact h1
  · rw [hact]; exact h2
  · rw [hact]; exact OFam.empty _ _ _ _ _ _
theorem DE.bc_lt {w : World} {bd bm bc n c : Nat} {s : List Int} (h : DE w bd bm bc n s c) : bc < w.heap.size := by
  obtain ⟨L, tc, T, B, val, he, -⟩ := h.ex
  exact he.mem.cells.lt
/-- What run leaves behind. -/
def DRunPost (w w' : World) (n : Nat) (v : Value) : Prop := ∃ gb tb bd bm bc L tc o bo pu nx sv XS lost most T Bt s, v = .pointer (some ⟨gb, 0, none⟩) ∧
  GSit w w' w.heap.size gb tb bd bm bc n L tc o bo pu nx sv XS lost most T Bt [] s ∧ s ≤ 2000 ∧ ∀ i, i < 3 → (o i).out ≠ 0
set_option maxRecDepth 100000 in
set_option maxHeartbeats 8000000 in
theorem drun_any (n : Nat) (w : World) (h1 : 1 ≤ n) (h6 : n ≤ 6) (a : Option Addr) (len cap : Nat) (xs : List Int) (hx : InInts .u8 w a len xs) :
    Calls Try.prog 20 #[.int .i64 n, .slice a len cap] w fun e w' => ∃ v, e = .returned v ∧ DRunPost w w' n v := by
  have h64 : n ≤ 64 := by omega
  have hbig := hx.big
  have HC := hide hx.cells
  have HX := hide fun (i : Nat) (hi : i < len) => show 0 ≤ elt xs i ∧ elt xs i ≤ 255 by
    have := bounds_u8 (elt_wf hx.wf (i := i) (by rw [hx.length]; exact hi))
    omega
  clear hx
  have hm1 := make_flat_at 48 47 (.pointer none) 8 Try.underlying48 info_dop rfl 2 2 rfl (by omega) (by omega)
  go_enter Try.func20, Try.ntmps20
  go_upto_region 1 with fail
  go_cut [5] (fun v wx => DLaid w wx n v)
  case first =>
    clear HC HX
    go_region_with (first | (go_at_call 23; refine (dmade_any n _ h1 h64).mono ?_; rintro e w1 ⟨bd, bm, bc, rfl, q1, q2, q3, q4, q5⟩; have Q1 := hide q1; have Q2 := hide q2; have q6 := q1.bc_lt; have q7 := q2.size; clear q1 q2))
    all_goals
      clear hm1
      go_wp2_with fail
      go_meet
      refine dlaid_of ?_ (DE.only0 Q1.out ?_) (Blk.new_at ?_) ?_ ?_
      · (repeat (first | with_reducible exact Only.refl _ _ | with_reducible refine Only.alloc ?_ _ | with_reducible refine Only.drew ?_ | with_reducible refine Only.trans ?_ Q2.out))
      · (repeat (first | with_reducible exact Only.refl _ _ | with_reducible refine Only.alloc ?_ _ | with_reducible refine Only.drew ?_))
      · simp
      · (repeat (first | ((with_reducible refine Blk.new_at ?_); simp; done) | with_reducible refine Blk.drew ?_ | with_reducible refine Blk.alloc ?_ _ | with_reducible refine Blk.only ?_ Q2.out (fun h => h)))
      · ((try simp at q3 q4 q5 q6 q7); (try simp); omega)
  case rest =>
  clear hm1
  obtain ⟨gb, tb, bd, bm, bc, L0, tc0, T0, Bt0, rfl, hs⟩ := hcut
  have HS := hide hs
  have k0 := hs.gw.cc0
  clear hs
  go_wp2_with fail
  clear k0
  go_loopg [6] 600 (fun q iv wr => ∃ (i : Nat) (L : List Int) (tc : Int) (o : Nat → Dop) (bo : Nat → Nat) (pu : Bool) (nx : Nat) (sv : Nat → Value) (XS : Nat → List Int) (lost most : Int) (T Bt : Nat) (S : List Int), q = 600 - i ∧ i ≤ 600 ∧ i ≤ len ∧ iv = .int .i64 i ∧ GSit w wr w.heap.size gb tb bd bm bc n L tc o bo pu nx sv XS lost most T Bt S i)
  case atStart => exact ⟨0, _, _, _, _, _, _, _, _, _, _, _, _, _, rfl, by omega, by omega, rfl, HS.out⟩
  case round =>
  clear HS
  obtain ⟨i, L, tc, o, bo, pu, nx, sv, XS, lost, most, T, Bt, S, rfl, hi6, hil, rfl, hs⟩ := hrel
  have HS := hide hs
  clear hs
  by_cases hc2 : i < len ∧ i < 600
  · obtain ⟨hlt, hl6⟩ := hc2
    obtain ⟨g, off, rfl, hg, hc⟩ := HC.out (by omega)
    have ce := (HS.out.on.cell (p := ⟨g, off + i, none⟩) hg (fun h => h)).trans (hc i hlt)
    obtain ⟨x0, x1⟩ := HX.out i hlt
    have HCC := hide hc
    clear hc
    generalize elt xs i = x at ce x0 x1
    obtain ⟨p, hp⟩ : ∃ p : Nat, x % 4 = (p : Int) := ⟨(x % 4).toNat, by omega⟩
    have hp4 : p < 4 := by omega
    go_wp2_with fail
    by_cases hp2 : p < 2
    · refine (HS.out.own hp2 (by omega)).mono ?_
      rintro e w1 ⟨rfl, L', tc', o', bo', pu', nx', sv', XS', most', T', Bt', S', hs, -⟩
      have HS1 := hide hs
      clear hs ce hp
      go_wp2_with fail
      go_roundg (600 - (i + 1))
      case rel => exact ⟨i + 1, _, _, _, _, _, _, _, _, _, _, _, _, _, rfl, by omega, by omega, by go_num, HS1.out⟩
      case measure => omega
    · obtain ⟨r, rfl⟩ : ∃ r, p = r + 2 := ⟨p - 2, by omega⟩
      refine (HS.out.thf2 (p := r) (by omega) (by omega)).mono ?_
      rintro e w1 ⟨rfl, L', tc', o', bo', sv', XS', lost', T', Bt', S', hs, -⟩
      have HS1 := hide hs
      clear hs ce hp
      go_wp2_with fail
      go_roundg (600 - (i + 1))
      case rel => exact ⟨i + 1, _, _, _, _, _, _, _, _, _, _, _, _, _, rfl, by omega, by omega, by go_num, HS1.out⟩
      case measure => omega
  have hways : (i < len ∧ 600 ≤ i) ∨ len ≤ i := by omega
  clear hc2
  rcases hways with ⟨hw1, hw2⟩ | hw1
  all_goals
    have HII := hide hi6
    have HCX := HC
    clear HC HX HCX
    go_wp2_with fail
    go_loopg [7] 20 (fun q iv wr => ∃ (t s : Nat) (L : List Int) (tc : Int) (o : Nat → Dop) (bo : Nat → Nat) (pu : Bool) (nx : Nat) (sv : Nat → Value) (XS : Nat → List Int) (lost most : Int) (T Bt : Nat) (S : List Int), q = 20 - t ∧ t ≤ 20 ∧ iv = .int .i64 t ∧ GSit w wr w.heap.size gb tb bd bm bc n L tc o bo pu nx sv XS lost most T Bt S s ∧ s ≤ 600 + 3 * t ∧ rkO (o 0) ≤ 20 - t ∧ rkT (o 1) ≤ 20 - t ∧ rkT (o 2) ≤ 20 - t)
    case atStart =>
      have r0 := HS.out.ga.rk
      have r1 := HS.out.ga.rkt (i := 1) (by omega) (by omega)
      have r2 := HS.out.ga.rkt (i := 2) (by omega) (by omega)
      refine ⟨0, i, _, _, _, _, _, _, _, _, _, _, _, _, _, rfl, by omega, rfl, HS.out, by omega, ?_, by omega, by omega⟩
      by_cases e : (o 0).out = 0
      · have := r0.2.2.1 e; omega
      · have := r0.2.2.2 e; omega
    case round =>
    clear HS
    clear L tc o bo pu nx sv XS lost most T Bt S
    obtain ⟨t, s, L, tc, o, bo, pu, nx, sv, XS, lost, most, T, Bt, S, rfl, ht, rfl, hs, hst, hr0, hr1, hr2⟩ := hrel
    have HS := hide hs
    have HR := hide (And.intro hr0 (And.intro hr1 hr2))
    clear hs hr0 hr1 hr2
    by_cases hlt : t < 20
    · have k1 := HS.out.gw.cc1
      have ko : ∃ v, optr (actD o) bo 0 = .pointer v ∧ v = if actD o 0 then some ⟨bo 0, 0, none⟩ else none := by
        unfold optr
        split
        · rename_i e; exact ⟨_, rfl, rfl⟩
        · rename_i e; exact ⟨_, rfl, rfl⟩
      obtain ⟨v, ko, hv⟩ := ko
      rw [ko] at k1
      have HV := hide hv
      clear ko hv
      go_upto_if 47 with fail
      go_cut [] (fun wx => ∃ (s' : Nat) (L : List Int) (tc : Int) (o' : Nat → Dop) (bo : Nat → Nat) (pu : Bool) (nx : Nat) (sv : Nat → Value) (XS : Nat → List Int) (lost most : Int) (T Bt : Nat) (S : List Int), GSit w wx w.heap.size gb tb bd bm bc n L tc o' bo pu nx sv XS lost most T Bt S s' ∧ s' ≤ s + 1 ∧ rkO (o' 0) ≤ 20 - (t + 1 : Nat) ∧ rkT (o' 1) ≤ 20 - t ∧ rkT (o' 2) ≤ 20 - t)
      case first =>
        by_cases h0 : (o 0).out = 0
        · have hv := HV.out
          rw [actD_yes h0] at hv
          simp only [if_true] at hv
          have H0 := hide h0
          rw [hv]
          rw [hv] at k1
          clear h0 hv HV
          go_wp2_with fail
          refine (HS.out.own (what := 1) (by omega) (by omega)).mono ?_
          rintro e w1 ⟨rfl, L', tc', o', bo', pu', nx', sv', XS', most', T', Bt', S', hs, ho, ha, hb, -⟩
          have HS1 := hide hs
          have HA := hide (And.intro ho ha)
          clear hs ho ha hb k1
          go_wp2_with fail
          go_meet
          have q1 := HR.out
          have q2 := HS.out.ga.rk.2.2.1 H0.out
          refine ⟨s + 1, L', tc', o', bo', pu', nx', sv', XS', lost, most', T', Bt', S', HS1.out, by omega, ?_, ?_, ?_⟩
          · by_cases e : (o' 0).out = 0
            · have := (HA.out.2 e).2.2; omega
            · have := HS1.out.ga.rk.2.2.2 e; omega
          · rw [HA.out.1 1 (by decide)]; omega
          · rw [HA.out.1 2 (by decide)]; omega
        · have hv := HV.out
          rw [actD_no h0] at hv
          have H0 := hide h0
          replace hv : v = none := hv
          rw [hv]
          rw [hv] at k1
          clear h0 hv HV
          go_wp2_with fail
          go_meet
          have q1 := HR.out
          refine ⟨s, L, tc, o, bo, pu, nx, sv, XS, lost, most, T, Bt, S, HS.out, by omega, ?_, by omega, by omega⟩
          have := HS.out.ga.rk.2.2.2 H0.out
          omega
      case rest =>
      clear k1 HS HR HV
      clear L tc o bo pu nx sv XS lost most T Bt S v
      obtain ⟨s1, L, tc, o, bo, pu, nx, sv, XS, lost, most, T, Bt, S, hs, hs1, hr0, hr1, hr2⟩ := hcut
      have HS := hide hs
      have HR := hide (And.intro hr0 (And.intro hr1 hr2))
      clear hs hr0 hr1 hr2
      go_wp2_with fail
      go_loopg [8] 2 (fun q kv wr => ∃ (k s' : Nat) (L : List Int) (tc : Int) (o : Nat → Dop) (bo : Nat → Nat) (pu : Bool) (nx : Nat) (sv : Nat → Value) (XS : Nat → List Int) (lost most : Int) (T Bt : Nat) (S : List Int), q = 2 - k ∧ k ≤ 2 ∧ kv = .int .i64 k ∧ GSit w wr w.heap.size gb tb bd bm bc n L tc o bo pu nx sv XS lost most T Bt S s' ∧ s' ≤ s + 1 + k ∧ rkO (o 0) ≤ 20 - (t + 1 : Nat) ∧ ∀ j, j < 2 → rkT (o (j + 1)) ≤ if j < k then 20 - ((t + 1 : Nat) : Int) else 20 - t)
      case atStart =>
        refine ⟨0, s1, _, _, _, _, _, _, _, _, _, _, _, _, _, rfl, by omega, rfl, HS.out, by omega, HR.out.1, fun j hj => ?_⟩
        rw [if_neg (by omega)]
        have : j = 0 ∨ j = 1 := by omega
        rcases this with rfl | rfl
        · exact HR.out.2.1
        · exact HR.out.2.2
      case round =>
      clear HS HR
      clear hs1 L tc o bo pu nx sv XS lost most T Bt S
      obtain ⟨k, s1, L, tc, o, bo, pu, nx, sv, XS, lost, most, T, Bt, S, rfl, hk, rfl, hs, hs1, hr0, hr1⟩ := hrel
      have HS := hide hs
      have HR := hide (And.intro hr0 hr1)
      clear hs hr0 hr1
      by_cases hk2 : k < 2
      · have k6 := HS.out.gw.cc6
        by_cases h0 : (o (k + 1)).out = 0
        · have kt := HS.out.gw.ton hk2 (actD_yes h0)
          have H0 := hide h0
          clear h0
          go_wp2_with fail
          refine (HS.out.thf hk2 (by omega)).mono ?_
          rintro e w1 ⟨rfl, L', tc', o', bo', sv', XS', lost', T', Bt', S', hs, ho, ha⟩
          have HS1 := hide hs
          have HA := hide (And.intro ho ha)
          clear hs ho ha k6 kt
          go_wp2_with fail
          go_roundg (2 - (k + 1))
          case rel =>
            refine ⟨k + 1, s1 + 1, _, _, _, _, _, _, _, _, _, _, _, _, _, rfl, by omega, by go_num, HS1.out, by omega, ?_, fun j hj => ?_⟩
            · rw [HA.out.1 0 (by omega)]; exact HR.out.1
            · have hr := HR.out.2 j hj
              by_cases e : j = k
              · subst e
                rw [if_neg (by omega)] at hr
                rw [if_pos (by omega)]
                rcases HA.out.2 with q | q
                · omega
                · exact absurd H0.out q
              · rw [HA.out.1 (j + 1) (by omega)]
                by_cases c : j < k
                · rw [if_pos c] at hr; rw [if_pos (by omega)]; exact hr
                · rw [if_neg c] at hr; rw [if_neg (by omega)]; exact hr
          case measure => omega
        · have kt := HS.out.gw.toff hk2 (actD_no h0)
          have H0 := hide h0
          clear h0
          go_wp2_with fail
          clear k6 kt
          go_roundg (2 - (k + 1))
          case rel =>
            refine ⟨k + 1, s1, _, _, _, _, _, _, _, _, _, _, _, _, _, rfl, by omega, by go_num, HS.out, by omega, HR.out.1, fun j hj => ?_⟩
            have hr := HR.out.2 j hj
            by_cases e : j = k
            · subst e
              rw [if_pos (by omega)]
              have := (HS.out.ga.rkt (i := j + 1) (by omega) (by omega)).2.2 H0.out
              omega
            · by_cases c : j < k
              · rw [if_pos c] at hr; rw [if_pos (by omega)]; exact hr
              · rw [if_neg c] at hr; rw [if_neg (by omega)]; exact hr
          case measure => omega
      obtain rfl : k = 2 := by omega
      go_wp2_with fail
      go_roundg (20 - (t + 1))
      case rel =>
        have q1 := HR.out.2 0 (by omega)
        have q2 := HR.out.2 1 (by omega)
        rw [if_pos (by omega)] at q1 q2
        exact ⟨t + 1, s1, _, _, _, _, _, _, _, _, _, _, _, _, _, rfl, by omega, by go_num, HS.out, by omega, HR.out.1, q1, q2⟩
      case measure => omega
    obtain rfl : t = 20 := by omega
    have hov : ∀ i, i < 3 → (o i).out ≠ 0 := fun i hi e => by
      have q := HR.out
      have r0 := HS.out.ga.rk
      have : i = 0 ∨ i = 1 ∨ i = 2 := by omega
      rcases this with rfl | rfl | rfl
      · have := r0.2.2.1 e; omega
      · have := (HS.out.ga.rkt (i := 1) (by omega) (by omega)).2.1 e; omega
      · have := (HS.out.ga.rkt (i := 2) (by omega) (by omega)).2.1 e; omega
    have HOV := hide hov
    clear hov hlt HR
    go_wp2_with fail
    go_loopg [9] (20 * n + 20) (fun q iv wr => ∃ (t s : Nat) (L : List Int) (tc : Int) (o : Nat → Dop) (bo : Nat → Nat) (pu : Bool) (nx : Nat) (sv : Nat → Value) (XS : Nat → List Int) (lost most : Int) (T Bt : Nat) (S : List Int), q = 20 * n + 20 - t ∧ t ≤ 20 * n + 20 ∧ iv = .int .i64 t ∧ GSit w wr w.heap.size gb tb bd bm bc n L tc o bo pu nx sv XS lost most T Bt S s ∧ s ≤ 700 + t ∧ ((o 0).out ≠ 0 ∨ pu = false) ∧ (o 1).out ≠ 0 ∧ (o 2).out ≠ 0 ∧ muD S (o 0) ≤ 20 * n + 20 - t)
    case atStart =>
      refine ⟨0, s, _, _, _, _, _, _, _, _, _, _, _, _, _, rfl, by omega, rfl, HS.out, by omega, .inl (HOV.out 0 (by omega)), HOV.out 1 (by omega), HOV.out 2 (by omega), ?_⟩
      have := HS.out.ga.idle_len (HOV.out 0 (by omega))
      have := HS.out.ga.rk
      unfold muD
      split <;> omega
    case round =>
    clear HS HOV
    clear hst L tc o bo pu nx sv XS lost most T Bt S s
    obtain ⟨t, s, L, tc, o, bo, pu, nx, sv, XS, lost, most, T, Bt, S, rfl, ht, rfl, hs, hst, hpu, ho1, ho2, hmu⟩ := hrel
    have HS := hide hs
    have HR := hide (And.intro hpu (And.intro ho1 (And.intro ho2 hmu)))
    clear hs hpu ho1 ho2 hmu
    by_cases hlt : t < 20 * n + 20
    · go_wp2_with fail
      refine (HS.out.own (what := 1) (by omega) (by omega)).mono ?_
      rintro e w1 ⟨rfl, L', tc', o', bo', pu', nx', sv', XS', most', T', Bt', S', hs, ho, ha, hb, hpp⟩
      have HS1 := hide hs
      have hpf := hpp rfl HR.out.1
      have hmu := muD_step hpf HS.out.ga.rk.1 ha hb
      have HA := hide (And.intro ho (And.intro hpf hmu))
      clear hs ho ha hb hpp hpf hmu
      go_wp2_with fail
      go_roundg (20 * n + 20 - (t + 1))
      case rel =>
        refine ⟨t + 1, s + 1, _, _, _, _, _, _, _, _, _, _, _, _, _, rfl, by omega, by go_num, HS1.out, by omega, .inr HA.out.2.1, ?_, ?_, ?_⟩
        · rw [HA.out.1 1 (by decide)]; exact HR.out.2.1
        · rw [HA.out.1 2 (by decide)]; exact HR.out.2.2.1
        · have := HR.out.2.2.2
          rcases HA.out.2.2 with q | q <;> omega
      case measure => omega
    obtain rfl : t = 20 * n + 20 := by omega
    have hS : S = [] := muD_zero HS.out.ga.rk.1 (by have := HR.out.2.2.2; omega)
    subst hS
    have HR2 := hide (And.intro HR.out.1 (And.intro HR.out.2.1 HR.out.2.2.1))
    clear hlt HR
    go_wp2_with fail
    go_loopg [10] 10 (fun q iv wr => ∃ (t s : Nat) (L : List Int) (tc : Int) (o : Nat → Dop) (bo : Nat → Nat) (pu : Bool) (nx : Nat) (sv : Nat → Value) (XS : Nat → List Int) (lost most : Int) (T Bt : Nat), q = 10 - t ∧ t ≤ 10 ∧ iv = .int .i64 t ∧ GSit w wr w.heap.size gb tb bd bm bc n L tc o bo pu nx sv XS lost most T Bt [] s ∧ s ≤ 900 + t ∧ ((o 0).out ≠ 0 ∨ pu = false) ∧ (o 1).out ≠ 0 ∧ (o 2).out ≠ 0 ∧ rkO (o 0) ≤ 10 - t)
    case atStart =>
      refine ⟨0, s, _, _, _, _, _, _, _, _, _, _, _, _, rfl, by omega, rfl, HS.out, by omega, HR2.out.1, HR2.out.2.1, HR2.out.2.2, ?_⟩
      have r0 := HS.out.ga.rk
      by_cases e : (o 0).out = 0
      · have := r0.2.2.1 e; omega
      · have := r0.2.2.2 e; omega
    case round =>
    clear HS HR2
    clear hst L tc o bo pu nx sv XS lost most T Bt s
    obtain ⟨t, s, L, tc, o, bo, pu, nx, sv, XS, lost, most, T, Bt, rfl, ht, rfl, hs, hst, hpu, ho1, ho2, hrk⟩ := hrel
    have HS := hide hs
    have HR := hide (And.intro hpu (And.intro ho1 (And.intro ho2 hrk)))
    clear hs hpu ho1 ho2 hrk
    by_cases h0 : (o 0).out = 0
    · have hlt : t < 10 := by
        have := HS.out.ga.rk
        have := this.2.2.1 h0
        have := HR.out.2.2.2
        omega
      have k1 := HS.out.gw.oon (actD_yes h0)
      have H0 := hide h0
      clear h0
      go_wp2_with fail
      refine (HS.out.own (what := 1) (by omega) (by omega)).mono ?_
      rintro e w1 ⟨rfl, L', tc', o', bo', pu', nx', sv', XS', most', T', Bt', S', hs, ho, ha, hb, hpp⟩
      have hpf := hpp rfl HR.out.1
      obtain rfl := empty_step hpf ha hb
      have HS1 := hide hs
      have HA := hide (And.intro ho (And.intro hpf ha))
      clear hs ho ha hb hpp hpf k1
      go_wp2_with fail
      go_roundg (10 - (t + 1))
      case rel =>
        refine ⟨t + 1, s + 1, _, _, _, _, _, _, _, _, _, _, _, _, rfl, by omega, by go_num, HS1.out, by omega, .inr HA.out.2.1, ?_, ?_, ?_⟩
        · rw [HA.out.1 1 (by decide)]; exact HR.out.2.1
        · rw [HA.out.1 2 (by decide)]; exact HR.out.2.2.1
        · by_cases e : (o' 0).out = 0
          · have := (HA.out.2.2 e).2.2
            have := HS.out.ga.rk.2.2.1 H0.out
            have := HR.out.2.2.2
            omega
          · have := HS1.out.ga.rk.2.2.2 e
            omega
      case measure => omega
    have H0 := hide h0
    have k1 := HS.out.gw.ooff (actD_no h0)
    clear h0
    have hfin : ∀ i, i < 3 → (o i).out ≠ 0 := fun i hi => by
      have : i = 0 ∨ i = 1 ∨ i = 2 := by omega
      rcases this with rfl | rfl | rfl
      · exact H0.out
      · exact HR.out.2.1
      · exact HR.out.2.2.1
    have HFIN := hide hfin
    clear hfin
    by_cases hlt : t < 10
    · go_wp2_with fail
      go_ret
      exact ⟨_, rfl, gb, tb, bd, bm, bc, L, tc, o, bo, pu, nx, sv, XS, lost, most, T, Bt, s, rfl, HS.out, by omega, HFIN.out⟩
    · obtain rfl : t = 10 := by omega
      go_wp2_with fail
      go_ret
      exact ⟨_, rfl, gb, tb, bd, bm, bc, L, tc, o, bo, pu, nx, sv, XS, lost, most, T, Bt, s, rfl, HS.out, by omega, HFIN.out⟩
end Go.Proofs.Ytblkbfdmoanbfaa
