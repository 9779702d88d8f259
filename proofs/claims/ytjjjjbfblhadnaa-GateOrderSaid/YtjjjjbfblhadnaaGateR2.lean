/-
  troupelaw05.run, the walk: the crowd is laid out; whatever is picked; all to its end.
-/
import Derived.Test.YtjjjjbfblhadnaaGateR
namespace Go.Proofs.Ytjjjjbfblhadnaa
open Go.RowKit
set_option linter.unusedVariables false
attribute [local go_sem ↓] Go.wp_at_zero Go.wp_at_succ

/-- What run leaves behind. -/
def RunPost (w w' : World) (n : Nat) (v : Value) : Prop := ∃ cb ob nb tb bg bm bc L tc o bo nx iv tv IN TK T H s, v = .pointer (some ⟨cb, 0, none⟩) ∧
  Sit w w' w.heap.size cb ob nb tb bg bm bc n L tc o bo nx iv tv IN TK T H s ∧ s ≤ 1000 ∧ H = T ∧ ∀ i, i < 4 → ¬ own (o i)
theorem bOp_on {o : Nat → Gop} {nx : Nat → Nat} {p : Nat} (h : (o p).out = 0) : bOp (actOf o) o nx p = o := by unfold bOp actOf; rw [if_pos (by simpa using h)]
theorem bOp_ne {o : Nat → Gop} {nx : Nat → Nat} {p i : Nat} (h : i ≠ p) : bOp (actOf o) o nx p i = o i := by
  unfold bOp
  split
  · rfl
  · rw [upd_ne _ _ h]
theorem bOp_at {o : Nat → Gop} {nx : Nat → Nat} {p : Nat} : bOp (actOf o) o nx p p = o p ∨ (o p).out ≠ 0 ∧ (bOp (actOf o) o nx p p).ph = 0 := by
  by_cases h : (o p).out = 0
  · rw [bOp_on h]; exact .inl rfl
  · refine .inr ⟨h, ?_⟩
    unfold bOp actOf
    rw [if_neg (by simpa using h), upd_same]
    exact (begun_flat nx p).1
set_option maxRecDepth 100000 in
set_option maxHeartbeats 8000000 in
theorem run_any (n : Nat) (w : World) (h1 : 1 ≤ n) (h6 : n ≤ 6) (a : Option Addr) (len cap : Nat) (xs : List Int) (hx : InInts .u8 w a len xs) :
    Calls Try.prog 19 #[.int .i64 n, .slice a len cap] w fun e w' => ∃ v, e = .returned v ∧ RunPost w w' n v := by
  have h64 : n ≤ 64 := by omega
  have hbig := hx.big
  have HC := hide hx.cells
  have HX := hide fun (i : Nat) (hi : i < len) => show 0 ≤ elt xs i ∧ elt xs i ≤ 255 by
    have := bounds_u8 (elt_wf hx.wf (i := i) (by rw [hx.length]; exact hi))
    omega
  clear hx
  have hm1 := make_flat_at 47 56 (.pointer none) 8 Try.underlying47 info_gop rfl 4 4 rfl (by omega) (by omega)
  have hm2 := make_flat_at 35 28 (.int .u64 0) 8 Try.underlying35 info_u64 rfl 2 2 rfl (by omega) (by omega)
  have hm3 := make_flat_at 48 35 (.slice none 0 0) 24 Try.underlying48 info_u64s rfl 2 2 rfl (by omega) (by omega)
  go_enter Try.func19, Try.ntmps19
  go_upto_region 1 with fail
  go_cut [5] (fun v wx => Laid w wx n v)
  case first =>
    clear HC HX
    go_region_with (first | (go_at_call 20; refine (made_any n _ h1 h64 (fun _ => 0)).mono ?_; rintro e w1 ⟨bg, bm, bc, rfl, q1, q2, q3, q4, q5⟩; have Q1 := hide q1; have Q2 := hide q2; have q6 := q1.bc_lt; have q7 := q2.size; clear q1 q2))
    all_goals
      clear hm1 hm2 hm3
      go_wp2_with fail
      go_meet
      refine laid_of ?_ (AE.only0 Q1.out ?_) (Blk.new_at ?_) ?_ ?_ ?_ ?_ ?_
      · (repeat (first | with_reducible exact Only.refl _ _ | with_reducible refine Only.alloc ?_ _ | with_reducible refine Only.drew ?_ | with_reducible refine Only.trans ?_ Q2.out))
      · (repeat (first | with_reducible exact Only.refl _ _ | with_reducible refine Only.alloc ?_ _ | with_reducible refine Only.drew ?_))
      · simp
      · (repeat (first | ((with_reducible refine Blk.new_at ?_); simp; done) | with_reducible refine Blk.drew ?_ | with_reducible refine Blk.alloc ?_ _ | with_reducible refine Blk.only ?_ Q2.out (fun h => h)))
      · (repeat (first | ((with_reducible refine Blk.new_at ?_); simp; done) | with_reducible refine Blk.drew ?_ | with_reducible refine Blk.alloc ?_ _ | with_reducible refine Blk.only ?_ Q2.out (fun h => h)))
      · (repeat (first | ((with_reducible refine Blk.new_at ?_); simp; done) | with_reducible refine Blk.drew ?_ | with_reducible refine Blk.alloc ?_ _ | with_reducible refine Blk.only ?_ Q2.out (fun h => h)))
      · ((try simp at q3 q4 q5 q6 q7); omega)
      · ((try simp at q3 q4 q5 q6 q7); (try simp); omega)
  case rest =>
  clear hm1 hm2 hm3
  obtain ⟨cb, ob, nb, tb, bg, bm, bc, L0, tc0, rfl, hs⟩ := hcut
  have HS := hide hs
  have k0 := hs.cw.cc0
  clear hs
  go_wp2_with fail
  clear k0
  go_loopg [6] 600 (fun q iv wr => ∃ (i : Nat) (L : List Int) (tc : Int) (o : Nat → Gop) (bo nx : Nat → Nat) (vi : Value) (tv : Nat → Value) (IN : List Int) (TK : Nat → List Int) (T H : Nat), q = 600 - i ∧ i ≤ 600 ∧ i ≤ len ∧ iv = .int .i64 i ∧ Sit w wr w.heap.size cb ob nb tb bg bm bc n L tc o bo nx vi tv IN TK T H i)
  case atStart => exact ⟨0, _, _, _, _, _, _, _, _, _, _, _, rfl, by omega, by omega, rfl, HS.out⟩
  case round =>
  clear HS
  obtain ⟨i, L, tc, o, bo, nx, vi, tv, IN, TK, T, H, rfl, hi6, hil, rfl, hs⟩ := hrel
  have HS := hide hs
  clear hs
  by_cases hc2 : i < len ∧ i < 600
  · obtain ⟨hlt, hl6⟩ := hc2
    obtain ⟨g, off, rfl, hg, hc⟩ := HC.out (by omega)
    have ce := (HS.out.on.cell (p := ⟨g, off + i, none⟩) hg (fun h => h)).trans (hc i hlt)
    obtain ⟨x0, x1⟩ := HX.out i hlt
    have HCC := hide hc
    clear hc
    generalize elt xs i = x at ce x0 x1
    obtain ⟨p, hp⟩ : ∃ p : Nat, x % 4 = (p : Int) := ⟨(x % 4).toNat, by omega⟩
    have hp4 : p < 4 := by omega
    go_wp2_with fail
    refine (HS.out.step hp4 (by omega) true (.inr rfl)).mono ?_
    rintro e w1 ⟨rfl, tc', bo', nx', vi', tv', IN', TK', T', H', hs⟩
    have HS1 := hide hs
    clear hs ce hp
    go_wp2_with fail
    go_roundg (600 - (i + 1))
    case rel => exact ⟨i + 1, _, _, _, _, _, _, _, _, _, _, _, rfl, by omega, by omega, by go_num, HS1.out⟩
    case measure => omega
  have hways : (i < len ∧ 600 ≤ i) ∨ len ≤ i := by omega
  clear hc2
  rcases hways with ⟨hw1, hw2⟩ | hw1
  all_goals
    have HII := hide hi6
    have HCX := HC
    clear HC HX HCX
    go_wp2_with fail
    go_loopg [7] 200 (fun q iv wr => ∃ (t : Nat) (s : Nat) (L : List Int) (tc : Int) (o : Nat → Gop) (bo nx : Nat → Nat) (vi : Value) (tv : Nat → Value) (IN : List Int) (TK : Nat → List Int) (T H : Nat), q = 200 - t ∧ t ≤ 200 ∧ iv = .int .i64 t ∧ Sit w wr w.heap.size cb ob nb tb bg bm bc n L tc o bo nx vi tv IN TK T H s ∧ s ≤ 600 + t ∧ ∀ p, p < 4 → cost 4 L o p ≤ vis 4 p t (200 - t))
    case atStart => exact ⟨0, i, _, _, _, _, _, _, _, _, _, _, _, rfl, by omega, rfl, HS.out, by omega, fun p hp => Nat.le_trans (cost_le 4 L o p) (Nat.le_trans (by omega) (vis_rounds hp 50 0))⟩
    case round =>
    clear HS
    clear L tc o bo nx vi tv IN TK T H
    obtain ⟨t, s, L, tc, o, bo, nx, vi, tv, IN, TK, T, H, rfl, ht, rfl, hs, hst, hco⟩ := hrel
    have HS := hide hs
    have HCO := hide hco
    clear hs hco
    by_cases hlt : t < 200
    · obtain ⟨p, hpn⟩ : ∃ p : Nat, t % 4 = p := ⟨_, rfl⟩
      have hp : (t : Int) % 4 = (p : Int) := by omega
      have hp4 : p < 4 := by omega
      have HPN := hide hpn
      clear hpn
      by_cases h0 : (o p).out = 0
      · have H0 := hide h0
        clear h0
        go_wp2_with fail
        refine (HS.out.step hp4 (by omega) false (.inl H0.out)).mono ?_
        rintro e w1 ⟨rfl, tc', bo', nx', vi', tv', IN', TK', T', H', hs⟩
        rw [bOp_on H0.out] at hs
        have HS1 := hide hs
        obtain ⟨T2, H2, -, -, hc1, hc2⟩ := HS.out.cr.gi.step HS.out.cw.env.u hp4 (by have := HS.out.tl; omega) H0.out
        have HC1 := hide (And.intro hc1 hc2)
        clear hs hp hc1 hc2
        go_wp2_with fail
        go_roundg (200 - (t + 1))
        case rel =>
          refine ⟨t + 1, s + 1, _, _, _, _, _, _, _, _, _, _, _, rfl, by omega, by go_num, HS1.out, by omega, fun r hr => ?_⟩
          have h3 := HCO.out r hr
          rw [show 200 - t = (200 - (t + 1)) + 1 by omega] at h3
          simp only [vis, HPN.out] at h3
          by_cases e : r = p
          · subst e
            rw [if_pos rfl] at h3
            have := HC1.out.1
            omega
          · rw [if_neg (fun h => e h.symm)] at h3
            have := HC1.out.2 r hr e
            omega
        case measure => omega
      · have H0 := hide h0
        clear h0
        go_wp2_with fail
        refine (HS.out.idle hp4 H0.out).mono ?_
        rintro e w1 ⟨rfl, rfl⟩
        clear hp
        go_wp2_with fail
        go_roundg (200 - (t + 1))
        case rel =>
          refine ⟨t + 1, s, _, _, _, _, _, _, _, _, _, _, _, rfl, by omega, by go_num, HS.out, by omega, fun r hr => ?_⟩
          have h3 := HCO.out r hr
          rw [show 200 - t = (200 - (t + 1)) + 1 by omega] at h3
          simp only [vis, HPN.out] at h3
          by_cases e : r = p
          · subst e
            rw [cost_over H0.out]
            omega
          · rw [if_neg (fun h => e h.symm)] at h3
            omega
        case measure => omega
    obtain rfl : t = 200 := by omega
    have hov : ∀ p, p < 4 → (o p).out ≠ 0 := fun p hp => by
      have := HCO.out p hp
      rw [Nat.sub_self] at this
      simp only [vis] at this
      exact cost_pos (L := L) hp (HS.out.cr.gi.ok p hp).ph (by omega)
    have HOV := hide hov
    have hTH := HS.out.cr.gi.c.ge
    have HTH := hide hTH
    clear hov hlt hTH HCO
    go_wp2_with fail
    go_loopg [8] (5 * n + 20) (fun q iv wr => ∃ (t : Nat) (s : Nat) (L : List Int) (tc : Int) (o : Nat → Gop) (bo nx : Nat → Nat) (vi : Value) (tv : Nat → Value) (IN : List Int) (TK : Nat → List Int) (T H : Nat), q = 5 * n + 20 - t ∧ t ≤ 5 * n + 20 ∧ iv = .int .i64 t ∧ Sit w wr w.heap.size cb ob nb tb bg bm bc n L tc o bo nx vi tv IN TK T H s ∧ s ≤ 800 + t ∧ Last n T H L o ∧ muL T H (o 2) ≤ 5 * n + 20 - t)
    case atStart =>
      refine ⟨0, s, _, _, _, _, _, _, _, _, _, _, _, rfl, by omega, rfl, HS.out, by omega, ⟨fun i hi _ => HOV.out i hi, fun e => absurd e (HOV.out 2 (by omega)), fun e => absurd e (HOV.out 2 (by omega)), fun e => absurd e (HOV.out 2 (by omega))⟩, ?_⟩
      unfold muL
      rw [if_pos (HOV.out 2 (by omega))]
      have := HTH.out
      omega
    case round =>
    clear HS HOV HTH
    clear hst L tc o bo nx vi tv IN TK T H s
    obtain ⟨t, s, L, tc, o, bo, nx, vi, tv, IN, TK, T, H, rfl, ht, rfl, hs, hst, hla, hmu⟩ := hrel
    have HS := hide hs
    have HLA := hide hla
    have HMU := hide hmu
    clear hs hla hmu
    by_cases hlt : t < 5 * n + 20
    · go_wp2_with fail
      refine (HS.out.step (p := 2) (by omega) (by omega) true (.inr rfl)).mono ?_
      rintro e w1 ⟨rfl, tc', bo', nx', vi', tv', IN', TK', T', H', hs⟩
      have HS1 := hide hs
      obtain ⟨hcb, hcb0, -⟩ := HS.out.begun (p := 2) (by omega) (by omega)
      obtain ⟨hl1, hl2⟩ := HLA.out.step hcb HS.out.cw.env.u (by have := HS.out.tl; omega) (fun i hi => bOp_ne hi) hcb0 bOp_at rfl hs.cr
      have HL1 := hide (And.intro hl1 hl2)
      clear hs hcb hcb0 hl1 hl2
      go_wp2_with fail
      go_roundg (5 * n + 20 - (t + 1))
      case rel =>
        refine ⟨t + 1, s + 1, _, _, _, _, _, _, _, _, _, _, _, rfl, by omega, by go_num, HS1.out, by omega, HL1.out.1, ?_⟩
        have := HL1.out.2
        have := HMU.out
        omega
      case measure => omega
    obtain rfl : t = 5 * n + 20 := by omega
    have hov := HLA.out.over HS.out.cr.gi.c.le (by have := HMU.out; omega)
    have HOV := hide hov
    clear hov hlt
    go_wp2_with fail
    go_ret
    exact ⟨_, rfl, cb, ob, nb, tb, bg, bm, bc, L, tc, o, bo, nx, vi, tv, IN, TK, T, H, s, rfl, HS.out, by omega, HOV.out.1, HOV.out.2⟩
end Go.Proofs.Ytjjjjbfblhadnaa
