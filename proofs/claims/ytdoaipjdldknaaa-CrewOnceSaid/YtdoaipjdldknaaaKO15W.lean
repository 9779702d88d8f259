/-
  CrewOnce: a worker makes a step (troupelaw20.gang.work): the walk.
-/
import Derived.Test.YtdoaipjdldknaaaKO15
import Derived.Test.YtdoaipjdldknaaaJAlive
import Derived.Deep.RegionHeld3
import Derived.Deep.DeepCutAuto
import Derived.StillTailTactics
import Derived.OwnWalk
namespace Go.Proofs.Ytdoaipjdldknaaa
open Go.RowKit
set_option linter.unusedVariables false
section
variable {X : GX} {w0 w : World} {r : Int} {c tm : Nat} {L : List Int} {tc : Int} {o : Nat → CSt} {own : Nat → Nat} {act : Nat → Bool} {bo : Nat → Nat} {ph : Nat → Nat} {lf : Nat → Int} {nx : Nat} {fv pv : Value} {fd ps : List Int} {T H : Nat} {S : Nat → List Int} {M : Nat → Int}
set_option maxRecDepth 100000 in
set_option maxHeartbeats 8000000 in
theorem work_any (h : GS X w0 w r c tm L tc o own act bo ph lf nx fv pv fd ps T H S M) (hX : X.Ok w0.heap.size) {p : Nat} (hp : p < X.n) (d : Int) (hd : U64 d) (hc : c ≤ 900000) (htm : tm ≤ 1000000000) :
    Calls Try.prog 15 #[.pointer (some ⟨X.gb, 0, none⟩), .int .i64 (p : Int), .int .u64 d] w fun e w' => e = .returned (.tuple #[]) ∧ Worked X w0 w' r c tm o p ph lf nx T H S M := by
  have hG := h.gm
  have c1 := hG.c1
  have co := hG.ops.cellv (tabC_get (fun i => optr act bo i) hp)
  have hn4 := h.bi.ci.n4
  have hpn : (p : Int) < X.n := by omega
  have hp0 : (0 : Int) ≤ p := by omega
  obtain ⟨x, hx, hxa⟩ : ∃ x : Option Addr, optr act bo p = .pointer x ∧ (x = none ↔ act p = false) := by
    unfold optr
    cases act p with
    | true => exact ⟨some ⟨bo p, 0, none⟩, rfl, by simp⟩
    | false => exact ⟨none, rfl, by simp⟩
  rw [hx] at co
  have HG := hide h
  have HX := hide hxa
  clear h hG hx hxa
  go_enter Try.func15, Try.ntmps15
  go_upto_if 14 with fail
  go_cut [] (fun wx => WMid X w0 wx r c tm o act p ph lf nx fv fd T H S M)
  case first =>
    cases x with
    | some x =>
      have ha : act p = true := by
        cases ha : act p with
        | true => rfl
        | false => exact absurd (HX.out.2 ha) (by simp)
      have HA := hide ha
      clear ha
      go_wp2_with fail
      go_meet
      exact ⟨L, tc, o, own, act, bo, pv, ps, HG.out.gm, HG.out.bi, HA.out, by have := HG.out.ac p (by omega); rw [HA.out] at this; simpa using this.symm, fun t ht _ => ⟨rfl, rfl⟩, HG.out.tcb, by have := HG.out.pl; omega, Int.le_refl _⟩
    | none =>
      have ha : act p = false := HX.out.1 rfl
      have hid : o p = idleC := HG.out.idl p (by omega) (by have := HG.out.ac p (by omega); rw [ha] at this; simpa using this.symm)
      have hsh := HG.out.bi.ci.sh p hp
      rw [hid] at hsh
      have HA := hide ha
      have HID := hide hid
      have hk : ph p = 0 ∨ ph p = 1 ∨ ph p = 2 ∨ ph p = 3 := by
        generalize hk : ph p = k at hsh
        generalize hM : M p = m at hsh
        generalize hS : S p = q at hsh
        unfold idleC at hsh
        cases hsh <;> simp
      clear ha hid hsh
      have cp := HG.out.gm.phs.cellv (tabC_get (fun i => Value.int .i64 (ph i : Int)) hp)
      have c2 := HG.out.gm.c2
      have c0 := HG.out.gm.c0
      rcases hk with hk | hk | hk | hk
      · rw [hk] at cp
        have HK := hide hk
        clear hk
        go_upto_region 5 with fail
        as_aux_lemma =>
          have hof := Find_all (w := w.drew) (p : Int) d hd (HG.out.gm.only0 (Only.refl S0 w).drew).env
          rw [show findC (crewF X.n X.s) (p : Int) (ordZ d.toNat (crewF X.n X.s).n p) = .src (.dq p popOp) (.take :: (ordZ d.toNat X.n p).map Src.steal) from by unfold findC; rw [if_pos ⟨hp0, hpn⟩]; (try rfl)] at hof
          have HOF := hide hof
          clear hof
          have kk : (fun w' : World => w'.cell? ⟨X.gb, 0, none⟩ = some (.pointer (some ⟨X.cb, 0, none⟩)) ∧ w'.cell? ⟨X.gb, 1, none⟩ = some (.slice (some ⟨X.ob, 0, none⟩) X.n X.n)) w.drew := ⟨c0, c1⟩
          refine wp_region_last 13 (fun w' : World => w'.cell? ⟨X.gb, 0, none⟩ = some (.pointer (some ⟨X.cb, 0, none⟩)) ∧ w'.cell? ⟨X.gb, 1, none⟩ = some (.slice (some ⟨X.ob, 0, none⟩) X.n X.n)) (by kernel_rfl) ?_
          refine wpLast_take (i := 0) (oi := ⟨some 59, _, _, _, _, _⟩) (v := ?vf0) rfl (by kernel_rfl) (by kernel_rfl) (by kernel_rfl) (by kernel_rfl) (by decide) (fun _ _ _ h => h) (Or.inl ⟨by rfl, ?hf0⟩) (by assumption) ?rf0
          case hf0 => intro wq hSw; (try dsimp only at hSw); go_simp; (try with_reducible rfl)
          (try simp only [Act.put, List.setIfInBounds_toArray, List.set_cons_zero, List.set_cons_succ])
          refine wpLast_take (i := 1) (oi := ⟨some 60, _, _, _, _, _⟩) (v := ?vf1) rfl (by kernel_rfl) (by kernel_rfl) (by kernel_rfl) (by kernel_rfl) (by decide) (fun _ _ _ h => h) (Or.inl ⟨by rfl, ?hf1⟩) (by assumption) ?rf1
          case hf1 => intro wq hSw; (try dsimp only at hSw); go_simp; (try with_reducible rfl)
          (try simp only [Act.put, List.setIfInBounds_toArray, List.set_cons_zero, List.set_cons_succ])
          refine wpLast_take (i := 2) (oi := ⟨some 61, _, _, _, _, _⟩) (v := ?vf2) rfl (by kernel_rfl) (by kernel_rfl) (by kernel_rfl) (by kernel_rfl) (by decide) (fun _ _ _ h => h) (Or.inl ⟨by rfl, ?hf2⟩) (by assumption) ?rf2
          case hf2 => intro wq hSw; (try dsimp only at hSw); go_simp; (try with_reducible rfl)
          (try simp only [Act.put, List.setIfInBounds_toArray, List.set_cons_zero, List.set_cons_succ])
          refine wpLast_take (i := 3) (oi := ⟨some 62, _, _, _, _, _⟩) (v := ?vf3) rfl (by kernel_rfl) (by kernel_rfl) (by kernel_rfl) (by kernel_rfl) (by decide) (fun _ _ _ h => h) (Or.inl ⟨by rfl, ?hf3⟩) (by assumption) ?rf3
          case hf3 => intro wq hSw; (try dsimp only at hSw); go_simp; (try with_reducible rfl)
          (try simp only [Act.put, List.setIfInBounds_toArray, List.set_cons_zero, List.set_cons_succ])
          refine wpLast_take (i := 4) (oi := ⟨some 63, _, _, _, _, _⟩) (v := ?vf4) rfl (by kernel_rfl) (by kernel_rfl) (by kernel_rfl) (by kernel_rfl) (by decide) (fun _ _ _ h => h) (Or.inl ⟨by rfl, ?hf4⟩) (by assumption) ?rf4
          case hf4 => intro wq hSw; (try dsimp only at hSw); go_simp; (try with_reducible rfl)
          (try simp only [Act.put, List.setIfInBounds_toArray, List.set_cons_zero, List.set_cons_succ])
          refine wpLast_take (i := 5) (oi := ⟨some 64, _, _, _, _, _⟩) (v := ?vf5) rfl (by kernel_rfl) (by kernel_rfl) (by kernel_rfl) (by kernel_rfl) (by decide) (fun _ _ _ h => h) (Or.inl ⟨by rfl, ?hf5⟩) (by assumption) ?rf5
          case hf5 => intro wq hSw; (try dsimp only at hSw); go_simp; (try with_reducible rfl)
          (try simp only [Act.put, List.setIfInBounds_toArray, List.set_cons_zero, List.set_cons_succ])
          refine wpLast_take (i := 6) (oi := ⟨some 65, _, _, _, _, _⟩) (v := ?vf6) rfl (by kernel_rfl) (by kernel_rfl) (by kernel_rfl) (by kernel_rfl) (by decide) (fun _ _ _ h => h) (Or.inl ⟨by rfl, ?hf6⟩) (by assumption) ?rf6
          case hf6 => intro wq hSw; (try dsimp only at hSw); go_simp; (try with_reducible rfl)
          (try simp only [Act.put, List.setIfInBounds_toArray, List.set_cons_zero, List.set_cons_succ])
          refine wpLast_take (i := 7) (oi := ⟨some 66, _, _, _, _, _⟩) (v := ?vf7) rfl (by kernel_rfl) (by kernel_rfl) (by kernel_rfl) (by kernel_rfl) (by decide) (fun _ _ _ h => h) (Or.inl ⟨by rfl, ?hf7⟩) (by assumption) ?rf7
          case hf7 => intro wq hSw; (try dsimp only at hSw); go_simp; (try with_reducible rfl)
          (try simp only [Act.put, List.setIfInBounds_toArray, List.set_cons_zero, List.set_cons_succ])
          refine wpLast_take (i := 8) (oi := ⟨some 67, _, _, _, _, _⟩) (v := ?vf8) rfl (by kernel_rfl) (by kernel_rfl) (by kernel_rfl) (by kernel_rfl) (by decide) (fun _ _ _ h => h) (Or.inl ⟨by rfl, ?hf8⟩) (by assumption) ?rf8
          case hf8 => intro wq hSw; (try dsimp only at hSw); go_simp; (try with_reducible rfl)
          (try simp only [Act.put, List.setIfInBounds_toArray, List.set_cons_zero, List.set_cons_succ])
          refine wpLast_take (i := 9) (oi := ⟨some 68, _, _, _, _, _⟩) (v := ?vf9) rfl (by kernel_rfl) (by kernel_rfl) (by kernel_rfl) (by kernel_rfl) (by decide) (fun _ _ _ h => h) (Or.inl ⟨by rfl, ?hf9⟩) (by assumption) ?rf9
          case hf9 => intro wq hSw; (try dsimp only at hSw); go_simp; (try with_reducible rfl)
          (try simp only [Act.put, List.setIfInBounds_toArray, List.set_cons_zero, List.set_cons_succ])
          refine wpLast_take (i := 10) (oi := ⟨some 69, _, _, _, _, _⟩) (v := ?vf10) rfl (by kernel_rfl) (by kernel_rfl) (by kernel_rfl) (by kernel_rfl) (by decide) (fun _ _ _ h => h) (Or.inl ⟨by rfl, ?hf10⟩) (by assumption) ?rf10
          case hf10 => intro wq hSw; (try dsimp only at hSw); go_simp; (try with_reducible rfl)
          (try simp only [Act.put, List.setIfInBounds_toArray, List.set_cons_zero, List.set_cons_succ])
          refine wpLast_one (i := 11) (o := ⟨some 70, _, _, _, _, _⟩) (by kernel_rfl) rfl (fun K hK => ?_)
          go_simp
          refine HOF.out.mono ?_
          rintro e w2 ⟨co, rfl, h1, h2, h3, h4, h5⟩
          have o3 := (Only.refl S0 w).drew.trans h3
          obtain ⟨n1, n2⟩ := HG.out.gm.new_ (Nat.le_of_lt hp) HA.out o3 (show CIs w2 X.cb X.bb X.bg X.bc X.bd (fun k => w.heap.size ≤ k) co (.src (.dq p popOp) (.take :: (ordZ d.toNat X.n p).map Src.steal)) from h1) (by rw [upd_ne _ _ (by omega)]; exact HG.out.gm.sho)
          have y0 := n1.c0
          have y1 := n1.c1
          have y4 := n1.ops.frozen p
          have y6 := n1.ops.cellv (tabC_get (fun i => optr act (upd bo p co) i) hp)
          rw [off_ HA.out] at y6
          have g5 := n1.onW hX hp HA.out n2
          rw [upd_same] at g5
          have G5 := hide g5
          clear h1 h2 h3 h4 h5 o3 n1 n2 g5
          refine hK.out _ _ (fun _ => ⟨y0, y1⟩) ?_
          clear kk
          clear hK K
          refine wpLast_one (i := 12) (o := ⟨some 71, _, _, _, _, _⟩) (by kernel_rfl) rfl (fun K hK => ?_)
          go_simp
          refine hK.out _ _ (fun _ => ⟨y0, y1⟩) ?_
          clear hK K
          (try simp only [Act.put, List.setIfInBounds_toArray, List.set_cons_zero, List.set_cons_succ])
          refine wpLast_one (i := 13) (o := ⟨none, _, _, _, _, _⟩) (by kernel_rfl) rfl (fun K hK => ?_)
          go_simp
          refine hK.out _ _ (fun h => absurd rfl h) ?_
          clear hK K
          refine wpLast_done (by kernel_rfl) ?_ _
          go_wp2_with fail
          go_meet
          obtain ⟨b1, b2⟩ := HG.out.bi.begin_find hp HID.out HK.out (ordZ_st d.toNat hn4 hp).1 (ordZ_st d.toNat hn4 hp).2
          refine ⟨L, tc, _, _, _, _, pv, ps, G5.out, b1, upd_same _ _ _, by rw [upd_same]; rfl, fun t _ htp => ⟨upd_ne _ _ htp, upd_ne _ _ htp⟩, HG.out.tcb, by have := HG.out.pl; omega, b2⟩
      · rw [hk] at cp
        have HK := hide hk
        clear hk
        go_upto_region 7 with fail
        as_aux_lemma =>
          have hof := Rest_all (w := w.drew) (p : Int) (HG.out.gm.only0 (Only.refl S0 w).drew).env
          rw [show restC (crewF X.n X.s) (p : Int) = .sleep p ⟨0, p, 0⟩ from by unfold restC; rw [if_pos ⟨hp0, hpn⟩]; (try rfl)] at hof
          have HOF := hide hof
          clear hof
          have kk : (fun w' : World => w'.cell? ⟨X.gb, 0, none⟩ = some (.pointer (some ⟨X.cb, 0, none⟩)) ∧ w'.cell? ⟨X.gb, 1, none⟩ = some (.slice (some ⟨X.ob, 0, none⟩) X.n X.n)) w.drew := ⟨c0, c1⟩
          refine wp_region_last 12 (fun w' : World => w'.cell? ⟨X.gb, 0, none⟩ = some (.pointer (some ⟨X.cb, 0, none⟩)) ∧ w'.cell? ⟨X.gb, 1, none⟩ = some (.slice (some ⟨X.ob, 0, none⟩) X.n X.n)) (by kernel_rfl) ?_
          refine wpLast_take (i := 0) (oi := ⟨some 74, _, _, _, _, _⟩) (v := ?vr0) rfl (by kernel_rfl) (by kernel_rfl) (by kernel_rfl) (by kernel_rfl) (by decide) (fun _ _ _ h => h) (Or.inl ⟨by rfl, ?hr0⟩) (by assumption) ?rr0
          case hr0 => intro wq hSw; (try dsimp only at hSw); go_simp; (try with_reducible rfl)
          (try simp only [Act.put, List.setIfInBounds_toArray, List.set_cons_zero, List.set_cons_succ])
          refine wpLast_take (i := 1) (oi := ⟨some 75, _, _, _, _, _⟩) (v := ?vr1) rfl (by kernel_rfl) (by kernel_rfl) (by kernel_rfl) (by kernel_rfl) (by decide) (fun _ _ _ h => h) (Or.inl ⟨by rfl, ?hr1⟩) (by assumption) ?rr1
          case hr1 => intro wq hSw; (try dsimp only at hSw); go_simp; (try with_reducible rfl)
          (try simp only [Act.put, List.setIfInBounds_toArray, List.set_cons_zero, List.set_cons_succ])
          refine wpLast_take (i := 2) (oi := ⟨some 76, _, _, _, _, _⟩) (v := ?vr2) rfl (by kernel_rfl) (by kernel_rfl) (by kernel_rfl) (by kernel_rfl) (by decide) (fun _ _ _ h => h) (Or.inl ⟨by rfl, ?hr2⟩) (by assumption) ?rr2
          case hr2 => intro wq hSw; (try dsimp only at hSw); go_simp; (try with_reducible rfl)
          (try simp only [Act.put, List.setIfInBounds_toArray, List.set_cons_zero, List.set_cons_succ])
          refine wpLast_take (i := 3) (oi := ⟨some 77, _, _, _, _, _⟩) (v := ?vr3) rfl (by kernel_rfl) (by kernel_rfl) (by kernel_rfl) (by kernel_rfl) (by decide) (fun _ _ _ h => h) (Or.inl ⟨by rfl, ?hr3⟩) (by assumption) ?rr3
          case hr3 => intro wq hSw; (try dsimp only at hSw); go_simp; (try with_reducible rfl)
          (try simp only [Act.put, List.setIfInBounds_toArray, List.set_cons_zero, List.set_cons_succ])
          refine wpLast_take (i := 4) (oi := ⟨some 78, _, _, _, _, _⟩) (v := ?vr4) rfl (by kernel_rfl) (by kernel_rfl) (by kernel_rfl) (by kernel_rfl) (by decide) (fun _ _ _ h => h) (Or.inl ⟨by rfl, ?hr4⟩) (by assumption) ?rr4
          case hr4 => intro wq hSw; (try dsimp only at hSw); go_simp; (try with_reducible rfl)
          (try simp only [Act.put, List.setIfInBounds_toArray, List.set_cons_zero, List.set_cons_succ])
          refine wpLast_take (i := 5) (oi := ⟨some 79, _, _, _, _, _⟩) (v := ?vr5) rfl (by kernel_rfl) (by kernel_rfl) (by kernel_rfl) (by kernel_rfl) (by decide) (fun _ _ _ h => h) (Or.inl ⟨by rfl, ?hr5⟩) (by assumption) ?rr5
          case hr5 => intro wq hSw; (try dsimp only at hSw); go_simp; (try with_reducible rfl)
          (try simp only [Act.put, List.setIfInBounds_toArray, List.set_cons_zero, List.set_cons_succ])
          refine wpLast_take (i := 6) (oi := ⟨some 80, _, _, _, _, _⟩) (v := ?vr6) rfl (by kernel_rfl) (by kernel_rfl) (by kernel_rfl) (by kernel_rfl) (by decide) (fun _ _ _ h => h) (Or.inl ⟨by rfl, ?hr6⟩) (by assumption) ?rr6
          case hr6 => intro wq hSw; (try dsimp only at hSw); go_simp; (try with_reducible rfl)
          (try simp only [Act.put, List.setIfInBounds_toArray, List.set_cons_zero, List.set_cons_succ])
          refine wpLast_take (i := 7) (oi := ⟨some 81, _, _, _, _, _⟩) (v := ?vr7) rfl (by kernel_rfl) (by kernel_rfl) (by kernel_rfl) (by kernel_rfl) (by decide) (fun _ _ _ h => h) (Or.inl ⟨by rfl, ?hr7⟩) (by assumption) ?rr7
          case hr7 => intro wq hSw; (try dsimp only at hSw); go_simp; (try with_reducible rfl)
          (try simp only [Act.put, List.setIfInBounds_toArray, List.set_cons_zero, List.set_cons_succ])
          refine wpLast_take (i := 8) (oi := ⟨some 82, _, _, _, _, _⟩) (v := ?vr8) rfl (by kernel_rfl) (by kernel_rfl) (by kernel_rfl) (by kernel_rfl) (by decide) (fun _ _ _ h => h) (Or.inl ⟨by rfl, ?hr8⟩) (by assumption) ?rr8
          case hr8 => intro wq hSw; (try dsimp only at hSw); go_simp; (try with_reducible rfl)
          (try simp only [Act.put, List.setIfInBounds_toArray, List.set_cons_zero, List.set_cons_succ])
          refine wpLast_take (i := 9) (oi := ⟨some 83, _, _, _, _, _⟩) (v := ?vr9) rfl (by kernel_rfl) (by kernel_rfl) (by kernel_rfl) (by kernel_rfl) (by decide) (fun _ _ _ h => h) (Or.inl ⟨by rfl, ?hr9⟩) (by assumption) ?rr9
          case hr9 => intro wq hSw; (try dsimp only at hSw); go_simp; (try with_reducible rfl)
          (try simp only [Act.put, List.setIfInBounds_toArray, List.set_cons_zero, List.set_cons_succ])
          refine wpLast_one (i := 10) (o := ⟨some 84, _, _, _, _, _⟩) (by kernel_rfl) rfl (fun K hK => ?_)
          go_simp
          refine HOF.out.mono ?_
          rintro e w2 ⟨co, rfl, h1, h2, h3, h4, h5⟩
          have o3 := (Only.refl S0 w).drew.trans h3
          obtain ⟨n1, n2⟩ := HG.out.gm.new_ (Nat.le_of_lt hp) HA.out o3 (show CIs w2 X.cb X.bb X.bg X.bc X.bd (fun k => w.heap.size ≤ k) co (.sleep p ⟨0, p, 0⟩) from h1) (by rw [upd_ne _ _ (by omega)]; exact HG.out.gm.sho)
          have y0 := n1.c0
          have y1 := n1.c1
          have y4 := n1.ops.frozen p
          have y6 := n1.ops.cellv (tabC_get (fun i => optr act (upd bo p co) i) hp)
          rw [off_ HA.out] at y6
          have g5 := n1.onW hX hp HA.out n2
          rw [upd_same] at g5
          have G5 := hide g5
          clear h1 h2 h3 h4 h5 o3 n1 n2 g5
          refine hK.out _ _ (fun _ => ⟨y0, y1⟩) ?_
          clear kk
          clear hK K
          refine wpLast_one (i := 11) (o := ⟨some 85, _, _, _, _, _⟩) (by kernel_rfl) rfl (fun K hK => ?_)
          go_simp
          refine hK.out _ _ (fun _ => ⟨y0, y1⟩) ?_
          clear hK K
          (try simp only [Act.put, List.setIfInBounds_toArray, List.set_cons_zero, List.set_cons_succ])
          refine wpLast_one (i := 12) (o := ⟨none, _, _, _, _, _⟩) (by kernel_rfl) rfl (fun K hK => ?_)
          go_simp
          refine hK.out _ _ (fun h => absurd rfl h) ?_
          clear hK K
          refine wpLast_done (by kernel_rfl) ?_ _
          go_wp2_with fail
          go_meet
          obtain ⟨b1, b2⟩ := HG.out.bi.begin_rest hp HID.out HK.out
          refine ⟨L, tc, _, _, _, _, pv, ps, G5.out, b1, upd_same _ _ _, by rw [upd_same]; rfl, fun t _ htp => ⟨upd_ne _ _ htp, upd_ne _ _ htp⟩, HG.out.tcb, by have := HG.out.pl; omega, b2⟩
      · rw [hk] at cp
        have HK := hide hk
        clear hk
        go_upto_region 9 with fail
        as_aux_lemma =>
          have hof := Poll_all (w := w.drew) (p : Int) (HG.out.gm.only0 (Only.refl S0 w).drew).env
          rw [show pollC (crewF X.n X.s) (p : Int) = .poll ⟨2, p, 0⟩ from by unfold pollC; rw [if_pos ⟨hp0, hpn⟩]; (try rfl)] at hof
          have HOF := hide hof
          clear hof
          have kk : (fun w' : World => w'.cell? ⟨X.gb, 0, none⟩ = some (.pointer (some ⟨X.cb, 0, none⟩)) ∧ w'.cell? ⟨X.gb, 1, none⟩ = some (.slice (some ⟨X.ob, 0, none⟩) X.n X.n)) w.drew := ⟨c0, c1⟩
          refine wp_region_last 12 (fun w' : World => w'.cell? ⟨X.gb, 0, none⟩ = some (.pointer (some ⟨X.cb, 0, none⟩)) ∧ w'.cell? ⟨X.gb, 1, none⟩ = some (.slice (some ⟨X.ob, 0, none⟩) X.n X.n)) (by kernel_rfl) ?_
          refine wpLast_take (i := 0) (oi := ⟨some 88, _, _, _, _, _⟩) (v := ?vp0) rfl (by kernel_rfl) (by kernel_rfl) (by kernel_rfl) (by kernel_rfl) (by decide) (fun _ _ _ h => h) (Or.inl ⟨by rfl, ?hp0⟩) (by assumption) ?rp0
          case hp0 => intro wq hSw; (try dsimp only at hSw); go_simp; (try with_reducible rfl)
          (try simp only [Act.put, List.setIfInBounds_toArray, List.set_cons_zero, List.set_cons_succ])
          refine wpLast_take (i := 1) (oi := ⟨some 89, _, _, _, _, _⟩) (v := ?vp1) rfl (by kernel_rfl) (by kernel_rfl) (by kernel_rfl) (by kernel_rfl) (by decide) (fun _ _ _ h => h) (Or.inl ⟨by rfl, ?hp1⟩) (by assumption) ?rp1
          case hp1 => intro wq hSw; (try dsimp only at hSw); go_simp; (try with_reducible rfl)
          (try simp only [Act.put, List.setIfInBounds_toArray, List.set_cons_zero, List.set_cons_succ])
          refine wpLast_take (i := 2) (oi := ⟨some 90, _, _, _, _, _⟩) (v := ?vp2) rfl (by kernel_rfl) (by kernel_rfl) (by kernel_rfl) (by kernel_rfl) (by decide) (fun _ _ _ h => h) (Or.inl ⟨by rfl, ?hp2⟩) (by assumption) ?rp2
          case hp2 => intro wq hSw; (try dsimp only at hSw); go_simp; (try with_reducible rfl)
          (try simp only [Act.put, List.setIfInBounds_toArray, List.set_cons_zero, List.set_cons_succ])
          refine wpLast_take (i := 3) (oi := ⟨some 91, _, _, _, _, _⟩) (v := ?vp3) rfl (by kernel_rfl) (by kernel_rfl) (by kernel_rfl) (by kernel_rfl) (by decide) (fun _ _ _ h => h) (Or.inl ⟨by rfl, ?hp3⟩) (by assumption) ?rp3
          case hp3 => intro wq hSw; (try dsimp only at hSw); go_simp; (try with_reducible rfl)
          (try simp only [Act.put, List.setIfInBounds_toArray, List.set_cons_zero, List.set_cons_succ])
          refine wpLast_take (i := 4) (oi := ⟨some 92, _, _, _, _, _⟩) (v := ?vp4) rfl (by kernel_rfl) (by kernel_rfl) (by kernel_rfl) (by kernel_rfl) (by decide) (fun _ _ _ h => h) (Or.inl ⟨by rfl, ?hp4⟩) (by assumption) ?rp4
          case hp4 => intro wq hSw; (try dsimp only at hSw); go_simp; (try with_reducible rfl)
          (try simp only [Act.put, List.setIfInBounds_toArray, List.set_cons_zero, List.set_cons_succ])
          refine wpLast_take (i := 5) (oi := ⟨some 93, _, _, _, _, _⟩) (v := ?vp5) rfl (by kernel_rfl) (by kernel_rfl) (by kernel_rfl) (by kernel_rfl) (by decide) (fun _ _ _ h => h) (Or.inl ⟨by rfl, ?hp5⟩) (by assumption) ?rp5
          case hp5 => intro wq hSw; (try dsimp only at hSw); go_simp; (try with_reducible rfl)
          (try simp only [Act.put, List.setIfInBounds_toArray, List.set_cons_zero, List.set_cons_succ])
          refine wpLast_take (i := 6) (oi := ⟨some 94, _, _, _, _, _⟩) (v := ?vp6) rfl (by kernel_rfl) (by kernel_rfl) (by kernel_rfl) (by kernel_rfl) (by decide) (fun _ _ _ h => h) (Or.inl ⟨by rfl, ?hp6⟩) (by assumption) ?rp6
          case hp6 => intro wq hSw; (try dsimp only at hSw); go_simp; (try with_reducible rfl)
          (try simp only [Act.put, List.setIfInBounds_toArray, List.set_cons_zero, List.set_cons_succ])
          refine wpLast_take (i := 7) (oi := ⟨some 95, _, _, _, _, _⟩) (v := ?vp7) rfl (by kernel_rfl) (by kernel_rfl) (by kernel_rfl) (by kernel_rfl) (by decide) (fun _ _ _ h => h) (Or.inl ⟨by rfl, ?hp7⟩) (by assumption) ?rp7
          case hp7 => intro wq hSw; (try dsimp only at hSw); go_simp; (try with_reducible rfl)
          (try simp only [Act.put, List.setIfInBounds_toArray, List.set_cons_zero, List.set_cons_succ])
          refine wpLast_take (i := 8) (oi := ⟨some 96, _, _, _, _, _⟩) (v := ?vp8) rfl (by kernel_rfl) (by kernel_rfl) (by kernel_rfl) (by kernel_rfl) (by decide) (fun _ _ _ h => h) (Or.inl ⟨by rfl, ?hp8⟩) (by assumption) ?rp8
          case hp8 => intro wq hSw; (try dsimp only at hSw); go_simp; (try with_reducible rfl)
          (try simp only [Act.put, List.setIfInBounds_toArray, List.set_cons_zero, List.set_cons_succ])
          refine wpLast_take (i := 9) (oi := ⟨some 97, _, _, _, _, _⟩) (v := ?vp9) rfl (by kernel_rfl) (by kernel_rfl) (by kernel_rfl) (by kernel_rfl) (by decide) (fun _ _ _ h => h) (Or.inl ⟨by rfl, ?hp9⟩) (by assumption) ?rp9
          case hp9 => intro wq hSw; (try dsimp only at hSw); go_simp; (try with_reducible rfl)
          (try simp only [Act.put, List.setIfInBounds_toArray, List.set_cons_zero, List.set_cons_succ])
          refine wpLast_one (i := 10) (o := ⟨some 98, _, _, _, _, _⟩) (by kernel_rfl) rfl (fun K hK => ?_)
          go_simp
          refine HOF.out.mono ?_
          rintro e w2 ⟨co, rfl, h1, h2, h3, h4, h5⟩
          have o3 := (Only.refl S0 w).drew.trans h3
          obtain ⟨n1, n2⟩ := HG.out.gm.new_ (Nat.le_of_lt hp) HA.out o3 (show CIs w2 X.cb X.bb X.bg X.bc X.bd (fun k => w.heap.size ≤ k) co (.poll ⟨2, p, 0⟩) from h1) (by rw [upd_ne _ _ (by omega)]; exact HG.out.gm.sho)
          have y0 := n1.c0
          have y1 := n1.c1
          have y4 := n1.ops.frozen p
          have y6 := n1.ops.cellv (tabC_get (fun i => optr act (upd bo p co) i) hp)
          rw [off_ HA.out] at y6
          have g5 := n1.onW hX hp HA.out n2
          rw [upd_same] at g5
          have G5 := hide g5
          clear h1 h2 h3 h4 h5 o3 n1 n2 g5
          refine hK.out _ _ (fun _ => ⟨y0, y1⟩) ?_
          clear kk
          clear hK K
          refine wpLast_one (i := 11) (o := ⟨some 99, _, _, _, _, _⟩) (by kernel_rfl) rfl (fun K hK => ?_)
          go_simp
          refine hK.out _ _ (fun _ => ⟨y0, y1⟩) ?_
          clear hK K
          (try simp only [Act.put, List.setIfInBounds_toArray, List.set_cons_zero, List.set_cons_succ])
          refine wpLast_one (i := 12) (o := ⟨none, _, _, _, _, _⟩) (by kernel_rfl) rfl (fun K hK => ?_)
          go_simp
          refine hK.out _ _ (fun h => absurd rfl h) ?_
          clear hK K
          refine wpLast_done (by kernel_rfl) ?_ _
          go_wp2_with fail
          go_meet
          obtain ⟨b1, b2⟩ := HG.out.bi.begin_poll hp HID.out HK.out
          refine ⟨L, tc, _, _, _, _, pv, ps, G5.out, b1, upd_same _ _ _, by rw [upd_same]; rfl, fun t _ htp => ⟨upd_ne _ _ htp, upd_ne _ _ htp⟩, HG.out.tcb, by have := HG.out.pl; omega, b2⟩
      · rw [hk] at cp
        have HK := hide hk
        clear hk
        as_aux_lemma =>
          have c3 := HG.out.gm.c3
          have cl := HG.out.gm.lfs.cellv (tabC_get (fun i => Value.int .u64 (lf i)) hp)
          have hlv := HG.out.bi.lfv p hp HK.out HID.out
          go_upto_region 2 with fail
          go_cut [] (fun wx => ∃ co, GM X w0 wx L tc (upd o p (.push p (lf p) (pushOp (lf p)))) (ownJ own w.heap.size p) (upd act p true) (upd bo p co) ph lf nx fv pv fd ps)
          case first =>
            have hof := Offer_all (w := w.drew) (p : Int) (lf p) (u64_small hlv) (HG.out.gm.only0 (Only.refl S0 w).drew).env
            rw [show offerC (crewF X.n X.s) (p : Int) (lf p) = .push p (lf p) (pushOp (lf p)) from by unfold offerC; rw [if_pos ⟨hp0, hpn⟩]; (try rfl)] at hof
            have HOF := hide hof
            clear hof
            have kk : (fun w' : World => (w'.cell? ⟨X.gb, 0, none⟩ = some (.pointer (some ⟨X.cb, 0, none⟩)) ∧ w'.cell? ⟨X.gb, 1, none⟩ = some (.slice (some ⟨X.ob, 0, none⟩) X.n X.n)) ∧ w'.cell? ⟨X.gb, 3, none⟩ = some (.slice (some ⟨X.lb, 0, none⟩) X.n X.n) ∧ w'.cell? ⟨X.lb, p, none⟩ = some (.int .u64 (lf p))) w.drew := ⟨⟨c0, c1⟩, c3, cl⟩
            refine wp_region_last 19 (fun w' : World => (w'.cell? ⟨X.gb, 0, none⟩ = some (.pointer (some ⟨X.cb, 0, none⟩)) ∧ w'.cell? ⟨X.gb, 1, none⟩ = some (.slice (some ⟨X.ob, 0, none⟩) X.n X.n)) ∧ w'.cell? ⟨X.gb, 3, none⟩ = some (.slice (some ⟨X.lb, 0, none⟩) X.n X.n) ∧ w'.cell? ⟨X.lb, p, none⟩ = some (.int .u64 (lf p))) (by kernel_rfl) ?_
            refine wpLast_take (i := 0) (oi := ⟨some 22, _, _, _, _, _⟩) (v := ?vo0) rfl (by kernel_rfl) (by kernel_rfl) (by kernel_rfl) (by kernel_rfl) (by decide) (fun _ _ _ h => h) (Or.inl ⟨by rfl, ?ho0⟩) (by assumption) ?ro0
            case ho0 => intro wq hSw; (try dsimp only at hSw); go_simp; (try with_reducible rfl)
            (try simp only [Act.put, List.setIfInBounds_toArray, List.set_cons_zero, List.set_cons_succ])
            refine wpLast_take (i := 1) (oi := ⟨some 23, _, _, _, _, _⟩) (v := ?vo1) rfl (by kernel_rfl) (by kernel_rfl) (by kernel_rfl) (by kernel_rfl) (by decide) (fun _ _ _ h => h) (Or.inl ⟨by rfl, ?ho1⟩) (by assumption) ?ro1
            case ho1 => intro wq hSw; (try dsimp only at hSw); go_simp; (try with_reducible rfl)
            (try simp only [Act.put, List.setIfInBounds_toArray, List.set_cons_zero, List.set_cons_succ])
            refine wpLast_take (i := 2) (oi := ⟨some 24, _, _, _, _, _⟩) (v := ?vo2) rfl (by kernel_rfl) (by kernel_rfl) (by kernel_rfl) (by kernel_rfl) (by decide) (fun _ _ _ h => h) (Or.inl ⟨by rfl, ?ho2⟩) (by assumption) ?ro2
            case ho2 => intro wq hSw; (try dsimp only at hSw); go_simp; (try with_reducible rfl)
            (try simp only [Act.put, List.setIfInBounds_toArray, List.set_cons_zero, List.set_cons_succ])
            refine wpLast_take (i := 3) (oi := ⟨some 25, _, _, _, _, _⟩) (v := ?vo3) rfl (by kernel_rfl) (by kernel_rfl) (by kernel_rfl) (by kernel_rfl) (by decide) (fun _ _ _ h => h) (Or.inl ⟨by rfl, ?ho3⟩) (by assumption) ?ro3
            case ho3 => intro wq hSw; (try dsimp only at hSw); go_simp; (try with_reducible rfl)
            (try simp only [Act.put, List.setIfInBounds_toArray, List.set_cons_zero, List.set_cons_succ])
            refine wpLast_take (i := 4) (oi := ⟨some 26, _, _, _, _, _⟩) (v := ?vo4) rfl (by kernel_rfl) (by kernel_rfl) (by kernel_rfl) (by kernel_rfl) (by decide) (fun _ _ _ h => h) (Or.inl ⟨by rfl, ?ho4⟩) (by assumption) ?ro4
            case ho4 => intro wq hSw; (try dsimp only at hSw); go_simp; (try with_reducible rfl)
            (try simp only [Act.put, List.setIfInBounds_toArray, List.set_cons_zero, List.set_cons_succ])
            refine wpLast_take (i := 5) (oi := ⟨some 27, _, _, _, _, _⟩) (v := ?vo5) rfl (by kernel_rfl) (by kernel_rfl) (by kernel_rfl) (by kernel_rfl) (by decide) (fun _ _ _ h => h) (Or.inl ⟨by rfl, ?ho5⟩) (by assumption) ?ro5
            case ho5 => intro wq hSw; (try dsimp only at hSw); go_simp; (try with_reducible rfl)
            (try simp only [Act.put, List.setIfInBounds_toArray, List.set_cons_zero, List.set_cons_succ])
            refine wpLast_take (i := 6) (oi := ⟨some 28, _, _, _, _, _⟩) (v := ?vo6) rfl (by kernel_rfl) (by kernel_rfl) (by kernel_rfl) (by kernel_rfl) (by decide) (fun _ _ _ h => h) (Or.inl ⟨by rfl, ?ho6⟩) (by assumption) ?ro6
            case ho6 => intro wq hSw; (try dsimp only at hSw); go_simp; (try with_reducible rfl)
            (try simp only [Act.put, List.setIfInBounds_toArray, List.set_cons_zero, List.set_cons_succ])
            refine wpLast_take (i := 7) (oi := ⟨some 29, _, _, _, _, _⟩) (v := ?vo7) rfl (by kernel_rfl) (by kernel_rfl) (by kernel_rfl) (by kernel_rfl) (by decide) (fun _ _ _ h => h) (Or.inl ⟨by rfl, ?ho7⟩) (by assumption) ?ro7
            case ho7 => intro wq hSw; (try dsimp only at hSw); go_simp; (try with_reducible rfl)
            (try simp only [Act.put, List.setIfInBounds_toArray, List.set_cons_zero, List.set_cons_succ])
            refine wpLast_take (i := 8) (oi := ⟨some 30, _, _, _, _, _⟩) (v := ?vo8) rfl (by kernel_rfl) (by kernel_rfl) (by kernel_rfl) (by kernel_rfl) (by decide) (fun _ _ _ h => h) (Or.inl ⟨by rfl, ?ho8⟩) (by assumption) ?ro8
            case ho8 => intro wq hSw; (try dsimp only at hSw); go_simp; (try with_reducible rfl)
            (try simp only [Act.put, List.setIfInBounds_toArray, List.set_cons_zero, List.set_cons_succ])
            refine wpLast_take (i := 9) (oi := ⟨some 31, _, _, _, _, _⟩) (v := ?vo9) rfl (by kernel_rfl) (by kernel_rfl) (by kernel_rfl) (by kernel_rfl) (by decide) (fun _ _ _ h => h) (Or.inl ⟨by rfl, ?ho9⟩) (by assumption) ?ro9
            case ho9 => intro wq hSw; (try dsimp only at hSw); go_simp; (try with_reducible rfl)
            (try simp only [Act.put, List.setIfInBounds_toArray, List.set_cons_zero, List.set_cons_succ])
            refine wpLast_take (i := 10) (oi := ⟨some 32, _, _, _, _, _⟩) (v := ?vo10) rfl (by kernel_rfl) (by kernel_rfl) (by kernel_rfl) (by kernel_rfl) (by decide) (fun _ _ _ h => h) (Or.inl ⟨by rfl, ?ho10⟩) (by assumption) ?ro10
            case ho10 => intro wq hSw; (try dsimp only at hSw); go_simp; (try with_reducible rfl)
            (try simp only [Act.put, List.setIfInBounds_toArray, List.set_cons_zero, List.set_cons_succ])
            refine wpLast_take (i := 11) (oi := ⟨some 33, _, _, _, _, _⟩) (v := ?vo11) rfl (by kernel_rfl) (by kernel_rfl) (by kernel_rfl) (by kernel_rfl) (by decide) (fun _ _ _ h => h) (Or.inl ⟨by rfl, ?ho11⟩) (by assumption) ?ro11
            case ho11 => intro wq hSw; (try dsimp only at hSw); go_simp; (try with_reducible rfl)
            (try simp only [Act.put, List.setIfInBounds_toArray, List.set_cons_zero, List.set_cons_succ])
            refine wpLast_take (i := 12) (oi := ⟨some 34, _, _, _, _, _⟩) (v := ?vo12) rfl (by kernel_rfl) (by kernel_rfl) (by kernel_rfl) (by kernel_rfl) (by decide) (fun _ _ _ h => h) (Or.inl ⟨by rfl, ?ho12⟩) (by assumption) ?ro12
            case ho12 => intro wq hSw; (try dsimp only at hSw); go_simp; (try with_reducible rfl)
            (try simp only [Act.put, List.setIfInBounds_toArray, List.set_cons_zero, List.set_cons_succ])
            refine wpLast_take (i := 13) (oi := ⟨some 35, _, _, _, _, _⟩) (v := ?vo13) rfl (by kernel_rfl) (by kernel_rfl) (by kernel_rfl) (by kernel_rfl) (by decide) (fun _ _ _ h => h) (Or.inl ⟨by rfl, ?ho13⟩) (by assumption) ?ro13
            case ho13 => intro wq hSw; (try dsimp only at hSw); go_simp; (try with_reducible rfl)
            (try simp only [Act.put, List.setIfInBounds_toArray, List.set_cons_zero, List.set_cons_succ])
            refine wpLast_take (i := 14) (oi := ⟨some 36, _, _, _, _, _⟩) (v := ?vo14) rfl (by kernel_rfl) (by kernel_rfl) (by kernel_rfl) (by kernel_rfl) (by decide) (fun _ _ _ h => h) (Or.inl ⟨by rfl, ?ho14⟩) (by assumption) ?ro14
            case ho14 => intro wq hSw; (try dsimp only at hSw); go_simp; (try with_reducible rfl)
            (try simp only [Act.put, List.setIfInBounds_toArray, List.set_cons_zero, List.set_cons_succ])
            refine wpLast_take (i := 15) (oi := ⟨some 37, _, _, _, _, _⟩) (v := ?vo15) rfl (by kernel_rfl) (by kernel_rfl) (by kernel_rfl) (by kernel_rfl) (by decide) (fun _ _ _ h => h) (Or.inl ⟨by rfl, ?ho15⟩) (by assumption) ?ro15
            case ho15 => intro wq hSw; (try dsimp only at hSw); go_simp; (try with_reducible rfl)
            (try simp only [Act.put, List.setIfInBounds_toArray, List.set_cons_zero, List.set_cons_succ])
            refine wpLast_take (i := 16) (oi := ⟨some 38, _, _, _, _, _⟩) (v := ?vo16) rfl (by kernel_rfl) (by kernel_rfl) (by kernel_rfl) (by kernel_rfl) (by decide) (fun _ _ _ h => h) (Or.inl ⟨by rfl, ?ho16⟩) (by assumption) ?ro16
            case ho16 => intro wq hSw; (try dsimp only at hSw); go_simp; (try with_reducible rfl)
            (try simp only [Act.put, List.setIfInBounds_toArray, List.set_cons_zero, List.set_cons_succ])
            refine wpLast_one (i := 17) (o := ⟨some 39, _, _, _, _, _⟩) (by kernel_rfl) rfl (fun K hK => ?_)
            go_simp
            refine HOF.out.mono ?_
            rintro e w2 ⟨co, rfl, h1, h2, h3, h4, h5⟩
            have o3 := (Only.refl S0 w).drew.trans h3
            obtain ⟨n1, n2⟩ := HG.out.gm.new_ (Nat.le_of_lt hp) HA.out o3 (show CIs w2 X.cb X.bb X.bg X.bc X.bd (fun k => w.heap.size ≤ k) co (.push p (lf p) (pushOp (lf p))) from h1) (by rw [upd_ne _ _ (by omega)]; exact HG.out.gm.sho)
            have y0 := n1.c0
            have y1 := n1.c1
            have y3 := n1.c3
            have yl := n1.lfs.cellv (tabC_get (fun i => Value.int .u64 (lf i)) hp)
            have y4 := n1.ops.frozen p
            have y6 := n1.ops.cellv (tabC_get (fun i => optr act (upd bo p co) i) hp)
            rw [off_ HA.out] at y6
            have g5 := n1.onW hX hp HA.out n2
            rw [upd_same] at g5
            have G5 := hide g5
            clear h1 h2 h3 h4 h5 o3 n1 n2 g5
            refine hK.out _ _ (fun _ => ⟨⟨y0, y1⟩, y3, yl⟩) ?_
            clear kk
            clear hK K
            refine wpLast_one (i := 18) (o := ⟨some 40, _, _, _, _, _⟩) (by kernel_rfl) rfl (fun K hK => ?_)
            go_simp
            refine hK.out _ _ (fun _ => ⟨⟨y0, y1⟩, y3, yl⟩) ?_
            clear hK K
            (try simp only [Act.put, List.setIfInBounds_toArray, List.set_cons_zero, List.set_cons_succ])
            refine wpLast_one (i := 19) (o := ⟨none, _, _, _, _, _⟩) (by kernel_rfl) rfl (fun K hK => ?_)
            go_simp
            refine hK.out _ _ (fun h => absurd rfl h) ?_
            clear hK K
            refine wpLast_done (by kernel_rfl) ?_ _
            go_wp2_with fail
            go_meet
            exact ⟨co, G5.out⟩
          case rest =>
          obtain ⟨co, hg3⟩ := hcut
          have G3 := hide hg3
          clear hg3 c0 c1 c2 c3 cl cp
          have hpl := HG.out.pl
          generalize wc = w2 at G3 ⊢
          go_upto_region 3 with fail
          have G4 := hide (G3.out.only0 (Only.refl S0 w2).drew)
          have hb0 := G4.out.le
          have kk : (fun w' : World => w'.cell? ⟨X.gb, 7, none⟩ = some pv ∧ w'.cell? ⟨X.gb, 3, none⟩ = some (.slice (some ⟨X.lb, 0, none⟩) X.n X.n) ∧ w'.cell? ⟨X.lb, p, none⟩ = some (.int .u64 (lf p))) w2.drew := ⟨G4.out.c7, G4.out.c3, G4.out.lfs.cellv (tabC_get (fun i => Value.int .u64 (lf i)) hp)⟩
          refine wp_region_last 16 (fun w' : World => w'.cell? ⟨X.gb, 7, none⟩ = some pv ∧ w'.cell? ⟨X.gb, 3, none⟩ = some (.slice (some ⟨X.lb, 0, none⟩) X.n X.n) ∧ w'.cell? ⟨X.lb, p, none⟩ = some (.int .u64 (lf p))) (by kernel_rfl) ?_
          generalize w2.drew = w3 at G4 kk hb0 ⊢
          refine wpLast_take (i := 0) (oi := ⟨some 41, _, _, _, _, _⟩) (v := ?vq0) rfl (by kernel_rfl) (by kernel_rfl) (by kernel_rfl) (by kernel_rfl) (by decide) (fun _ _ _ h => h) (Or.inl ⟨by rfl, ?hq0⟩) (by assumption) ?rq0
          case hq0 => intro wq hSw; (try dsimp only at hSw); go_simp; (try with_reducible rfl)
          (try simp only [Act.put, List.setIfInBounds_toArray, List.set_cons_zero, List.set_cons_succ])
          refine wpLast_take (i := 1) (oi := ⟨some 42, _, _, _, _, _⟩) (v := ?vq1) rfl (by kernel_rfl) (by kernel_rfl) (by kernel_rfl) (by kernel_rfl) (by decide) (fun _ _ _ h => h) (Or.inl ⟨by rfl, ?hq1⟩) (by assumption) ?rq1
          case hq1 => intro wq hSw; (try dsimp only at hSw); go_simp; (try with_reducible rfl)
          (try simp only [Act.put, List.setIfInBounds_toArray, List.set_cons_zero, List.set_cons_succ])
          refine wpLast_take (i := 2) (oi := ⟨some 43, _, _, _, _, _⟩) (v := ?vq2) rfl (by kernel_rfl) (by kernel_rfl) (by kernel_rfl) (by kernel_rfl) (by decide) (fun _ _ _ h => h) (Or.inl ⟨by rfl, ?hq2⟩) (by assumption) ?rq2
          case hq2 => intro wq hSw; (try dsimp only at hSw); go_simp; (try with_reducible rfl)
          (try simp only [Act.put, List.setIfInBounds_toArray, List.set_cons_zero, List.set_cons_succ])
          refine wpLast_take (i := 3) (oi := ⟨some 44, _, _, _, _, _⟩) (v := ?vq3) rfl (by kernel_rfl) (by kernel_rfl) (by kernel_rfl) (by kernel_rfl) (by decide) (fun _ _ _ h => h) (Or.inl ⟨by rfl, ?hq3⟩) (by assumption) ?rq3
          case hq3 => intro wq hSw; (try dsimp only at hSw); go_simp; (try with_reducible rfl)
          (try simp only [Act.put, List.setIfInBounds_toArray, List.set_cons_zero, List.set_cons_succ])
          refine wpLast_take (i := 4) (oi := ⟨some 45, _, _, _, _, _⟩) (v := ?vq4) rfl (by kernel_rfl) (by kernel_rfl) (by kernel_rfl) (by kernel_rfl) (by decide) (fun _ _ _ h => h) (Or.inl ⟨by rfl, ?hq4⟩) (by assumption) ?rq4
          case hq4 => intro wq hSw; (try dsimp only at hSw); go_simp; (try with_reducible rfl)
          (try simp only [Act.put, List.setIfInBounds_toArray, List.set_cons_zero, List.set_cons_succ])
          refine wpLast_take (i := 5) (oi := ⟨some 46, _, _, _, _, _⟩) (v := ?vq5) rfl (by kernel_rfl) (by kernel_rfl) (by kernel_rfl) (by kernel_rfl) (by decide) (fun _ _ _ h => h) (Or.inl ⟨by rfl, ?hq5⟩) (by assumption) ?rq5
          case hq5 => intro wq hSw; (try dsimp only at hSw); go_simp; (try with_reducible rfl)
          (try simp only [Act.put, List.setIfInBounds_toArray, List.set_cons_zero, List.set_cons_succ])
          refine wpLast_take (i := 6) (oi := ⟨some 47, _, _, _, _, _⟩) (v := ?vq6) rfl (by kernel_rfl) (by kernel_rfl) (by kernel_rfl) (by kernel_rfl) (by decide) (fun _ _ _ h => h) (Or.inl ⟨by rfl, ?hq6⟩) (by assumption) ?rq6
          case hq6 => intro wq hSw; (try dsimp only at hSw); go_simp; (try with_reducible rfl)
          (try simp only [Act.put, List.setIfInBounds_toArray, List.set_cons_zero, List.set_cons_succ])
          refine wpLast_take (i := 7) (oi := ⟨some 48, _, _, _, _, _⟩) (v := ?vq7) rfl (by kernel_rfl) (by kernel_rfl) (by kernel_rfl) (by kernel_rfl) (by decide) (fun _ _ _ h => h) (Or.inl ⟨by rfl, ?hq7⟩) (by assumption) ?rq7
          case hq7 => intro wq hSw; (try dsimp only at hSw); go_simp; (try with_reducible rfl)
          (try simp only [Act.put, List.setIfInBounds_toArray, List.set_cons_zero, List.set_cons_succ])
          refine wpLast_take (i := 8) (oi := ⟨some 49, _, _, _, _, _⟩) (v := ?vq8) rfl (by kernel_rfl) (by kernel_rfl) (by kernel_rfl) (by kernel_rfl) (by decide) (fun _ _ _ h => h) (Or.inl ⟨by rfl, ?hq8⟩) (by assumption) ?rq8
          case hq8 => intro wq hSw; (try dsimp only at hSw); go_simp; (try with_reducible rfl)
          (try simp only [Act.put, List.setIfInBounds_toArray, List.set_cons_zero, List.set_cons_succ])
          refine wpLast_take (i := 9) (oi := ⟨some 50, _, _, _, _, _⟩) (v := ?vq9) rfl (by kernel_rfl) (by kernel_rfl) (by kernel_rfl) (by kernel_rfl) (by decide) (fun _ _ _ h => h) (Or.inl ⟨by rfl, ?hq9⟩) (by assumption) ?rq9
          case hq9 => intro wq hSw; (try dsimp only at hSw); go_simp; (try with_reducible rfl)
          (try simp only [Act.put, List.setIfInBounds_toArray, List.set_cons_zero, List.set_cons_succ])
          refine wpLast_take (i := 10) (oi := ⟨some 51, _, _, _, _, _⟩) (v := ?vq10) rfl (by kernel_rfl) (by kernel_rfl) (by kernel_rfl) (by kernel_rfl) (by decide) (fun _ _ _ h => h) (Or.inl ⟨by rfl, ?hq10⟩) (by assumption) ?rq10
          case hq10 => intro wq hSw; (try dsimp only at hSw); go_simp; (try with_reducible rfl)
          (try simp only [Act.put, List.setIfInBounds_toArray, List.set_cons_zero, List.set_cons_succ])
          refine wpLast_take (i := 11) (oi := ⟨some 52, _, _, _, _, _⟩) (v := ?vq11) rfl (by kernel_rfl) (by kernel_rfl) (by kernel_rfl) (by kernel_rfl) (by decide) (fun _ _ _ h => h) (Or.inl ⟨by rfl, ?hq11⟩) (by assumption) ?rq11
          case hq11 => intro wq hSw; (try dsimp only at hSw); go_simp; (try with_reducible rfl)
          (try simp only [Act.put, List.setIfInBounds_toArray, List.set_cons_zero, List.set_cons_succ])
          refine wpLast_one (i := 12) (o := ⟨some 53, _, _, _, _, _⟩) (by kernel_rfl) rfl (fun K hK => ?_)
          go_simp
          have G6 := hide (G4.out.only0 ((Only.refl S0 w3).alloc (.cells #[.int .u64 (lf p)] 31)))
          refine hK.out _ _ (fun _ => ⟨G6.out.c7, G6.out.c3, G6.out.lfs.cellv (tabC_get (fun i => Value.int .u64 (lf i)) hp)⟩) ?_
          clear hK K
          (try simp only [Act.put, List.setIfInBounds_toArray, List.set_cons_zero, List.set_cons_succ])
          refine wpLast_one (i := 13) (o := ⟨some 54, _, _, _, _, _⟩) (by kernel_rfl) rfl (fun K hK => ?_)
          refine step_app rfl _ _ _ rfl 31 (.int .u64 0) 8 Try.underlying23 info_u64 rfl X.B0 pv (ou64s ps) (.int .u64 (lf p)) rfl G6.out.psl.sl ⟨w3.heap.size, 0, none⟩ rfl (by rw [cell_one_new']) rfl (by rw [ou64s_len]; omega) (by rw [ou64s_len]; unfold maxLen; omega) G6.out.le ?_
          intro g6 c6 w4 hsl hon hnew
          rw [← ou64s_snoc] at hsl
          obtain ⟨a1, a2, a3, a4, a5, a6, a7, a8⟩ := G6.out.grow_ hX G6.out.psl hon
          have q7 : w4.cell? ⟨X.gb, 7, none⟩ = some pv := a3.cellv rfl
          have q3 : w4.cell? ⟨X.gb, 3, none⟩ = some (.slice (some ⟨X.lb, 0, none⟩) X.n X.n) := a3.cellv rfl
          have ql := a6.cellv (tabC_get (fun i => Value.int .u64 (lf i)) hp)
          have f7 := a3.frozen 7
          have G7 := hide (G6.out.appP hX hon hsl hnew)
          clear a1 a2 a3 a4 a5 a6 a7 a8 hsl hon hnew
          refine hK.out _ _ (fun _ => ⟨q7, q3, ql⟩) ?_
          clear hK K
          refine wpLast_one (i := 14) (o := ⟨some 55, _, _, _, _, _⟩) (by kernel_rfl) rfl (fun K hK => ?_)
          go_simp
          refine hK.out _ _ (fun _ => ⟨q7, q3, ql⟩) ?_
          clear hK K
          (try simp only [Act.put, List.setIfInBounds_toArray, List.set_cons_zero, List.set_cons_succ])
          refine wpLast_one (i := 15) (o := ⟨some 56, _, _, _, _, _⟩) (by kernel_rfl) rfl (fun K hK => ?_)
          go_simp
          refine hK.out _ _ (fun _ => ⟨q7, q3, ql⟩) ?_
          clear hK K
          (try simp only [Act.put, List.setIfInBounds_toArray, List.set_cons_zero, List.set_cons_succ])
          refine wpLast_one (i := 16) (o := ⟨none, _, _, _, _, _⟩) (by kernel_rfl) rfl (fun K hK => ?_)
          go_simp
          refine hK.out _ _ (fun h => absurd rfl h) ?_
          clear hK K
          refine wpLast_done (by kernel_rfl) ?_ _
          go_wp2_with fail
          go_meet
          obtain ⟨b1, b2⟩ := HG.out.bi.begin_offer hp HID.out HK.out
          refine ⟨L, tc, _, _, _, _, _, _, G7.out, b1, upd_same _ _ _, by rw [upd_same]; rfl, fun t _ htp => ⟨upd_ne _ _ htp, upd_ne _ _ htp⟩, HG.out.tcb, by rw [List.length_append]; have := HG.out.pl; simp; omega, b2⟩
  case rest =>
    obtain ⟨L1, tc1, o1, own1, act1, bo1, pv1, ps1, hgm, hbi, ha1, ho1, hoth, htc, hpl1, hpsi⟩ := hcut
    have G1 := hide hgm
    have B1 := hide hbi
    have HO := hide hoth
    have HPL := hide hpl1
    have HTC := hide htc
    have HA1 := hide ha1
    have HO1 := hide ho1
    have HPS := hide hpsi
    have d1 := hgm.c1
    have dop := hgm.ops.cellv (tabC_get (fun i => optr act1 bo1 i) hp)
    rw [on_ ha1] at dop
    clear hgm hbi hoth hpl1 htc ha1 ho1 hpsi c1 co
    go_wp2_with fail
    refine (COp_step G1.out.env (by have := B1.out.ci.ok p (Nat.le_of_lt hp); rw [B1.out.ci.len]; exact this) (G1.out.fam p (Nat.le_of_lt hp) HA1.out) (few_of _ (by have := HTC.out; omega)) HO1.out).mono ?_
    rintro e w5 ⟨rfl, h1, h2, S5, hoS, hft⟩
    obtain ⟨st', H', S', M', e1, e2, e3⟩ := B1.out.wstep hp HO1.out (by omega)
    rw [e1] at h1 ⊢
    generalize hL5 : (cstep (crewF X.n X.s) L1 (o1 p)).1 = L5 at h2 e3
    have G5 := hide (G1.out.step hX (Nat.le_of_lt hp) HA1.out hoS hft h1 h2 (by rw [upd_ne _ _ (by omega)]; exact G1.out.sho))
    have E3 := hide e3
    have hq := psi_work B1.out hp e2
    have HQ := hide hq
    have ENP := hide e2.npoll
    have ERUN := hide (e2.running 0).2
    clear h1 h2 hoS hft e1 e2 e3 hq
    by_cases hz : st'.out = 0
    · have HZ := hide hz
      have hzb : (st'.out != 0) = false := by rw [hz]; rfl
      rw [hzb]
      clear hz hzb
      go_wp2_with fail
      refine bodyPost_ret (results_none rfl _ _ _) rfl ?_
      refine ⟨rfl, mk_worked HG.out hp G5.out E3.out (fun t ht e => by rw [upd_ne _ _ e]; exact HO.out t ht e) (by rw [upd_same, HA1.out, HZ.out]; rfl) (fun hne => by rw [upd_same] at hne; exact absurd HZ.out hne) (by rw [upd_same]; exact ENP.out) (by have := HTC.out; omega) (by have := HPL.out; omega) (by have := HG.out.fl; omega) ?_⟩
      rcases HQ.out with q | ⟨q1, q2, q3, q4, q5⟩
      · left; have := HPS.out; omega
      · have := HZ.out; rw [q3] at this; cases this
    · have HZ := hide hz
      have hzb : (st'.out != 0) = true := by simp [hz]
      rw [hzb]
      clear hz hzb
      have hov : ∃ a v, st' = .over a v := by
        cases hst : st' with
        | over a v => exact ⟨a, v, rfl⟩
        | _ => exact absurd (by rw [hst]; rfl) HZ.out
      obtain ⟨a, v, rfl⟩ := hov
      have k1 := G5.out.c1
      have f1 := G5.out.ops.frozen p
      have kop := G5.out.ops.cellv (tabC_get (fun i => optr act1 bo1 i) hp)
      rw [on_ HA1.out] at kop
      have hcs := G5.out.fam p (Nat.le_of_lt hp) HA1.out
      rw [upd_same] at hcs
      obtain ⟨cur, thn, hcop⟩ := hcs.cop
      have HC := hide (show Blk w5 (bo1 p) 70 #[cur, thn, .int .i64 a, .int .u64 v, .pointer (some ⟨X.cb, 0, none⟩)] from hcop)
      clear hcs hcop d1 dop
      have hovs := (by have := E3.out.ci.sh p hp; rw [upd_same] at this; exact this.overs ERUN.out : (ph p = 0 ∧ a = 1) ∨ (ph p = 0 ∧ a = 4) ∨ (ph p = 1 ∧ a = 1) ∨ (ph p = 1 ∧ a = 4) ∨ (ph p = 2 ∧ a = 1) ∨ (ph p = 2 ∧ a = 4) ∨ (ph p = 3 ∧ a = 1))
      have HOV := hide hovs
      clear hovs
      go_upto_region 14 with fail
      have G6 := hide (G5.out.clear_ hX p hp)
      have HC6 := hide (HC.out.far (p := ⟨X.ob, p, none⟩) (HC.out.ne_ G5.out.ops (by decide)) (.pointer none))
      generalize w5.setCell ⟨X.ob, p, none⟩ (.pointer none) = w6 at G6 HC6 ⊢
      have c2 := G6.out.c2
      have cp := G6.out.phs.cellv (tabC_get (fun i => Value.int .i64 (ph i : Int)) hp)
      have fp := G6.out.phs.frozen p
      clear k1 f1 kop HC
      have hovs := HOV.out
      rcases hovs with ⟨hk, rfl⟩ | ⟨hk, rfl⟩ | ⟨hk, rfl⟩ | ⟨hk, rfl⟩ | ⟨hk, rfl⟩ | ⟨hk, rfl⟩ | ⟨hk, rfl⟩
      all_goals (have HK := hide hk; rw [hk] at cp; clear hk)
      · as_aux_lemma =>
          go_wp2_with fail
          refine (COutcome_any HC6.out).mono ?_
          rintro e w7 ⟨rfl, rfl⟩
          obtain ⟨⟨hv1, hv2⟩, hb3, hb0⟩ := E3.out.fin_found hp (upd_same _ _ _) (.inl HK.out)
          have HB3 := hide hb3
          have HB0 := hide hb0
          clear hb3 hb0
          go_upto_region 18 with fail
          go_cut [6] (fun x6 wx => x6 = .pointer (some ⟨bo1 p, 0, none⟩) ∧ ∃ own6 fv6, GM X w0 wx L5 (tc1 + 1) (upd o1 p (.over 1 v)) own6 (upd act1 p false) bo1 ph lf nx fv6 pv1 (fd ++ [v]) ps1 ∧ Blk wx (bo1 p) 70 #[cur, thn, .int .i64 1, .int .u64 v, .pointer (some ⟨X.cb, 0, none⟩)])
          case first =>
            have hfl := HG.out.fl
            have G7 := hide (G6.out.only0 (Only.refl S0 w6).drew)
            have HC7 := hide (HC6.out.only (Only.refl S0 w6).drew (fun e => e))
            have hb0 := G7.out.le
            have kk : (fun w' : World => w'.cell? ⟨X.gb, 6, none⟩ = some fv) w6.drew := G7.out.c6
            refine wp_region_last 13 (fun w' : World => w'.cell? ⟨X.gb, 6, none⟩ = some fv) (by kernel_rfl) ?_
            generalize w6.drew = w7 at G7 HC7 kk hb0 ⊢
            refine wpLast_take (i := 0) (oi := ⟨some 180, _, _, _, _, _⟩) (v := ?vga0) rfl (by kernel_rfl) (by kernel_rfl) (by kernel_rfl) (by kernel_rfl) (by decide) (fun _ _ _ h => h) (Or.inl ⟨by rfl, ?hga0⟩) (by assumption) ?rga0
            case hga0 => intro wq hSw; (try dsimp only at hSw); go_simp; (try with_reducible rfl)
            (try simp only [Act.put, List.setIfInBounds_toArray, List.set_cons_zero, List.set_cons_succ])
            refine wpLast_take (i := 1) (oi := ⟨some 181, _, _, _, _, _⟩) (v := ?vga1) rfl (by kernel_rfl) (by kernel_rfl) (by kernel_rfl) (by kernel_rfl) (by decide) (fun _ _ _ h => h) (Or.inl ⟨by rfl, ?hga1⟩) (by assumption) ?rga1
            case hga1 => intro wq hSw; (try dsimp only at hSw); go_simp; (try with_reducible rfl)
            (try simp only [Act.put, List.setIfInBounds_toArray, List.set_cons_zero, List.set_cons_succ])
            refine wpLast_take (i := 2) (oi := ⟨some 182, _, _, _, _, _⟩) (v := ?vga2) rfl (by kernel_rfl) (by kernel_rfl) (by kernel_rfl) (by kernel_rfl) (by decide) (fun _ _ _ h => h) (Or.inl ⟨by rfl, ?hga2⟩) (by assumption) ?rga2
            case hga2 => intro wq hSw; (try dsimp only at hSw); go_simp; (try with_reducible rfl)
            (try simp only [Act.put, List.setIfInBounds_toArray, List.set_cons_zero, List.set_cons_succ])
            refine wpLast_take (i := 3) (oi := ⟨some 183, _, _, _, _, _⟩) (v := ?vga3) rfl (by kernel_rfl) (by kernel_rfl) (by kernel_rfl) (by kernel_rfl) (by decide) (fun _ _ _ h => h) (Or.inl ⟨by rfl, ?hga3⟩) (by assumption) ?rga3
            case hga3 => intro wq hSw; (try dsimp only at hSw); go_simp; (try with_reducible rfl)
            (try simp only [Act.put, List.setIfInBounds_toArray, List.set_cons_zero, List.set_cons_succ])
            refine wpLast_take (i := 4) (oi := ⟨some 184, _, _, _, _, _⟩) (v := ?vga4) rfl (by kernel_rfl) (by kernel_rfl) (by kernel_rfl) (by kernel_rfl) (by decide) (fun _ _ _ h => h) (Or.inl ⟨by rfl, ?hga4⟩) (by assumption) ?rga4
            case hga4 => intro wq hSw; (try dsimp only at hSw); go_simp; (try with_reducible rfl)
            (try simp only [Act.put, List.setIfInBounds_toArray, List.set_cons_zero, List.set_cons_succ])
            refine wpLast_take (i := 5) (oi := ⟨some 185, _, _, _, _, _⟩) (v := ?vga5) rfl (by kernel_rfl) (by kernel_rfl) (by kernel_rfl) (by kernel_rfl) (by decide) (fun _ _ _ h => h) (Or.inl ⟨by rfl, ?hga5⟩) (by assumption) ?rga5
            case hga5 => intro wq hSw; (try dsimp only at hSw); go_simp; (try with_reducible rfl)
            (try simp only [Act.put, List.setIfInBounds_toArray, List.set_cons_zero, List.set_cons_succ])
            refine wpLast_take (i := 6) (oi := ⟨some 186, _, _, _, _, _⟩) (v := ?vga6) rfl (by kernel_rfl) (by kernel_rfl) (by kernel_rfl) (by kernel_rfl) (by decide) (fun _ _ _ h => h) (Or.inl ⟨by rfl, ?hga6⟩) (by assumption) ?rga6
            case hga6 => intro wq hSw; (try dsimp only at hSw); go_simp; (try with_reducible rfl)
            (try simp only [Act.put, List.setIfInBounds_toArray, List.set_cons_zero, List.set_cons_succ])
            refine wpLast_take (i := 7) (oi := ⟨some 187, _, _, _, _, _⟩) (v := ?vga7) rfl (by kernel_rfl) (by kernel_rfl) (by kernel_rfl) (by kernel_rfl) (by decide) (fun _ _ _ h => h) (Or.inl ⟨by rfl, ?hga7⟩) (by assumption) ?rga7
            case hga7 => intro wq hSw; (try dsimp only at hSw); go_simp; (try with_reducible rfl)
            (try simp only [Act.put, List.setIfInBounds_toArray, List.set_cons_zero, List.set_cons_succ])
            refine wpLast_one (i := 8) (o := ⟨some 188, _, _, _, _, _⟩) (by kernel_rfl) rfl (fun K hK => ?_)
            go_simp
            refine (CValue_any HC7.out).mono ?_
            rintro e w8 ⟨rfl, rfl⟩
            refine hK.out _ _ (fun _ => G7.out.c6) ?_
            clear hK K
            refine wpLast_one (i := 9) (o := ⟨some 189, _, _, _, _, _⟩) (by kernel_rfl) rfl (fun K hK => ?_)
            go_simp
            have G8 := hide (G7.out.only0 ((Only.refl S0 w7).alloc (.cells #[.int .u64 v] 31)))
            have HC8 := hide (HC7.out.only ((Only.refl S0 w7).alloc (.cells #[.int .u64 v] 31)) (fun e => e))
            refine hK.out _ _ (fun _ => G8.out.c6) ?_
            clear hK K
            (try simp only [Act.put, List.setIfInBounds_toArray, List.set_cons_zero, List.set_cons_succ])
            refine wpLast_one (i := 10) (o := ⟨some 190, _, _, _, _, _⟩) (by kernel_rfl) rfl (fun K hK => ?_)
            refine step_app rfl _ _ _ rfl 31 (.int .u64 0) 8 Try.underlying23 info_u64 rfl X.B0 fv (ou64s fd) (.int .u64 v) rfl G8.out.fsl.sl ⟨w7.heap.size, 0, none⟩ rfl (by rw [cell_one_new']) rfl (by rw [ou64s_len]; omega) (by rw [ou64s_len]; unfold maxLen; omega) G8.out.le ?_
            intro g6 c6 w9 hsl hon hnew
            rw [← ou64s_snoc] at hsl
            obtain ⟨a1, a2, a3, a4, a5, a6, a7, a8⟩ := G8.out.grow_ hX G8.out.fsl hon
            have q6 : w9.cell? ⟨X.gb, 6, none⟩ = some fv := a3.cellv rfl
            have f6 := a3.frozen 6
            have HC9 := HC8.out.only hon (sl_off G8.out.fsl HC8.out (by decide))
            have HC10 := hide (HC9.far (p := ⟨X.gb, 6, none⟩) (HC9.ne_ a3 (by decide)) (.slice (some ⟨g6, 0, none⟩) (List.length (ou64s fd) + 1) c6))
            have G9 := hide (G8.out.appF hX hon hsl hnew)
            clear a1 a2 a3 a4 a5 a6 a7 a8 hsl hon hnew HC9
            refine hK.out _ _ (fun _ => q6) ?_
            clear hK K
            refine wpLast_one (i := 11) (o := ⟨some 191, _, _, _, _, _⟩) (by kernel_rfl) rfl (fun K hK => ?_)
            go_simp
            refine hK.out _ _ (fun _ => q6) ?_
            clear hK K
            (try simp only [Act.put, List.setIfInBounds_toArray, List.set_cons_zero, List.set_cons_succ])
            refine wpLast_one (i := 12) (o := ⟨some 192, _, _, _, _, _⟩) (by kernel_rfl) rfl (fun K hK => ?_)
            go_simp
            refine hK.out _ _ (fun _ => q6) ?_
            clear hK K
            (try simp only [Act.put, List.setIfInBounds_toArray, List.set_cons_zero, List.set_cons_succ])
            refine wpLast_one (i := 13) (o := ⟨none, _, _, _, _, _⟩) (by kernel_rfl) rfl (fun K hK => ?_)
            go_simp
            refine hK.out _ _ (fun h => absurd rfl h) ?_
            clear hK K
            refine wpLast_done (by kernel_rfl) ?_ _
            go_wp2_with fail
            go_meet
            exact ⟨rfl, _, _, G9.out, HC10.out⟩
          case rest =>
            obtain ⟨rfl, own6, fv6, hg6, hc6⟩ := hcut
            have GA := hide hg6
            have HCA := hide hc6
            clear hg6 hc6 c2 cp fp G6 HC6
            generalize wc = wa at GA HCA ⊢
            have c2 := GA.out.c2
            have cp := GA.out.phs.cellv (tabC_get (fun i => Value.int .i64 (ph i : Int)) hp)
            rw [HK.out] at cp
            have fp := GA.out.phs.frozen p
            go_upto_region 20 with fail
            have hg7 := GA.out.setPh hX p 0 hp (upd_same _ _ _)
            have hc7 := HCA.out.far (p := ⟨X.pb, p, none⟩) (HCA.out.ne_ GA.out.phs (by decide)) (.int .i64 ((0 : Nat) : Int))
            rw [show ((0 : Nat) : Int) = 0 from rfl] at hg7 hc7
            have GB := hide hg7
            have HCB := hide hc7
            clear hg7 hc7 c2 cp fp
            generalize wa.setCell ⟨X.pb, p, none⟩ (.int .i64 0) = wb at GB HCB ⊢
            go_wp2_with fail
            refine (CValue_any HCB.out).mono ?_
            rintro e w8 ⟨rfl, rfl⟩
            by_cases h3 : v % 3 = 0
            · have hb3 : (v % 3 == 0) = true := by rw [h3]; rfl
              go_upto_if 204 with fail
              (try rw [hb3])
              go_upto_region 21 with fail
              have hb := HB3.out h3
              have GC := hide (GB.out.only0 (Only.refl S0 wb).drew)
              have HCC := hide (HCB.out.only (Only.refl S0 wb).drew (fun e => e))
              have kk : (fun w' : World => w'.cell? ⟨X.gb, 3, none⟩ = some (.slice (some ⟨X.lb, 0, none⟩) X.n X.n)) wb.drew := GC.out.c3
              refine wp_region_last 11 (fun w' : World => w'.cell? ⟨X.gb, 3, none⟩ = some (.slice (some ⟨X.lb, 0, none⟩) X.n X.n)) (by kernel_rfl) ?_
              generalize wb.drew = wd at GC HCC kk ⊢
              have cl := GC.out.lfs.cellv (tabC_get (fun i => Value.int .u64 (lf i)) hp)
              have fl := GC.out.lfs.frozen p
              refine wpLast_take (i := 0) (oi := ⟨some 205, _, _, _, _, _⟩) (v := ?vla0) rfl (by kernel_rfl) (by kernel_rfl) (by kernel_rfl) (by kernel_rfl) (by decide) (fun _ _ _ h => h) (Or.inl ⟨by rfl, ?hla0⟩) (by assumption) ?rla0
              case hla0 => intro wq hSw; (try dsimp only at hSw); go_simp; (try with_reducible rfl)
              (try simp only [Act.put, List.setIfInBounds_toArray, List.set_cons_zero, List.set_cons_succ])
              refine wpLast_take (i := 1) (oi := ⟨some 206, _, _, _, _, _⟩) (v := ?vla1) rfl (by kernel_rfl) (by kernel_rfl) (by kernel_rfl) (by kernel_rfl) (by decide) (fun _ _ _ h => h) (Or.inl ⟨by rfl, ?hla1⟩) (by assumption) ?rla1
              case hla1 => intro wq hSw; (try dsimp only at hSw); go_simp; (try with_reducible rfl)
              (try simp only [Act.put, List.setIfInBounds_toArray, List.set_cons_zero, List.set_cons_succ])
              refine wpLast_take (i := 2) (oi := ⟨some 207, _, _, _, _, _⟩) (v := ?vla2) rfl (by kernel_rfl) (by kernel_rfl) (by kernel_rfl) (by kernel_rfl) (by decide) (fun _ _ _ h => h) (Or.inl ⟨by rfl, ?hla2⟩) (by assumption) ?rla2
              case hla2 => intro wq hSw; (try dsimp only at hSw); go_simp; (try with_reducible rfl)
              (try simp only [Act.put, List.setIfInBounds_toArray, List.set_cons_zero, List.set_cons_succ])
              refine wpLast_take (i := 3) (oi := ⟨some 208, _, _, _, _, _⟩) (v := ?vla3) rfl (by kernel_rfl) (by kernel_rfl) (by kernel_rfl) (by kernel_rfl) (by decide) (fun _ _ _ h => h) (Or.inl ⟨by rfl, ?hla3⟩) (by assumption) ?rla3
              case hla3 => intro wq hSw; (try dsimp only at hSw); go_simp; (try with_reducible rfl)
              (try simp only [Act.put, List.setIfInBounds_toArray, List.set_cons_zero, List.set_cons_succ])
              refine wpLast_take (i := 4) (oi := ⟨some 209, _, _, _, _, _⟩) (v := ?vla4) rfl (by kernel_rfl) (by kernel_rfl) (by kernel_rfl) (by kernel_rfl) (by decide) (fun _ _ _ h => h) (Or.inl ⟨by rfl, ?hla4⟩) (by assumption) ?rla4
              case hla4 => intro wq hSw; (try dsimp only at hSw); go_simp; (try with_reducible rfl)
              (try simp only [Act.put, List.setIfInBounds_toArray, List.set_cons_zero, List.set_cons_succ])
              refine wpLast_take (i := 5) (oi := ⟨some 210, _, _, _, _, _⟩) (v := ?vla5) rfl (by kernel_rfl) (by kernel_rfl) (by kernel_rfl) (by kernel_rfl) (by decide) (fun _ _ _ h => h) (Or.inl ⟨by rfl, ?hla5⟩) (by assumption) ?rla5
              case hla5 => intro wq hSw; (try dsimp only at hSw); go_simp; (try with_reducible rfl)
              (try simp only [Act.put, List.setIfInBounds_toArray, List.set_cons_zero, List.set_cons_succ])
              refine wpLast_take (i := 6) (oi := ⟨some 211, _, _, _, _, _⟩) (v := ?vla6) rfl (by kernel_rfl) (by kernel_rfl) (by kernel_rfl) (by kernel_rfl) (by decide) (fun _ _ _ h => h) (Or.inl ⟨by rfl, ?hla6⟩) (by assumption) ?rla6
              case hla6 => intro wq hSw; (try dsimp only at hSw); go_simp; (try with_reducible rfl)
              (try simp only [Act.put, List.setIfInBounds_toArray, List.set_cons_zero, List.set_cons_succ])
              refine wpLast_take (i := 7) (oi := ⟨some 212, _, _, _, _, _⟩) (v := ?vla7) rfl (by kernel_rfl) (by kernel_rfl) (by kernel_rfl) (by kernel_rfl) (by decide) (fun _ _ _ h => h) (Or.inl ⟨by rfl, ?hla7⟩) (by assumption) ?rla7
              case hla7 => intro wq hSw; (try dsimp only at hSw); go_simp; (try with_reducible rfl)
              (try simp only [Act.put, List.setIfInBounds_toArray, List.set_cons_zero, List.set_cons_succ])
              refine wpLast_one (i := 8) (o := ⟨some 213, _, _, _, _, _⟩) (by kernel_rfl) rfl (fun K hK => ?_)
              go_simp
              refine (CValue_any HCC.out).mono ?_
              rintro e w8 ⟨rfl, rfl⟩
              refine hK.out _ _ (fun _ => GC.out.c3) ?_
              clear hK K
              refine wpLast_one (i := 9) (o := ⟨some 214, _, _, _, _, _⟩) (by kernel_rfl) rfl (fun K hK => ?_)
              go_simp
              refine hK.out _ _ (fun _ => GC.out.c3) ?_
              clear hK K
              (try simp only [Act.put, List.setIfInBounds_toArray, List.set_cons_zero, List.set_cons_succ])
              refine wpLast_one (i := 10) (o := ⟨some 215, _, _, _, _, _⟩) (by kernel_rfl) rfl (fun K hK => ?_)
              go_simp
              refine hK.out _ _ (fun _ => GC.out.c3) ?_
              clear hK K
              (try simp only [Act.put, List.setIfInBounds_toArray, List.set_cons_zero, List.set_cons_succ])
              refine wpLast_one (i := 11) (o := ⟨none, _, _, _, _, _⟩) (by kernel_rfl) rfl (fun K hK => ?_)
              go_simp
              refine hK.out _ _ (fun h => absurd rfl h) ?_
              clear hK K
              refine wpLast_done (by kernel_rfl) ?_ _
              have GD := hide (GC.out.setLf hX p (v / 3))
              have c2 := GD.out.c2
              have cp := GD.out.phs.cellv (tabC_get (fun i => Value.int .i64 ((upd ph p 0) i : Int)) hp)
              have fp := GD.out.phs.frozen p
              go_wp2_with fail
              go_end0
              have hg := GD.out.setPh hX p 3 hp (upd_same _ _ _)
              rw [upd_upd'] at hg
              refine ⟨rfl, mk_worked HG.out hp ((hg).forget (t := p) (x := idleC) (upd_same _ _ _) (by rw [upd_ne _ _ (by omega), upd_ne _ _ (by omega)]; exact G1.out.sho)) (hb.1) (fun t ht e => by rw [upd_ne _ _ e, upd_ne _ _ e, upd_ne _ _ e]; exact HO.out t ht e) (by rw [upd_same, upd_same]; rfl) (fun _ => by rw [upd_same]) (by rw [upd_same]; intro b e; cases e) (by have := HTC.out; omega) (by have := HPL.out; omega) (by rw [List.length_append]; have := HG.out.fl; simp; omega) ?_⟩
              rcases HQ.out with q | ⟨q1, q2, q3, q4, q5⟩
              · exact .inl (psi_end q HPS.out hb.2)
              · exact absurd q1 (by rw [HK.out]; decide)
            · have hb3 : (v % 3 == 0) = false := by simpa using h3
              go_upto_if 204 with fail
              (try rw [hb3])
              have hb := HB0.out h3
              go_wp2_with fail
              go_end0
              refine ⟨rfl, mk_worked HG.out hp ((GB.out).forget (t := p) (x := idleC) (upd_same _ _ _) (by rw [upd_ne _ _ (by omega), upd_ne _ _ (by omega)]; exact G1.out.sho)) (hb.1) (fun t ht e => by rw [upd_ne _ _ e, upd_ne _ _ e, upd_ne _ _ e]; exact HO.out t ht e) (by rw [upd_same, upd_same]; rfl) (fun _ => by rw [upd_same]) (by rw [upd_same]; intro b e; cases e) (by have := HTC.out; omega) (by have := HPL.out; omega) (by rw [List.length_append]; have := HG.out.fl; simp; omega) ?_⟩
              rcases HQ.out with q | ⟨q1, q2, q3, q4, q5⟩
              · exact .inl (psi_end q HPS.out hb.2)
              · exact absurd q1 (by rw [HK.out]; decide)
      · as_aux_lemma =>
          go_wp2_with fail
          refine (COutcome_any HC6.out).mono ?_
          rintro e w7 ⟨rfl, rfl⟩
          go_wp2_with fail
          go_end0
          have hb := E3.out.fin_none hp (upd_same _ _ _) (.inl HK.out) (by decide) (by decide)
          rw [HK.out] at hb
          have hg := G6.out.setPh hX p 1 hp (upd_same _ _ _)
          refine ⟨rfl, mk_worked HG.out hp ((hg).forget (t := p) (x := idleC) (upd_same _ _ _) (by rw [upd_ne _ _ (by omega), upd_ne _ _ (by omega)]; exact G1.out.sho)) (hb.1) (fun t ht e => by rw [upd_ne _ _ e, upd_ne _ _ e, upd_ne _ _ e]; exact HO.out t ht e) (by rw [upd_same, upd_same]; rfl) (fun _ => by rw [upd_same]) (by rw [upd_same]; intro b e; cases e) (by have := HTC.out; omega) (by have := HPL.out; omega) (by have := HG.out.fl; omega) ?_⟩
          rcases HQ.out with q | ⟨q1, q2, q3, q4, q5⟩
          · exact .inl (psi_end q HPS.out hb.2)
          · exact absurd q1 (by rw [HK.out]; decide)
      · as_aux_lemma =>
          go_wp2_with fail
          refine (COutcome_any HC6.out).mono ?_
          rintro e w7 ⟨rfl, rfl⟩
          obtain ⟨⟨hv1, hv2⟩, hb3, hb0⟩ := E3.out.fin_found hp (upd_same _ _ _) (.inr HK.out)
          have HB3 := hide hb3
          have HB0 := hide hb0
          clear hb3 hb0
          go_upto_region 18 with fail
          go_cut [6] (fun x6 wx => x6 = .pointer (some ⟨bo1 p, 0, none⟩) ∧ ∃ own6 fv6, GM X w0 wx L5 (tc1 + 1) (upd o1 p (.over 1 v)) own6 (upd act1 p false) bo1 ph lf nx fv6 pv1 (fd ++ [v]) ps1 ∧ Blk wx (bo1 p) 70 #[cur, thn, .int .i64 1, .int .u64 v, .pointer (some ⟨X.cb, 0, none⟩)])
          case first =>
            have hfl := HG.out.fl
            have G7 := hide (G6.out.only0 (Only.refl S0 w6).drew)
            have HC7 := hide (HC6.out.only (Only.refl S0 w6).drew (fun e => e))
            have hb0 := G7.out.le
            have kk : (fun w' : World => w'.cell? ⟨X.gb, 6, none⟩ = some fv) w6.drew := G7.out.c6
            refine wp_region_last 13 (fun w' : World => w'.cell? ⟨X.gb, 6, none⟩ = some fv) (by kernel_rfl) ?_
            generalize w6.drew = w7 at G7 HC7 kk hb0 ⊢
            refine wpLast_take (i := 0) (oi := ⟨some 180, _, _, _, _, _⟩) (v := ?vgb0) rfl (by kernel_rfl) (by kernel_rfl) (by kernel_rfl) (by kernel_rfl) (by decide) (fun _ _ _ h => h) (Or.inl ⟨by rfl, ?hgb0⟩) (by assumption) ?rgb0
            case hgb0 => intro wq hSw; (try dsimp only at hSw); go_simp; (try with_reducible rfl)
            (try simp only [Act.put, List.setIfInBounds_toArray, List.set_cons_zero, List.set_cons_succ])
            refine wpLast_take (i := 1) (oi := ⟨some 181, _, _, _, _, _⟩) (v := ?vgb1) rfl (by kernel_rfl) (by kernel_rfl) (by kernel_rfl) (by kernel_rfl) (by decide) (fun _ _ _ h => h) (Or.inl ⟨by rfl, ?hgb1⟩) (by assumption) ?rgb1
            case hgb1 => intro wq hSw; (try dsimp only at hSw); go_simp; (try with_reducible rfl)
            (try simp only [Act.put, List.setIfInBounds_toArray, List.set_cons_zero, List.set_cons_succ])
            refine wpLast_take (i := 2) (oi := ⟨some 182, _, _, _, _, _⟩) (v := ?vgb2) rfl (by kernel_rfl) (by kernel_rfl) (by kernel_rfl) (by kernel_rfl) (by decide) (fun _ _ _ h => h) (Or.inl ⟨by rfl, ?hgb2⟩) (by assumption) ?rgb2
            case hgb2 => intro wq hSw; (try dsimp only at hSw); go_simp; (try with_reducible rfl)
            (try simp only [Act.put, List.setIfInBounds_toArray, List.set_cons_zero, List.set_cons_succ])
            refine wpLast_take (i := 3) (oi := ⟨some 183, _, _, _, _, _⟩) (v := ?vgb3) rfl (by kernel_rfl) (by kernel_rfl) (by kernel_rfl) (by kernel_rfl) (by decide) (fun _ _ _ h => h) (Or.inl ⟨by rfl, ?hgb3⟩) (by assumption) ?rgb3
            case hgb3 => intro wq hSw; (try dsimp only at hSw); go_simp; (try with_reducible rfl)
            (try simp only [Act.put, List.setIfInBounds_toArray, List.set_cons_zero, List.set_cons_succ])
            refine wpLast_take (i := 4) (oi := ⟨some 184, _, _, _, _, _⟩) (v := ?vgb4) rfl (by kernel_rfl) (by kernel_rfl) (by kernel_rfl) (by kernel_rfl) (by decide) (fun _ _ _ h => h) (Or.inl ⟨by rfl, ?hgb4⟩) (by assumption) ?rgb4
            case hgb4 => intro wq hSw; (try dsimp only at hSw); go_simp; (try with_reducible rfl)
            (try simp only [Act.put, List.setIfInBounds_toArray, List.set_cons_zero, List.set_cons_succ])
            refine wpLast_take (i := 5) (oi := ⟨some 185, _, _, _, _, _⟩) (v := ?vgb5) rfl (by kernel_rfl) (by kernel_rfl) (by kernel_rfl) (by kernel_rfl) (by decide) (fun _ _ _ h => h) (Or.inl ⟨by rfl, ?hgb5⟩) (by assumption) ?rgb5
            case hgb5 => intro wq hSw; (try dsimp only at hSw); go_simp; (try with_reducible rfl)
            (try simp only [Act.put, List.setIfInBounds_toArray, List.set_cons_zero, List.set_cons_succ])
            refine wpLast_take (i := 6) (oi := ⟨some 186, _, _, _, _, _⟩) (v := ?vgb6) rfl (by kernel_rfl) (by kernel_rfl) (by kernel_rfl) (by kernel_rfl) (by decide) (fun _ _ _ h => h) (Or.inl ⟨by rfl, ?hgb6⟩) (by assumption) ?rgb6
            case hgb6 => intro wq hSw; (try dsimp only at hSw); go_simp; (try with_reducible rfl)
            (try simp only [Act.put, List.setIfInBounds_toArray, List.set_cons_zero, List.set_cons_succ])
            refine wpLast_take (i := 7) (oi := ⟨some 187, _, _, _, _, _⟩) (v := ?vgb7) rfl (by kernel_rfl) (by kernel_rfl) (by kernel_rfl) (by kernel_rfl) (by decide) (fun _ _ _ h => h) (Or.inl ⟨by rfl, ?hgb7⟩) (by assumption) ?rgb7
            case hgb7 => intro wq hSw; (try dsimp only at hSw); go_simp; (try with_reducible rfl)
            (try simp only [Act.put, List.setIfInBounds_toArray, List.set_cons_zero, List.set_cons_succ])
            refine wpLast_one (i := 8) (o := ⟨some 188, _, _, _, _, _⟩) (by kernel_rfl) rfl (fun K hK => ?_)
            go_simp
            refine (CValue_any HC7.out).mono ?_
            rintro e w8 ⟨rfl, rfl⟩
            refine hK.out _ _ (fun _ => G7.out.c6) ?_
            clear hK K
            refine wpLast_one (i := 9) (o := ⟨some 189, _, _, _, _, _⟩) (by kernel_rfl) rfl (fun K hK => ?_)
            go_simp
            have G8 := hide (G7.out.only0 ((Only.refl S0 w7).alloc (.cells #[.int .u64 v] 31)))
            have HC8 := hide (HC7.out.only ((Only.refl S0 w7).alloc (.cells #[.int .u64 v] 31)) (fun e => e))
            refine hK.out _ _ (fun _ => G8.out.c6) ?_
            clear hK K
            (try simp only [Act.put, List.setIfInBounds_toArray, List.set_cons_zero, List.set_cons_succ])
            refine wpLast_one (i := 10) (o := ⟨some 190, _, _, _, _, _⟩) (by kernel_rfl) rfl (fun K hK => ?_)
            refine step_app rfl _ _ _ rfl 31 (.int .u64 0) 8 Try.underlying23 info_u64 rfl X.B0 fv (ou64s fd) (.int .u64 v) rfl G8.out.fsl.sl ⟨w7.heap.size, 0, none⟩ rfl (by rw [cell_one_new']) rfl (by rw [ou64s_len]; omega) (by rw [ou64s_len]; unfold maxLen; omega) G8.out.le ?_
            intro g6 c6 w9 hsl hon hnew
            rw [← ou64s_snoc] at hsl
            obtain ⟨a1, a2, a3, a4, a5, a6, a7, a8⟩ := G8.out.grow_ hX G8.out.fsl hon
            have q6 : w9.cell? ⟨X.gb, 6, none⟩ = some fv := a3.cellv rfl
            have f6 := a3.frozen 6
            have HC9 := HC8.out.only hon (sl_off G8.out.fsl HC8.out (by decide))
            have HC10 := hide (HC9.far (p := ⟨X.gb, 6, none⟩) (HC9.ne_ a3 (by decide)) (.slice (some ⟨g6, 0, none⟩) (List.length (ou64s fd) + 1) c6))
            have G9 := hide (G8.out.appF hX hon hsl hnew)
            clear a1 a2 a3 a4 a5 a6 a7 a8 hsl hon hnew HC9
            refine hK.out _ _ (fun _ => q6) ?_
            clear hK K
            refine wpLast_one (i := 11) (o := ⟨some 191, _, _, _, _, _⟩) (by kernel_rfl) rfl (fun K hK => ?_)
            go_simp
            refine hK.out _ _ (fun _ => q6) ?_
            clear hK K
            (try simp only [Act.put, List.setIfInBounds_toArray, List.set_cons_zero, List.set_cons_succ])
            refine wpLast_one (i := 12) (o := ⟨some 192, _, _, _, _, _⟩) (by kernel_rfl) rfl (fun K hK => ?_)
            go_simp
            refine hK.out _ _ (fun _ => q6) ?_
            clear hK K
            (try simp only [Act.put, List.setIfInBounds_toArray, List.set_cons_zero, List.set_cons_succ])
            refine wpLast_one (i := 13) (o := ⟨none, _, _, _, _, _⟩) (by kernel_rfl) rfl (fun K hK => ?_)
            go_simp
            refine hK.out _ _ (fun h => absurd rfl h) ?_
            clear hK K
            refine wpLast_done (by kernel_rfl) ?_ _
            go_wp2_with fail
            go_meet
            exact ⟨rfl, _, _, G9.out, HC10.out⟩
          case rest =>
            obtain ⟨rfl, own6, fv6, hg6, hc6⟩ := hcut
            have GA := hide hg6
            have HCA := hide hc6
            clear hg6 hc6 c2 cp fp G6 HC6
            generalize wc = wa at GA HCA ⊢
            have c2 := GA.out.c2
            have cp := GA.out.phs.cellv (tabC_get (fun i => Value.int .i64 (ph i : Int)) hp)
            rw [HK.out] at cp
            have fp := GA.out.phs.frozen p
            go_upto_region 20 with fail
            have hg7 := GA.out.setPh hX p 0 hp (upd_same _ _ _)
            have hc7 := HCA.out.far (p := ⟨X.pb, p, none⟩) (HCA.out.ne_ GA.out.phs (by decide)) (.int .i64 ((0 : Nat) : Int))
            rw [show ((0 : Nat) : Int) = 0 from rfl] at hg7 hc7
            have GB := hide hg7
            have HCB := hide hc7
            clear hg7 hc7 c2 cp fp
            generalize wa.setCell ⟨X.pb, p, none⟩ (.int .i64 0) = wb at GB HCB ⊢
            go_wp2_with fail
            refine (CValue_any HCB.out).mono ?_
            rintro e w8 ⟨rfl, rfl⟩
            by_cases h3 : v % 3 = 0
            · have hb3 : (v % 3 == 0) = true := by rw [h3]; rfl
              go_upto_if 204 with fail
              (try rw [hb3])
              go_upto_region 21 with fail
              have hb := HB3.out h3
              have GC := hide (GB.out.only0 (Only.refl S0 wb).drew)
              have HCC := hide (HCB.out.only (Only.refl S0 wb).drew (fun e => e))
              have kk : (fun w' : World => w'.cell? ⟨X.gb, 3, none⟩ = some (.slice (some ⟨X.lb, 0, none⟩) X.n X.n)) wb.drew := GC.out.c3
              refine wp_region_last 11 (fun w' : World => w'.cell? ⟨X.gb, 3, none⟩ = some (.slice (some ⟨X.lb, 0, none⟩) X.n X.n)) (by kernel_rfl) ?_
              generalize wb.drew = wd at GC HCC kk ⊢
              have cl := GC.out.lfs.cellv (tabC_get (fun i => Value.int .u64 (lf i)) hp)
              have fl := GC.out.lfs.frozen p
              refine wpLast_take (i := 0) (oi := ⟨some 205, _, _, _, _, _⟩) (v := ?vlb0) rfl (by kernel_rfl) (by kernel_rfl) (by kernel_rfl) (by kernel_rfl) (by decide) (fun _ _ _ h => h) (Or.inl ⟨by rfl, ?hlb0⟩) (by assumption) ?rlb0
              case hlb0 => intro wq hSw; (try dsimp only at hSw); go_simp; (try with_reducible rfl)
              (try simp only [Act.put, List.setIfInBounds_toArray, List.set_cons_zero, List.set_cons_succ])
              refine wpLast_take (i := 1) (oi := ⟨some 206, _, _, _, _, _⟩) (v := ?vlb1) rfl (by kernel_rfl) (by kernel_rfl) (by kernel_rfl) (by kernel_rfl) (by decide) (fun _ _ _ h => h) (Or.inl ⟨by rfl, ?hlb1⟩) (by assumption) ?rlb1
              case hlb1 => intro wq hSw; (try dsimp only at hSw); go_simp; (try with_reducible rfl)
              (try simp only [Act.put, List.setIfInBounds_toArray, List.set_cons_zero, List.set_cons_succ])
              refine wpLast_take (i := 2) (oi := ⟨some 207, _, _, _, _, _⟩) (v := ?vlb2) rfl (by kernel_rfl) (by kernel_rfl) (by kernel_rfl) (by kernel_rfl) (by decide) (fun _ _ _ h => h) (Or.inl ⟨by rfl, ?hlb2⟩) (by assumption) ?rlb2
              case hlb2 => intro wq hSw; (try dsimp only at hSw); go_simp; (try with_reducible rfl)
              (try simp only [Act.put, List.setIfInBounds_toArray, List.set_cons_zero, List.set_cons_succ])
              refine wpLast_take (i := 3) (oi := ⟨some 208, _, _, _, _, _⟩) (v := ?vlb3) rfl (by kernel_rfl) (by kernel_rfl) (by kernel_rfl) (by kernel_rfl) (by decide) (fun _ _ _ h => h) (Or.inl ⟨by rfl, ?hlb3⟩) (by assumption) ?rlb3
              case hlb3 => intro wq hSw; (try dsimp only at hSw); go_simp; (try with_reducible rfl)
              (try simp only [Act.put, List.setIfInBounds_toArray, List.set_cons_zero, List.set_cons_succ])
              refine wpLast_take (i := 4) (oi := ⟨some 209, _, _, _, _, _⟩) (v := ?vlb4) rfl (by kernel_rfl) (by kernel_rfl) (by kernel_rfl) (by kernel_rfl) (by decide) (fun _ _ _ h => h) (Or.inl ⟨by rfl, ?hlb4⟩) (by assumption) ?rlb4
              case hlb4 => intro wq hSw; (try dsimp only at hSw); go_simp; (try with_reducible rfl)
              (try simp only [Act.put, List.setIfInBounds_toArray, List.set_cons_zero, List.set_cons_succ])
              refine wpLast_take (i := 5) (oi := ⟨some 210, _, _, _, _, _⟩) (v := ?vlb5) rfl (by kernel_rfl) (by kernel_rfl) (by kernel_rfl) (by kernel_rfl) (by decide) (fun _ _ _ h => h) (Or.inl ⟨by rfl, ?hlb5⟩) (by assumption) ?rlb5
              case hlb5 => intro wq hSw; (try dsimp only at hSw); go_simp; (try with_reducible rfl)
              (try simp only [Act.put, List.setIfInBounds_toArray, List.set_cons_zero, List.set_cons_succ])
              refine wpLast_take (i := 6) (oi := ⟨some 211, _, _, _, _, _⟩) (v := ?vlb6) rfl (by kernel_rfl) (by kernel_rfl) (by kernel_rfl) (by kernel_rfl) (by decide) (fun _ _ _ h => h) (Or.inl ⟨by rfl, ?hlb6⟩) (by assumption) ?rlb6
              case hlb6 => intro wq hSw; (try dsimp only at hSw); go_simp; (try with_reducible rfl)
              (try simp only [Act.put, List.setIfInBounds_toArray, List.set_cons_zero, List.set_cons_succ])
              refine wpLast_take (i := 7) (oi := ⟨some 212, _, _, _, _, _⟩) (v := ?vlb7) rfl (by kernel_rfl) (by kernel_rfl) (by kernel_rfl) (by kernel_rfl) (by decide) (fun _ _ _ h => h) (Or.inl ⟨by rfl, ?hlb7⟩) (by assumption) ?rlb7
              case hlb7 => intro wq hSw; (try dsimp only at hSw); go_simp; (try with_reducible rfl)
              (try simp only [Act.put, List.setIfInBounds_toArray, List.set_cons_zero, List.set_cons_succ])
              refine wpLast_one (i := 8) (o := ⟨some 213, _, _, _, _, _⟩) (by kernel_rfl) rfl (fun K hK => ?_)
              go_simp
              refine (CValue_any HCC.out).mono ?_
              rintro e w8 ⟨rfl, rfl⟩
              refine hK.out _ _ (fun _ => GC.out.c3) ?_
              clear hK K
              refine wpLast_one (i := 9) (o := ⟨some 214, _, _, _, _, _⟩) (by kernel_rfl) rfl (fun K hK => ?_)
              go_simp
              refine hK.out _ _ (fun _ => GC.out.c3) ?_
              clear hK K
              (try simp only [Act.put, List.setIfInBounds_toArray, List.set_cons_zero, List.set_cons_succ])
              refine wpLast_one (i := 10) (o := ⟨some 215, _, _, _, _, _⟩) (by kernel_rfl) rfl (fun K hK => ?_)
              go_simp
              refine hK.out _ _ (fun _ => GC.out.c3) ?_
              clear hK K
              (try simp only [Act.put, List.setIfInBounds_toArray, List.set_cons_zero, List.set_cons_succ])
              refine wpLast_one (i := 11) (o := ⟨none, _, _, _, _, _⟩) (by kernel_rfl) rfl (fun K hK => ?_)
              go_simp
              refine hK.out _ _ (fun h => absurd rfl h) ?_
              clear hK K
              refine wpLast_done (by kernel_rfl) ?_ _
              have GD := hide (GC.out.setLf hX p (v / 3))
              have c2 := GD.out.c2
              have cp := GD.out.phs.cellv (tabC_get (fun i => Value.int .i64 ((upd ph p 0) i : Int)) hp)
              have fp := GD.out.phs.frozen p
              go_wp2_with fail
              go_end0
              have hg := GD.out.setPh hX p 3 hp (upd_same _ _ _)
              rw [upd_upd'] at hg
              refine ⟨rfl, mk_worked HG.out hp ((hg).forget (t := p) (x := idleC) (upd_same _ _ _) (by rw [upd_ne _ _ (by omega), upd_ne _ _ (by omega)]; exact G1.out.sho)) (hb.1) (fun t ht e => by rw [upd_ne _ _ e, upd_ne _ _ e, upd_ne _ _ e]; exact HO.out t ht e) (by rw [upd_same, upd_same]; rfl) (fun _ => by rw [upd_same]) (by rw [upd_same]; intro b e; cases e) (by have := HTC.out; omega) (by have := HPL.out; omega) (by rw [List.length_append]; have := HG.out.fl; simp; omega) ?_⟩
              rcases HQ.out with q | ⟨q1, q2, q3, q4, q5⟩
              · exact .inl (psi_end q HPS.out hb.2)
              · exact absurd q1 (by rw [HK.out]; decide)
            · have hb3 : (v % 3 == 0) = false := by simpa using h3
              go_upto_if 204 with fail
              (try rw [hb3])
              have hb := HB0.out h3
              go_wp2_with fail
              go_end0
              refine ⟨rfl, mk_worked HG.out hp ((GB.out).forget (t := p) (x := idleC) (upd_same _ _ _) (by rw [upd_ne _ _ (by omega), upd_ne _ _ (by omega)]; exact G1.out.sho)) (hb.1) (fun t ht e => by rw [upd_ne _ _ e, upd_ne _ _ e, upd_ne _ _ e]; exact HO.out t ht e) (by rw [upd_same, upd_same]; rfl) (fun _ => by rw [upd_same]) (by rw [upd_same]; intro b e; cases e) (by have := HTC.out; omega) (by have := HPL.out; omega) (by rw [List.length_append]; have := HG.out.fl; simp; omega) ?_⟩
              rcases HQ.out with q | ⟨q1, q2, q3, q4, q5⟩
              · exact .inl (psi_end q HPS.out hb.2)
              · exact absurd q1 (by rw [HK.out]; decide)
      · as_aux_lemma =>
          go_wp2_with fail
          refine (COutcome_any HC6.out).mono ?_
          rintro e w7 ⟨rfl, rfl⟩
          go_wp2_with fail
          go_end0
          have hb := E3.out.fin_none hp (upd_same _ _ _) (.inr HK.out) (by decide) (by decide)
          rw [HK.out] at hb
          have hg := G6.out.setPh hX p 2 hp (upd_same _ _ _)
          refine ⟨rfl, mk_worked HG.out hp ((hg).forget (t := p) (x := idleC) (upd_same _ _ _) (by rw [upd_ne _ _ (by omega), upd_ne _ _ (by omega)]; exact G1.out.sho)) (hb.1) (fun t ht e => by rw [upd_ne _ _ e, upd_ne _ _ e, upd_ne _ _ e]; exact HO.out t ht e) (by rw [upd_same, upd_same]; rfl) (fun _ => by rw [upd_same]) (by rw [upd_same]; intro b e; cases e) (by have := HTC.out; omega) (by have := HPL.out; omega) (by have := HG.out.fl; omega) ?_⟩
          rcases HQ.out with q | ⟨q1, q2, q3, q4, q5⟩
          · exact .inl (psi_end q HPS.out hb.2)
          · exact absurd q1 (by rw [HK.out]; decide)
      · as_aux_lemma =>
          go_wp2_with fail
          refine (COutcome_any HC6.out).mono ?_
          rintro e w7 ⟨rfl, rfl⟩
          go_wp2_with fail
          go_end0
          have hb := E3.out.fin_phase0 hp (upd_same _ _ _) (by decide) (.inl ⟨HK.out, rfl⟩)
          have hg := G6.out.setPh hX p 0 hp (upd_same _ _ _)
          refine ⟨rfl, mk_worked HG.out hp ((hg).forget (t := p) (x := idleC) (upd_same _ _ _) (by rw [upd_ne _ _ (by omega), upd_ne _ _ (by omega)]; exact G1.out.sho)) (hb.1) (fun t ht e => by rw [upd_ne _ _ e, upd_ne _ _ e, upd_ne _ _ e]; exact HO.out t ht e) (by rw [upd_same, upd_same]; rfl) (fun _ => by rw [upd_same]) (by rw [upd_same]; intro b e; cases e) (by have := HTC.out; omega) (by have := HPL.out; omega) (by have := HG.out.fl; omega) ?_⟩
          rcases HQ.out with q | ⟨q1, q2, q3, q4, q5⟩
          · exact .inl (psi_end q HPS.out hb.2)
          · injection q3 with e1; exact absurd e1 (by decide)
      · as_aux_lemma =>
          go_wp2_with fail
          refine (COutcome_any HC6.out).mono ?_
          rintro e w7 ⟨rfl, rfl⟩
          go_wp2_with fail
          refine bodyPost_ret (results_none rfl _ _ _) rfl ?_
          have hb := E3.out.fin_poll hp (upd_same _ _ _) HK.out (by decide)
          refine ⟨rfl, mk_worked HG.out hp ((G6.out).forget (t := p) (x := idleC) (upd_same _ _ _) (by rw [upd_ne _ _ (by omega), upd_ne _ _ (by omega)]; exact G1.out.sho)) (hb.1) (fun t ht e => by rw [upd_ne _ _ e, upd_ne _ _ e, upd_ne _ _ e]; exact HO.out t ht e) (by rw [upd_same, upd_same]; rfl) (fun _ => by rw [upd_same]) (by rw [upd_same]; intro b e; cases e) (by have := HTC.out; omega) (by have := HPL.out; omega) (by have := HG.out.fl; omega) ?_⟩
          rcases HQ.out with q | ⟨q1, q2, q3, q4, q5⟩
          · exact .inl (psi_end q HPS.out hb.2)
          · exact .inr ⟨q1, q2, Int.le_trans hb.2 (Int.le_trans q4 HPS.out), fun _ _ => rfl, q5⟩
      · as_aux_lemma =>
          go_wp2_with fail
          go_end0
          have hb := E3.out.fin_phase0 hp (upd_same _ _ _) (by decide) (.inr HK.out)
          have hg := G6.out.setPh hX p 0 hp (upd_same _ _ _)
          refine ⟨rfl, mk_worked HG.out hp ((hg).forget (t := p) (x := idleC) (upd_same _ _ _) (by rw [upd_ne _ _ (by omega), upd_ne _ _ (by omega)]; exact G1.out.sho)) (hb.1) (fun t ht e => by rw [upd_ne _ _ e, upd_ne _ _ e, upd_ne _ _ e]; exact HO.out t ht e) (by rw [upd_same, upd_same]; rfl) (fun _ => by rw [upd_same]) (by rw [upd_same]; intro b e; cases e) (by have := HTC.out; omega) (by have := HPL.out; omega) (by have := HG.out.fl; omega) ?_⟩
          rcases HQ.out with q | ⟨q1, q2, q3, q4, q5⟩
          · exact .inl (psi_end q HPS.out hb.2)
          · exact absurd q1 (by rw [HK.out]; decide)
end
end Go.Proofs.Ytdoaipjdldknaaa
