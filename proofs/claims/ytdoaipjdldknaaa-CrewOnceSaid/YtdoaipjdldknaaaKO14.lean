/-
  CrewOnce: who offers from outside makes a step (troupelaw20.gang.bring).
-/
import Derived.Test.YtdoaipjdldknaaaKO13
import Derived.Test.YtdoaipjdldknaaaJAlive
import Derived.Deep.RegionHeld3
import Derived.Deep.DeepCutAuto
import Derived.StillTailTactics
import Derived.OwnWalk
namespace Go.Proofs.Ytdoaipjdldknaaa
open Go.RowKit
set_option linter.unusedVariables false
section
variable {P : Program}
theorem step_app {w : World} {ops : Array Oper} {o : Oper} {a : Act} {K : Act → World → Prop} {Q : Exit → Act → World → Prop} {E : Prop} (hgd : o.guard = none) (s x : Operand) (t : TypeId) (ho : o.op = .call { callee := .builtin .append, args := #[s, x], argTypes := #[t, t] })
    (e : TypeId) (z : Value) (bytes : Nat) (ht : P.underlying t = some (.slice e)) (hinfo : (P.info? e).map (fun i => (i.zero, i.size, i.bytes)) = some (some z, 1, bytes)) (hz : z.cells = #[z])
    (B : Nat) (v : Value) (xs : List Value) (u : Value) (hs : a.eval s = v) (hown : Sl w B e v xs) (ad : Addr) (hx : a.eval x = .slice (some ad) 1 1) (hnews : w.cell? ad = some u) (hu : u.oneCell' = true)
    (hbytes : (xs.length + 1) * bytes ≤ 140737488355328) (h63 : xs.length + 1 ≤ maxLen) (hB : B ≤ w.heap.size)
    (h : ∀ g cap w', Sl w' B e (.slice (some ⟨g, 0, none⟩) (xs.length + 1) cap) (xs ++ [u]) → Only (fun k => v.ownBlock = some k) w w' → ((Value.slice (some ⟨g, 0, none⟩) (xs.length + 1) cap).ownBlock = v.ownBlock ∨ ∃ k, (Value.slice (some ⟨g, 0, none⟩) (xs.length + 1) cap).ownBlock = some k ∧ w.heap.size ≤ k) → K (a.put o.dst (.slice (some ⟨g, 0, none⟩) (xs.length + 1) cap)) w') :
    if Region.wanted o (yielded ops a.tmps) = true then Oper.wp P o a w K Q else E := by
  obtain ⟨i, hi, hz0, hz1, hz2⟩ := info_parts hinfo
  have hnews' : ∀ j u', [u][j]? = some u' → w.cell? (ad.add j) = some u' := fun j u' hj => by
    match j, hj with
    | 0, hj => simp at hj; subst hj; rw [show ad.add 0 = ad from by unfold Addr.add; split <;> simp_all]; exact hnews
    | j + 1, hj => simp at hj
  refine step_append_lies w hgd s x t ho B e i z 1 bytes ht hi hz0 hz1 hz2 (by rw [hz]; rfl) (by decide) v xs.length xs hs hown ad 1 1 [u] hx rfl hnews' (by simpa using hu) (by omega) h63 hbytes hB w.heap.size rfl ?_
  intro g cap w' h1 h2 h3 h4
  have hlen : (xs ++ [u]).length = xs.length + 1 := by simp
  refine h g cap w' (by unfold Sl; rw [hlen]; exact h1) (Only.of_grown h2 fun k hk _ => hk) ?_
  rcases h3 with h3 | h3
  · exact .inl (by rw [h3]; rfl)
  · exact .inr ⟨g, rfl, by omega⟩
end
structure GS (X : GX) (w0 w : World) (r : Int) (c tm : Nat) (L : List Int) (tc : Int) (o : Nat → CSt) (own : Nat → Nat) (act : Nat → Bool) (bo : Nat → Nat) (ph : Nat → Nat) (lf : Nat → Int) (nx : Nat) (fv pv : Value) (fd ps : List Int) (T H : Nat) (S : Nat → List Int) (M : Nat → Int) : Prop where
  gm : GM X w0 w L tc o own act bo ph lf nx fv pv fd ps
  bi : BI X.n X.s r L o ph lf nx fd ps c T H S M
  ac : ∀ t, t ≤ X.n → act t = decide ((o t).out = 0)
  idl : ∀ t, t ≤ X.n → (o t).out ≠ 0 → o t = idleC
  tcb : tc ≤ tm + c
  npl : ∀ t, t < X.n → ∀ b, o t ≠ .poll b
  pl : ps.length ≤ 300 + c
  fl : fd.length ≤ 300 + c
section
variable {X : GX} {w0 w : World} {r : Int} {c tm : Nat} {L : List Int} {tc : Int} {o : Nat → CSt} {own : Nat → Nat} {act : Nat → Bool} {bo : Nat → Nat} {ph : Nat → Nat} {lf : Nat → Int} {nx : Nat} {fv pv : Value} {fd ps : List Int} {T H : Nat} {S : Nat → List Int} {M : Nat → Int}
theorem GM.c0 (h : GM X w0 w L tc o own act bo ph lf nx fv pv fd ps) : w.cell? ⟨X.gb, 0, none⟩ = some (.pointer (some ⟨X.cb, 0, none⟩)) := h.g.cellv rfl
theorem GM.c1 (h : GM X w0 w L tc o own act bo ph lf nx fv pv fd ps) : w.cell? ⟨X.gb, 1, none⟩ = some (.slice (some ⟨X.ob, 0, none⟩) X.n X.n) := h.g.cellv rfl
theorem GM.c2 (h : GM X w0 w L tc o own act bo ph lf nx fv pv fd ps) : w.cell? ⟨X.gb, 2, none⟩ = some (.slice (some ⟨X.pb, 0, none⟩) X.n X.n) := h.g.cellv rfl
theorem GM.c3 (h : GM X w0 w L tc o own act bo ph lf nx fv pv fd ps) : w.cell? ⟨X.gb, 3, none⟩ = some (.slice (some ⟨X.lb, 0, none⟩) X.n X.n) := h.g.cellv rfl
theorem GM.c4 (h : GM X w0 w L tc o own act bo ph lf nx fv pv fd ps) : w.cell? ⟨X.gb, 4, none⟩ = some (optr act bo X.n) := h.g.cellv rfl
theorem GM.c5 (h : GM X w0 w L tc o own act bo ph lf nx fv pv fd ps) : w.cell? ⟨X.gb, 5, none⟩ = some (.int .u64 nx) := h.g.cellv rfl
theorem GM.c6 (h : GM X w0 w L tc o own act bo ph lf nx fv pv fd ps) : w.cell? ⟨X.gb, 6, none⟩ = some fv := h.g.cellv rfl
theorem GM.c7 (h : GM X w0 w L tc o own act bo ph lf nx fv pv fd ps) : w.cell? ⟨X.gb, 7, none⟩ = some pv := h.g.cellv rfl
theorem on_ {t : Nat} (h : act t = true) : optr act bo t = .pointer (some ⟨bo t, 0, none⟩) := by unfold optr; rw [h]; rfl
theorem off_ {t : Nat} (h : act t = false) : optr act bo t = .pointer none := by unfold optr; rw [h]; rfl
/-- Behind a step of who offers from outside. -/
def Brought (X : GX) (w0 w' : World) (r : Int) (c tm : Nat) (o : Nat → CSt) (ph : Nat → Nat) (lf : Nat → Int) (fv : Value) (fd : List Int) (H : Nat) (S : Nat → List Int) (more : Bool) : Prop :=
  ∃ c' L' tc' o' own' act' bo' nx' pv' ps' T' M', GS X w0 w' r c' tm L' tc' o' own' act' bo' ph lf nx' fv pv' fd ps' T' H S M' ∧ c ≤ c' ∧ c' ≤ c + 1 ∧ (more = false → remO X.n (o' X.n) + 1 ≤ remO X.n (o X.n) ∨ o' X.n = idleC)
def Midst (X : GX) (w0 w' : World) (r : Int) (c tm : Nat) (o : Nat → CSt) (act : Nat → Bool) (ph : Nat → Nat) (lf : Nat → Int) (fv : Value) (fd : List Int) (H : Nat) (S : Nat → List Int) (M : Nat → Int) (more : Bool) : Prop :=
  ∃ L' tc' o' own' act' bo' nx' pv' ps' T', GM X w0 w' L' tc' o' own' act' bo' ph lf nx' fv pv' fd ps' ∧ BI X.n X.s r L' o' ph lf nx' fd ps' c T' H S M ∧ act' X.n = true ∧ (o' X.n).out = 0 ∧ (∀ t, t < X.n → act' t = act t ∧ o' t = o t) ∧ tc' ≤ tm + c ∧ ps'.length ≤ 301 + c ∧ (more = false → o' X.n = o X.n)
theorem GM.forget {t : Nat} {x : CSt} (h : GM X w0 w L tc o own act bo ph lf nx fv pv fd ps) (ha : act t = false) (hs : ShO X.n (upd o t x X.n)) : GM X w0 w L tc (upd o t x) own act bo ph lf nx fv pv fd ps :=
  ⟨h.env, fun s hs has => by
    have e : s ≠ t := fun e => by subst e; rw [ha] at has; cases has
    rw [upd_ne _ _ e]; exact h.fam s hs has, hs, h.g, h.ops, h.phs, h.lfs, h.fsl, h.psl, h.fp, h.only, h.le⟩
theorem cell_one_new' {w : World} {u : Value} {e : TypeId} : (w.alloc (.cells #[u] e)).cell? ⟨w.heap.size, 0, none⟩ = some u := (Blk.new w e #[u]).cellv rfl
set_option maxRecDepth 100000 in
set_option maxHeartbeats 8000000 in
theorem bring_any (h : GS X w0 w r c tm L tc o own act bo ph lf nx fv pv fd ps T H S M) (hX : X.Ok w0.heap.size) (more : Bool) (hm : more = true → (ps.length : Int) - fd.length < 50 ∧ c ≤ 799) (hc : c ≤ 900000) (htm : tm ≤ 1000000000) :
    Calls Try.prog 14 #[.pointer (some ⟨X.gb, 0, none⟩), .bool more] w fun e w' => e = .returned (.tuple #[]) ∧ Brought X w0 w' r c tm o ph lf fv fd H S more := by
  have hG := h.gm
  have c4 := hG.c4
  have c5 := hG.c5
  have hn200 : nx ≤ 200 := h.bi.nx200
  have HG := hide h
  clear h hG
  go_enter Try.func14, Try.ntmps14
  cases ha : act X.n with
  | true =>
    rw [on_ ha] at c4
    have HA := hide ha
    clear ha
    go_upto_if 8 with fail
    go_cut [] (fun wx => Midst X w0 wx r c tm o act ph lf fv fd H S M more)
    case first =>
      go_wp2_with fail
      go_meet
      exact ⟨L, tc, o, own, act, bo, nx, pv, ps, T, HG.out.gm, HG.out.bi, HA.out, by have := HG.out.ac X.n (Nat.le_refl _); rw [HA.out] at this; simpa using this.symm, fun t ht => ⟨rfl, rfl⟩, HG.out.tcb, by have := HG.out.pl; omega, fun _ => rfl⟩
    case rest =>
      obtain ⟨L1, tc1, o1, own1, act1, bo1, nx1, pv1, ps1, T1, hgm, hbi, ha1, ho1, hoth, htc, hpl1, hsame⟩ := hcut
      have G1 := hide hgm
      have B1 := hide hbi
      have HO := hide hoth
      have HSM := hide hsame
      have HPL := hide hpl1
      have HTC := hide htc
      have HA1 := hide ha1
      have HO1 := hide ho1
      have d4 := hgm.c4
      rw [on_ ha1] at d4
      clear hgm hbi hoth hsame hpl1 htc ha1 ho1
      go_wp2_with fail
      refine (COp_step G1.out.env (by have := B1.out.ci.ok X.n (Nat.le_refl _); rw [B1.out.ci.len]; exact this) (G1.out.fam X.n (Nat.le_refl _) HA1.out) (few_of _ (by have := HTC.out; omega)) HO1.out).mono ?_
      rintro e w5 ⟨rfl, h1, h2, S5, hoS, hft⟩
      obtain ⟨st', T', M', e1, e2, e3, e4⟩ := B1.out.ostep HO1.out
      rw [e1] at h1 ⊢
      have G5 := hide (G1.out.step hX (Nat.le_refl _) HA1.out hoS hft h1 h2 (by rw [upd_same]; have := e2.ci.sho; rw [upd_same] at this; exact this))
      have E2 := hide e2
      have E34 := hide (And.intro e3 e4)
      clear h1 h2 hoS hft e1 e2 e3 e4
      by_cases hz : st'.out = 0
      · have HZ := hide hz
        have hzb : (st'.out != 0) = false := by rw [hz]; rfl
        rw [hzb]
        clear hz hzb
        go_wp2_with fail
        go_end0
        refine ⟨rfl, c + 1, _, _, _, _, act1, bo1, _, _, _, _, _, ⟨G5.out, E2.out, fun t ht => ?_, fun t ht hne => ?_, by have := HTC.out; omega, fun t ht => by rw [upd_ne _ _ (by omega), (HO.out t ht).2]; exact HG.out.npl t ht, by have := HPL.out; omega, by have := HG.out.fl; omega⟩, by omega, Nat.le_refl _, fun hmf => .inl ?_⟩
        · by_cases e : t = X.n
          · subst e; rw [upd_same, HA1.out, HZ.out]; rfl
          · rw [upd_ne _ _ e, (HO.out t (by omega)).1, (HO.out t (by omega)).2]; exact HG.out.ac t ht
        · by_cases e : t = X.n
          · subst e; rw [upd_same] at hne; exact absurd HZ.out hne
          · rw [upd_ne _ _ e, (HO.out t (by omega)).2] at hne ⊢; exact HG.out.idl t ht hne
        · rw [upd_same, ← HSM.out hmf]; exact E34.out.1
      · have HZ := hide hz
        have hzb : (st'.out != 0) = true := by simp [hz]
        rw [hzb]
        clear hz hzb
        have f4 := G5.out.g.frozen 4
        have k4 := G5.out.c4
        rw [on_ HA1.out] at k4
        go_wp2_with fail
        have hov : ∃ a v, st' = .over a v := by
          cases hst : st' with
          | over a v => exact ⟨a, v, rfl⟩
          | _ => exact absurd (by rw [hst]; rfl) HZ.out
        obtain ⟨a, v, hov⟩ := hov
        have hbf := E2.out.ofinish (a := a) (v := v) (by rw [upd_same]; exact hov)
        rw [upd_upd'] at hbf
        have hg6 := G5.out.setG hX 4 (.pointer none) (act' := upd act1 X.n false) (bo' := bo1) (nx' := nx1) (by unfold gangV; rw [off_ (act := upd act1 X.n false) (upd_same _ _ _)]; rfl) (fun t ht => by unfold optr; rw [upd_ne _ _ (by omega)]) (fun t ht hat => by
          by_cases e : t = X.n
          · subst e; rw [upd_same] at hat; cases hat
          · rw [upd_ne _ _ e] at hat; exact ⟨hat, rfl⟩)
        have hg7 := hg6.forget (t := X.n) (upd_same _ _ _) (by rw [upd_same]; exact .idle)
        rw [upd_upd'] at hg7
        go_end0
        refine ⟨rfl, c + 1, _, _, _, _, _, _, _, _, _, _, _, ⟨hg7, hbf, fun t ht => ?_, fun t ht hne => ?_, by have := HTC.out; omega, fun t ht => by rw [upd_ne _ _ (by omega), (HO.out t ht).2]; exact HG.out.npl t ht, by have := HPL.out; omega, by have := HG.out.fl; omega⟩, by omega, Nat.le_refl _, fun hmf => .inr (upd_same _ _ _)⟩
        · by_cases e : t = X.n
          · subst e; rw [upd_same, upd_same]; rfl
          · rw [upd_ne _ _ e, upd_ne _ _ e, (HO.out t (by omega)).1, (HO.out t (by omega)).2]; exact HG.out.ac t ht
        · by_cases e : t = X.n
          · subst e; rw [upd_same]
          · rw [upd_ne _ _ e, (HO.out t (by omega)).2] at hne ⊢; exact HG.out.idl t ht hne
  | false =>
    rw [off_ ha] at c4
    have hid : o X.n = idleC := HG.out.idl X.n (Nat.le_refl _) (by have := HG.out.ac X.n (Nat.le_refl _); rw [ha] at this; simpa using this.symm)
    have HA := hide ha
    have HID := hide hid
    clear ha hid
    cases more with
    | false =>
      go_wp2_with fail
      refine bodyPost_ret (results_none rfl _ _ _) rfl ?_
      exact ⟨rfl, c, L, tc, o, own, act, bo, nx, pv, ps, T, M, HG.out, Nat.le_refl _, by omega, fun _ => .inr HID.out⟩
    | true =>
      by_cases h200 : (nx : Int) < 200
      · go_upto_if 8 with fail
        go_cut [] (fun wx => Midst X w0 wx r c tm o act ph lf fv fd H S M true)
        case first =>
          obtain ⟨hD, hc9⟩ := hm rfl
          obtain ⟨hTn, hbi⟩ := HG.out.bi.obegin HID.out (by omega) hD hc9
          have HBI := hide hbi
          have HTN := hide hTn
          have HC9 := hide hc9
          clear hm hD hc9 hTn hbi
          obtain ⟨m, hm⟩ : ∃ m, nx + 1 = m := ⟨_, rfl⟩
          have hw1 : IntKind.u64.wrap ((nx : Int) + 1) = (m : Int) := by rw [IntKind.wrap_u64]; omega
          have hw9 : IntKind.u64.wrap ((m : Int) * 9) = tv nx := by rw [IntKind.wrap_u64]; unfold tv; omega
          have f5 := HG.out.gm.g.frozen 5
          go_upto_region 3 with fail
          (try rw [hw1])
          have G2 := hide (show GM X w0 (w.setCell ⟨X.gb, 5, none⟩ (.int .u64 (m : Int))) L tc o own act bo ph lf m fv pv fd ps from HG.out.gm.setG hX 5 _ rfl (fun _ _ => rfl) (fun _ _ h => ⟨h, rfl⟩))
          generalize w.setCell ⟨X.gb, 5, none⟩ (.int .u64 (m : Int)) = w1 at G2 ⊢
          clear c4 c5 f5 hw1
          have z0 := G2.out.c0
          have z5 := G2.out.c5
          go_cut [] (fun wx => ∃ co, GM X w0 wx L tc (upd o X.n (.put (tv nx) (putOp (crewF X.n X.s).gb (tv nx)))) (ownJ own w1.heap.size X.n) (upd act X.n true) (upd bo X.n co) ph lf m fv pv fd ps)
          case first =>
            have hof := Offer_all (w := w1.drew) (-1) (tv nx) (tv_u64 (by omega)) (G2.out.only0 (Only.refl S0 w1).drew).env
            rw [show offerC (crewF X.n X.s) (-1) (tv nx) = .put (tv nx) (putOp (crewF X.n X.s).gb (tv nx)) from by unfold offerC; rw [if_neg (by omega)]] at hof
            have HOF := hide hof
            clear hof
            have kk : (fun w' : World => w'.cell? ⟨X.gb, 0, none⟩ = some (.pointer (some ⟨X.cb, 0, none⟩)) ∧ w'.cell? ⟨X.gb, 5, none⟩ = some (.int .u64 (m : Int))) w1.drew := ⟨z0, z5⟩
            clear z0 z5
            refine wp_region_last 13 (fun w' : World => w'.cell? ⟨X.gb, 0, none⟩ = some (.pointer (some ⟨X.cb, 0, none⟩)) ∧ w'.cell? ⟨X.gb, 5, none⟩ = some (.int .u64 (m : Int))) (by kernel_rfl) ?_
            refine wpLast_take (i := 0) (oi := ⟨some 25, _, _, _, _, _⟩) (v := ?vt0) rfl (by kernel_rfl) (by kernel_rfl) (by kernel_rfl) (by kernel_rfl) (by decide) (fun _ _ _ h => h) (Or.inl ⟨by rfl, ?ht0⟩) (by assumption) ?rt0
            case ht0 => intro wq hSw; (try dsimp only at hSw); go_simp; (try with_reducible rfl)
            (try simp only [Act.put, List.setIfInBounds_toArray, List.set_cons_zero, List.set_cons_succ])
            refine wpLast_take (i := 1) (oi := ⟨some 26, _, _, _, _, _⟩) (v := ?vt1) rfl (by kernel_rfl) (by kernel_rfl) (by kernel_rfl) (by kernel_rfl) (by decide) (fun _ _ _ h => h) (Or.inl ⟨by rfl, ?ht1⟩) (by assumption) ?rt1
            case ht1 => intro wq hSw; (try dsimp only at hSw); go_simp; (try with_reducible rfl)
            (try simp only [Act.put, List.setIfInBounds_toArray, List.set_cons_zero, List.set_cons_succ])
            refine wpLast_take (i := 2) (oi := ⟨some 27, _, _, _, _, _⟩) (v := ?vt2) rfl (by kernel_rfl) (by kernel_rfl) (by kernel_rfl) (by kernel_rfl) (by decide) (fun _ _ _ h => h) (Or.inl ⟨by rfl, ?ht2⟩) (by assumption) ?rt2
            case ht2 => intro wq hSw; (try dsimp only at hSw); go_simp; (try with_reducible rfl)
            (try simp only [Act.put, List.setIfInBounds_toArray, List.set_cons_zero, List.set_cons_succ])
            refine wpLast_take (i := 3) (oi := ⟨some 28, _, _, _, _, _⟩) (v := ?vt3) rfl (by kernel_rfl) (by kernel_rfl) (by kernel_rfl) (by kernel_rfl) (by decide) (fun _ _ _ h => h) (Or.inl ⟨by rfl, ?ht3⟩) (by assumption) ?rt3
            case ht3 => intro wq hSw; (try dsimp only at hSw); go_simp; (try with_reducible rfl)
            (try simp only [Act.put, List.setIfInBounds_toArray, List.set_cons_zero, List.set_cons_succ])
            refine wpLast_take (i := 4) (oi := ⟨some 29, _, _, _, _, _⟩) (v := ?vt4) rfl (by kernel_rfl) (by kernel_rfl) (by kernel_rfl) (by kernel_rfl) (by decide) (fun _ _ _ h => h) (Or.inl ⟨by rfl, ?ht4⟩) (by assumption) ?rt4
            case ht4 => intro wq hSw; (try dsimp only at hSw); go_simp; (try with_reducible rfl)
            (try simp only [Act.put, List.setIfInBounds_toArray, List.set_cons_zero, List.set_cons_succ])
            refine wpLast_take (i := 5) (oi := ⟨some 30, _, _, _, _, _⟩) (v := ?vt5) rfl (by kernel_rfl) (by kernel_rfl) (by kernel_rfl) (by kernel_rfl) (by decide) (fun _ _ _ h => h) (Or.inl ⟨by rfl, ?ht5⟩) (by assumption) ?rt5
            case ht5 => intro wq hSw; (try dsimp only at hSw); go_simp; (try with_reducible rfl)
            (try simp only [Act.put, List.setIfInBounds_toArray, List.set_cons_zero, List.set_cons_succ])
            refine wpLast_take (i := 6) (oi := ⟨some 31, _, _, _, _, _⟩) (v := ?vt6) rfl (by kernel_rfl) (by kernel_rfl) (by kernel_rfl) (by kernel_rfl) (by decide) (fun _ _ _ h => h) (Or.inl ⟨by rfl, ?ht6⟩) (by assumption) ?rt6
            case ht6 => intro wq hSw; (try dsimp only at hSw); go_simp; (try with_reducible rfl)
            (try simp only [Act.put, List.setIfInBounds_toArray, List.set_cons_zero, List.set_cons_succ])
            refine wpLast_take (i := 7) (oi := ⟨some 32, _, _, _, _, _⟩) (v := ?vt7) rfl (by kernel_rfl) (by kernel_rfl) (by kernel_rfl) (by kernel_rfl) (by decide) (fun _ _ _ h => h) (Or.inl ⟨by rfl, ?ht7⟩) (by assumption) ?rt7
            case ht7 => intro wq hSw; (try dsimp only at hSw); go_simp; (try with_reducible rfl)
            (try simp only [Act.put, List.setIfInBounds_toArray, List.set_cons_zero, List.set_cons_succ])
            refine wpLast_take (i := 8) (oi := ⟨some 33, _, _, _, _, _⟩) (v := ?vt8) rfl (by kernel_rfl) (by kernel_rfl) (by kernel_rfl) (by kernel_rfl) (by decide) (fun _ _ _ h => h) (Or.inl ⟨by rfl, ?ht8⟩) (by assumption) ?rt8
            case ht8 => intro wq hSw; (try dsimp only at hSw); go_simp; (try with_reducible rfl)
            (try simp only [Act.put, List.setIfInBounds_toArray, List.set_cons_zero, List.set_cons_succ])
            refine wpLast_take (i := 9) (oi := ⟨some 34, _, _, _, _, _⟩) (v := ?vt9) rfl (by kernel_rfl) (by kernel_rfl) (by kernel_rfl) (by kernel_rfl) (by decide) (fun _ _ _ h => h) (Or.inl ⟨by rfl, ?ht9⟩) (by assumption) ?rt9
            case ht9 => intro wq hSw; (try dsimp only at hSw); go_simp; (try with_reducible rfl)
            (try simp only [Act.put, List.setIfInBounds_toArray, List.set_cons_zero, List.set_cons_succ])
            refine wpLast_one (i := 10) (o := ⟨some 35, _, _, _, _, _⟩) (by kernel_rfl) rfl (fun K hK => ?_)
            go_simp
            (try rw [hw9])
            refine HOF.out.mono ?_
            rintro e w2 ⟨co, rfl, h1, h2, h3, h4, h5⟩
            have o3 := (Only.refl S0 w1).drew.trans h3
            obtain ⟨n1, n2⟩ := G2.out.new_ (Nat.le_refl _) HA.out o3 (show CIs w2 X.cb X.bb X.bg X.bc X.bd (fun k => w1.heap.size ≤ k) co (.put (tv nx) (putOp (crewF X.n X.s).gb (tv nx))) from h1) (by rw [upd_same]; exact .put _ _ rfl)
            have y0 := n1.c0
            have y5 := n1.c5
            have y4 := n1.g.frozen 4
            have y6 := n1.c4
            rw [off_ HA.out] at y6
            have g5 := n1.onO hX HA.out n2
            rw [upd_same] at g5
            have G5 := hide g5
            clear h1 h2 h3 h4 h5 o3 n1 n2 g5
            refine hK.out _ _ (fun _ => ⟨y0, y5⟩) ?_
            clear kk
            clear hK K
            refine wpLast_one (i := 11) (o := ⟨some 36, _, _, _, _, _⟩) (by kernel_rfl) rfl (fun K hK => ?_)
            go_simp
            refine hK.out _ _ (fun _ => ⟨y0, y5⟩) ?_
            clear hK K
            (try simp only [Act.put, List.setIfInBounds_toArray, List.set_cons_zero, List.set_cons_succ])
            refine wpLast_one (i := 12) (o := ⟨some 37, _, _, _, _, _⟩) (by kernel_rfl) rfl (fun K hK => ?_)
            go_simp
            refine hK.out _ _ (fun _ => ⟨y0, y5⟩) ?_
            clear hK K
            (try simp only [Act.put, List.setIfInBounds_toArray, List.set_cons_zero, List.set_cons_succ])
            refine wpLast_one (i := 13) (o := ⟨none, _, _, _, _, _⟩) (by kernel_rfl) rfl (fun K hK => ?_)
            go_simp
            refine hK.out _ _ (fun h => absurd rfl h) ?_
            clear hK K
            refine wpLast_done (by kernel_rfl) ?_ _
            go_wp2_with fail
            go_meet
            exact ⟨co, G5.out⟩
          case rest =>
          obtain ⟨co, hg3⟩ := hcut
          have G3 := hide hg3
          clear hg3 z0 z5
          have hpl := HG.out.pl
          generalize wc = w2 at G3 ⊢
          go_upto_region 4 with fail
          go_cut [] (fun wx => ∃ pv' own', GM X w0 wx L tc (upd o X.n (.put (tv nx) (putOp (crewF X.n X.s).gb (tv nx)))) own' (upd act X.n true) (upd bo X.n co) ph lf m fv pv' fd (ps ++ [tv nx]))
          case first =>
            have G4 := hide (G3.out.only0 (Only.refl S0 w2).drew)
            have hb0 := G4.out.le
            have kk : (fun w' : World => w'.cell? ⟨X.gb, 7, none⟩ = some pv ∧ w'.cell? ⟨X.gb, 5, none⟩ = some (.int .u64 (m : Int))) w2.drew := ⟨G4.out.c7, G4.out.c5⟩
            refine wp_region_last 14 (fun w' : World => w'.cell? ⟨X.gb, 7, none⟩ = some pv ∧ w'.cell? ⟨X.gb, 5, none⟩ = some (.int .u64 (m : Int))) (by kernel_rfl) ?_
            generalize w2.drew = w3 at G4 kk hb0 ⊢
            refine wpLast_take (i := 0) (oi := ⟨some 38, _, _, _, _, _⟩) (v := ?vv0) rfl (by kernel_rfl) (by kernel_rfl) (by kernel_rfl) (by kernel_rfl) (by decide) (fun _ _ _ h => h) (Or.inl ⟨by rfl, ?hy0⟩) (by assumption) ?rest0
            case hy0 => intro wq hSw; (try dsimp only at hSw); go_simp; (try with_reducible rfl)
            (try simp only [Act.put, List.setIfInBounds_toArray, List.set_cons_zero, List.set_cons_succ])
            refine wpLast_take (i := 1) (oi := ⟨some 39, _, _, _, _, _⟩) (v := ?vv1) rfl (by kernel_rfl) (by kernel_rfl) (by kernel_rfl) (by kernel_rfl) (by decide) (fun _ _ _ h => h) (Or.inl ⟨by rfl, ?hy1⟩) (by assumption) ?rest1
            case hy1 => intro wq hSw; (try dsimp only at hSw); go_simp; (try with_reducible rfl)
            (try simp only [Act.put, List.setIfInBounds_toArray, List.set_cons_zero, List.set_cons_succ])
            refine wpLast_take (i := 2) (oi := ⟨some 40, _, _, _, _, _⟩) (v := ?vv2) rfl (by kernel_rfl) (by kernel_rfl) (by kernel_rfl) (by kernel_rfl) (by decide) (fun _ _ _ h => h) (Or.inl ⟨by rfl, ?hy2⟩) (by assumption) ?rest2
            case hy2 => intro wq hSw; (try dsimp only at hSw); go_simp; (try with_reducible rfl)
            (try simp only [Act.put, List.setIfInBounds_toArray, List.set_cons_zero, List.set_cons_succ])
            refine wpLast_take (i := 3) (oi := ⟨some 41, _, _, _, _, _⟩) (v := ?vv3) rfl (by kernel_rfl) (by kernel_rfl) (by kernel_rfl) (by kernel_rfl) (by decide) (fun _ _ _ h => h) (Or.inl ⟨by rfl, ?hy3⟩) (by assumption) ?rest3
            case hy3 => intro wq hSw; (try dsimp only at hSw); go_simp; (try with_reducible rfl)
            (try simp only [Act.put, List.setIfInBounds_toArray, List.set_cons_zero, List.set_cons_succ])
            refine wpLast_take (i := 4) (oi := ⟨some 42, _, _, _, _, _⟩) (v := ?vv4) rfl (by kernel_rfl) (by kernel_rfl) (by kernel_rfl) (by kernel_rfl) (by decide) (fun _ _ _ h => h) (Or.inl ⟨by rfl, ?hy4⟩) (by assumption) ?rest4
            case hy4 => intro wq hSw; (try dsimp only at hSw); go_simp; (try with_reducible rfl)
            (try simp only [Act.put, List.setIfInBounds_toArray, List.set_cons_zero, List.set_cons_succ])
            refine wpLast_take (i := 5) (oi := ⟨some 43, _, _, _, _, _⟩) (v := ?vv5) rfl (by kernel_rfl) (by kernel_rfl) (by kernel_rfl) (by kernel_rfl) (by decide) (fun _ _ _ h => h) (Or.inl ⟨by rfl, ?hy5⟩) (by assumption) ?rest5
            case hy5 => intro wq hSw; (try dsimp only at hSw); go_simp; (try with_reducible rfl)
            (try simp only [Act.put, List.setIfInBounds_toArray, List.set_cons_zero, List.set_cons_succ])
            refine wpLast_take (i := 6) (oi := ⟨some 44, _, _, _, _, _⟩) (v := ?vv6) rfl (by kernel_rfl) (by kernel_rfl) (by kernel_rfl) (by kernel_rfl) (by decide) (fun _ _ _ h => h) (Or.inl ⟨by rfl, ?hy6⟩) (by assumption) ?rest6
            case hy6 => intro wq hSw; (try dsimp only at hSw); go_simp; (try with_reducible rfl)
            (try simp only [Act.put, List.setIfInBounds_toArray, List.set_cons_zero, List.set_cons_succ])
            refine wpLast_take (i := 7) (oi := ⟨some 45, _, _, _, _, _⟩) (v := ?vv7) rfl (by kernel_rfl) (by kernel_rfl) (by kernel_rfl) (by kernel_rfl) (by decide) (fun _ _ _ h => h) (Or.inl ⟨by rfl, ?hy7⟩) (by assumption) ?rest7
            case hy7 => intro wq hSw; (try dsimp only at hSw); go_simp; (try with_reducible rfl)
            (try simp only [Act.put, List.setIfInBounds_toArray, List.set_cons_zero, List.set_cons_succ])
            refine wpLast_take (i := 8) (oi := ⟨some 46, _, _, _, _, _⟩) (v := ?vv8) rfl (by kernel_rfl) (by kernel_rfl) (by kernel_rfl) (by kernel_rfl) (by decide) (fun _ _ _ h => h) (Or.inl ⟨by rfl, ?hy8⟩) (by assumption) ?rest8
            case hy8 => intro wq hSw; (try dsimp only at hSw); go_simp; (try with_reducible rfl)
            (try simp only [Act.put, List.setIfInBounds_toArray, List.set_cons_zero, List.set_cons_succ])
            refine wpLast_take (i := 9) (oi := ⟨some 47, _, _, _, _, _⟩) (v := ?vv9) rfl (by kernel_rfl) (by kernel_rfl) (by kernel_rfl) (by kernel_rfl) (by decide) (fun _ _ _ h => h) (Or.inl ⟨by rfl, ?hy9⟩) (by assumption) ?rest9
            case hy9 => intro wq hSw; (try dsimp only at hSw); go_simp; (try with_reducible rfl)
            (try simp only [Act.put, List.setIfInBounds_toArray, List.set_cons_zero, List.set_cons_succ])
            refine wpLast_one (i := 10) (o := ⟨some 48, _, _, _, _, _⟩) (by kernel_rfl) rfl (fun K hK => ?_)
            go_simp
            have G6 := hide (G4.out.only0 ((Only.refl S0 w3).alloc (.cells #[.int .u64 (tv nx)] 31)))
            (try rw [hw9])
            refine hK.out _ _ (fun _ => ⟨G6.out.c7, G6.out.c5⟩) ?_
            clear hK K
            (try simp only [Act.put, List.setIfInBounds_toArray, List.set_cons_zero, List.set_cons_succ])
            refine wpLast_one (i := 11) (o := ⟨some 49, _, _, _, _, _⟩) (by kernel_rfl) rfl (fun K hK => ?_)
            refine step_app rfl _ _ _ rfl 31 (.int .u64 0) 8 Try.underlying23 info_u64 rfl X.B0 pv (ou64s ps) (.int .u64 (tv nx)) rfl G6.out.psl.sl ⟨w3.heap.size, 0, none⟩ rfl (by rw [cell_one_new']) rfl (by rw [ou64s_len]; omega) (by rw [ou64s_len]; unfold maxLen; omega) G6.out.le ?_
            intro g6 c6 w4 hsl hon hnew
            rw [← ou64s_snoc] at hsl
            obtain ⟨a1, a2, a3, a4, a5, a6, a7, a8⟩ := G6.out.grow_ hX G6.out.psl hon
            have q7 : w4.cell? ⟨X.gb, 7, none⟩ = some pv := a3.cellv rfl
            have q5 : w4.cell? ⟨X.gb, 5, none⟩ = some (.int .u64 (m : Int)) := a3.cellv rfl
            have f7 := a3.frozen 7
            have G7 := hide (G6.out.appP hX hon hsl hnew)
            clear a1 a2 a3 a4 a5 a6 a7 a8 hsl hon hnew
            refine hK.out _ _ (fun _ => ⟨q7, q5⟩) ?_
            clear hK K
            refine wpLast_one (i := 12) (o := ⟨some 50, _, _, _, _, _⟩) (by kernel_rfl) rfl (fun K hK => ?_)
            go_simp
            refine hK.out _ _ (fun _ => ⟨q7, q5⟩) ?_
            clear hK K
            (try simp only [Act.put, List.setIfInBounds_toArray, List.set_cons_zero, List.set_cons_succ])
            refine wpLast_one (i := 13) (o := ⟨some 51, _, _, _, _, _⟩) (by kernel_rfl) rfl (fun K hK => ?_)
            go_simp
            refine hK.out _ _ (fun _ => ⟨q7, q5⟩) ?_
            clear hK K
            (try simp only [Act.put, List.setIfInBounds_toArray, List.set_cons_zero, List.set_cons_succ])
            refine wpLast_one (i := 14) (o := ⟨none, _, _, _, _, _⟩) (by kernel_rfl) rfl (fun K hK => ?_)
            go_simp
            refine hK.out _ _ (fun h => absurd rfl h) ?_
            clear hK K
            refine wpLast_done (by kernel_rfl) ?_ _
            go_wp2_with fail
            go_meet
            exact ⟨_, _, G7.out⟩
          case rest =>
          obtain ⟨pv2, own2, hg4⟩ := hcut
          have G4 := hide hg4
          clear hg4
          go_wp2_with fail
          go_meet
          refine ⟨L, tc, _, _, _, _, _, _, _, _, G4.out, by have := HBI.out; rw [HTN.out, hm] at this; exact this, upd_same _ _ _, by rw [upd_same]; rfl, fun t ht => ⟨upd_ne _ _ (by omega), upd_ne _ _ (by omega)⟩, HG.out.tcb, by rw [List.length_append]; have := HG.out.pl; simp; omega, fun e => by cases e⟩
        case rest =>
          obtain ⟨L1, tc1, o1, own1, act1, bo1, nx1, pv1, ps1, T1, hgm, hbi, ha1, ho1, hoth, htc, hpl1, hsame⟩ := hcut
          have G1 := hide hgm
          have B1 := hide hbi
          have HO := hide hoth
          have HSM := hide hsame
          have HPL := hide hpl1
          have HTC := hide htc
          have HA1 := hide ha1
          have HO1 := hide ho1
          have d4 := hgm.c4
          rw [on_ ha1] at d4
          clear hgm hbi hoth hsame hpl1 htc ha1 ho1
          go_wp2_with fail
          refine (COp_step G1.out.env (by have := B1.out.ci.ok X.n (Nat.le_refl _); rw [B1.out.ci.len]; exact this) (G1.out.fam X.n (Nat.le_refl _) HA1.out) (few_of _ (by have := HTC.out; omega)) HO1.out).mono ?_
          rintro e w5 ⟨rfl, h1, h2, S5, hoS, hft⟩
          obtain ⟨st', T', M', e1, e2, e3, e4⟩ := B1.out.ostep HO1.out
          rw [e1] at h1 ⊢
          have G5 := hide (G1.out.step hX (Nat.le_refl _) HA1.out hoS hft h1 h2 (by rw [upd_same]; have := e2.ci.sho; rw [upd_same] at this; exact this))
          have E2 := hide e2
          have E34 := hide (And.intro e3 e4)
          clear h1 h2 hoS hft e1 e2 e3 e4
          by_cases hz : st'.out = 0
          · have HZ := hide hz
            have hzb : (st'.out != 0) = false := by rw [hz]; rfl
            rw [hzb]
            clear hz hzb
            go_wp2_with fail
            go_end0
            refine ⟨rfl, c + 1, _, _, _, _, act1, bo1, _, _, _, _, _, ⟨G5.out, E2.out, fun t ht => ?_, fun t ht hne => ?_, by have := HTC.out; omega, fun t ht => by rw [upd_ne _ _ (by omega), (HO.out t ht).2]; exact HG.out.npl t ht, by have := HPL.out; omega, by have := HG.out.fl; omega⟩, by omega, Nat.le_refl _, fun hmf => .inl ?_⟩
            · by_cases e : t = X.n
              · subst e; rw [upd_same, HA1.out, HZ.out]; rfl
              · rw [upd_ne _ _ e, (HO.out t (by omega)).1, (HO.out t (by omega)).2]; exact HG.out.ac t ht
            · by_cases e : t = X.n
              · subst e; rw [upd_same] at hne; exact absurd HZ.out hne
              · rw [upd_ne _ _ e, (HO.out t (by omega)).2] at hne ⊢; exact HG.out.idl t ht hne
            · rw [upd_same, ← HSM.out hmf]; exact E34.out.1
          · have HZ := hide hz
            have hzb : (st'.out != 0) = true := by simp [hz]
            rw [hzb]
            clear hz hzb
            have f4 := G5.out.g.frozen 4
            have k4 := G5.out.c4
            rw [on_ HA1.out] at k4
            go_wp2_with fail
            have hov : ∃ a v, st' = .over a v := by
              cases hst : st' with
              | over a v => exact ⟨a, v, rfl⟩
              | _ => exact absurd (by rw [hst]; rfl) HZ.out
            obtain ⟨a, v, hov⟩ := hov
            have hbf := E2.out.ofinish (a := a) (v := v) (by rw [upd_same]; exact hov)
            rw [upd_upd'] at hbf
            have hg6 := G5.out.setG hX 4 (.pointer none) (act' := upd act1 X.n false) (bo' := bo1) (nx' := nx1) (by unfold gangV; rw [off_ (act := upd act1 X.n false) (upd_same _ _ _)]; rfl) (fun t ht => by unfold optr; rw [upd_ne _ _ (by omega)]) (fun t ht hat => by
              by_cases e : t = X.n
              · subst e; rw [upd_same] at hat; cases hat
              · rw [upd_ne _ _ e] at hat; exact ⟨hat, rfl⟩)
            have hg7 := hg6.forget (t := X.n) (upd_same _ _ _) (by rw [upd_same]; exact .idle)
            rw [upd_upd'] at hg7
            go_end0
            refine ⟨rfl, c + 1, _, _, _, _, _, _, _, _, _, _, _, ⟨hg7, hbf, fun t ht => ?_, fun t ht hne => ?_, by have := HTC.out; omega, fun t ht => by rw [upd_ne _ _ (by omega), (HO.out t ht).2]; exact HG.out.npl t ht, by have := HPL.out; omega, by have := HG.out.fl; omega⟩, by omega, Nat.le_refl _, fun hmf => .inr (upd_same _ _ _)⟩
            · by_cases e : t = X.n
              · subst e; rw [upd_same, upd_same]; rfl
              · rw [upd_ne _ _ e, upd_ne _ _ e, (HO.out t (by omega)).1, (HO.out t (by omega)).2]; exact HG.out.ac t ht
            · by_cases e : t = X.n
              · subst e; rw [upd_same]
              · rw [upd_ne _ _ e, (HO.out t (by omega)).2] at hne ⊢; exact HG.out.idl t ht hne
      · have h200' : ¬ ((nx : Int) < 200) := h200
        go_wp2_with fail
        refine bodyPost_ret (results_none rfl _ _ _) rfl ?_
        exact ⟨rfl, c, L, tc, o, own, act, bo, nx, pv, ps, T, M, HG.out, Nat.le_refl _, by omega, fun e => by cases e⟩
end
end Go.Proofs.Ytdoaipjdldknaaa
