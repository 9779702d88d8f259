/-
  CrewOnce: do all workers sleep; a poll that is run to its end; the measure is no less than 0.
-/
import Derived.Test.YtdoaipjdldknaaaKO14
namespace Go.Proofs.Ytdoaipjdldknaaa
open Go.RowKit
set_option linter.unusedVariables false
section
variable {X : GX} {w0 w w1 : World} {r : Int} {c tm : Nat} {L : List Int} {tc tc' : Int} {o : Nat → CSt} {own : Nat → Nat} {act : Nat → Bool} {bo : Nat → Nat} {ph : Nat → Nat} {lf : Nat → Int} {nx : Nat} {fv pv : Value} {fd ps : List Int} {T H : Nat} {S : Nat → List Int} {M : Nat → Int}
theorem GM.polled (h : GM X w0 w L tc o own act bo ph lf nx fv pv fd ps) (hX : X.Ok w0.heap.size) {B : Nat} (ho' : Only (SB X.bm X.bc B) w w1) (hB : w.heap.size ≤ B) (henv : CEnv w1 (crewF X.n X.s) X.cb X.bb X.bg X.bm X.bc X.dv X.bd tc' L) : GM X w0 w1 L tc' o own act bo ph lf nx fv pv fd ps := by
  have ho : Only (fun k => k = X.bm ∨ k = X.bc) w w1 := ho'.weaken fun k hk hs => by
    rcases hs with e | e | e
    · exact .inl e
    · exact .inr e
    · omega
  have hn : ∀ {g : Nat} {ty : TypeId} {cs : Array Value}, Blk w g ty cs → Four ty → g ≠ X.bc → ¬ (g = X.bm ∨ g = X.bc) := fun {g ty cs} hg h4 hc hs => by
    rcases hs with e | e
    · refine Blk.ne_ hg h.env.mem.mem (fun e2 => ?_) e
      subst e2
      rcases h4 with e | e | e | e <;> revert e <;> decide
    · exact hc e
  have hsl : ∀ {v : Value} {xs : List Int}, GSl X w own v xs → ∀ g, v.ownBlock = some g → ¬ (g = X.bm ∨ g = X.bc) := fun hv g hg hs => by
    have h1 := (hv.sl.block hg).1
    have h2 := hX.bc
    have h3 := hX.bm
    rcases hs with e | e <;> omega
  refine ⟨henv, fun s hs has => ?_, h.sho, h.g.only ho (hn h.g gb_ty (h.g.ne_ h.env.mem.cells (by decide))), h.ops.only ho (hn h.ops ob_ty (h.ops.ne_ h.env.mem.cells (by decide))), h.phs.only ho (hn h.phs pb_ty (h.phs.ne_ h.env.mem.cells (by decide))), h.lfs.only ho (hn h.lfs lb_ty hX.lc), h.fsl.only ho (hsl h.fsl), h.psl.only ho (hsl h.psl), h.fp, ?_, Nat.le_trans h.le ho.size⟩
  · refine ((h.fam s hs has).away h.env.mem.mem ⟨_, h.env.mem.cells⟩ ho ⟨fun k hk => ?_, fun k hk hk' => ?_⟩).more (OwnJ.up ho.size)
    · rcases hk with e | e
      · exact .inl e
      · exact .inr (.inl e)
    · have q := hk.1.2
      have q1 := hX.bm
      have q2 := hX.bc
      rcases hk' with e2 | e2 <;> omega
  · refine h.only.then ho fun k hk hs => ?_
    have q1 := hX.bm0
    have q2 := hX.bc0
    rcases hs with e | e <;> (exfalso; omega)
theorem poll_cdone {n s b p : Nat} (h : CI n s L o ph T H S M b) (hp : p < n) : cdone (crewF n s) 200 L (pollC (crewF n s) p) = (L, .over (if M p = 0 then 1 else 4) 0, 1) := by
  obtain ⟨m1, m2⟩ := h.mks p hp
  have hb1 : bstep (crewF n s).base (crewF n s).n L ⟨2, p, 0⟩ = (L, ⟨2, p, pollOut (M p)⟩) := by show bstep 0 n L _ = _; simp [bstep, m1]
  have hpc : pollC (crewF n s) p = .poll ⟨2, p, 0⟩ := by unfold pollC; rw [if_pos ⟨by omega, by show (p : Int) < n; omega⟩]
  rw [hpc]
  rcases m2 with m2 | m2
  · have hc : cstep (crewF n s) L (.poll ⟨2, p, 0⟩) = (L, .over 1 0) := by simp only [cstep]; rw [hb1, m2]; rfl
    rw [cdone_succ _ 199 _ _ rfl, hc, cdone_over _ _ _ (CSt.over 1 0) (show (1 : Int) ≠ 0 by decide), m2]
    rfl
  · have hc : cstep (crewF n s) L (.poll ⟨2, p, 0⟩) = (L, .over 4 0) := by simp only [cstep]; rw [hb1, m2]; rfl
    rw [cdone_succ _ 199 _ _ rfl, hc, cdone_over _ _ _ (CSt.over 4 0) (show (4 : Int) ≠ 0 by decide), m2]
    rfl
theorem dg_pos (H : Nat) (g : Gop) : 3 ≤ dg H g := by unfold dg; (repeat' split) <;> omega
theorem Nf_pos (v : Int) : 0 ≤ Nf v := by unfold Nf; split <;> omega
theorem Wl_pos (v : Int) : 0 ≤ Wl v := by
  unfold Wl
  split
  · have := ew_pos (v / 3); omega
  · omega
theorem dist_nonneg {n s p k : Nat} {l m : Int} {st : CSt} {Sp : List Int} (hsh : Sh n p k st Sp m) (hok : CStOk (crewF n s) 1000 st) : 0 ≤ dist n H k l m st := by
  have hd := fun m => (Dp_le m).1
  cases hsh with
  | f0 => show (0 : Int) ≤ 29; omega
  | fpop d r S h1 h2 h3 h4 =>
    rw [dist_dq]
    split
    · simp; omega
    · have := hok.2.1.1; simp; omega
  | ftk g r h1 h2 => rw [dist_gt]; have := dg_pos H g; omega
  | fst v d r h1 h2 h3 h4 =>
    rw [dist_dq]
    have := hok.2.1
    split
    · simp; omega
    · have := this.1; simp; omega
  | fyes v => rw [dist_yes _ _ _ _ _ (.inl rfl)]; have := Nf_pos v; have := Wl_pos v; omega
  | fno => show (0 : Int) ≤ 6; omega
  | r0 => show (0 : Int) ≤ 6; omega
  | rsl => show (0 : Int) ≤ 6; omega
  | rtk g m => rw [dist_tk]; have := dg_pos H g; have := hd m; omega
  | rup t m => show (0 : Int) ≤ 700; omega
  | ryes v => rw [dist_yes _ _ _ _ _ (.inr rfl)]; have := Nf_pos v; have := Wl_pos v; omega
  | rno m => show (0 : Int) ≤ Dp m; exact hd m
  | p0 m => show (0 : Int) ≤ Dp m; exact hd m
  | ppl m => show (0 : Int) ≤ Dp m; exact hd m
  | pyes => show (0 : Int) ≤ 29; omega
  | pno m => show (0 : Int) ≤ Dp m; exact hd m
  | o0 => show (0 : Int) ≤ 71 + 100 * ew l; have := ew_pos l; omega
  | opu v d h1 h2 => show (0 : Int) ≤ (5 - d.k) + 67 + 100 * ew v; have := ew_pos v; omega
  | org k q S h1 h2 => rw [dist_ring]; dsimp only; split <;> omega
  | oend S => show (0 : Int) ≤ 29; omega
theorem BI.psi_nonneg (h : BI X.n X.s r L o ph lf nx fd ps c T H S M) : 0 ≤ Psi X.n T H o ph lf S M := by
  unfold Psi
  have h1 : 0 ≤ wl (fun _ => 710) (inD H T tv) := wl_nonneg (fun _ => by omega) _
  have h2 : 0 ≤ sumW X.n (fun i => dist X.n H (ph i) (lf i) (M i) (o i) + wl (fun x => 100 * ew x) (S i)) := sumW_nonneg fun i hi => by
    have a := dist_nonneg (H := H) (l := lf i) (h.ci.sh i hi) (h.ci.ok i (by omega))
    have b : 0 ≤ wl (fun x => 100 * ew x) (S i) := wl_nonneg (fun x => by have := ew_pos x; omega) _
    omega
  omega
def Slept (n : Nat) (ph : Nat → Nat) (act : Nat → Bool) (w : World) (e : Ending) (w' : World) : Prop := w' = w ∧ ∃ b, e = .returned (.bool b) ∧ (b = true ↔ (∀ t, t < n → ph t = 2 ∧ act t = false) ∧ act n = false)
set_option maxRecDepth 100000 in
set_option maxHeartbeats 4000000 in
theorem asleep_any (h : GM X w0 w L tc o own act bo ph lf nx fv pv fd ps) : Calls Try.prog 16 #[.pointer (some ⟨X.gb, 0, none⟩)] w fun e w' => Slept X.n ph act w e w' := by
  have c1 := h.c1
  have c2 := h.c2
  have c4 := h.c4
  have hn8 := h.env.fit.n8
  change X.n ≤ 8 at hn8
  have HG := hide h
  clear h
  go_enter Try.func16, Try.ntmps16
  go_wp2_with fail
  go_loopg [3] X.n (fun q iv wr => ∃ (k : Nat), q = X.n - k ∧ k ≤ X.n ∧ iv = .int .i64 k ∧ wr = w ∧ ∀ t, t < k → ph t = 2 ∧ act t = false)
  case atStart => exact ⟨0, by omega, by omega, rfl, rfl, fun t ht => by omega⟩
  case round =>
    obtain ⟨k, rfl, hk, rfl, rfl, hall⟩ := hrel
    have HALL := hide hall
    clear hall
    by_cases hlt : k < X.n
    · have hki : (k : Int) < X.n := by omega
      have hk0 : (0 : Int) ≤ k := by omega
      have cp := HG.out.phs.cellv (tabC_get (fun i => Value.int .i64 (ph i : Int)) hlt)
      have cq := HG.out.ops.cellv (tabC_get (fun i => optr act bo i) hlt)
      by_cases hp2 : ph k = 2
      · rw [hp2] at cp
        cases ha : act k with
        | true =>
          rw [on_ ha] at cq
          go_wp2_with fail
          go_ret
          exact ⟨rfl, false, rfl, by simp; intro h; have := (h k hlt).2; rw [ha] at this; cases this⟩
        | false =>
          rw [off_ ha] at cq
          go_wp2_with fail
          go_roundg (X.n - (k + 1))
          case rel =>
            refine ⟨k + 1, rfl, by omega, by go_num, rfl, fun t ht => ?_⟩
            by_cases e : t = k
            · subst e; exact ⟨hp2, ha⟩
            · exact HALL.out t (by omega)
          case measure => omega
      · have hp2' : ¬ ((ph k : Int) = 2) := by omega
        go_wp2_with fail
        go_ret
        exact ⟨rfl, false, rfl, by simp; intro h; exact absurd (h k hlt).1 hp2⟩
    · have hki : ¬ ((k : Int) < X.n) := by omega
      have hkn : k = X.n := by omega
      subst hkn
      cases ha : act X.n with
      | true =>
        rw [on_ ha] at c4
        have HA := hide ha
        clear ha
        go_wp2_with fail
        go_ret
        exact ⟨rfl, false, rfl, by simp [HA.out]⟩
      | false =>
        rw [off_ ha] at c4
        have HA := hide ha
        clear ha
        go_wp2_with fail
        go_ret
        exact ⟨rfl, true, rfl, by simp; exact ⟨HALL.out, HA.out⟩⟩
end
end Go.Proofs.Ytdoaipjdldknaaa
