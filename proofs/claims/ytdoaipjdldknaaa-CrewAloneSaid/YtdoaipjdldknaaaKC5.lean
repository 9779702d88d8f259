/-
  Package crew: the closures behind a put, a push, the last part of a rest, a poll.
-/
import Derived.Test.YtdoaipjdldknaaaKC4
namespace Go.Proofs.Ytdoaipjdldknaaa
open Go.RowKit
set_option linter.unusedVariables false
section
variable {w : World} {co cb bb bg bm bc xp xo xv gp : Nat} {dv cur thn : Value} {out val v : Int} {bbase bn gbase ga tc : Int} {L : List Int}
theorem enter1_full {g : Gop} (hp : GBox w xp gp) (hxo : OBox w xo co) (hxv : VBox w xv v) (hg : GopIs w gp bg g) (ho : g.out = 2) (h : CopAt w co cb cur thn 0 val) (hc : CrewAt w cb bb bg dv) (hbe : BellEnv w bb bm bc bbase bn tc L) (hge : GateEnv w bg bm bc gbase ga tc L) :
    Calls Try.prog 57 #[.pointer (some ⟨xp, 0, none⟩), .pointer (some ⟨xo, 0, none⟩), .pointer (some ⟨xv, 0, none⟩)] w fun e w' => e = .returned (.tuple #[]) ∧ Entered w w' co cb bg gbase v val := by
  have c0 := hp.c0
  have c1 := hxo.c0
  have c2 := hxv.c0
  have hb : (g.out == 2) = true := by rw [ho]; rfl
  have HG := hide hg
  have H := hide h
  have HC := hide hc
  have HBE := hide hbe
  have HGE := hide hge
  clear hp hxo hxv hg h hc hbe hge ho
  go_enter Try.func57, Try.ntmps57
  go_wp2_with fail
  refine (HG.out.outcome).mono ?_
  rintro e w1 ⟨rfl, rfl⟩
  go_wp2_with fail
  refine (enter_any v H.out HC.out HGE.out).mono ?_
  rintro e w1 ⟨rfl, h1⟩
  have H1 := hide h1
  clear h1
  go_wp2_with fail
  refine bodyPost_ret (results_none rfl _ _ _) rfl ?_
  exact ⟨rfl, H1.out⟩
theorem offer1_full {bd : Nat} {g : Dop} (hp : DBox w xp gp) (hxo : OBox w xo co) (hxv : VBox w xv v) (hg : DopIs w gp bd g) (ho : g.out = 2) (h : CopAt w co cb cur thn 0 val) (hc : CrewAt w cb bb bg dv) (hbe : BellEnv w bb bm bc bbase bn tc L) (hge : GateEnv w bg bm bc gbase ga tc L) :
    Calls Try.prog 32 #[.pointer (some ⟨xp, 0, none⟩), .pointer (some ⟨xo, 0, none⟩), .pointer (some ⟨xv, 0, none⟩)] w fun e w' => e = .returned (.tuple #[]) ∧ Entered w w' co cb bg gbase v val := by
  have c0 := hp.c0
  have c1 := hxo.c0
  have c2 := hxv.c0
  have hb : (g.out == 2) = true := by rw [ho]; rfl
  have HG := hide hg
  have H := hide h
  have HC := hide hc
  have HBE := hide hbe
  have HGE := hide hge
  clear hp hxo hxv hg h hc hbe hge ho
  go_enter Try.func32, Try.ntmps32
  go_wp2_with fail
  refine (HG.out.outcome).mono ?_
  rintro e w1 ⟨rfl, rfl⟩
  go_wp2_with fail
  refine (enter_any v H.out HC.out HGE.out).mono ?_
  rintro e w1 ⟨rfl, h1⟩
  have H1 := hide h1
  clear h1
  go_wp2_with fail
  refine bodyPost_ret (results_none rfl _ _ _) rfl ?_
  exact ⟨rfl, H1.out⟩
theorem enter1_ring {g : Gop} (hp : GBox w xp gp) (hxo : OBox w xo co) (hxv : VBox w xv v) (hg : GopIs w gp bg g) (ho : g.out ≠ 2) (h : CopAt w co cb cur thn 0 val) (hc : CrewAt w cb bb bg dv) (hbe : BellEnv w bb bm bc bbase bn tc L) (hge : GateEnv w bg bm bc gbase ga tc L) :
    Calls Try.prog 57 #[.pointer (some ⟨xp, 0, none⟩), .pointer (some ⟨xo, 0, none⟩), .pointer (some ⟨xv, 0, none⟩)] w fun e w' => e = .returned (.tuple #[]) ∧ Rung w w' co cb bb bn val := by
  have c0 := hp.c0
  have c1 := hxo.c0
  have c2 := hxv.c0
  have hb : (g.out == 2) = false := by simp [ho]
  have HG := hide hg
  have H := hide h
  have HC := hide hc
  have HBE := hide hbe
  have HGE := hide hge
  clear hp hxo hxv hg h hc hbe hge ho
  go_enter Try.func57, Try.ntmps57
  go_wp2_with fail
  refine (HG.out.outcome).mono ?_
  rintro e w1 ⟨rfl, rfl⟩
  go_wp2_with fail
  refine (ring_any H.out HC.out HBE.out).mono ?_
  rintro e w1 ⟨rfl, h1⟩
  have H1 := hide h1
  clear h1
  go_wp2_with fail
  go_end0
  exact ⟨rfl, H1.out⟩
theorem offer1_ring {bd : Nat} {g : Dop} (hp : DBox w xp gp) (hxo : OBox w xo co) (hxv : VBox w xv v) (hg : DopIs w gp bd g) (ho : g.out ≠ 2) (h : CopAt w co cb cur thn 0 val) (hc : CrewAt w cb bb bg dv) (hbe : BellEnv w bb bm bc bbase bn tc L) (hge : GateEnv w bg bm bc gbase ga tc L) :
    Calls Try.prog 32 #[.pointer (some ⟨xp, 0, none⟩), .pointer (some ⟨xo, 0, none⟩), .pointer (some ⟨xv, 0, none⟩)] w fun e w' => e = .returned (.tuple #[]) ∧ Rung w w' co cb bb bn val := by
  have c0 := hp.c0
  have c1 := hxo.c0
  have c2 := hxv.c0
  have hb : (g.out == 2) = false := by simp [ho]
  have HG := hide hg
  have H := hide h
  have HC := hide hc
  have HBE := hide hbe
  have HGE := hide hge
  clear hp hxo hxv hg h hc hbe hge ho
  go_enter Try.func32, Try.ntmps32
  go_wp2_with fail
  refine (HG.out.outcome).mono ?_
  rintro e w1 ⟨rfl, rfl⟩
  go_wp2_with fail
  refine (ring_any H.out HC.out HBE.out).mono ?_
  rintro e w1 ⟨rfl, h1⟩
  have H1 := hide h1
  clear h1
  go_wp2_with fail
  go_end0
  exact ⟨rfl, H1.out⟩
/-- The value of what was taken. -/
theorem rest3_any {g : Gop} {xt : Nat} (hxo : OBox w xo co) (hxt : GBox w xt gp) (hg : GopIs w gp bg g) (h : CopAt w co cb cur thn out val) :
    Calls Try.prog 50 #[.pointer (some ⟨xo, 0, none⟩), .pointer (some ⟨xt, 0, none⟩)] w fun e w' => e = .returned (.tuple #[]) ∧ CopAt w' co cb cur thn 1 (gvalue g.ahead g.v g.out) ∧ Only (S1 co) w w' := by
  have c0 := hxo.c0
  have c1 := hxt.c0
  have HG := hide hg
  have H := hide h
  have HXO := hide hxo
  have HXT := hide hxt
  have n1 : xo ≠ co := fun e => Blk.ne_ hxo h (by decide) e
  have n2 : xt ≠ co := fun e => Blk.ne_ hxt h (by decide) e
  clear hxo hxt hg h
  go_enter Try.func50, Try.ntmps50
  go_upto_region 0 with fail
  have z0 := HXO.out.drew.c0
  have z1 := HXT.out.drew.c0
  go_region_held3 (fun w' : World => w'.cell? ⟨xo, 0, none⟩ = some (.pointer (some ⟨co, 0, none⟩)) ∧ w'.cell? ⟨xt, 0, none⟩ = some (.pointer (some ⟨gp, 0, none⟩))) (first | with_reducible exact ⟨z0, z1⟩ | with_reducible exact ⟨y0, y1⟩) (first | (go_at_call 51; refine (GopIs.value (show GopIs w.drew gp bg g from HG.out)).mono ?_; rintro e w2 ⟨rfl, rfl⟩) | (go_at_call 48; refine (CEnd_any _ _ H.out.drew).mono ?_; rintro e w3 ⟨rfl, h3, o3⟩; have H3 := hide h3; have y0 := (HXO.out.drew.only o3 n1).c0; have y1 := (HXT.out.drew.only o3 n2).c0; have O3 := hide (((Only.refl (S1 co) w).drew).trans o3); clear h3 o3))
  go_wp2_with fail
  all_goals go_end0
  all_goals exact ⟨rfl, H3.out, O3.out⟩
theorem poll1c_any {b : Bop} {xb bp : Nat} (hxo : OBox w xo co) (hxt : BBox w xb bp) (hg : BopIs w bp bb b) (h : CopAt w co cb cur thn out val) :
    Calls Try.prog 53 #[.pointer (some ⟨xo, 0, none⟩), .pointer (some ⟨xb, 0, none⟩)] w fun e w' => e = .returned (.tuple #[]) ∧ CopAt w' co cb cur thn b.out 0 ∧ Only (S1 co) w w' := by
  have c0 := hxo.c0
  have c1 := hxt.c0
  have HG := hide hg
  have H := hide h
  have HXO := hide hxo
  have HXT := hide hxt
  have n1 : xo ≠ co := fun e => Blk.ne_ hxo h (by decide) e
  have n2 : xb ≠ co := fun e => Blk.ne_ hxt h (by decide) e
  clear hxo hxt hg h
  go_enter Try.func53, Try.ntmps53
  go_upto_region 0 with fail
  have z0 := HXO.out.drew.c0
  have z1 := HXT.out.drew.c0
  go_region_held3 (fun w' : World => w'.cell? ⟨xo, 0, none⟩ = some (.pointer (some ⟨co, 0, none⟩)) ∧ w'.cell? ⟨xb, 0, none⟩ = some (.pointer (some ⟨bp, 0, none⟩))) (first | with_reducible exact ⟨z0, z1⟩ | with_reducible exact ⟨y0, y1⟩) (first | (go_at_call 54; refine (BopIs.outcome (show BopIs w.drew bp bb b from HG.out)).mono ?_; rintro e w2 ⟨rfl, rfl⟩) | (go_at_call 48; refine (CEnd_any _ _ H.out.drew).mono ?_; rintro e w3 ⟨rfl, h3, o3⟩; have H3 := hide h3; have y0 := (HXO.out.drew.only o3 n1).c0; have y1 := (HXT.out.drew.only o3 n2).c0; have O3 := hide (((Only.refl (S1 co) w).drew).trans o3); clear h3 o3))
  go_wp2_with fail
  all_goals go_end0
  all_goals exact ⟨rfl, H3.out, O3.out⟩
end
end Go.Proofs.Ytdoaipjdldknaaa
