/-
  A thief's step of the gang (troupelaw04.gang.steal), the walk.
-/
import Derived.Test.YtblkbfdmoanbfaaDeqW
import Derived.Deep.DeepCutAuto
import Derived.OwnWalk
import Derived.Test.YtblkbfdmoanbfaaLastG
namespace Go.Proofs.Ytblkbfdmoanbfaa
open Go.RowKit
set_option linter.unusedVariables false

def SB (B : Nat) : Nat → Prop := fun k => B ≤ k
theorem SB.s0 {B : Nat} {w w' : World} (h : Only S0 w w') : Only (SB B) w w' := h.mono fun _ h => h.elim
theorem upd_upd {α : Type} (o : Nat → α) (p : Nat) (x y : α) : upd (upd o p x) p y = upd o p y := by
  funext i
  by_cases e : i = p
  · subst e; rw [upd_same, upd_same]
  · rw [upd_ne _ _ e, upd_ne _ _ e, upd_ne _ _ e]
theorem upd_self {α : Type} (o : Nat → α) (p : Nat) : upd o p (o p) = o := by
  funext i
  by_cases e : i = p
  · subst e; rw [upd_same]
  · rw [upd_ne _ _ e]
/-- The table of operations that p steps with. -/
def bThf (act : Nat → Bool) (o : Nat → Dop) (q : Nat) : Nat → Dop := if act q then o else upd o q stealOp
/-- Behind a thief's step. -/
def Stolen (w w' : World) (B gb tb bd bm bc n : Nat) (tc : Int) (act : Nat → Bool) (q : Nat) (o2 : Nat → Dop) (x : List Int × Dop) (pu : Bool) (nx : Int) (XS : Nat → List Int) (lost most : Int) : Prop :=
  ∃ bo' sv' lost', GW w' B gb tb bd bm bc n x.1 tc (upd act q (decide (x.2.out = 0))) (upd o2 q x.2) bo' pu nx sv' (upd XS 2 (stG x.2 (XS 2))) lost' most ∧ Only (SB B) w w' ∧ lost ≤ lost' ∧ lost' ≤ lost + 1
section
variable {w : World} {B gb tb bd bm bc n p : Nat} {L : List Int} {tc : Int} {act : Nat → Bool} {o : Nat → Dop} {bo : Nat → Nat} {pu : Bool} {nx : Int} {sv : Nat → Value} {XS : Nat → List Int} {lost most : Int}
theorem stG_no {x : Dop} {l : List Int} (h : x.out ≠ 1) : stG x l = l := if_neg h
theorem GW.ton (h : GW w B gb tb bd bm bc n L tc act o bo pu nx sv XS lost most) (hp : p < 2) (ha : act (p + 1) = true) : w.cell? ⟨tb, p, none⟩ = some (.pointer (some ⟨bo (p + 1), 0, none⟩)) := by rw [h.tt hp, optr_on _ ha]
theorem GW.toff (h : GW w B gb tb bd bm bc n L tc act o bo pu nx sv XS lost most) (hp : p < 2) (ha : act (p + 1) = false) : w.cell? ⟨tb, p, none⟩ = some (.pointer none) := by rw [h.tt hp, optr_off _ ha]
set_option maxRecDepth 100000 in
set_option maxHeartbeats 4000000 in
theorem steal_0 (h : GW w B gb tb bd bm bc n L tc act o bo pu nx sv XS lost most) (hok : DopOk (bThf act o 1 1)) (h0 : (bThf act o 1 1).out = 0)
    (hf : Few (tc + 10)) (hl0 : 0 ≤ lost) (hl1 : lost ≤ 100000) (hk : (XS 2).length ≤ 100000) :
    Calls Try.prog 39 #[.pointer (some ⟨gb, 0, none⟩), .int .i64 0] w fun e w' => e = .returned (.tuple #[]) ∧ Stolen w w' B gb tb bd bm bc n (tc + 1) act 1 (bThf act o 1) (dstep 0 n L (bThf act o 1 1)) pu nx XS lost most := by
  have H := hide h
  have k1 := h.cc6
  have HOK := hide (And.intro hok h0)
  clear hok h0
  have hact : act 1 = true ∨ act 1 = false := by cases act 1 <;> simp
  have ko : ∃ v, w.cell? ⟨tb, 0, none⟩ = some (.pointer v) ∧ v = if act 1 then some ⟨bo 1, 0, none⟩ else none := by
    rcases hact with e | e
    · exact ⟨_, h.ton (by omega) e, by rw [e]; rfl⟩
    · exact ⟨_, h.toff (by omega) e, by rw [e]; rfl⟩
  obtain ⟨v, ko, hv⟩ := ko
  have HV := hide hv
  have HACT := hide hact
  clear hv hact h
  obtain ⟨o2, ho2⟩ : ∃ o2, bThf act o 1 = o2 := ⟨_, rfl⟩
  rw [ho2] at HOK ⊢
  have HO2 := hide ho2
  clear ho2
  go_enter Try.func39, Try.ntmps39
  go_upto_if 11 with fail
  go_cut [] (fun wx => ∃ bo', GW wx B gb tb bd bm bc n L tc (upd act 1 true) o2 bo' pu nx sv XS lost most ∧ Only (SB B) w wx)
  case first =>
    rcases HACT.out with e | e
    · have hv' := HV.out
      rw [e] at hv'
      have HE := hide e
      rw [hv']
      clear ko
      clear hv' e
      go_wp2_with fail
      go_meet
      refine ⟨bo, ?_, Only.refl _ _⟩
      have q1 := HO2.out
      unfold bThf at q1
      rw [if_pos HE.out] at q1
      rw [← q1, show upd act 1 true = act from by rw [← HE.out]; exact upd_self _ _]
      exact H.out
    · have hv' := HV.out
      rw [e] at hv'
      have HE := hide e
      rw [hv']
      clear ko
      clear hv' e
      go_wp2_with fail
      have z0 := H.out.drew.cc0
      have z1 := H.out.drew.cc6
      clear k1
      go_region_held3 (fun w' : World => w'.cell? ⟨gb, 0, none⟩ = some (.pointer (some ⟨bd, 0, none⟩)) ∧ w'.cell? ⟨gb, 6, none⟩ = some (.slice (some ⟨tb, 0, none⟩) 2 2)) (first | exact ⟨z0, z1⟩ | exact ⟨y0, y1⟩ | exact ⟨y4, y5⟩) (first | (go_at_call 25; refine (DSteal_all H.out.drew.env).mono ?_; rintro e w1 ⟨rb, rfl, g1, e1, o1, b1⟩; have y0 := (H.out.drew.only0 o1).cc0; have y1 := (H.out.drew.only0 o1).cc6; have y2 := (H.out.drew.only0 o1).toff (p := 0) (by omega) HE.out; have y3 := (H.out.drew.only0 o1).th.frozen 0; have C1 := hide (H.out.drew.beginT (p := 0) (by omega) o1 g1 b1); have y4 := C1.out.cc0; have y5 := C1.out.cc6; have O1 := hide (((SB.s0 (B := B) ((Only.refl S0 w).drew.trans o1)).set1 (g := tb) 0 H.out.b2 (.pointer (some ⟨rb, 0, none⟩)))); clear o1 g1 e1 b1))
      rename_i hHeld
      clear hHeld y0 y1 y2 y3 y4 y5 z0 z1
      generalize w1.setCell ⟨tb, 0, none⟩ (.pointer (some ⟨rb, 0, none⟩)) = w2 at C1 O1 ⊢
      go_wp2_with fail
      go_meet
      refine ⟨upd bo 1 rb, ?_, O1.out⟩
      have q1 := HO2.out
      unfold bThf at q1
      rw [if_neg (by rw [HE.out]; decide)] at q1
      rw [← q1]
      exact C1.out
  case rest =>
    obtain ⟨bo2, hc, hoo⟩ := hcut
    have HC := hide hc
    have OO := hide hoo
    have k1 := hc.cc6
    have ko := hc.ton (p := 0) (by omega) (upd_same _ _ _)
    clear hc hoo
    go_wp2_with fail
    refine (DStep_all HC.out.env HOK.out.1 (HC.out.fam.at_ 1 (by omega) (upd_same _ _ _)) (hf.le_ (by omega))).mono ?_
    rintro e w1 ⟨rfl, h1, h2, o1⟩
    have hgt : dtick (o2 1) = 1 := by simp [dtick, HOK.out.2]
    rw [hgt] at h2
    obtain ⟨x, hx⟩ : ∃ x, dstep 0 n L (o2 1) = x := ⟨_, rfl⟩
    rw [hx] at h1 h2 ⊢
    have D1 := hide (HC.out.step (p := 1) (by omega) (upd_same _ _ _) o1 h1 h2)
    have hb2 := HC.out.fam.ge 1 (by omega) (upd_same _ _ _)
    have P1 := hide (OO.out.trans (o1.mono (R := SB B) fun k hk => by have := HC.out.b6; have := HC.out.b7; unfold SB; rcases hk with e | e | e <;> omega))
    have HX1 := hide (show DopIs w1 (bo2 1) bd x.2 from h1)
    have HXX := hide hx
    clear h1 h2 o1 hgt hx k1 ko
    by_cases hz : x.2.out = 0
    · have hzb : (x.2.out != 0) = false := by rw [hz]; rfl
      have HZ := hide hz
      clear hz
      go_wp2_with fail
      refine bodyPost_ret (results_none rfl _ _ _) rfl ?_
      rw [HXX.out]
      refine ⟨rfl, bo2, sv, lost, ?_, P1.out, by omega, by omega⟩
      rw [stG_no (by rw [HZ.out]; decide), upd_self, show decide (x.2.out = 0) = true from by simp [HZ.out]]
      exact D1.out
    have hzb : (x.2.out != 0) = true := by simp [hz]
    have HZ := hide hz
    clear hz
    have k1 := D1.out.cc6
    have ko := D1.out.ton (p := 0) (by omega) (upd_same _ _ _)
    go_wp2_with fail
    refine (HX1.out.outcome).mono ?_
    rintro e w1' ⟨rfl, rfl⟩
    by_cases hone : x.2.out = 1
    · have hob : (x.2.out == 1) = true := by rw [hone]; rfl
      have HONE := hide hone
      clear hone
      have HK := hide hk
      clear hk
      go_wp2_with fail
      have D2 := hide D1.out.drew
      have P2 := hide P1.out.drew
      have X2 := hide (show DopIs w1.drew (bo2 1) bd x.2 from HX1.out)
      have HGV := hide (show dvalue x.2.v x.2.out = x.2.v from by unfold dvalue; rw [if_pos HONE.out])
      have hlen : (u64s (XS 2)).length ≤ 100000 := by rw [u64s_len]; exact HK.out
      have HLEN := hide hlen
      obtain ⟨i0, hi0, hz0, hz1, hz2⟩ := info_parts info_u64
      clear k1 ko hlen
      refine wp_region_last 17 (fun w' : World => w'.cell? ⟨gb, 6, none⟩ = some (.slice (some ⟨tb, 0, none⟩) 2 2) ∧ w'.cell? ⟨gb, 7, none⟩ = some (sv 2) ∧ w'.cell? ⟨tb, 0, none⟩ = some (.pointer (some ⟨bo2 1, 0, none⟩))) (by kernel_rfl) ?_
      have hb0 : B ≤ w1.drew.heap.size := Nat.le_trans D2.out.b1 (Nat.le_of_lt D2.out.g.lt)
      generalize w1.drew = w2 at D2 P2 X2 hb0 ⊢
      have kk : (fun w' : World => w'.cell? ⟨gb, 6, none⟩ = some (.slice (some ⟨tb, 0, none⟩) 2 2) ∧ w'.cell? ⟨gb, 7, none⟩ = some (sv 2) ∧ w'.cell? ⟨tb, 0, none⟩ = some (.pointer (some ⟨bo2 1, 0, none⟩))) w2 := ⟨D2.out.cc6, D2.out.cc7, D2.out.ton (p := 0) (by omega) (upd_same _ _ _)⟩
      refine wpLast_take (i := 0) (oi := ⟨some 41, _, _, _, _, _⟩) (v := ?vv41x0) rfl (by kernel_rfl) (by kernel_rfl) (by kernel_rfl) (by kernel_rfl) (by decide) (fun _ _ _ h => h) (Or.inl ⟨by rfl, ?hy41x0⟩) (by assumption) ?rest41x0
      case hy41x0 => intro wq hSw; (try dsimp only at hSw); go_simp; (try with_reducible rfl)
      (try simp only [Act.put, List.setIfInBounds_toArray, List.set_cons_zero, List.set_cons_succ])
      refine wpLast_take (i := 1) (oi := ⟨some 42, _, _, _, _, _⟩) (v := ?vv41x1) rfl (by kernel_rfl) (by kernel_rfl) (by kernel_rfl) (by kernel_rfl) (by decide) (fun _ _ _ h => h) (Or.inl ⟨by rfl, ?hy41x1⟩) (by assumption) ?rest41x1
      case hy41x1 => intro wq hSw; (try dsimp only at hSw); go_simp; (try with_reducible rfl)
      (try simp only [Act.put, List.setIfInBounds_toArray, List.set_cons_zero, List.set_cons_succ])
      refine wpLast_take (i := 2) (oi := ⟨some 43, _, _, _, _, _⟩) (v := ?vv41x2) rfl (by kernel_rfl) (by kernel_rfl) (by kernel_rfl) (by kernel_rfl) (by decide) (fun _ _ _ h => h) (Or.inl ⟨by rfl, ?hy41x2⟩) (by assumption) ?rest41x2
      case hy41x2 => intro wq hSw; (try dsimp only at hSw); go_simp; (try with_reducible rfl)
      (try simp only [Act.put, List.setIfInBounds_toArray, List.set_cons_zero, List.set_cons_succ])
      refine wpLast_take (i := 3) (oi := ⟨some 44, _, _, _, _, _⟩) (v := ?vv41x3) rfl (by kernel_rfl) (by kernel_rfl) (by kernel_rfl) (by kernel_rfl) (by decide) (fun _ _ _ h => h) (Or.inl ⟨by rfl, ?hy41x3⟩) (by assumption) ?rest41x3
      case hy41x3 => intro wq hSw; (try dsimp only at hSw); go_simp; (try with_reducible rfl)
      (try simp only [Act.put, List.setIfInBounds_toArray, List.set_cons_zero, List.set_cons_succ])
      refine wpLast_take (i := 4) (oi := ⟨some 45, _, _, _, _, _⟩) (v := ?vv41x4) rfl (by kernel_rfl) (by kernel_rfl) (by kernel_rfl) (by kernel_rfl) (by decide) (fun _ _ _ h => h) (Or.inl ⟨by rfl, ?hy41x4⟩) (by assumption) ?rest41x4
      case hy41x4 => intro wq hSw; (try dsimp only at hSw); go_simp; (try with_reducible rfl)
      (try simp only [Act.put, List.setIfInBounds_toArray, List.set_cons_zero, List.set_cons_succ])
      refine wpLast_take (i := 5) (oi := ⟨some 46, _, _, _, _, _⟩) (v := ?vv41x5) rfl (by kernel_rfl) (by kernel_rfl) (by kernel_rfl) (by kernel_rfl) (by decide) (fun _ _ _ h => h) (Or.inl ⟨by rfl, ?hy41x5⟩) (by assumption) ?rest41x5
      case hy41x5 => intro wq hSw; (try dsimp only at hSw); go_simp; (try with_reducible rfl)
      (try simp only [Act.put, List.setIfInBounds_toArray, List.set_cons_zero, List.set_cons_succ])
      refine wpLast_take (i := 6) (oi := ⟨some 47, _, _, _, _, _⟩) (v := ?vv41x6) rfl (by kernel_rfl) (by kernel_rfl) (by kernel_rfl) (by kernel_rfl) (by decide) (fun _ _ _ h => h) (Or.inl ⟨by rfl, ?hy41x6⟩) (by assumption) ?rest41x6
      case hy41x6 => intro wq hSw; (try dsimp only at hSw); go_simp; (try with_reducible rfl)
      (try simp only [Act.put, List.setIfInBounds_toArray, List.set_cons_zero, List.set_cons_succ])
      refine wpLast_take (i := 7) (oi := ⟨some 48, _, _, _, _, _⟩) (v := ?vv41x7) rfl (by kernel_rfl) (by kernel_rfl) (by kernel_rfl) (by kernel_rfl) (by decide) (fun _ _ _ h => h) (Or.inl ⟨by rfl, ?hy41x7⟩) (by assumption) ?rest41x7
      case hy41x7 => intro wq hSw; (try dsimp only at hSw); go_simp; (try with_reducible rfl)
      (try simp only [Act.put, List.setIfInBounds_toArray, List.set_cons_zero, List.set_cons_succ])
      refine wpLast_take (i := 8) (oi := ⟨some 49, _, _, _, _, _⟩) (v := ?vv41x8) rfl (by kernel_rfl) (by kernel_rfl) (by kernel_rfl) (by kernel_rfl) (by decide) (fun _ _ _ h => h) (Or.inl ⟨by rfl, ?hy41x8⟩) (by assumption) ?rest41x8
      case hy41x8 => intro wq hSw; (try dsimp only at hSw); go_simp; (try with_reducible rfl)
      (try simp only [Act.put, List.setIfInBounds_toArray, List.set_cons_zero, List.set_cons_succ])
      refine wpLast_take (i := 9) (oi := ⟨some 50, _, _, _, _, _⟩) (v := ?vv41x9) rfl (by kernel_rfl) (by kernel_rfl) (by kernel_rfl) (by kernel_rfl) (by decide) (fun _ _ _ h => h) (Or.inl ⟨by rfl, ?hy41x9⟩) (by assumption) ?rest41x9
      case hy41x9 => intro wq hSw; (try dsimp only at hSw); go_simp; (try with_reducible rfl)
      (try simp only [Act.put, List.setIfInBounds_toArray, List.set_cons_zero, List.set_cons_succ])
      refine wpLast_take (i := 10) (oi := ⟨some 51, _, _, _, _, _⟩) (v := ?vv41x10) rfl (by kernel_rfl) (by kernel_rfl) (by kernel_rfl) (by kernel_rfl) (by decide) (fun _ _ _ h => h) (Or.inl ⟨by rfl, ?hy41x10⟩) (by assumption) ?rest41x10
      case hy41x10 => intro wq hSw; (try dsimp only at hSw); go_simp; (try with_reducible rfl)
      (try simp only [Act.put, List.setIfInBounds_toArray, List.set_cons_zero, List.set_cons_succ])
      refine wpLast_take (i := 11) (oi := ⟨some 52, _, _, _, _, _⟩) (v := ?vv41x11) rfl (by kernel_rfl) (by kernel_rfl) (by kernel_rfl) (by kernel_rfl) (by decide) (fun _ _ _ h => h) (Or.inl ⟨by rfl, ?hy41x11⟩) (by assumption) ?rest41x11
      case hy41x11 => intro wq hSw; (try dsimp only at hSw); go_simp; (try with_reducible rfl)
      (try simp only [Act.put, List.setIfInBounds_toArray, List.set_cons_zero, List.set_cons_succ])
      refine wpLast_one (i := 12) (o := ⟨some 53, _, _, _, _, _⟩) (by kernel_rfl) rfl (fun K hK => ?_)
      go_simp
      refine (X2.out.value).mono ?_
      rintro e wv ⟨rfl, rfl⟩
      rw [HGV.out]
      refine hK.out _ _ (fun _ => by assumption) ?_
      clear hK K
      (try simp only [Act.put, List.setIfInBounds_toArray, List.set_cons_zero, List.set_cons_succ])
      refine wpLast_one (i := 13) (o := ⟨some 54, _, _, _, _, _⟩) (by kernel_rfl) rfl (fun K hK => ?_)
      go_simp
      have D4 := hide (D2.out.only0 ((Only.refl S0 w2).alloc (.cells #[.int .u64 x.2.v] 28)))
      refine hK.out _ _ (fun _ => ⟨D4.out.cc6, D4.out.cc7, D4.out.ton (p := 0) (by omega) (upd_same _ _ _)⟩) ?_
      clear hK K
      (try simp only [Act.put, List.setIfInBounds_toArray, List.set_cons_zero, List.set_cons_succ])
      refine wpLast_one (i := 14) (o := ⟨some 55, _, _, _, _, _⟩) (by kernel_rfl) rfl (fun K hK => ?_)
      refine step_append_lies _ (rfl) _ _ _ (rfl) B 28 i0 _ 1 8 Try.underlying35 hi0 hz0 hz1 hz2 rfl (by omega) (sv 2) (u64s (XS 2)).length (u64s (XS 2)) (rfl) (D4.out.sl 2 (by omega)) ⟨w2.heap.size, 0, none⟩ 1 1 [.int .u64 (x.2.v)] (rfl) (rfl) (World.news_of_block (cs := #[.int .u64 (x.2.v)]) (t := 28) (fr := (0, 0)) (heap_alloc_new _ _)) (by simp [Value.oneCell']) (by omega) (by have := HLEN.out; unfold maxLen; omega) (by have := HLEN.out; omega) (by simp; omega) (w2.heap.size + 1) (by simp) ?_
      intro g6 c6 w3 hown hgrow hat hlt
      have hv' : Sl w3 B 28 (.slice (some ⟨g6, 0, none⟩) ((u64s (XS 2)).length + 1) c6) (u64s (XS 2 ++ [x.2.v])) := by
        rw [u64s_snoc]
        unfold Sl
        rw [List.length_append]
        exact hown
      have o6 : Only (fun k => (sv 2).ownBlock = some k) w2 w3 := ((Only.refl _ w2).alloc _).then (R := fun k => (sv 2).ownBlock = some k) (Only.of_grown hgrow fun k hk _ => hk) fun i _ hi => hi
      have hnew : (Value.slice (some ⟨g6, 0, none⟩) ((u64s (XS 2)).length + 1) c6).ownBlock = (sv 2).ownBlock ∨ ∃ k, (Value.slice (some ⟨g6, 0, none⟩) ((u64s (XS 2)).length + 1) c6).ownBlock = some k ∧ w2.heap.size ≤ k := by
        rcases hat with e | e
        · exact .inl (by rw [e]; rfl)
        · exact .inr ⟨g6, rfl, by omega⟩
      obtain ⟨g1, g2, g3, g4, -⟩ := D2.out.grow (p := 2) (by omega) o6
      have hon : w3.cell? ⟨tb, 0, none⟩ = some (.pointer (some ⟨bo2 1, 0, none⟩)) := by
        have := g3.cellv (show (thC (upd act 1 true) bo2)[0]? = some (optr (upd act 1 true) bo2 1) from rfl)
        rw [optr_on _ (upd_same _ _ _)] at this
        exact this
      have kk3 : (fun w' : World => w'.cell? ⟨gb, 6, none⟩ = some (.slice (some ⟨tb, 0, none⟩) 2 2) ∧ w'.cell? ⟨gb, 7, none⟩ = some (sv 2) ∧ w'.cell? ⟨tb, 0, none⟩ = some (.pointer (some ⟨bo2 1, 0, none⟩))) w3 := ⟨g2.cellv (i := 6) rfl, g2.cellv (i := 7) rfl, hon⟩
      have q1 : w3.cell? ⟨gb, 7, none⟩ = some (sv 2) := g2.cellv (i := 7) rfl
      have q2 := g2.frozen 7
      have d3 := D2.out.app (p := 2) (by omega) o6 hv' hnew
      rw [show ixS 2 = 7 from rfl] at d3
      have D3 := hide d3
      have hin := D2.out.sl 2 (by omega)
      have P3 := hide (P2.out.trans (o6.mono (R := SB B) fun k hk => (hin.block hk).1))
      clear hv' o6 hnew g1 g2 g3 g4 hin hown hgrow hat hlt hon d3
      refine hK.out _ _ (fun _ => kk3) ?_
      clear hK K
      (try simp only [Act.put, List.setIfInBounds_toArray, List.set_cons_zero, List.set_cons_succ])
      refine wpLast_one (i := 15) (o := ⟨some 56, _, _, _, _, _⟩) (by kernel_rfl) rfl (fun K hK => ?_)
      go_simp
      refine hK.out _ _ (fun _ => kk3) ?_
      clear hK K
      (try simp only [Act.put, List.setIfInBounds_toArray, List.set_cons_zero, List.set_cons_succ])
      refine wpLast_one (i := 16) (o := ⟨some 57, _, _, _, _, _⟩) (by kernel_rfl) rfl (fun K hK => ?_)
      go_simp
      refine hK.out _ _ (fun _ => kk3) ?_
      clear hK K
      (try simp only [Act.put, List.setIfInBounds_toArray, List.set_cons_zero, List.set_cons_succ])
      refine wpLast_one (i := 17) (o := ⟨none, _, _, _, _, _⟩) (by kernel_rfl) rfl (fun K hK => ?_)
      go_simp
      refine hK.out _ _ (fun h => absurd rfl h) ?_
      clear hK K
      (try simp only [Act.put, List.setIfInBounds_toArray, List.set_cons_zero, List.set_cons_succ])
      have P4 := hide (P3.out.set1 (g := gb) 7 H.out.b1 (.slice (some ⟨g6, 0, none⟩) ((u64s (XS 2)).length + 1) c6))
      refine wpLast_done (by kernel_rfl) ?_ _
      have q3 := D3.out.cc6
      have q4 := D3.out.ton (p := 0) (by omega) (upd_same _ _ _)
      have q5 := D3.out.th.frozen 0
      go_wp2_with fail
      go_end0
      rw [HXX.out]
      refine ⟨rfl, bo2, upd sv 2 (.slice (some ⟨g6, 0, none⟩) ((u64s (XS 2)).length + 1) c6), lost, ?_, P4.out.set1 (g := tb) 0 H.out.b2 (.pointer none), by omega, by omega⟩
      have d2 := D3.out.endT (p := 0) (by omega)
      rw [upd_upd] at d2
      rw [show decide (x.2.out = 0) = false from by simp [HZ.out], show stG x.2 (XS 2) = XS 2 ++ [x.2.v] from if_pos HONE.out]
      exact d2
    have hob : (x.2.out == 1) = false := by simp [hone]
    have HONE := hide hone
    clear hone
    go_wp2_with fail
    refine (HX1.out.outcome).mono ?_
    rintro e w1' ⟨rfl, rfl⟩
    have kf := D1.out.th.frozen 0
    by_cases hsix : x.2.out = 6
    · have hsb : (x.2.out == 6) = true := by rw [hsix]; rfl
      have HSIX := hide hsix
      clear hsix
      have k8 := D1.out.cc8
      have kf8 := D1.out.g.frozen 8
      go_wp2_with fail
      have D2 := hide (D1.out.setLost (lost + 1))
      have P2 := hide (P1.out.set1 (g := gb) 8 H.out.b1 (.int .i64 (lost + 1)))
      clear k8 kf8 k1 ko kf
      generalize w1.setCell ⟨gb, 8, none⟩ (.int .i64 (lost + 1)) = w2 at D2 P2 ⊢
      have k1 := D2.out.cc6
      have ko := D2.out.ton (p := 0) (by omega) (upd_same _ _ _)
      have kf := D2.out.th.frozen 0
      go_wp2_with fail
      go_end0
      rw [HXX.out]
      refine ⟨rfl, bo2, sv, lost + 1, ?_, P2.out.set1 (g := tb) 0 H.out.b2 (.pointer none), by omega, by omega⟩
      have d2 := D2.out.endT (p := 0) (by omega)
      rw [upd_upd] at d2
      rw [stG_no HONE.out, upd_self, show decide (x.2.out = 0) = false from by simp [HZ.out]]
      exact d2
    · have hsb : (x.2.out == 6) = false := by simp [hsix]
      have HSIX := hide hsix
      clear hsix
      go_wp2_with fail
      go_end0
      rw [HXX.out]
      refine ⟨rfl, bo2, sv, lost, ?_, P1.out.set1 (g := tb) 0 H.out.b2 (.pointer none), by omega, by omega⟩
      have d2 := D1.out.endT (p := 0) (by omega)
      rw [upd_upd] at d2
      rw [stG_no HONE.out, upd_self, show decide (x.2.out = 0) = false from by simp [HZ.out]]
      exact d2

set_option maxRecDepth 100000 in
set_option maxHeartbeats 4000000 in
theorem steal_1 (h : GW w B gb tb bd bm bc n L tc act o bo pu nx sv XS lost most) (hok : DopOk (bThf act o 2 2)) (h0 : (bThf act o 2 2).out = 0)
    (hf : Few (tc + 10)) (hl0 : 0 ≤ lost) (hl1 : lost ≤ 100000) (hk : (XS 2).length ≤ 100000) :
    Calls Try.prog 39 #[.pointer (some ⟨gb, 0, none⟩), .int .i64 1] w fun e w' => e = .returned (.tuple #[]) ∧ Stolen w w' B gb tb bd bm bc n (tc + 1) act 2 (bThf act o 2) (dstep 0 n L (bThf act o 2 2)) pu nx XS lost most := by
  have H := hide h
  have k1 := h.cc6
  have HOK := hide (And.intro hok h0)
  clear hok h0
  have hact : act 2 = true ∨ act 2 = false := by cases act 2 <;> simp
  have ko : ∃ v, w.cell? ⟨tb, 1, none⟩ = some (.pointer v) ∧ v = if act 2 then some ⟨bo 2, 0, none⟩ else none := by
    rcases hact with e | e
    · exact ⟨_, h.ton (by omega) e, by rw [e]; rfl⟩
    · exact ⟨_, h.toff (by omega) e, by rw [e]; rfl⟩
  obtain ⟨v, ko, hv⟩ := ko
  have HV := hide hv
  have HACT := hide hact
  clear hv hact h
  obtain ⟨o2, ho2⟩ : ∃ o2, bThf act o 2 = o2 := ⟨_, rfl⟩
  rw [ho2] at HOK ⊢
  have HO2 := hide ho2
  clear ho2
  go_enter Try.func39, Try.ntmps39
  go_upto_if 11 with fail
  go_cut [] (fun wx => ∃ bo', GW wx B gb tb bd bm bc n L tc (upd act 2 true) o2 bo' pu nx sv XS lost most ∧ Only (SB B) w wx)
  case first =>
    rcases HACT.out with e | e
    · have hv' := HV.out
      rw [e] at hv'
      have HE := hide e
      rw [hv']
      clear ko
      clear hv' e
      go_wp2_with fail
      go_meet
      refine ⟨bo, ?_, Only.refl _ _⟩
      have q1 := HO2.out
      unfold bThf at q1
      rw [if_pos HE.out] at q1
      rw [← q1, show upd act 2 true = act from by rw [← HE.out]; exact upd_self _ _]
      exact H.out
    · have hv' := HV.out
      rw [e] at hv'
      have HE := hide e
      rw [hv']
      clear ko
      clear hv' e
      go_wp2_with fail
      have z0 := H.out.drew.cc0
      have z1 := H.out.drew.cc6
      clear k1
      go_region_held3 (fun w' : World => w'.cell? ⟨gb, 0, none⟩ = some (.pointer (some ⟨bd, 0, none⟩)) ∧ w'.cell? ⟨gb, 6, none⟩ = some (.slice (some ⟨tb, 0, none⟩) 2 2)) (first | exact ⟨z0, z1⟩ | exact ⟨y0, y1⟩ | exact ⟨y4, y5⟩) (first | (go_at_call 25; refine (DSteal_all H.out.drew.env).mono ?_; rintro e w1 ⟨rb, rfl, g1, e1, o1, b1⟩; have y0 := (H.out.drew.only0 o1).cc0; have y1 := (H.out.drew.only0 o1).cc6; have y2 := (H.out.drew.only0 o1).toff (p := 1) (by omega) HE.out; have y3 := (H.out.drew.only0 o1).th.frozen 1; have C1 := hide (H.out.drew.beginT (p := 1) (by omega) o1 g1 b1); have y4 := C1.out.cc0; have y5 := C1.out.cc6; have O1 := hide (((SB.s0 (B := B) ((Only.refl S0 w).drew.trans o1)).set1 (g := tb) 1 H.out.b2 (.pointer (some ⟨rb, 0, none⟩)))); clear o1 g1 e1 b1))
      rename_i hHeld
      clear hHeld y0 y1 y2 y3 y4 y5 z0 z1
      generalize w1.setCell ⟨tb, 1, none⟩ (.pointer (some ⟨rb, 0, none⟩)) = w2 at C1 O1 ⊢
      go_wp2_with fail
      go_meet
      refine ⟨upd bo 2 rb, ?_, O1.out⟩
      have q1 := HO2.out
      unfold bThf at q1
      rw [if_neg (by rw [HE.out]; decide)] at q1
      rw [← q1]
      exact C1.out
  case rest =>
    obtain ⟨bo2, hc, hoo⟩ := hcut
    have HC := hide hc
    have OO := hide hoo
    have k1 := hc.cc6
    have ko := hc.ton (p := 1) (by omega) (upd_same _ _ _)
    clear hc hoo
    go_wp2_with fail
    refine (DStep_all HC.out.env HOK.out.1 (HC.out.fam.at_ 2 (by omega) (upd_same _ _ _)) (hf.le_ (by omega))).mono ?_
    rintro e w1 ⟨rfl, h1, h2, o1⟩
    have hgt : dtick (o2 2) = 1 := by simp [dtick, HOK.out.2]
    rw [hgt] at h2
    obtain ⟨x, hx⟩ : ∃ x, dstep 0 n L (o2 2) = x := ⟨_, rfl⟩
    rw [hx] at h1 h2 ⊢
    have D1 := hide (HC.out.step (p := 2) (by omega) (upd_same _ _ _) o1 h1 h2)
    have hb2 := HC.out.fam.ge 2 (by omega) (upd_same _ _ _)
    have P1 := hide (OO.out.trans (o1.mono (R := SB B) fun k hk => by have := HC.out.b6; have := HC.out.b7; unfold SB; rcases hk with e | e | e <;> omega))
    have HX1 := hide (show DopIs w1 (bo2 2) bd x.2 from h1)
    have HXX := hide hx
    clear h1 h2 o1 hgt hx k1 ko
    by_cases hz : x.2.out = 0
    · have hzb : (x.2.out != 0) = false := by rw [hz]; rfl
      have HZ := hide hz
      clear hz
      go_wp2_with fail
      refine bodyPost_ret (results_none rfl _ _ _) rfl ?_
      rw [HXX.out]
      refine ⟨rfl, bo2, sv, lost, ?_, P1.out, by omega, by omega⟩
      rw [stG_no (by rw [HZ.out]; decide), upd_self, show decide (x.2.out = 0) = true from by simp [HZ.out]]
      exact D1.out
    have hzb : (x.2.out != 0) = true := by simp [hz]
    have HZ := hide hz
    clear hz
    have k1 := D1.out.cc6
    have ko := D1.out.ton (p := 1) (by omega) (upd_same _ _ _)
    go_wp2_with fail
    refine (HX1.out.outcome).mono ?_
    rintro e w1' ⟨rfl, rfl⟩
    by_cases hone : x.2.out = 1
    · have hob : (x.2.out == 1) = true := by rw [hone]; rfl
      have HONE := hide hone
      clear hone
      have HK := hide hk
      clear hk
      go_wp2_with fail
      have D2 := hide D1.out.drew
      have P2 := hide P1.out.drew
      have X2 := hide (show DopIs w1.drew (bo2 2) bd x.2 from HX1.out)
      have HGV := hide (show dvalue x.2.v x.2.out = x.2.v from by unfold dvalue; rw [if_pos HONE.out])
      have hlen : (u64s (XS 2)).length ≤ 100000 := by rw [u64s_len]; exact HK.out
      have HLEN := hide hlen
      obtain ⟨i0, hi0, hz0, hz1, hz2⟩ := info_parts info_u64
      clear k1 ko hlen
      refine wp_region_last 17 (fun w' : World => w'.cell? ⟨gb, 6, none⟩ = some (.slice (some ⟨tb, 0, none⟩) 2 2) ∧ w'.cell? ⟨gb, 7, none⟩ = some (sv 2) ∧ w'.cell? ⟨tb, 1, none⟩ = some (.pointer (some ⟨bo2 2, 0, none⟩))) (by kernel_rfl) ?_
      have hb0 : B ≤ w1.drew.heap.size := Nat.le_trans D2.out.b1 (Nat.le_of_lt D2.out.g.lt)
      generalize w1.drew = w2 at D2 P2 X2 hb0 ⊢
      have kk : (fun w' : World => w'.cell? ⟨gb, 6, none⟩ = some (.slice (some ⟨tb, 0, none⟩) 2 2) ∧ w'.cell? ⟨gb, 7, none⟩ = some (sv 2) ∧ w'.cell? ⟨tb, 1, none⟩ = some (.pointer (some ⟨bo2 2, 0, none⟩))) w2 := ⟨D2.out.cc6, D2.out.cc7, D2.out.ton (p := 1) (by omega) (upd_same _ _ _)⟩
      refine wpLast_take (i := 0) (oi := ⟨some 41, _, _, _, _, _⟩) (v := ?vv41x0) rfl (by kernel_rfl) (by kernel_rfl) (by kernel_rfl) (by kernel_rfl) (by decide) (fun _ _ _ h => h) (Or.inl ⟨by rfl, ?hy41x0⟩) (by assumption) ?rest41x0
      case hy41x0 => intro wq hSw; (try dsimp only at hSw); go_simp; (try with_reducible rfl)
      (try simp only [Act.put, List.setIfInBounds_toArray, List.set_cons_zero, List.set_cons_succ])
      refine wpLast_take (i := 1) (oi := ⟨some 42, _, _, _, _, _⟩) (v := ?vv41x1) rfl (by kernel_rfl) (by kernel_rfl) (by kernel_rfl) (by kernel_rfl) (by decide) (fun _ _ _ h => h) (Or.inl ⟨by rfl, ?hy41x1⟩) (by assumption) ?rest41x1
      case hy41x1 => intro wq hSw; (try dsimp only at hSw); go_simp; (try with_reducible rfl)
      (try simp only [Act.put, List.setIfInBounds_toArray, List.set_cons_zero, List.set_cons_succ])
      refine wpLast_take (i := 2) (oi := ⟨some 43, _, _, _, _, _⟩) (v := ?vv41x2) rfl (by kernel_rfl) (by kernel_rfl) (by kernel_rfl) (by kernel_rfl) (by decide) (fun _ _ _ h => h) (Or.inl ⟨by rfl, ?hy41x2⟩) (by assumption) ?rest41x2
      case hy41x2 => intro wq hSw; (try dsimp only at hSw); go_simp; (try with_reducible rfl)
      (try simp only [Act.put, List.setIfInBounds_toArray, List.set_cons_zero, List.set_cons_succ])
      refine wpLast_take (i := 3) (oi := ⟨some 44, _, _, _, _, _⟩) (v := ?vv41x3) rfl (by kernel_rfl) (by kernel_rfl) (by kernel_rfl) (by kernel_rfl) (by decide) (fun _ _ _ h => h) (Or.inl ⟨by rfl, ?hy41x3⟩) (by assumption) ?rest41x3
      case hy41x3 => intro wq hSw; (try dsimp only at hSw); go_simp; (try with_reducible rfl)
      (try simp only [Act.put, List.setIfInBounds_toArray, List.set_cons_zero, List.set_cons_succ])
      refine wpLast_take (i := 4) (oi := ⟨some 45, _, _, _, _, _⟩) (v := ?vv41x4) rfl (by kernel_rfl) (by kernel_rfl) (by kernel_rfl) (by kernel_rfl) (by decide) (fun _ _ _ h => h) (Or.inl ⟨by rfl, ?hy41x4⟩) (by assumption) ?rest41x4
      case hy41x4 => intro wq hSw; (try dsimp only at hSw); go_simp; (try with_reducible rfl)
      (try simp only [Act.put, List.setIfInBounds_toArray, List.set_cons_zero, List.set_cons_succ])
      refine wpLast_take (i := 5) (oi := ⟨some 46, _, _, _, _, _⟩) (v := ?vv41x5) rfl (by kernel_rfl) (by kernel_rfl) (by kernel_rfl) (by kernel_rfl) (by decide) (fun _ _ _ h => h) (Or.inl ⟨by rfl, ?hy41x5⟩) (by assumption) ?rest41x5
      case hy41x5 => intro wq hSw; (try dsimp only at hSw); go_simp; (try with_reducible rfl)
      (try simp only [Act.put, List.setIfInBounds_toArray, List.set_cons_zero, List.set_cons_succ])
      refine wpLast_take (i := 6) (oi := ⟨some 47, _, _, _, _, _⟩) (v := ?vv41x6) rfl (by kernel_rfl) (by kernel_rfl) (by kernel_rfl) (by kernel_rfl) (by decide) (fun _ _ _ h => h) (Or.inl ⟨by rfl, ?hy41x6⟩) (by assumption) ?rest41x6
      case hy41x6 => intro wq hSw; (try dsimp only at hSw); go_simp; (try with_reducible rfl)
      (try simp only [Act.put, List.setIfInBounds_toArray, List.set_cons_zero, List.set_cons_succ])
      refine wpLast_take (i := 7) (oi := ⟨some 48, _, _, _, _, _⟩) (v := ?vv41x7) rfl (by kernel_rfl) (by kernel_rfl) (by kernel_rfl) (by kernel_rfl) (by decide) (fun _ _ _ h => h) (Or.inl ⟨by rfl, ?hy41x7⟩) (by assumption) ?rest41x7
      case hy41x7 => intro wq hSw; (try dsimp only at hSw); go_simp; (try with_reducible rfl)
      (try simp only [Act.put, List.setIfInBounds_toArray, List.set_cons_zero, List.set_cons_succ])
      refine wpLast_take (i := 8) (oi := ⟨some 49, _, _, _, _, _⟩) (v := ?vv41x8) rfl (by kernel_rfl) (by kernel_rfl) (by kernel_rfl) (by kernel_rfl) (by decide) (fun _ _ _ h => h) (Or.inl ⟨by rfl, ?hy41x8⟩) (by assumption) ?rest41x8
      case hy41x8 => intro wq hSw; (try dsimp only at hSw); go_simp; (try with_reducible rfl)
      (try simp only [Act.put, List.setIfInBounds_toArray, List.set_cons_zero, List.set_cons_succ])
      refine wpLast_take (i := 9) (oi := ⟨some 50, _, _, _, _, _⟩) (v := ?vv41x9) rfl (by kernel_rfl) (by kernel_rfl) (by kernel_rfl) (by kernel_rfl) (by decide) (fun _ _ _ h => h) (Or.inl ⟨by rfl, ?hy41x9⟩) (by assumption) ?rest41x9
      case hy41x9 => intro wq hSw; (try dsimp only at hSw); go_simp; (try with_reducible rfl)
      (try simp only [Act.put, List.setIfInBounds_toArray, List.set_cons_zero, List.set_cons_succ])
      refine wpLast_take (i := 10) (oi := ⟨some 51, _, _, _, _, _⟩) (v := ?vv41x10) rfl (by kernel_rfl) (by kernel_rfl) (by kernel_rfl) (by kernel_rfl) (by decide) (fun _ _ _ h => h) (Or.inl ⟨by rfl, ?hy41x10⟩) (by assumption) ?rest41x10
      case hy41x10 => intro wq hSw; (try dsimp only at hSw); go_simp; (try with_reducible rfl)
      (try simp only [Act.put, List.setIfInBounds_toArray, List.set_cons_zero, List.set_cons_succ])
      refine wpLast_take (i := 11) (oi := ⟨some 52, _, _, _, _, _⟩) (v := ?vv41x11) rfl (by kernel_rfl) (by kernel_rfl) (by kernel_rfl) (by kernel_rfl) (by decide) (fun _ _ _ h => h) (Or.inl ⟨by rfl, ?hy41x11⟩) (by assumption) ?rest41x11
      case hy41x11 => intro wq hSw; (try dsimp only at hSw); go_simp; (try with_reducible rfl)
      (try simp only [Act.put, List.setIfInBounds_toArray, List.set_cons_zero, List.set_cons_succ])
      refine wpLast_one (i := 12) (o := ⟨some 53, _, _, _, _, _⟩) (by kernel_rfl) rfl (fun K hK => ?_)
      go_simp
      refine (X2.out.value).mono ?_
      rintro e wv ⟨rfl, rfl⟩
      rw [HGV.out]
      refine hK.out _ _ (fun _ => by assumption) ?_
      clear hK K
      (try simp only [Act.put, List.setIfInBounds_toArray, List.set_cons_zero, List.set_cons_succ])
      refine wpLast_one (i := 13) (o := ⟨some 54, _, _, _, _, _⟩) (by kernel_rfl) rfl (fun K hK => ?_)
      go_simp
      have D4 := hide (D2.out.only0 ((Only.refl S0 w2).alloc (.cells #[.int .u64 x.2.v] 28)))
      refine hK.out _ _ (fun _ => ⟨D4.out.cc6, D4.out.cc7, D4.out.ton (p := 1) (by omega) (upd_same _ _ _)⟩) ?_
      clear hK K
      (try simp only [Act.put, List.setIfInBounds_toArray, List.set_cons_zero, List.set_cons_succ])
      refine wpLast_one (i := 14) (o := ⟨some 55, _, _, _, _, _⟩) (by kernel_rfl) rfl (fun K hK => ?_)
      refine step_append_lies _ (rfl) _ _ _ (rfl) B 28 i0 _ 1 8 Try.underlying35 hi0 hz0 hz1 hz2 rfl (by omega) (sv 2) (u64s (XS 2)).length (u64s (XS 2)) (rfl) (D4.out.sl 2 (by omega)) ⟨w2.heap.size, 0, none⟩ 1 1 [.int .u64 (x.2.v)] (rfl) (rfl) (World.news_of_block (cs := #[.int .u64 (x.2.v)]) (t := 28) (fr := (0, 0)) (heap_alloc_new _ _)) (by simp [Value.oneCell']) (by omega) (by have := HLEN.out; unfold maxLen; omega) (by have := HLEN.out; omega) (by simp; omega) (w2.heap.size + 1) (by simp) ?_
      intro g6 c6 w3 hown hgrow hat hlt
      have hv' : Sl w3 B 28 (.slice (some ⟨g6, 0, none⟩) ((u64s (XS 2)).length + 1) c6) (u64s (XS 2 ++ [x.2.v])) := by
        rw [u64s_snoc]
        unfold Sl
        rw [List.length_append]
        exact hown
      have o6 : Only (fun k => (sv 2).ownBlock = some k) w2 w3 := ((Only.refl _ w2).alloc _).then (R := fun k => (sv 2).ownBlock = some k) (Only.of_grown hgrow fun k hk _ => hk) fun i _ hi => hi
      have hnew : (Value.slice (some ⟨g6, 0, none⟩) ((u64s (XS 2)).length + 1) c6).ownBlock = (sv 2).ownBlock ∨ ∃ k, (Value.slice (some ⟨g6, 0, none⟩) ((u64s (XS 2)).length + 1) c6).ownBlock = some k ∧ w2.heap.size ≤ k := by
        rcases hat with e | e
        · exact .inl (by rw [e]; rfl)
        · exact .inr ⟨g6, rfl, by omega⟩
      obtain ⟨g1, g2, g3, g4, -⟩ := D2.out.grow (p := 2) (by omega) o6
      have hon : w3.cell? ⟨tb, 1, none⟩ = some (.pointer (some ⟨bo2 2, 0, none⟩)) := by
        have := g3.cellv (show (thC (upd act 2 true) bo2)[1]? = some (optr (upd act 2 true) bo2 2) from rfl)
        rw [optr_on _ (upd_same _ _ _)] at this
        exact this
      have kk3 : (fun w' : World => w'.cell? ⟨gb, 6, none⟩ = some (.slice (some ⟨tb, 0, none⟩) 2 2) ∧ w'.cell? ⟨gb, 7, none⟩ = some (sv 2) ∧ w'.cell? ⟨tb, 1, none⟩ = some (.pointer (some ⟨bo2 2, 0, none⟩))) w3 := ⟨g2.cellv (i := 6) rfl, g2.cellv (i := 7) rfl, hon⟩
      have q1 : w3.cell? ⟨gb, 7, none⟩ = some (sv 2) := g2.cellv (i := 7) rfl
      have q2 := g2.frozen 7
      have d3 := D2.out.app (p := 2) (by omega) o6 hv' hnew
      rw [show ixS 2 = 7 from rfl] at d3
      have D3 := hide d3
      have hin := D2.out.sl 2 (by omega)
      have P3 := hide (P2.out.trans (o6.mono (R := SB B) fun k hk => (hin.block hk).1))
      clear hv' o6 hnew g1 g2 g3 g4 hin hown hgrow hat hlt hon d3
      refine hK.out _ _ (fun _ => kk3) ?_
      clear hK K
      (try simp only [Act.put, List.setIfInBounds_toArray, List.set_cons_zero, List.set_cons_succ])
      refine wpLast_one (i := 15) (o := ⟨some 56, _, _, _, _, _⟩) (by kernel_rfl) rfl (fun K hK => ?_)
      go_simp
      refine hK.out _ _ (fun _ => kk3) ?_
      clear hK K
      (try simp only [Act.put, List.setIfInBounds_toArray, List.set_cons_zero, List.set_cons_succ])
      refine wpLast_one (i := 16) (o := ⟨some 57, _, _, _, _, _⟩) (by kernel_rfl) rfl (fun K hK => ?_)
      go_simp
      refine hK.out _ _ (fun _ => kk3) ?_
      clear hK K
      (try simp only [Act.put, List.setIfInBounds_toArray, List.set_cons_zero, List.set_cons_succ])
      refine wpLast_one (i := 17) (o := ⟨none, _, _, _, _, _⟩) (by kernel_rfl) rfl (fun K hK => ?_)
      go_simp
      refine hK.out _ _ (fun h => absurd rfl h) ?_
      clear hK K
      (try simp only [Act.put, List.setIfInBounds_toArray, List.set_cons_zero, List.set_cons_succ])
      have P4 := hide (P3.out.set1 (g := gb) 7 H.out.b1 (.slice (some ⟨g6, 0, none⟩) ((u64s (XS 2)).length + 1) c6))
      refine wpLast_done (by kernel_rfl) ?_ _
      have q3 := D3.out.cc6
      have q4 := D3.out.ton (p := 1) (by omega) (upd_same _ _ _)
      have q5 := D3.out.th.frozen 1
      go_wp2_with fail
      go_end0
      rw [HXX.out]
      refine ⟨rfl, bo2, upd sv 2 (.slice (some ⟨g6, 0, none⟩) ((u64s (XS 2)).length + 1) c6), lost, ?_, P4.out.set1 (g := tb) 1 H.out.b2 (.pointer none), by omega, by omega⟩
      have d2 := D3.out.endT (p := 1) (by omega)
      rw [upd_upd] at d2
      rw [show decide (x.2.out = 0) = false from by simp [HZ.out], show stG x.2 (XS 2) = XS 2 ++ [x.2.v] from if_pos HONE.out]
      exact d2
    have hob : (x.2.out == 1) = false := by simp [hone]
    have HONE := hide hone
    clear hone
    go_wp2_with fail
    refine (HX1.out.outcome).mono ?_
    rintro e w1' ⟨rfl, rfl⟩
    have kf := D1.out.th.frozen 1
    by_cases hsix : x.2.out = 6
    · have hsb : (x.2.out == 6) = true := by rw [hsix]; rfl
      have HSIX := hide hsix
      clear hsix
      have k8 := D1.out.cc8
      have kf8 := D1.out.g.frozen 8
      go_wp2_with fail
      have D2 := hide (D1.out.setLost (lost + 1))
      have P2 := hide (P1.out.set1 (g := gb) 8 H.out.b1 (.int .i64 (lost + 1)))
      clear k8 kf8 k1 ko kf
      generalize w1.setCell ⟨gb, 8, none⟩ (.int .i64 (lost + 1)) = w2 at D2 P2 ⊢
      have k1 := D2.out.cc6
      have ko := D2.out.ton (p := 1) (by omega) (upd_same _ _ _)
      have kf := D2.out.th.frozen 1
      go_wp2_with fail
      go_end0
      rw [HXX.out]
      refine ⟨rfl, bo2, sv, lost + 1, ?_, P2.out.set1 (g := tb) 1 H.out.b2 (.pointer none), by omega, by omega⟩
      have d2 := D2.out.endT (p := 1) (by omega)
      rw [upd_upd] at d2
      rw [stG_no HONE.out, upd_self, show decide (x.2.out = 0) = false from by simp [HZ.out]]
      exact d2
    · have hsb : (x.2.out == 6) = false := by simp [hsix]
      have HSIX := hide hsix
      clear hsix
      go_wp2_with fail
      go_end0
      rw [HXX.out]
      refine ⟨rfl, bo2, sv, lost, ?_, P1.out.set1 (g := tb) 1 H.out.b2 (.pointer none), by omega, by omega⟩
      have d2 := D1.out.endT (p := 1) (by omega)
      rw [upd_upd] at d2
      rw [stG_no HONE.out, upd_self, show decide (x.2.out = 0) = false from by simp [HZ.out]]
      exact d2
end
end Go.Proofs.Ytblkbfdmoanbfaa
