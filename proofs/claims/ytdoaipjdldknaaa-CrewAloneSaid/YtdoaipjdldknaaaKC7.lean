/-
  Package crew: the sources of a Find: each begins an operation when it is its turn.
-/
import Derived.Test.YtdoaipjdldknaaaKC6
import Derived.Test.YtdoaipjdldknaaaKP
namespace Go.Proofs.Ytdoaipjdldknaaa
open Go.RowKit
set_option linter.unusedVariables false
def popK (xc xw : Nat) : Value := .func (.func 36) #[] #[.pointer (some ⟨xc, 0, none⟩), .pointer (some ⟨xw, 0, none⟩)]
def takeK (xc : Nat) : Value := .func (.func 38) #[] #[.pointer (some ⟨xc, 0, none⟩)]
def stealK (xc xv : Nat) : Value := .func (.func 41) #[] #[.pointer (some ⟨xc, 0, none⟩), .pointer (some ⟨xv, 0, none⟩)]
/-- The crew's deques, as its slice has them. -/
structure DqsAt (w : World) (dv : Value) (n : Nat) (bd : Nat → Nat) : Prop where
  ex : ∃ g cap cs, dv = .slice (some ⟨g, 0, none⟩) n cap ∧ Blk w g 60 cs ∧ ∀ i, i < n → w.cell? ⟨g, i, none⟩ = some (.pointer (some ⟨bd i, 0, none⟩))
section
variable {w w' : World} {co cb bb bg bm bc xc xw : Nat} {dv cur thn : Value} {out val : Int} {slots dbase gbase ga tc : Int} {L : List Int} {n i : Nat} {bd : Nat → Nat}
theorem DqsAt.only {S : Nat → Prop} (h : DqsAt w dv n bd) (ho : Only S w w') (hs : ∀ g cs, Blk w g 60 cs → ¬ S g) : DqsAt w' dv n bd := by
  obtain ⟨g, cap, cs, e, hb, hc⟩ := h.ex
  exact ⟨g, cap, cs, e, hb.only ho (hs g cs hb), fun i hi => (ho.cell (p := ⟨g, i, none⟩) hb.lt (hs g cs hb)).trans (hc i hi)⟩
theorem DqsAt.only0 (h : DqsAt w dv n bd) (ho : Only S0 w w') : DqsAt w' dv n bd := h.only ho fun _ _ _ h => h
set_option maxHeartbeats 1000000 in
theorem find1_any (hxc : CBox w xc cb) (hxw : WBox w xw i) (hc : CrewAt w cb bb bg dv) (hd : DqsAt w dv n bd) (hi : i < n) (hn : n ≤ 1000) (he : DeqEnv w (bd i) bm bc dbase slots tc L) :
    Calls Try.prog 36 #[.pointer (some ⟨xc, 0, none⟩), .pointer (some ⟨xw, 0, none⟩)] w fun e w' => ∃ p, e = .returned (.iface 73 (.pointer (some ⟨p, 0, none⟩))) ∧ DopIs w' p (bd i) popOp ∧ Only S0 w w' ∧ w.heap.size ≤ p := by
  obtain ⟨g, cap, cs, rfl, hb, hcell⟩ := hd.ex
  have Z := hide (And.intro hxc.c0 (And.intro hc.c2 (And.intro hxw.c0 (hcell i hi))))
  have b0 := Blk.lt hxc
  have b4 := Blk.lt hc
  have b5 := Blk.lt hxw
  have b6 := Blk.lt hb
  have HE := hide he
  have hi0 : (0 : Int) ≤ (i : Int) := by omega
  have hi1 : (i : Int) < n := by omega
  clear hxc hxw hc hd hb hcell he
  go_enter Try.func36, Try.ntmps36
  go_upto_region 1 with fail
  go_region_held3 (fun w' : World => w'.cell? ⟨xc, 0, none⟩ = some (.pointer (some ⟨cb, 0, none⟩)) ∧ w'.cell? ⟨cb, 2, none⟩ = some (.slice (some ⟨g, 0, none⟩) n cap) ∧ w'.cell? ⟨xw, 0, none⟩ = some (.int .i64 i) ∧ w'.cell? ⟨g, i, none⟩ = some (.pointer (some ⟨bd i, 0, none⟩))) (first | with_reducible exact hold4 Z.out b0 b4 b5 b6 (Only.refl S0 w).drew | with_reducible exact hold4 Z.out b0 b4 b5 b6 O2.out) (first | (go_at_call 37; refine (DPop_all (HE.out.only0 (Only.refl S0 w).drew)).mono ?_; rintro e w2 ⟨p, rfl, g1, e1, o1, b1⟩; have G1 := hide g1; have O2 := hide ((Only.refl S0 w).drew.trans o1); clear g1 e1 o1))
  go_wp2_with fail
  all_goals go_ret
  all_goals exact ⟨p, rfl, G1.out, O2.out, b1⟩
set_option maxHeartbeats 1000000 in
theorem find3_any (hxc : CBox w xc cb) (hxw : WBox w xw i) (hc : CrewAt w cb bb bg dv) (hd : DqsAt w dv n bd) (hi : i < n) (hn : n ≤ 1000) (he : DeqEnv w (bd i) bm bc dbase slots tc L) :
    Calls Try.prog 41 #[.pointer (some ⟨xc, 0, none⟩), .pointer (some ⟨xw, 0, none⟩)] w fun e w' => ∃ p, e = .returned (.iface 73 (.pointer (some ⟨p, 0, none⟩))) ∧ DopIs w' p (bd i) stealOp ∧ Only S0 w w' ∧ w.heap.size ≤ p := by
  obtain ⟨g, cap, cs, rfl, hb, hcell⟩ := hd.ex
  have Z := hide (And.intro hxc.c0 (And.intro hc.c2 (And.intro hxw.c0 (hcell i hi))))
  have b0 := Blk.lt hxc
  have b4 := Blk.lt hc
  have b5 := Blk.lt hxw
  have b6 := Blk.lt hb
  have HE := hide he
  have hi0 : (0 : Int) ≤ (i : Int) := by omega
  have hi1 : (i : Int) < n := by omega
  clear hxc hxw hc hd hb hcell he
  go_enter Try.func41, Try.ntmps41
  go_upto_region 1 with fail
  go_region_held3 (fun w' : World => w'.cell? ⟨xc, 0, none⟩ = some (.pointer (some ⟨cb, 0, none⟩)) ∧ w'.cell? ⟨cb, 2, none⟩ = some (.slice (some ⟨g, 0, none⟩) n cap) ∧ w'.cell? ⟨xw, 0, none⟩ = some (.int .i64 i) ∧ w'.cell? ⟨g, i, none⟩ = some (.pointer (some ⟨bd i, 0, none⟩))) (first | with_reducible exact hold4 Z.out b0 b4 b5 b6 (Only.refl S0 w).drew | with_reducible exact hold4 Z.out b0 b4 b5 b6 O2.out) (first | (go_at_call 42; refine (DSteal_all (HE.out.only0 (Only.refl S0 w).drew)).mono ?_; rintro e w2 ⟨p, rfl, g1, e1, o1, b1⟩; have G1 := hide g1; have O2 := hide ((Only.refl S0 w).drew.trans o1); clear g1 e1 o1))
  go_wp2_with fail
  all_goals go_ret
  all_goals exact ⟨p, rfl, G1.out, O2.out, b1⟩
theorem find2_any (hxc : CBox w xc cb) (hc : CrewAt w cb bb bg dv) (he : GateEnv w bg bm bc gbase ga tc L) :
    Calls Try.prog 38 #[.pointer (some ⟨xc, 0, none⟩)] w fun e w' => ∃ p, e = .returned (.iface 82 (.pointer (some ⟨p, 0, none⟩))) ∧ GopIs w' p bg (takeOp gbase) ∧ Only S0 w w' ∧ w.heap.size ≤ p := by
  have c0 := hxc.c0
  have c1 := hc.c1
  have HE := hide he
  clear hxc hc he
  go_enter Try.func38, Try.ntmps38
  go_wp2_with fail
  refine (GTake_all HE.out).mono ?_
  rintro e w1 ⟨p, rfl, g1, e1, o1, b1⟩
  have G1 := hide g1
  have O1 := hide o1
  clear g1 e1 o1
  go_wp2_with fail
  go_ret
  exact ⟨p, rfl, G1.out, O1.out, b1⟩
/-- A source's closure. -/
def SrcIs (w : World) (cb : Nat) (v : Value) : Src → Prop
  | .pop i => ∃ xc xw, v = popK xc xw ∧ CBox w xc cb ∧ WBox w xw i
  | .take => ∃ xc, v = takeK xc ∧ CBox w xc cb
  | .steal i => ∃ xc xv, v = stealK xc xv ∧ CBox w xc cb ∧ WBox w xv i
/-- A slice of sources. -/
structure SrcsAt (w : World) (cb : Nat) (sv : Value) (l : List Src) : Prop where
  ex : ∃ a cap, sv = .slice a l.length cap ∧ l.length ≤ cap ∧ (l ≠ [] → ∃ g off cs, a = some ⟨g, off, none⟩ ∧ Blk w g 81 cs ∧ ∀ i s, l[i]? = some s → ∃ v, w.cell? ⟨g, off + i, none⟩ = some v ∧ SrcIs w cb v s)
theorem SrcIs.only {S : Nat → Prop} {v : Value} {s : Src} (h : SrcIs w cb v s) (ho : Only S w w') (h1 : ∀ x, CBox w x cb → ¬ S x) (h2 : ∀ x m, WBox w x m → ¬ S x) : SrcIs w' cb v s := by
  cases s with
  | pop i => obtain ⟨xc, xw, e, a, b⟩ := h; exact ⟨xc, xw, e, a.only ho (h1 _ a), b.only ho (h2 _ _ b)⟩
  | take => obtain ⟨xc, e, a⟩ := h; exact ⟨xc, e, a.only ho (h1 _ a)⟩
  | steal i => obtain ⟨xc, xw, e, a, b⟩ := h; exact ⟨xc, xw, e, a.only ho (h1 _ a), b.only ho (h2 _ _ b)⟩
theorem SrcsAt.only {S : Nat → Prop} {sv : Value} {l : List Src} (h : SrcsAt w cb sv l) (ho : Only S w w') (h1 : ∀ x, CBox w x cb → ¬ S x) (h2 : ∀ x m, WBox w x m → ¬ S x) (h3 : ∀ g cs, Blk w g 81 cs → ¬ S g) : SrcsAt w' cb sv l := by
  obtain ⟨a, cap, e, hcap, hc⟩ := h.ex
  refine ⟨a, cap, e, hcap, fun hne => ?_⟩
  obtain ⟨g, off, cs, rfl, hb, hx⟩ := hc hne
  refine ⟨g, off, cs, rfl, hb.only ho (h3 g cs hb), fun i s hs => ?_⟩
  obtain ⟨v, hv, hsv⟩ := hx i s hs
  exact ⟨v, (ho.cell (p := ⟨g, off + i, none⟩) hb.lt (h3 g cs hb)).trans hv, hsv.only ho h1 h2⟩
theorem SrcsAt.only0 {sv : Value} {l : List Src} (h : SrcsAt w cb sv l) (ho : Only S0 w w') : SrcsAt w' cb sv l := h.only ho (fun _ _ h => h) (fun _ _ _ h => h) (fun _ _ _ h => h)
end
end Go.Proofs.Ytdoaipjdldknaaa
