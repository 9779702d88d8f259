/-
  Package crew: try, through the sources, and its closure.
-/
import Derived.Test.YtdoaipjdldknaaaKC7
namespace Go.Proofs.Ytdoaipjdldknaaa
open Go.RowKit
set_option linter.unusedVariables false
def tryK (xs xo xq : Nat) : Value := .func (.func 65) #[] #[.pointer (some ⟨xs, 0, none⟩), .pointer (some ⟨xo, 0, none⟩), .pointer (some ⟨xq, 0, none⟩)]
def IBox (w : World) (x : Nat) (t : TypeId) (p : Nat) : Prop := Blk w x 79 #[.iface t (.pointer (some ⟨p, 0, none⟩))]
def QBox (w : World) (x : Nat) (sv : Value) : Prop := Blk w x 84 #[sv]
section
variable {w w' : World} {x p : Nat} {t : TypeId} {sv : Value} {S : Nat → Prop}
theorem IBox.c0 (h : IBox w x t p) : w.cell? ⟨x, 0, none⟩ = some (.iface t (.pointer (some ⟨p, 0, none⟩))) := Blk.cellv h rfl
theorem QBox.c0 (h : QBox w x sv) : w.cell? ⟨x, 0, none⟩ = some sv := Blk.cellv h rfl
theorem IBox.only (h : IBox w x t p) (ho : Only S w w') (hs : ¬ S x) : IBox w' x t p := Blk.only h ho hs
theorem QBox.only (h : QBox w x sv) (ho : Only S w w') (hs : ¬ S x) : QBox w' x sv := Blk.only h ho hs
theorem IBox.drew (h : IBox w x t p) : IBox w.drew x t p := h
theorem QBox.drew (h : QBox w x sv) : QBox w.drew x sv := h
end
section
variable {w w' : World} {co cb bb bg bm bc xs xo xq : Nat} {dv cur thn sv : Value} {out val : Int} {slots dbase gbase ga tc : Int} {L : List Int} {n i : Nat} {bd : Nat → Nat}
theorem try_nil {a : Option Addr} {cap : Nat} (h : CopAt w co cb cur thn 0 val) : Calls Try.prog 43 #[.pointer (some ⟨co, 0, none⟩), .slice a 0 cap] w fun e w' =>
    e = .returned (.tuple #[]) ∧ CopAt w' co cb cur thn 4 0 ∧ Only (S1 co) w w' := by
  have o1 := ((Only.refl S0 w).alloc (.cells #[.pointer (some ⟨co, 0, none⟩)] 30)).alloc (.cells #[.slice a 0 cap] 84)
  have H := hide (h.only o1 (fun h => h))
  have HO := hide o1
  clear h o1
  go_enter Try.func43, Try.ntmps43
  go_wp2_with fail
  refine (CEnd_any 4 0 H.out).mono ?_
  rintro e w1 ⟨rfl, h1, o1⟩
  have H1 := hide h1
  have O1 := hide ((HO.out.mono (R := S1 co) fun _ h => h.elim).trans o1)
  clear h1 o1
  go_wp2_with fail
  refine bodyPost_ret (results_none rfl _ _ _) rfl ?_
  exact ⟨rfl, H1.out, O1.out⟩
/-- What try leaves: a part begun, and what is still to be asked. -/
def Tried (w w' : World) (co cb : Nat) (t : TypeId) (P : World → Nat → Prop) (sv : Value) (val : Int) : Prop := ∃ p xs xo xq, CopAt w' co cb (.iface t (.pointer (some ⟨p, 0, none⟩))) (tryK xs xo xq) 0 val ∧ P w' p ∧ IBox w' xs t p ∧ OBox w' xo co ∧ QBox w' xq sv ∧ Only (S1 co) w w' ∧
  w.heap.size ≤ p ∧ w.heap.size ≤ xs ∧ w.heap.size ≤ xo ∧ w.heap.size ≤ xq
set_option maxRecDepth 100000 in
set_option maxHeartbeats 2000000 in
theorem try_pop {rest : List Src} (h : CopAt w co cb cur thn 0 val) (hs : SrcsAt w cb sv ((.pop i) :: rest)) (hc : CrewAt w cb bb bg dv) (hd : DqsAt w dv n bd) (hi : i < n) (hn : n ≤ 1000) (he : DeqEnv w (bd i) bm bc dbase slots tc L) :
    Calls Try.prog 43 #[.pointer (some ⟨co, 0, none⟩), sv] w fun e w' => e = .returned (.tuple #[]) ∧ Tried w w' co cb 73 (fun w p => DopIs w p (bd i) popOp) sv val := by
  obtain ⟨a, cap, rfl, hcap, hx⟩ := hs.ex
  obtain ⟨g, off, cs, rfl, hblk, hx⟩ := hx (by simp)
  obtain ⟨v0, hv0, hsrc⟩ := hx 0 (.pop i) rfl
  rw [Nat.add_zero] at hv0
  obtain ⟨xc, xw, rfl, hxc, hxw⟩ := hsrc
  simp only [List.length_cons] at hcap ⊢
  have o1 := ((Only.refl S0 w).alloc (.cells #[.pointer (some ⟨co, 0, none⟩)] 30)).alloc (.cells #[.slice (some ⟨g, off, none⟩) (rest.length + 1) cap] 84)
  have HX := hide (show OBox _ w.heap.size co from (Blk.new w 30 #[.pointer (some ⟨co, 0, none⟩)]).alloc (.cells #[.slice (some ⟨g, off, none⟩) (rest.length + 1) cap] 84))
  have hq0 := Blk.new (w.alloc (.cells #[.pointer (some ⟨co, 0, none⟩)] 30)) 84 #[.slice (some ⟨g, off, none⟩) (rest.length + 1) cap]
  have HQ := hide (show QBox _ (w.heap.size + 1) (.slice (some ⟨g, off, none⟩) (rest.length + 1) cap) from by simpa [QBox] using hq0)
  have H1 := hide (h.only o1 (fun h => h))
  have c0 := (o1.cell (p := ⟨g, off, none⟩) hblk.lt (fun h => h)).trans hv0
  have XC := hide (hxc.only o1 (fun h => h))
  have XW := hide (hxw.only o1 (fun h => h))
  have HC := hide (hc.only o1 (fun h => h))
  have HD := hide (hd.only0 o1)
  have HE := hide (he.only0 o1)
  have HO1 := hide o1
  have hl := Blk.lt h
  clear h hs hc o1 hq0 hx hv0 hblk hxc hxw hd he
  unfold popK at c0
  have hlen : (((rest.length + 1 : Nat) : Int) == 0) = false := by rw [beq_eq_false_iff_ne]; omega
  go_enter Try.func43, Try.ntmps43
  go_upto_region 1 with fail
  generalize (w.alloc (.cells #[.pointer (some ⟨co, 0, none⟩)] 30)).alloc (.cells #[.slice (some ⟨g, off, none⟩) (rest.length + 1) cap] 84) = w1 at *
  have hb1 := Blk.lt HQ.out
  generalize hxo' : w.heap.size = xo at *
  generalize hxq' : xo + 1 = xq at *
  have HXO := hide hxo'
  have HXQ := hide hxq'
  clear hxo' hxq'
  have q0 := HQ.out.c0
  go_wp2_with fail
  refine (find1_any XC.out XW.out HC.out HD.out hi hn HE.out).mono ?_
  rintro e w2 ⟨p, rfl, g1, o1, b1⟩
  have G1 := hide g1
  have X1 := hide (HX.out.only o1 (fun h => h))
  have Q1 := hide (HQ.out.only o1 (fun h => h))
  have H2 := hide (H1.out.only o1 (fun h => h))
  have O1 := hide (HO1.out.trans o1)
  have hs2 := o1.size
  clear g1 o1 c0 q0
  go_upto_region 4 with fail
  have oa := (Only.refl S0 w2).alloc (.cells #[.iface 73 (.pointer (some ⟨p, 0, none⟩))] 79)
  have HT := hide (show IBox _ w2.heap.size 73 p from Blk.new w2 79 #[.iface 73 (.pointer (some ⟨p, 0, none⟩))])
  have G2 := hide (DopAt.only G1.out oa (fun h => h))
  have X2 := hide (X1.out.only oa (fun h => h))
  have Q2 := hide (Q1.out.only oa (fun h => h))
  have H3 := hide (H2.out.only oa (fun h => h))
  have O2 := hide (O1.out.trans oa)
  clear oa
  generalize hxs' : w2.heap.size = xs at *
  generalize w2.alloc (.cells #[.iface 73 (.pointer (some ⟨p, 0, none⟩))] 79) = w3 at *
  have n1 : xo ≠ co := by have := HXO.out; have := HXQ.out; omega
  have n2 : xs ≠ co := by have := HXO.out; have := HXQ.out; omega
  have n3 : p ≠ co := by have := HXO.out; have := HXQ.out; omega
  have n4 : xq ≠ co := by have := HXO.out; have := HXQ.out; omega
  have z0 := X2.out.drew.c0
  have z1 := HT.out.drew.c0
  clear hxs'
  go_region_held3 (fun w' : World => w'.cell? ⟨xo, 0, none⟩ = some (.pointer (some ⟨co, 0, none⟩)) ∧ w'.cell? ⟨xs, 0, none⟩ = some (.iface 73 (.pointer (some ⟨p, 0, none⟩)))) (first | with_reducible exact ⟨z0, z1⟩ | with_reducible exact ⟨y0, y1⟩) (first | (go_at_call 31; refine (CDo_deque _ _ H3.out.drew (show DopIs w3.drew p (bd i) popOp from G2.out) rfl).mono ?_; rintro e w4 ⟨rfl, h3, o3⟩; have H4 := hide h3; have T3 := hide (HT.out.drew.only o3 n2); have X3 := hide (X2.out.drew.only o3 n1); have Q3 := hide (Q2.out.drew.only o3 n4); have y0 := X3.out.c0; have y1 := T3.out.c0; have G3 := hide (show DopIs w4 p (bd i) popOp from DopAt.only (show DopIs w3.drew p (bd i) popOp from G2.out) o3 n3); have O3 := hide (((O2.out.drew).mono (R := S1 co) fun _ h => h.elim).trans o3); clear h3 o3))
  go_wp2_with fail
  all_goals go_end0
  all_goals exact ⟨rfl, p, xs, xo, xq, H4.out, G3.out, T3.out, X3.out, Q3.out, O3.out, by have := HXO.out; have := HXQ.out; omega, by have := HXO.out; have := HXQ.out; omega, by have := HXO.out; have := HXQ.out; omega, by have := HXO.out; have := HXQ.out; omega⟩
set_option maxRecDepth 100000 in
set_option maxHeartbeats 2000000 in
theorem try_steal {rest : List Src} (h : CopAt w co cb cur thn 0 val) (hs : SrcsAt w cb sv ((.steal i) :: rest)) (hc : CrewAt w cb bb bg dv) (hd : DqsAt w dv n bd) (hi : i < n) (hn : n ≤ 1000) (he : DeqEnv w (bd i) bm bc dbase slots tc L) :
    Calls Try.prog 43 #[.pointer (some ⟨co, 0, none⟩), sv] w fun e w' => e = .returned (.tuple #[]) ∧ Tried w w' co cb 73 (fun w p => DopIs w p (bd i) stealOp) sv val := by
  obtain ⟨a, cap, rfl, hcap, hx⟩ := hs.ex
  obtain ⟨g, off, cs, rfl, hblk, hx⟩ := hx (by simp)
  obtain ⟨v0, hv0, hsrc⟩ := hx 0 (.steal i) rfl
  rw [Nat.add_zero] at hv0
  obtain ⟨xc, xw, rfl, hxc, hxw⟩ := hsrc
  simp only [List.length_cons] at hcap ⊢
  have o1 := ((Only.refl S0 w).alloc (.cells #[.pointer (some ⟨co, 0, none⟩)] 30)).alloc (.cells #[.slice (some ⟨g, off, none⟩) (rest.length + 1) cap] 84)
  have HX := hide (show OBox _ w.heap.size co from (Blk.new w 30 #[.pointer (some ⟨co, 0, none⟩)]).alloc (.cells #[.slice (some ⟨g, off, none⟩) (rest.length + 1) cap] 84))
  have hq0 := Blk.new (w.alloc (.cells #[.pointer (some ⟨co, 0, none⟩)] 30)) 84 #[.slice (some ⟨g, off, none⟩) (rest.length + 1) cap]
  have HQ := hide (show QBox _ (w.heap.size + 1) (.slice (some ⟨g, off, none⟩) (rest.length + 1) cap) from by simpa [QBox] using hq0)
  have H1 := hide (h.only o1 (fun h => h))
  have c0 := (o1.cell (p := ⟨g, off, none⟩) hblk.lt (fun h => h)).trans hv0
  have XC := hide (hxc.only o1 (fun h => h))
  have XW := hide (hxw.only o1 (fun h => h))
  have HC := hide (hc.only o1 (fun h => h))
  have HD := hide (hd.only0 o1)
  have HE := hide (he.only0 o1)
  have HO1 := hide o1
  have hl := Blk.lt h
  clear h hs hc o1 hq0 hx hv0 hblk hxc hxw hd he
  unfold stealK at c0
  have hlen : (((rest.length + 1 : Nat) : Int) == 0) = false := by rw [beq_eq_false_iff_ne]; omega
  go_enter Try.func43, Try.ntmps43
  go_upto_region 1 with fail
  generalize (w.alloc (.cells #[.pointer (some ⟨co, 0, none⟩)] 30)).alloc (.cells #[.slice (some ⟨g, off, none⟩) (rest.length + 1) cap] 84) = w1 at *
  have hb1 := Blk.lt HQ.out
  generalize hxo' : w.heap.size = xo at *
  generalize hxq' : xo + 1 = xq at *
  have HXO := hide hxo'
  have HXQ := hide hxq'
  clear hxo' hxq'
  have q0 := HQ.out.c0
  go_wp2_with fail
  refine (find3_any XC.out XW.out HC.out HD.out hi hn HE.out).mono ?_
  rintro e w2 ⟨p, rfl, g1, o1, b1⟩
  have G1 := hide g1
  have X1 := hide (HX.out.only o1 (fun h => h))
  have Q1 := hide (HQ.out.only o1 (fun h => h))
  have H2 := hide (H1.out.only o1 (fun h => h))
  have O1 := hide (HO1.out.trans o1)
  have hs2 := o1.size
  clear g1 o1 c0 q0
  go_upto_region 4 with fail
  have oa := (Only.refl S0 w2).alloc (.cells #[.iface 73 (.pointer (some ⟨p, 0, none⟩))] 79)
  have HT := hide (show IBox _ w2.heap.size 73 p from Blk.new w2 79 #[.iface 73 (.pointer (some ⟨p, 0, none⟩))])
  have G2 := hide (DopAt.only G1.out oa (fun h => h))
  have X2 := hide (X1.out.only oa (fun h => h))
  have Q2 := hide (Q1.out.only oa (fun h => h))
  have H3 := hide (H2.out.only oa (fun h => h))
  have O2 := hide (O1.out.trans oa)
  clear oa
  generalize hxs' : w2.heap.size = xs at *
  generalize w2.alloc (.cells #[.iface 73 (.pointer (some ⟨p, 0, none⟩))] 79) = w3 at *
  have n1 : xo ≠ co := by have := HXO.out; have := HXQ.out; omega
  have n2 : xs ≠ co := by have := HXO.out; have := HXQ.out; omega
  have n3 : p ≠ co := by have := HXO.out; have := HXQ.out; omega
  have n4 : xq ≠ co := by have := HXO.out; have := HXQ.out; omega
  have z0 := X2.out.drew.c0
  have z1 := HT.out.drew.c0
  clear hxs'
  go_region_held3 (fun w' : World => w'.cell? ⟨xo, 0, none⟩ = some (.pointer (some ⟨co, 0, none⟩)) ∧ w'.cell? ⟨xs, 0, none⟩ = some (.iface 73 (.pointer (some ⟨p, 0, none⟩)))) (first | with_reducible exact ⟨z0, z1⟩ | with_reducible exact ⟨y0, y1⟩) (first | (go_at_call 31; refine (CDo_deque _ _ H3.out.drew (show DopIs w3.drew p (bd i) stealOp from G2.out) rfl).mono ?_; rintro e w4 ⟨rfl, h3, o3⟩; have H4 := hide h3; have T3 := hide (HT.out.drew.only o3 n2); have X3 := hide (X2.out.drew.only o3 n1); have Q3 := hide (Q2.out.drew.only o3 n4); have y0 := X3.out.c0; have y1 := T3.out.c0; have G3 := hide (show DopIs w4 p (bd i) stealOp from DopAt.only (show DopIs w3.drew p (bd i) stealOp from G2.out) o3 n3); have O3 := hide (((O2.out.drew).mono (R := S1 co) fun _ h => h.elim).trans o3); clear h3 o3))
  go_wp2_with fail
  all_goals go_end0
  all_goals exact ⟨rfl, p, xs, xo, xq, H4.out, G3.out, T3.out, X3.out, Q3.out, O3.out, by have := HXO.out; have := HXQ.out; omega, by have := HXO.out; have := HXQ.out; omega, by have := HXO.out; have := HXQ.out; omega, by have := HXO.out; have := HXQ.out; omega⟩
set_option maxRecDepth 100000 in
set_option maxHeartbeats 2000000 in
theorem try_take {rest : List Src} (h : CopAt w co cb cur thn 0 val) (hs : SrcsAt w cb sv (.take :: rest)) (hc : CrewAt w cb bb bg dv) (he : GateEnv w bg bm bc gbase ga tc L) :
    Calls Try.prog 43 #[.pointer (some ⟨co, 0, none⟩), sv] w fun e w' => e = .returned (.tuple #[]) ∧ Tried w w' co cb 82 (fun w p => GopIs w p bg (takeOp gbase)) sv val := by
  obtain ⟨a, cap, rfl, hcap, hx⟩ := hs.ex
  obtain ⟨g, off, cs, rfl, hblk, hx⟩ := hx (by simp)
  obtain ⟨v0, hv0, hsrc⟩ := hx 0 .take rfl
  rw [Nat.add_zero] at hv0
  obtain ⟨xc, rfl, hxc⟩ := hsrc
  simp only [List.length_cons] at hcap ⊢
  have o1 := ((Only.refl S0 w).alloc (.cells #[.pointer (some ⟨co, 0, none⟩)] 30)).alloc (.cells #[.slice (some ⟨g, off, none⟩) (rest.length + 1) cap] 84)
  have HX := hide (show OBox _ w.heap.size co from (Blk.new w 30 #[.pointer (some ⟨co, 0, none⟩)]).alloc (.cells #[.slice (some ⟨g, off, none⟩) (rest.length + 1) cap] 84))
  have hq0 := Blk.new (w.alloc (.cells #[.pointer (some ⟨co, 0, none⟩)] 30)) 84 #[.slice (some ⟨g, off, none⟩) (rest.length + 1) cap]
  have HQ := hide (show QBox _ (w.heap.size + 1) (.slice (some ⟨g, off, none⟩) (rest.length + 1) cap) from by simpa [QBox] using hq0)
  have H1 := hide (h.only o1 (fun h => h))
  have c0 := (o1.cell (p := ⟨g, off, none⟩) hblk.lt (fun h => h)).trans hv0
  have XC := hide (hxc.only o1 (fun h => h))
  have HC := hide (hc.only o1 (fun h => h))
  have HE := hide (he.only0 o1)
  have HO1 := hide o1
  have hl := Blk.lt h
  clear h hs hc o1 hq0 hx hv0 hblk hxc he
  unfold takeK at c0
  have hlen : (((rest.length + 1 : Nat) : Int) == 0) = false := by rw [beq_eq_false_iff_ne]; omega
  go_enter Try.func43, Try.ntmps43
  go_upto_region 1 with fail
  generalize (w.alloc (.cells #[.pointer (some ⟨co, 0, none⟩)] 30)).alloc (.cells #[.slice (some ⟨g, off, none⟩) (rest.length + 1) cap] 84) = w1 at *
  have hb1 := Blk.lt HQ.out
  generalize hxo' : w.heap.size = xo at *
  generalize hxq' : xo + 1 = xq at *
  have HXO := hide hxo'
  have HXQ := hide hxq'
  clear hxo' hxq'
  have q0 := HQ.out.c0
  go_wp2_with fail
  refine (find2_any XC.out HC.out HE.out).mono ?_
  rintro e w2 ⟨p, rfl, g1, o1, b1⟩
  have G1 := hide g1
  have X1 := hide (HX.out.only o1 (fun h => h))
  have Q1 := hide (HQ.out.only o1 (fun h => h))
  have H2 := hide (H1.out.only o1 (fun h => h))
  have O1 := hide (HO1.out.trans o1)
  have hs2 := o1.size
  clear g1 o1 c0 q0
  go_upto_region 4 with fail
  have oa := (Only.refl S0 w2).alloc (.cells #[.iface 82 (.pointer (some ⟨p, 0, none⟩))] 79)
  have HT := hide (show IBox _ w2.heap.size 82 p from Blk.new w2 79 #[.iface 82 (.pointer (some ⟨p, 0, none⟩))])
  have G2 := hide (GopAt.only G1.out oa (fun h => h))
  have X2 := hide (X1.out.only oa (fun h => h))
  have Q2 := hide (Q1.out.only oa (fun h => h))
  have H3 := hide (H2.out.only oa (fun h => h))
  have O2 := hide (O1.out.trans oa)
  clear oa
  generalize hxs' : w2.heap.size = xs at *
  generalize w2.alloc (.cells #[.iface 82 (.pointer (some ⟨p, 0, none⟩))] 79) = w3 at *
  have n1 : xo ≠ co := by have := HXO.out; have := HXQ.out; omega
  have n2 : xs ≠ co := by have := HXO.out; have := HXQ.out; omega
  have n3 : p ≠ co := by have := HXO.out; have := HXQ.out; omega
  have n4 : xq ≠ co := by have := HXO.out; have := HXQ.out; omega
  have z0 := X2.out.drew.c0
  have z1 := HT.out.drew.c0
  clear hxs'
  go_region_held3 (fun w' : World => w'.cell? ⟨xo, 0, none⟩ = some (.pointer (some ⟨co, 0, none⟩)) ∧ w'.cell? ⟨xs, 0, none⟩ = some (.iface 82 (.pointer (some ⟨p, 0, none⟩)))) (first | with_reducible exact ⟨z0, z1⟩ | with_reducible exact ⟨y0, y1⟩) (first | (go_at_call 31; refine (CDo_gate _ _ H3.out.drew (show GopIs w3.drew p bg (takeOp gbase) from G2.out) rfl).mono ?_; rintro e w4 ⟨rfl, h3, o3⟩; have H4 := hide h3; have T3 := hide (HT.out.drew.only o3 n2); have X3 := hide (X2.out.drew.only o3 n1); have Q3 := hide (Q2.out.drew.only o3 n4); have y0 := X3.out.c0; have y1 := T3.out.c0; have G3 := hide (show GopIs w4 p bg (takeOp gbase) from GopAt.only (show GopIs w3.drew p bg (takeOp gbase) from G2.out) o3 n3); have O3 := hide (((O2.out.drew).mono (R := S1 co) fun _ h => h.elim).trans o3); clear h3 o3))
  go_wp2_with fail
  all_goals go_end0
  all_goals exact ⟨rfl, p, xs, xo, xq, H4.out, G3.out, T3.out, X3.out, Q3.out, O3.out, by have := HXO.out; have := HXQ.out; omega, by have := HXO.out; have := HXQ.out; omega, by have := HXO.out; have := HXQ.out; omega, by have := HXO.out; have := HXQ.out; omega⟩
end
end Go.Proofs.Ytdoaipjdldknaaa
