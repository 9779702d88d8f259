/-
  Package steps, as the crew's operations use it: an operation's block; Over, Outcome, Value, End.
-/
import Derived.Test.YtdoaipjdldknaaaGreatKBell3
import Derived.Test.YtdoaipjdldknaaaGreatKGate5
import Derived.Test.YtdoaipjdldknaaaGreatKDeq5
import Derived.Test.YtdoaipjdldknaaaGreatPlay
import Derived.StillTailTactics
import Derived.Laws.EntriesVeiled
import Derived.Deep.RegionHeld3
import Derived.Deep.DeepCutAuto
namespace Go.Proofs.YtdoaipjdldknaaaGreat
open Go.RowKit
set_option linter.unusedVariables false

/-- An operation of a crew: what is under way, what comes behind it, the outcome, the value. -/
def CopAt (w : World) (co cb : Nat) (cur thn : Value) (out val : Int) : Prop := Blk w co 56 #[cur, thn, .int .i64 out, .int .u64 val, .pointer (some ⟨cb, 0, none⟩)]
section
variable {w : World} {co cb : Nat} {cur thn : Value} {out val : Int}
theorem CopAt.c0 (h : CopAt w co cb cur thn out val) : w.cell? ⟨co, 0, none⟩ = some cur := Blk.cellv h rfl
theorem CopAt.c1 (h : CopAt w co cb cur thn out val) : w.cell? ⟨co, 1, none⟩ = some thn := Blk.cellv h rfl
theorem CopAt.c2 (h : CopAt w co cb cur thn out val) : w.cell? ⟨co, 2, none⟩ = some (.int .i64 out) := Blk.cellv h rfl
theorem CopAt.c3 (h : CopAt w co cb cur thn out val) : w.cell? ⟨co, 3, none⟩ = some (.int .u64 val) := Blk.cellv h rfl
theorem CopAt.c4 (h : CopAt w co cb cur thn out val) : w.cell? ⟨co, 4, none⟩ = some (.pointer (some ⟨cb, 0, none⟩)) := Blk.cellv h rfl
theorem CopAt.fz (h : CopAt w co cb cur thn out val) (i : Nat) : w.frozen? ⟨co, i, none⟩ = false := Blk.frozen h i
theorem CopAt.only {w' : World} {S : Nat → Prop} (h : CopAt w co cb cur thn out val) (ho : Only S w w') (hs : ¬ S co) : CopAt w' co cb cur thn out val := Blk.only h ho hs
theorem CopAt.drew (h : CopAt w co cb cur thn out val) : CopAt w.drew co cb cur thn out val := h
theorem CopAt.end_ (h : CopAt w co cb cur thn out val) (o v : Int) : CopAt ((w.setCell ⟨co, 2, none⟩ (.int .i64 o)).setCell ⟨co, 3, none⟩ (.int .u64 v)) co cb cur thn o v := by
  have := (Blk.set_ h 2 (.int .i64 o)).set_ 3 (.int .u64 v)
  simpa [CopAt] using this
theorem CopAt.do_ (h : CopAt w co cb cur thn out val) (c t : Value) : CopAt ((w.setCell ⟨co, 0, none⟩ c).setCell ⟨co, 1, none⟩ t) co cb c t out val := by
  have := (Blk.set_ h 0 c).set_ 1 t
  simpa [CopAt] using this
theorem COver_any (h : CopAt w co cb cur thn out val) : Calls Tryz.prog 16 #[.pointer (some ⟨co, 0, none⟩)] w fun e w' => e = .returned (.bool (out != 0)) ∧ w = w' := by
  have c2 := h.c2
  clear h
  go_enter Tryz.func16, Tryz.ntmps16
  go_wp2_with fail
  go_ret
  exact ⟨rfl, rfl⟩
theorem COutcome_any (h : CopAt w co cb cur thn out val) : Calls Tryz.prog 22 #[.pointer (some ⟨co, 0, none⟩)] w fun e w' => e = .returned (.int .i64 out) ∧ w = w' := by
  have c2 := h.c2
  clear h
  go_enter Tryz.func22, Tryz.ntmps22
  go_wp2_with fail
  go_ret
  exact ⟨rfl, rfl⟩
theorem CValue_any (h : CopAt w co cb cur thn out val) : Calls Tryz.prog 23 #[.pointer (some ⟨co, 0, none⟩)] w fun e w' => e = .returned (.int .u64 val) ∧ w = w' := by
  have c3 := h.c3
  clear h
  go_enter Tryz.func23, Tryz.ntmps23
  go_wp2_with fail
  go_ret
  exact ⟨rfl, rfl⟩
theorem CEnd_any (o v : Int) (h : CopAt w co cb cur thn out val) : Calls Tryz.prog 68 #[.pointer (some ⟨co, 0, none⟩), .int .i64 o, .int .u64 v] w fun e w' =>
    e = .returned (.tuple #[]) ∧ CopAt w' co cb cur thn o v ∧ Only (S1 co) w w' := by
  have c2 := h.c2
  have c3 := h.c3
  have f2 := h.fz 2
  have f3 := h.fz 3
  have H := hide h
  clear h
  go_enter Tryz.func68, Tryz.ntmps68
  go_wp2_with fail
  go_end0
  exact ⟨rfl, H.out.end_ o v, (only_set w co 2 _).set1 (g := co) 3 rfl _⟩
end
end Go.Proofs.YtdoaipjdldknaaaGreat
/-
  Package steps: Do, with a part that is pending; Step.
-/
namespace Go.Proofs.YtdoaipjdldknaaaGreat
open Go.RowKit
set_option linter.unusedVariables false

theorem meth_deque_Over (n : Nat) (a : Addr) (w : World) : (method (n + 1) 104 (.pointer (some a)) "Over").run Tryz.prog w = .ok (144, .pointer (some a)) w := by kernel_rfl
theorem meth_deque_Step (n : Nat) (a : Addr) (w : World) : (method (n + 1) 104 (.pointer (some a)) "Step").run Tryz.prog w = .ok (145, .pointer (some a)) w := by kernel_rfl
theorem meth_deque_Outcome (n : Nat) (a : Addr) (w : World) : (method (n + 1) 104 (.pointer (some a)) "Outcome").run Tryz.prog w = .ok (53, .pointer (some a)) w := by kernel_rfl
theorem meth_deque_Value (n : Nat) (a : Addr) (w : World) : (method (n + 1) 104 (.pointer (some a)) "Value").run Tryz.prog w = .ok (146, .pointer (some a)) w := by kernel_rfl
theorem meth_gate_Over (n : Nat) (a : Addr) (w : World) : (method (n + 1) 113 (.pointer (some a)) "Over").run Tryz.prog w = .ok (147, .pointer (some a)) w := by kernel_rfl
theorem meth_gate_Step (n : Nat) (a : Addr) (w : World) : (method (n + 1) 113 (.pointer (some a)) "Step").run Tryz.prog w = .ok (148, .pointer (some a)) w := by kernel_rfl
theorem meth_gate_Outcome (n : Nat) (a : Addr) (w : World) : (method (n + 1) 113 (.pointer (some a)) "Outcome").run Tryz.prog w = .ok (67, .pointer (some a)) w := by kernel_rfl
theorem meth_gate_Value (n : Nat) (a : Addr) (w : World) : (method (n + 1) 113 (.pointer (some a)) "Value").run Tryz.prog w = .ok (71, .pointer (some a)) w := by kernel_rfl
theorem meth_bell_Over (n : Nat) (a : Addr) (w : World) : (method (n + 1) 119 (.pointer (some a)) "Over").run Tryz.prog w = .ok (151, .pointer (some a)) w := by kernel_rfl
theorem meth_bell_Step (n : Nat) (a : Addr) (w : World) : (method (n + 1) 119 (.pointer (some a)) "Step").run Tryz.prog w = .ok (152, .pointer (some a)) w := by kernel_rfl
theorem meth_bell_Outcome (n : Nat) (a : Addr) (w : World) : (method (n + 1) 119 (.pointer (some a)) "Outcome").run Tryz.prog w = .ok (74, .pointer (some a)) w := by kernel_rfl
theorem nila_deque_Step (n : Nat) (a : Addr) (w : World) : (nilAhead (n + 1) 104 (.pointer (some a)) "Step").run Tryz.prog w = .ok (some false) w := by kernel_rfl
theorem nila_gate_Step (n : Nat) (a : Addr) (w : World) : (nilAhead (n + 1) 113 (.pointer (some a)) "Step").run Tryz.prog w = .ok (some false) w := by kernel_rfl
theorem nila_bell_Step (n : Nat) (a : Addr) (w : World) : (nilAhead (n + 1) 119 (.pointer (some a)) "Step").run Tryz.prog w = .ok (some false) w := by kernel_rfl
section
variable {w : World} {co cb bo bd : Nat} {cur thn : Value} {out val : Int}
set_option maxRecDepth 100000 in
theorem CDo_deque {o : Dop} (k : Nat) (cap : Array Value) (h : CopAt w co cb cur thn out val) (hp : DopIs w bo bd o) (ho : o.out = 0) : Calls Tryz.prog 51 #[.pointer (some ⟨co, 0, none⟩), .iface 104 (.pointer (some ⟨bo, 0, none⟩)), .func (.func k) #[] cap] w fun e w' =>
    e = .returned (.tuple #[]) ∧ CopAt w' co cb (.iface 104 (.pointer (some ⟨bo, 0, none⟩))) (.func (.func k) #[] cap) out val ∧ Only (S1 co) w w' := by
  have c0 := h.c0
  have c1 := h.c1
  have f0 := h.fz 0
  have f1 := h.fz 1
  have H := hide h
  have HP := hide hp
  have HO := hide ho
  have hm := meth_deque_Over
  clear h hp ho
  go_enter Tryz.func51, Tryz.ntmps51
  go_wp2_with fail
  clear hm
  refine (HP.out.over0 HO.out).mono ?_
  rintro e w1 ⟨rfl, rfl⟩
  go_wp2_with fail
  go_end0
  exact ⟨rfl, H.out.do_ _ _, (only_set w co 0 _).set1 (g := co) 1 rfl _⟩
set_option maxRecDepth 100000 in
theorem CDo_gate {o : Gop} (k : Nat) (cap : Array Value) (h : CopAt w co cb cur thn out val) (hp : GopIs w bo bd o) (ho : o.out = 0) : Calls Tryz.prog 51 #[.pointer (some ⟨co, 0, none⟩), .iface 113 (.pointer (some ⟨bo, 0, none⟩)), .func (.func k) #[] cap] w fun e w' =>
    e = .returned (.tuple #[]) ∧ CopAt w' co cb (.iface 113 (.pointer (some ⟨bo, 0, none⟩))) (.func (.func k) #[] cap) out val ∧ Only (S1 co) w w' := by
  have c0 := h.c0
  have c1 := h.c1
  have f0 := h.fz 0
  have f1 := h.fz 1
  have H := hide h
  have HP := hide hp
  have HO := hide ho
  have hm := meth_gate_Over
  clear h hp ho
  go_enter Tryz.func51, Tryz.ntmps51
  go_wp2_with fail
  clear hm
  refine (HP.out.over0 HO.out).mono ?_
  rintro e w1 ⟨rfl, rfl⟩
  go_wp2_with fail
  go_end0
  exact ⟨rfl, H.out.do_ _ _, (only_set w co 0 _).set1 (g := co) 1 rfl _⟩
set_option maxRecDepth 100000 in
theorem CDo_bell {o : Bop} (k : Nat) (cap : Array Value) (h : CopAt w co cb cur thn out val) (hp : BopIs w bo bd o) (ho : o.out = 0) : Calls Tryz.prog 51 #[.pointer (some ⟨co, 0, none⟩), .iface 119 (.pointer (some ⟨bo, 0, none⟩)), .func (.func k) #[] cap] w fun e w' =>
    e = .returned (.tuple #[]) ∧ CopAt w' co cb (.iface 119 (.pointer (some ⟨bo, 0, none⟩))) (.func (.func k) #[] cap) out val ∧ Only (S1 co) w w' := by
  have c0 := h.c0
  have c1 := h.c1
  have f0 := h.fz 0
  have f1 := h.fz 1
  have H := hide h
  have HP := hide hp
  have HO := hide ho
  have hm := meth_bell_Over
  clear h hp ho
  go_enter Tryz.func51, Tryz.ntmps51
  go_wp2_with fail
  clear hm
  refine (HP.out.over0 HO.out).mono ?_
  rintro e w1 ⟨rfl, rfl⟩
  go_wp2_with fail
  go_end0
  exact ⟨rfl, H.out.do_ _ _, (only_set w co 0 _).set1 (g := co) 1 rfl _⟩
set_option maxRecDepth 100000 in
theorem CStep_deque_stay {R : World → Prop} (h : CopAt w co cb (.iface 104 (.pointer (some ⟨bo, 0, none⟩))) thn 0 val)
    (hs : Calls Tryz.prog 145 #[.pointer (some ⟨bo, 0, none⟩)] w fun e w' => e = .returned (.bool false) ∧ CopAt w' co cb (.iface 104 (.pointer (some ⟨bo, 0, none⟩))) thn 0 val ∧ R w') :
    Calls Tryz.prog 19 #[.pointer (some ⟨co, 0, none⟩)] w fun e w' => e = .returned (.bool false) ∧ CopAt w' co cb (.iface 104 (.pointer (some ⟨bo, 0, none⟩))) thn 0 val ∧ R w' := by
  have c0 := h.c0
  have HS := Lib.hid hs
  have H := hide h
  have hm := meth_deque_Step
  have hn := nila_deque_Step
  clear h hs
  go_enter Tryz.func19, Tryz.ntmps19
  go_wp2_with fail
  refine (COver_any H.out).mono ?_
  rintro e w1 ⟨rfl, rfl⟩
  go_wp2_with fail
  refine HS.out.mono ?_
  rintro e w1 ⟨rfl, h1, h2⟩
  have H1 := hide h1
  have H2 := hide h2
  clear h1 h2 c0 hm hn
  go_wp2_with fail
  refine (COver_any H1.out).mono ?_
  rintro e w2 ⟨rfl, rfl⟩
  go_wp2_with fail
  go_ret
  exact ⟨rfl, H1.out, H2.out⟩
set_option maxRecDepth 100000 in
theorem CStep_gate_stay {R : World → Prop} (h : CopAt w co cb (.iface 113 (.pointer (some ⟨bo, 0, none⟩))) thn 0 val)
    (hs : Calls Tryz.prog 148 #[.pointer (some ⟨bo, 0, none⟩)] w fun e w' => e = .returned (.bool false) ∧ CopAt w' co cb (.iface 113 (.pointer (some ⟨bo, 0, none⟩))) thn 0 val ∧ R w') :
    Calls Tryz.prog 19 #[.pointer (some ⟨co, 0, none⟩)] w fun e w' => e = .returned (.bool false) ∧ CopAt w' co cb (.iface 113 (.pointer (some ⟨bo, 0, none⟩))) thn 0 val ∧ R w' := by
  have c0 := h.c0
  have HS := Lib.hid hs
  have H := hide h
  have hm := meth_gate_Step
  have hn := nila_gate_Step
  clear h hs
  go_enter Tryz.func19, Tryz.ntmps19
  go_wp2_with fail
  refine (COver_any H.out).mono ?_
  rintro e w1 ⟨rfl, rfl⟩
  go_wp2_with fail
  refine HS.out.mono ?_
  rintro e w1 ⟨rfl, h1, h2⟩
  have H1 := hide h1
  have H2 := hide h2
  clear h1 h2 c0 hm hn
  go_wp2_with fail
  refine (COver_any H1.out).mono ?_
  rintro e w2 ⟨rfl, rfl⟩
  go_wp2_with fail
  go_ret
  exact ⟨rfl, H1.out, H2.out⟩
set_option maxRecDepth 100000 in
theorem CStep_bell_stay {R : World → Prop} (h : CopAt w co cb (.iface 119 (.pointer (some ⟨bo, 0, none⟩))) thn 0 val)
    (hs : Calls Tryz.prog 152 #[.pointer (some ⟨bo, 0, none⟩)] w fun e w' => e = .returned (.bool false) ∧ CopAt w' co cb (.iface 119 (.pointer (some ⟨bo, 0, none⟩))) thn 0 val ∧ R w') :
    Calls Tryz.prog 19 #[.pointer (some ⟨co, 0, none⟩)] w fun e w' => e = .returned (.bool false) ∧ CopAt w' co cb (.iface 119 (.pointer (some ⟨bo, 0, none⟩))) thn 0 val ∧ R w' := by
  have c0 := h.c0
  have HS := Lib.hid hs
  have H := hide h
  have hm := meth_bell_Step
  have hn := nila_bell_Step
  clear h hs
  go_enter Tryz.func19, Tryz.ntmps19
  go_wp2_with fail
  refine (COver_any H.out).mono ?_
  rintro e w1 ⟨rfl, rfl⟩
  go_wp2_with fail
  refine HS.out.mono ?_
  rintro e w1 ⟨rfl, h1, h2⟩
  have H1 := hide h1
  have H2 := hide h2
  clear h1 h2 c0 hm hn
  go_wp2_with fail
  refine (COver_any H1.out).mono ?_
  rintro e w2 ⟨rfl, rfl⟩
  go_wp2_with fail
  go_ret
  exact ⟨rfl, H1.out, H2.out⟩
set_option maxRecDepth 100000 in
theorem CStep_bell_ring {R R2 : World → Prop} {cap : Array Value} (hcs : cap.size = 1) (h : CopAt w co cb (.iface 119 (.pointer (some ⟨bo, 0, none⟩))) (.func (.func 85) #[] cap) 0 val)
    (hs : Calls Tryz.prog 152 #[.pointer (some ⟨bo, 0, none⟩)] w fun e w' => e = .returned (.bool true) ∧ CopAt w' co cb (.iface 119 (.pointer (some ⟨bo, 0, none⟩))) (.func (.func 85) #[] cap) 0 val ∧ R w')
    (hk : ∀ w1, R w1 → Calls Tryz.prog 85 cap w1 fun e w' => e = .returned (.tuple #[]) ∧ ∃ cur' thn' out' val', CopAt w' co cb cur' thn' out' val' ∧ R2 w') :
    Calls Tryz.prog 19 #[.pointer (some ⟨co, 0, none⟩)] w fun e w' => ∃ b, e = .returned (.bool b) ∧ ∃ cur' thn' out' val', b = (out' != 0) ∧ CopAt w' co cb cur' thn' out' val' ∧ R2 w' := by
  have c0 := h.c0
  have HS := Lib.hid hs
  have HK := Lib.hid hk
  have H := hide h
  have HCS := hide hcs
  have hm := meth_bell_Step
  have hn := nila_bell_Step
  clear h hs hk hcs
  go_enter Tryz.func19, Tryz.ntmps19
  go_wp2_with fail
  refine (COver_any H.out).mono ?_
  rintro e w1 ⟨rfl, rfl⟩
  go_wp2_with fail
  refine HS.out.mono ?_
  rintro e w1 ⟨rfl, h1, h2⟩
  have c1 := h1.c1
  have H1 := hide h1
  have H2 := hide h2
  clear h1 h2 c0 hm hn
  go_wp2_with fail
  refine (HK.out w1 H2.out).mono ?_
  rintro e w2 ⟨rfl, cur', thn', out', val', h3, h4⟩
  have H3 := hide h3
  have H4 := hide h4
  clear h3 h4 c1
  go_wp2_with fail
  refine (COver_any H3.out).mono ?_
  rintro e w3 ⟨rfl, rfl⟩
  go_wp2_with fail
  go_ret
  exact ⟨_, rfl, cur', thn', out', val', rfl, H3.out, H4.out⟩
set_option maxRecDepth 100000 in
theorem CStep_gate_enter {R R2 : World → Prop} {cap : Array Value} (hcs : cap.size = 3) (h : CopAt w co cb (.iface 113 (.pointer (some ⟨bo, 0, none⟩))) (.func (.func 82) #[] cap) 0 val)
    (hs : Calls Tryz.prog 148 #[.pointer (some ⟨bo, 0, none⟩)] w fun e w' => e = .returned (.bool true) ∧ CopAt w' co cb (.iface 113 (.pointer (some ⟨bo, 0, none⟩))) (.func (.func 82) #[] cap) 0 val ∧ R w')
    (hk : ∀ w1, R w1 → Calls Tryz.prog 82 cap w1 fun e w' => e = .returned (.tuple #[]) ∧ ∃ cur' thn' out' val', CopAt w' co cb cur' thn' out' val' ∧ R2 w') :
    Calls Tryz.prog 19 #[.pointer (some ⟨co, 0, none⟩)] w fun e w' => ∃ b, e = .returned (.bool b) ∧ ∃ cur' thn' out' val', b = (out' != 0) ∧ CopAt w' co cb cur' thn' out' val' ∧ R2 w' := by
  have c0 := h.c0
  have HS := Lib.hid hs
  have HK := Lib.hid hk
  have H := hide h
  have HCS := hide hcs
  have hm := meth_gate_Step
  have hn := nila_gate_Step
  clear h hs hk hcs
  go_enter Tryz.func19, Tryz.ntmps19
  go_wp2_with fail
  refine (COver_any H.out).mono ?_
  rintro e w1 ⟨rfl, rfl⟩
  go_wp2_with fail
  refine HS.out.mono ?_
  rintro e w1 ⟨rfl, h1, h2⟩
  have c1 := h1.c1
  have H1 := hide h1
  have H2 := hide h2
  clear h1 h2 c0 hm hn
  go_wp2_with fail
  refine (HK.out w1 H2.out).mono ?_
  rintro e w2 ⟨rfl, cur', thn', out', val', h3, h4⟩
  have H3 := hide h3
  have H4 := hide h4
  clear h3 h4 c1
  go_wp2_with fail
  refine (COver_any H3.out).mono ?_
  rintro e w3 ⟨rfl, rfl⟩
  go_wp2_with fail
  go_ret
  exact ⟨_, rfl, cur', thn', out', val', rfl, H3.out, H4.out⟩
set_option maxRecDepth 100000 in
theorem CStep_deque_offer {R R2 : World → Prop} {cap : Array Value} (hcs : cap.size = 3) (h : CopAt w co cb (.iface 104 (.pointer (some ⟨bo, 0, none⟩))) (.func (.func 52) #[] cap) 0 val)
    (hs : Calls Tryz.prog 145 #[.pointer (some ⟨bo, 0, none⟩)] w fun e w' => e = .returned (.bool true) ∧ CopAt w' co cb (.iface 104 (.pointer (some ⟨bo, 0, none⟩))) (.func (.func 52) #[] cap) 0 val ∧ R w')
    (hk : ∀ w1, R w1 → Calls Tryz.prog 52 cap w1 fun e w' => e = .returned (.tuple #[]) ∧ ∃ cur' thn' out' val', CopAt w' co cb cur' thn' out' val' ∧ R2 w') :
    Calls Tryz.prog 19 #[.pointer (some ⟨co, 0, none⟩)] w fun e w' => ∃ b, e = .returned (.bool b) ∧ ∃ cur' thn' out' val', b = (out' != 0) ∧ CopAt w' co cb cur' thn' out' val' ∧ R2 w' := by
  have c0 := h.c0
  have HS := Lib.hid hs
  have HK := Lib.hid hk
  have H := hide h
  have HCS := hide hcs
  have hm := meth_deque_Step
  have hn := nila_deque_Step
  clear h hs hk hcs
  go_enter Tryz.func19, Tryz.ntmps19
  go_wp2_with fail
  refine (COver_any H.out).mono ?_
  rintro e w1 ⟨rfl, rfl⟩
  go_wp2_with fail
  refine HS.out.mono ?_
  rintro e w1 ⟨rfl, h1, h2⟩
  have c1 := h1.c1
  have H1 := hide h1
  have H2 := hide h2
  clear h1 h2 c0 hm hn
  go_wp2_with fail
  refine (HK.out w1 H2.out).mono ?_
  rintro e w2 ⟨rfl, cur', thn', out', val', h3, h4⟩
  have H3 := hide h3
  have H4 := hide h4
  clear h3 h4 c1
  go_wp2_with fail
  refine (COver_any H3.out).mono ?_
  rintro e w3 ⟨rfl, rfl⟩
  go_wp2_with fail
  go_ret
  exact ⟨_, rfl, cur', thn', out', val', rfl, H3.out, H4.out⟩
set_option maxRecDepth 100000 in
theorem CStep_deque_try {R R2 : World → Prop} {cap : Array Value} (hcs : cap.size = 3) (h : CopAt w co cb (.iface 104 (.pointer (some ⟨bo, 0, none⟩))) (.func (.func 90) #[] cap) 0 val)
    (hs : Calls Tryz.prog 145 #[.pointer (some ⟨bo, 0, none⟩)] w fun e w' => e = .returned (.bool true) ∧ CopAt w' co cb (.iface 104 (.pointer (some ⟨bo, 0, none⟩))) (.func (.func 90) #[] cap) 0 val ∧ R w')
    (hk : ∀ w1, R w1 → Calls Tryz.prog 90 cap w1 fun e w' => e = .returned (.tuple #[]) ∧ ∃ cur' thn' out' val', CopAt w' co cb cur' thn' out' val' ∧ R2 w') :
    Calls Tryz.prog 19 #[.pointer (some ⟨co, 0, none⟩)] w fun e w' => ∃ b, e = .returned (.bool b) ∧ ∃ cur' thn' out' val', b = (out' != 0) ∧ CopAt w' co cb cur' thn' out' val' ∧ R2 w' := by
  have c0 := h.c0
  have HS := Lib.hid hs
  have HK := Lib.hid hk
  have H := hide h
  have HCS := hide hcs
  have hm := meth_deque_Step
  have hn := nila_deque_Step
  clear h hs hk hcs
  go_enter Tryz.func19, Tryz.ntmps19
  go_wp2_with fail
  refine (COver_any H.out).mono ?_
  rintro e w1 ⟨rfl, rfl⟩
  go_wp2_with fail
  refine HS.out.mono ?_
  rintro e w1 ⟨rfl, h1, h2⟩
  have c1 := h1.c1
  have H1 := hide h1
  have H2 := hide h2
  clear h1 h2 c0 hm hn
  go_wp2_with fail
  refine (HK.out w1 H2.out).mono ?_
  rintro e w2 ⟨rfl, cur', thn', out', val', h3, h4⟩
  have H3 := hide h3
  have H4 := hide h4
  clear h3 h4 c1
  go_wp2_with fail
  refine (COver_any H3.out).mono ?_
  rintro e w3 ⟨rfl, rfl⟩
  go_wp2_with fail
  go_ret
  exact ⟨_, rfl, cur', thn', out', val', rfl, H3.out, H4.out⟩
set_option maxRecDepth 100000 in
theorem CStep_gate_try {R R2 : World → Prop} {cap : Array Value} (hcs : cap.size = 3) (h : CopAt w co cb (.iface 113 (.pointer (some ⟨bo, 0, none⟩))) (.func (.func 90) #[] cap) 0 val)
    (hs : Calls Tryz.prog 148 #[.pointer (some ⟨bo, 0, none⟩)] w fun e w' => e = .returned (.bool true) ∧ CopAt w' co cb (.iface 113 (.pointer (some ⟨bo, 0, none⟩))) (.func (.func 90) #[] cap) 0 val ∧ R w')
    (hk : ∀ w1, R w1 → Calls Tryz.prog 90 cap w1 fun e w' => e = .returned (.tuple #[]) ∧ ∃ cur' thn' out' val', CopAt w' co cb cur' thn' out' val' ∧ R2 w') :
    Calls Tryz.prog 19 #[.pointer (some ⟨co, 0, none⟩)] w fun e w' => ∃ b, e = .returned (.bool b) ∧ ∃ cur' thn' out' val', b = (out' != 0) ∧ CopAt w' co cb cur' thn' out' val' ∧ R2 w' := by
  have c0 := h.c0
  have HS := Lib.hid hs
  have HK := Lib.hid hk
  have H := hide h
  have HCS := hide hcs
  have hm := meth_gate_Step
  have hn := nila_gate_Step
  clear h hs hk hcs
  go_enter Tryz.func19, Tryz.ntmps19
  go_wp2_with fail
  refine (COver_any H.out).mono ?_
  rintro e w1 ⟨rfl, rfl⟩
  go_wp2_with fail
  refine HS.out.mono ?_
  rintro e w1 ⟨rfl, h1, h2⟩
  have c1 := h1.c1
  have H1 := hide h1
  have H2 := hide h2
  clear h1 h2 c0 hm hn
  go_wp2_with fail
  refine (HK.out w1 H2.out).mono ?_
  rintro e w2 ⟨rfl, cur', thn', out', val', h3, h4⟩
  have H3 := hide h3
  have H4 := hide h4
  clear h3 h4 c1
  go_wp2_with fail
  refine (COver_any H3.out).mono ?_
  rintro e w3 ⟨rfl, rfl⟩
  go_wp2_with fail
  go_ret
  exact ⟨_, rfl, cur', thn', out', val', rfl, H3.out, H4.out⟩
set_option maxRecDepth 100000 in
theorem CStep_bell_rest {R R2 : World → Prop} {cap : Array Value} (hcs : cap.size = 3) (h : CopAt w co cb (.iface 119 (.pointer (some ⟨bo, 0, none⟩))) (.func (.func 65) #[] cap) 0 val)
    (hs : Calls Tryz.prog 152 #[.pointer (some ⟨bo, 0, none⟩)] w fun e w' => e = .returned (.bool true) ∧ CopAt w' co cb (.iface 119 (.pointer (some ⟨bo, 0, none⟩))) (.func (.func 65) #[] cap) 0 val ∧ R w')
    (hk : ∀ w1, R w1 → Calls Tryz.prog 65 cap w1 fun e w' => e = .returned (.tuple #[]) ∧ ∃ cur' thn' out' val', CopAt w' co cb cur' thn' out' val' ∧ R2 w') :
    Calls Tryz.prog 19 #[.pointer (some ⟨co, 0, none⟩)] w fun e w' => ∃ b, e = .returned (.bool b) ∧ ∃ cur' thn' out' val', b = (out' != 0) ∧ CopAt w' co cb cur' thn' out' val' ∧ R2 w' := by
  have c0 := h.c0
  have HS := Lib.hid hs
  have HK := Lib.hid hk
  have H := hide h
  have HCS := hide hcs
  have hm := meth_bell_Step
  have hn := nila_bell_Step
  clear h hs hk hcs
  go_enter Tryz.func19, Tryz.ntmps19
  go_wp2_with fail
  refine (COver_any H.out).mono ?_
  rintro e w1 ⟨rfl, rfl⟩
  go_wp2_with fail
  refine HS.out.mono ?_
  rintro e w1 ⟨rfl, h1, h2⟩
  have c1 := h1.c1
  have H1 := hide h1
  have H2 := hide h2
  clear h1 h2 c0 hm hn
  go_wp2_with fail
  refine (HK.out w1 H2.out).mono ?_
  rintro e w2 ⟨rfl, cur', thn', out', val', h3, h4⟩
  have H3 := hide h3
  have H4 := hide h4
  clear h3 h4 c1
  go_wp2_with fail
  refine (COver_any H3.out).mono ?_
  rintro e w3 ⟨rfl, rfl⟩
  go_wp2_with fail
  go_ret
  exact ⟨_, rfl, cur', thn', out', val', rfl, H3.out, H4.out⟩
set_option maxRecDepth 100000 in
theorem CStep_gate_rest2 {R R2 : World → Prop} {cap : Array Value} (hcs : cap.size = 4) (h : CopAt w co cb (.iface 113 (.pointer (some ⟨bo, 0, none⟩))) (.func (.func 66) #[] cap) 0 val)
    (hs : Calls Tryz.prog 148 #[.pointer (some ⟨bo, 0, none⟩)] w fun e w' => e = .returned (.bool true) ∧ CopAt w' co cb (.iface 113 (.pointer (some ⟨bo, 0, none⟩))) (.func (.func 66) #[] cap) 0 val ∧ R w')
    (hk : ∀ w1, R w1 → Calls Tryz.prog 66 cap w1 fun e w' => e = .returned (.tuple #[]) ∧ ∃ cur' thn' out' val', CopAt w' co cb cur' thn' out' val' ∧ R2 w') :
    Calls Tryz.prog 19 #[.pointer (some ⟨co, 0, none⟩)] w fun e w' => ∃ b, e = .returned (.bool b) ∧ ∃ cur' thn' out' val', b = (out' != 0) ∧ CopAt w' co cb cur' thn' out' val' ∧ R2 w' := by
  have c0 := h.c0
  have HS := Lib.hid hs
  have HK := Lib.hid hk
  have H := hide h
  have HCS := hide hcs
  have hm := meth_gate_Step
  have hn := nila_gate_Step
  clear h hs hk hcs
  go_enter Tryz.func19, Tryz.ntmps19
  go_wp2_with fail
  refine (COver_any H.out).mono ?_
  rintro e w1 ⟨rfl, rfl⟩
  go_wp2_with fail
  refine HS.out.mono ?_
  rintro e w1 ⟨rfl, h1, h2⟩
  have c1 := h1.c1
  have H1 := hide h1
  have H2 := hide h2
  clear h1 h2 c0 hm hn
  go_wp2_with fail
  refine (HK.out w1 H2.out).mono ?_
  rintro e w2 ⟨rfl, cur', thn', out', val', h3, h4⟩
  have H3 := hide h3
  have H4 := hide h4
  clear h3 h4 c1
  go_wp2_with fail
  refine (COver_any H3.out).mono ?_
  rintro e w3 ⟨rfl, rfl⟩
  go_wp2_with fail
  go_ret
  exact ⟨_, rfl, cur', thn', out', val', rfl, H3.out, H4.out⟩
set_option maxRecDepth 100000 in
theorem CStep_bell_rest3 {R R2 : World → Prop} {cap : Array Value} (hcs : cap.size = 2) (h : CopAt w co cb (.iface 119 (.pointer (some ⟨bo, 0, none⟩))) (.func (.func 70) #[] cap) 0 val)
    (hs : Calls Tryz.prog 152 #[.pointer (some ⟨bo, 0, none⟩)] w fun e w' => e = .returned (.bool true) ∧ CopAt w' co cb (.iface 119 (.pointer (some ⟨bo, 0, none⟩))) (.func (.func 70) #[] cap) 0 val ∧ R w')
    (hk : ∀ w1, R w1 → Calls Tryz.prog 70 cap w1 fun e w' => e = .returned (.tuple #[]) ∧ ∃ cur' thn' out' val', CopAt w' co cb cur' thn' out' val' ∧ R2 w') :
    Calls Tryz.prog 19 #[.pointer (some ⟨co, 0, none⟩)] w fun e w' => ∃ b, e = .returned (.bool b) ∧ ∃ cur' thn' out' val', b = (out' != 0) ∧ CopAt w' co cb cur' thn' out' val' ∧ R2 w' := by
  have c0 := h.c0
  have HS := Lib.hid hs
  have HK := Lib.hid hk
  have H := hide h
  have HCS := hide hcs
  have hm := meth_bell_Step
  have hn := nila_bell_Step
  clear h hs hk hcs
  go_enter Tryz.func19, Tryz.ntmps19
  go_wp2_with fail
  refine (COver_any H.out).mono ?_
  rintro e w1 ⟨rfl, rfl⟩
  go_wp2_with fail
  refine HS.out.mono ?_
  rintro e w1 ⟨rfl, h1, h2⟩
  have c1 := h1.c1
  have H1 := hide h1
  have H2 := hide h2
  clear h1 h2 c0 hm hn
  go_wp2_with fail
  refine (HK.out w1 H2.out).mono ?_
  rintro e w2 ⟨rfl, cur', thn', out', val', h3, h4⟩
  have H3 := hide h3
  have H4 := hide h4
  clear h3 h4 c1
  go_wp2_with fail
  refine (COver_any H3.out).mono ?_
  rintro e w3 ⟨rfl, rfl⟩
  go_wp2_with fail
  go_ret
  exact ⟨_, rfl, cur', thn', out', val', rfl, H3.out, H4.out⟩
set_option maxRecDepth 100000 in
theorem CStep_bell_poll {R R2 : World → Prop} {cap : Array Value} (hcs : cap.size = 2) (h : CopAt w co cb (.iface 119 (.pointer (some ⟨bo, 0, none⟩))) (.func (.func 73) #[] cap) 0 val)
    (hs : Calls Tryz.prog 152 #[.pointer (some ⟨bo, 0, none⟩)] w fun e w' => e = .returned (.bool true) ∧ CopAt w' co cb (.iface 119 (.pointer (some ⟨bo, 0, none⟩))) (.func (.func 73) #[] cap) 0 val ∧ R w')
    (hk : ∀ w1, R w1 → Calls Tryz.prog 73 cap w1 fun e w' => e = .returned (.tuple #[]) ∧ ∃ cur' thn' out' val', CopAt w' co cb cur' thn' out' val' ∧ R2 w') :
    Calls Tryz.prog 19 #[.pointer (some ⟨co, 0, none⟩)] w fun e w' => ∃ b, e = .returned (.bool b) ∧ ∃ cur' thn' out' val', b = (out' != 0) ∧ CopAt w' co cb cur' thn' out' val' ∧ R2 w' := by
  have c0 := h.c0
  have HS := Lib.hid hs
  have HK := Lib.hid hk
  have H := hide h
  have HCS := hide hcs
  have hm := meth_bell_Step
  have hn := nila_bell_Step
  clear h hs hk hcs
  go_enter Tryz.func19, Tryz.ntmps19
  go_wp2_with fail
  refine (COver_any H.out).mono ?_
  rintro e w1 ⟨rfl, rfl⟩
  go_wp2_with fail
  refine HS.out.mono ?_
  rintro e w1 ⟨rfl, h1, h2⟩
  have c1 := h1.c1
  have H1 := hide h1
  have H2 := hide h2
  clear h1 h2 c0 hm hn
  go_wp2_with fail
  refine (HK.out w1 H2.out).mono ?_
  rintro e w2 ⟨rfl, cur', thn', out', val', h3, h4⟩
  have H3 := hide h3
  have H4 := hide h4
  clear h3 h4 c1
  go_wp2_with fail
  refine (COver_any H3.out).mono ?_
  rintro e w3 ⟨rfl, rfl⟩
  go_wp2_with fail
  go_ret
  exact ⟨_, rfl, cur', thn', out', val', rfl, H3.out, H4.out⟩
theorem CStep_over (h : CopAt w co cb cur thn out val) (ho : out ≠ 0) : Calls Tryz.prog 19 #[.pointer (some ⟨co, 0, none⟩)] w fun e w' => e = .returned (.bool true) ∧ w = w' := by
  have hb : (out != 0) = true := by simp [ho]
  have H := hide h
  clear h ho
  go_enter Tryz.func19, Tryz.ntmps19
  go_wp2_with fail
  refine (COver_any H.out).mono ?_
  rintro e w1 ⟨rfl, rfl⟩
  go_wp2_with fail
  refine (COver_any H.out).mono ?_
  rintro e w1 ⟨rfl, rfl⟩
  go_wp2_with fail
  go_ret
  exact ⟨rfl, rfl⟩
end
end Go.Proofs.YtdoaipjdldknaaaGreat
/-
  Package crew: what an operation does between its parts: ring, enter and their closures.
-/
namespace Go.Proofs.YtdoaipjdldknaaaGreat
open Go.RowKit
set_option linter.unusedVariables false

/-- A crew's block: its bell, its gate, the slice of its deques. -/
def CrewAt (w : World) (cb bb bg : Nat) (dv : Value) : Prop := Blk w cb 79 #[.pointer (some ⟨bb, 0, none⟩), .pointer (some ⟨bg, 0, none⟩), dv]
section
variable {w : World} {co cb bb bg bm bc : Nat} {dv cur thn : Value} {out val : Int} {base n tc : Int} {L : List Int}
theorem CrewAt.c0 (h : CrewAt w cb bb bg dv) : w.cell? ⟨cb, 0, none⟩ = some (.pointer (some ⟨bb, 0, none⟩)) := Blk.cellv h rfl
theorem CrewAt.c1 (h : CrewAt w cb bb bg dv) : w.cell? ⟨cb, 1, none⟩ = some (.pointer (some ⟨bg, 0, none⟩)) := Blk.cellv h rfl
theorem CrewAt.c2 (h : CrewAt w cb bb bg dv) : w.cell? ⟨cb, 2, none⟩ = some dv := Blk.cellv h rfl
/-- The closures: what comes behind a part. -/
def ringK (x : Nat) : Value := .func (.func 85) #[] #[.pointer (some ⟨x, 0, none⟩)]
def enterK (xp xo xv : Nat) : Value := .func (.func 82) #[] #[.pointer (some ⟨xp, 0, none⟩), .pointer (some ⟨xo, 0, none⟩), .pointer (some ⟨xv, 0, none⟩)]
/-- A box with an operation's pointer. -/
def OBox (w : World) (x co : Nat) : Prop := Blk w x 50 #[.pointer (some ⟨co, 0, none⟩)]
theorem CrewAt.only {w' : World} {S : Nat → Prop} (h : CrewAt w cb bb bg dv) (ho : Only S w w') (hs : ¬ S cb) : CrewAt w' cb bb bg dv := Blk.only h ho hs
theorem CrewAt.drew (h : CrewAt w cb bb bg dv) : CrewAt w.drew cb bb bg dv := h
theorem OBox.only {w' : World} {S : Nat → Prop} {x : Nat} (h : OBox w x co) (ho : Only S w w') (hs : ¬ S x) : OBox w' x co := Blk.only h ho hs
theorem OBox.drew {x : Nat} (h : OBox w x co) : OBox w.drew x co := h
theorem OBox.c0 {x : Nat} (h : OBox w x co) : w.cell? ⟨x, 0, none⟩ = some (.pointer (some ⟨co, 0, none⟩)) := Blk.cellv h rfl
/-- What ring leaves. -/
def Rung (w w' : World) (co cb bb : Nat) (n : Int) (val : Int) : Prop := ∃ bp x, CopAt w' co cb (.iface 119 (.pointer (some ⟨bp, 0, none⟩))) (ringK x) 0 val ∧ BopIs w' bp bb ⟨3, 0, 0⟩ ∧ OBox w' x co ∧ Only (S1 co) w w' ∧ w.heap.size ≤ bp ∧ w.heap.size ≤ x
theorem ring1_any (x : Nat) (hx : OBox w x co) (h : CopAt w co cb cur thn out val) : Calls Tryz.prog 85 #[.pointer (some ⟨x, 0, none⟩)] w fun e w' =>
    e = .returned (.tuple #[]) ∧ CopAt w' co cb cur thn 1 0 ∧ Only (S1 co) w w' := by
  have c0 : w.cell? ⟨x, 0, none⟩ = some (.pointer (some ⟨co, 0, none⟩)) := Blk.cellv hx rfl
  have H := hide h
  clear h hx
  go_enter Tryz.func85, Tryz.ntmps85
  go_wp2_with fail
  refine (CEnd_any 1 0 H.out).mono ?_
  rintro e w1 ⟨rfl, h1, o1⟩
  have H1 := hide (And.intro h1 o1)
  clear h1 o1
  go_wp2_with fail
  go_end0
  exact ⟨rfl, H1.out⟩
set_option maxHeartbeats 1000000 in
theorem ring_any (h : CopAt w co cb cur thn 0 val) (hc : CrewAt w cb bb bg dv) (he : BellEnv w bb bm bc base n tc L) : Calls Tryz.prog 54 #[.pointer (some ⟨co, 0, none⟩)] w fun e w' =>
    e = .returned (.tuple #[]) ∧ Rung w w' co cb bb n val := by
  have H := hide h
  have HC := hide hc
  have HE := hide he
  have hn1 := he.n1
  clear h hc he
  go_enter Tryz.func54, Tryz.ntmps54
  go_upto_region 1 with fail
  have o1 := (Only.refl S0 w).alloc (.cells #[.pointer (some ⟨co, 0, none⟩)] 50)
  have HX := hide (show OBox _ w.heap.size co from Blk.new w 50 #[.pointer (some ⟨co, 0, none⟩)])
  have H1 := hide (H.out.only o1 (fun h => h))
  have HC1 := hide (show CrewAt _ cb bb bg dv from Blk.only HC.out o1 (fun h => h))
  have HE1 := hide (HE.out.only0 o1)
  have HO1 := hide o1
  clear o1
  generalize hx : w.heap.size = x at *
  generalize w.alloc (.cells #[.pointer (some ⟨co, 0, none⟩)] 50) = w1 at *
  have HXX := hide hx
  clear hx
  have hxo : x ≠ co := by have := Blk.lt H.out; have := HXX.out; omega
  have hcc : cb ≠ co := fun e => Blk.ne_ HC1.out H1.out (by decide) e
  have z0 := HX.out.drew.c0
  have z1 := H1.out.drew.c4
  have z2 := HC1.out.drew.c0
  have hob : bout0 n 0 = 0 := by unfold bout0; rw [if_pos (by omega)]
  have HOB := hide hob
  clear hob
  go_region_held3 (fun w' : World => w'.cell? ⟨x, 0, none⟩ = some (.pointer (some ⟨co, 0, none⟩)) ∧ w'.cell? ⟨co, 4, none⟩ = some (.pointer (some ⟨cb, 0, none⟩)) ∧ w'.cell? ⟨cb, 0, none⟩ = some (.pointer (some ⟨bb, 0, none⟩))) (first | exact ⟨z0, z1, z2⟩ | exact ⟨y0, y1, y2⟩ | exact ⟨q0, q1, q2⟩) (first | (go_at_call 84; refine (BRing_all (HE1.out.only0 (Only.refl S0 w1).drew)).mono ?_; rintro e w2 ⟨bp, rfl, g1, e1, o1, b1⟩; rw [HOB.out] at g1; have HX2 := hide (HX.out.drew.only o1 (fun h => h)); have H2 := hide (H1.out.drew.only o1 (fun h => h)); have HC2 := hide (HC1.out.drew.only o1 (fun h => h)); have y0 := HX2.out.c0; have y1 := H2.out.c4; have y2 := HC2.out.c0; have G1 := hide g1; have O1 := hide ((HO1.out.drew).trans o1); clear g1 e1 o1) | (go_at_call 51; refine (CDo_bell _ _ H2.out G1.out rfl).mono ?_; rintro e w3 ⟨rfl, h3, o3⟩; have H3 := hide h3; have HX3 := hide (HX2.out.only o3 hxo); have HC3 := hide (HC2.out.only o3 hcc); have q0 := HX3.out.c0; have q1 := H3.out.c4; have q2 := HC3.out.c0; have G3 := hide (show BopIs w3 bp bb ⟨3, 0, 0⟩ from BopAt.only G1.out o3 (fun e => Blk.ne_ G1.out H2.out (by decide) e)); have O3 := hide ((O1.out.mono (R := S1 co) fun _ h => h.elim).trans o3); clear h3 o3))
  go_wp2_with fail
  all_goals go_end0
  all_goals exact ⟨rfl, bp, x, H3.out, G3.out, HX3.out, O3.out, by have := HXX.out; have := HO1.out.size; have b1' : w1.heap.size ≤ bp := b1; omega, by have := HXX.out; omega⟩
end
end Go.Proofs.YtdoaipjdldknaaaGreat
