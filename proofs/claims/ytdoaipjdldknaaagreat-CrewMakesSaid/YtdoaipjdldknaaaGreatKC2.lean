/-
  Package steps: Do, with a part that is pending; Step.
-/
import Derived.Test.YtdoaipjdldknaaaGreatKC1
import Derived.StillTailTactics
import Derived.Laws.EntriesVeiled
namespace Go.Proofs.YtdoaipjdldknaaaGreat
open Go.RowKit
set_option linter.unusedVariables false

theorem meth_deque_Over (n : Nat) (a : Addr) (w : World) : (method (n + 1) 104 (.pointer (some a)) "Over").run Tryz.prog w = .ok (144, .pointer (some a)) w := by kernel_rfl
theorem meth_deque_Step (n : Nat) (a : Addr) (w : World) : (method (n + 1) 104 (.pointer (some a)) "Step").run Tryz.prog w = .ok (145, .pointer (some a)) w := by kernel_rfl
theorem meth_deque_Outcome (n : Nat) (a : Addr) (w : World) : (method (n + 1) 104 (.pointer (some a)) "Outcome").run Tryz.prog w = .ok (53, .pointer (some a)) w := by kernel_rfl
theorem meth_deque_Value (n : Nat) (a : Addr) (w : World) : (method (n + 1) 104 (.pointer (some a)) "Value").run Tryz.prog w = .ok (146, .pointer (some a)) w := by kernel_rfl
theorem meth_gate_Over (n : Nat) (a : Addr) (w : World) : (method (n + 1) 113 (.pointer (some a)) "Over").run Tryz.prog w = .ok (147, .pointer (some a)) w := by kernel_rfl
theorem meth_gate_Step (n : Nat) (a : Addr) (w : World) : (method (n + 1) 113 (.pointer (some a)) "Step").run Tryz.prog w = .ok (148, .pointer (some a)) w := by kernel_rfl
theorem meth_gate_Outcome (n : Nat) (a : Addr) (w : World) : (method (n + 1) 113 (.pointer (some a)) "Outcome").run Tryz.prog w = .ok (67, .pointer (some a)) w := by kernel_rfl
theorem meth_gate_Value (n : Nat) (a : Addr) (w : World) : (method (n + 1) 113 (.pointer (some a)) "Value").run Tryz.prog w = .ok (71, .pointer (some a)) w := by kernel_rfl
theorem meth_bell_Over (n : Nat) (a : Addr) (w : World) : (method (n + 1) 119 (.pointer (some a)) "Over").run Tryz.prog w = .ok (151, .pointer (some a)) w := by kernel_rfl
theorem meth_bell_Step (n : Nat) (a : Addr) (w : World) : (method (n + 1) 119 (.pointer (some a)) "Step").run Tryz.prog w = .ok (152, .pointer (some a)) w := by kernel_rfl
theorem meth_bell_Outcome (n : Nat) (a : Addr) (w : World) : (method (n + 1) 119 (.pointer (some a)) "Outcome").run Tryz.prog w = .ok (74, .pointer (some a)) w := by kernel_rfl
theorem nila_deque_Step (n : Nat) (a : Addr) (w : World) : (nilAhead (n + 1) 104 (.pointer (some a)) "Step").run Tryz.prog w = .ok (some false) w := by kernel_rfl
theorem nila_gate_Step (n : Nat) (a : Addr) (w : World) : (nilAhead (n + 1) 113 (.pointer (some a)) "Step").run Tryz.prog w = .ok (some false) w := by kernel_rfl
theorem nila_bell_Step (n : Nat) (a : Addr) (w : World) : (nilAhead (n + 1) 119 (.pointer (some a)) "Step").run Tryz.prog w = .ok (some false) w := by kernel_rfl
section
variable {w : World} {co cb bo bd : Nat} {cur thn : Value} {out val : Int}
set_option maxRecDepth 100000 in
theorem CDo_deque {o : Dop} (k : Nat) (cap : Array Value) (h : CopAt w co cb cur thn out val) (hp : DopIs w bo bd o) (ho : o.out = 0) : Calls Tryz.prog 51 #[.pointer (some ⟨co, 0, none⟩), .iface 104 (.pointer (some ⟨bo, 0, none⟩)), .func (.func k) #[] cap] w fun e w' =>
    e = .returned (.tuple #[]) ∧ CopAt w' co cb (.iface 104 (.pointer (some ⟨bo, 0, none⟩))) (.func (.func k) #[] cap) out val ∧ Only (S1 co) w w' := by
  have c0 := h.c0
  have c1 := h.c1
  have f0 := h.fz 0
  have f1 := h.fz 1
  have H := hide h
  have HP := hide hp
  have HO := hide ho
  have hm := meth_deque_Over
  clear h hp ho
  go_enter Tryz.func51, Tryz.ntmps51
  go_wp2_with fail
  clear hm
  refine (HP.out.over0 HO.out).mono ?_
  rintro e w1 ⟨rfl, rfl⟩
  go_wp2_with fail
  go_end0
  exact ⟨rfl, H.out.do_ _ _, (only_set w co 0 _).set1 (g := co) 1 rfl _⟩
set_option maxRecDepth 100000 in
theorem CDo_gate {o : Gop} (k : Nat) (cap : Array Value) (h : CopAt w co cb cur thn out val) (hp : GopIs w bo bd o) (ho : o.out = 0) : Calls Tryz.prog 51 #[.pointer (some ⟨co, 0, none⟩), .iface 113 (.pointer (some ⟨bo, 0, none⟩)), .func (.func k) #[] cap] w fun e w' =>
    e = .returned (.tuple #[]) ∧ CopAt w' co cb (.iface 113 (.pointer (some ⟨bo, 0, none⟩))) (.func (.func k) #[] cap) out val ∧ Only (S1 co) w w' := by
  have c0 := h.c0
  have c1 := h.c1
  have f0 := h.fz 0
  have f1 := h.fz 1
  have H := hide h
  have HP := hide hp
  have HO := hide ho
  have hm := meth_gate_Over
  clear h hp ho
  go_enter Tryz.func51, Tryz.ntmps51
  go_wp2_with fail
  clear hm
  refine (HP.out.over0 HO.out).mono ?_
  rintro e w1 ⟨rfl, rfl⟩
  go_wp2_with fail
  go_end0
  exact ⟨rfl, H.out.do_ _ _, (only_set w co 0 _).set1 (g := co) 1 rfl _⟩
set_option maxRecDepth 100000 in
theorem CDo_bell {o : Bop} (k : Nat) (cap : Array Value) (h : CopAt w co cb cur thn out val) (hp : BopIs w bo bd o) (ho : o.out = 0) : Calls Tryz.prog 51 #[.pointer (some ⟨co, 0, none⟩), .iface 119 (.pointer (some ⟨bo, 0, none⟩)), .func (.func k) #[] cap] w fun e w' =>
    e = .returned (.tuple #[]) ∧ CopAt w' co cb (.iface 119 (.pointer (some ⟨bo, 0, none⟩))) (.func (.func k) #[] cap) out val ∧ Only (S1 co) w w' := by
  have c0 := h.c0
  have c1 := h.c1
  have f0 := h.fz 0
  have f1 := h.fz 1
  have H := hide h
  have HP := hide hp
  have HO := hide ho
  have hm := meth_bell_Over
  clear h hp ho
  go_enter Tryz.func51, Tryz.ntmps51
  go_wp2_with fail
  clear hm
  refine (HP.out.over0 HO.out).mono ?_
  rintro e w1 ⟨rfl, rfl⟩
  go_wp2_with fail
  go_end0
  exact ⟨rfl, H.out.do_ _ _, (only_set w co 0 _).set1 (g := co) 1 rfl _⟩
set_option maxRecDepth 100000 in
theorem CStep_deque_stay {R : World → Prop} (h : CopAt w co cb (.iface 104 (.pointer (some ⟨bo, 0, none⟩))) thn 0 val)
    (hs : Calls Tryz.prog 145 #[.pointer (some ⟨bo, 0, none⟩)] w fun e w' => e = .returned (.bool false) ∧ CopAt w' co cb (.iface 104 (.pointer (some ⟨bo, 0, none⟩))) thn 0 val ∧ R w') :
    Calls Tryz.prog 19 #[.pointer (some ⟨co, 0, none⟩)] w fun e w' => e = .returned (.bool false) ∧ CopAt w' co cb (.iface 104 (.pointer (some ⟨bo, 0, none⟩))) thn 0 val ∧ R w' := by
  have c0 := h.c0
  have HS := Lib.hid hs
  have H := hide h
  have hm := meth_deque_Step
  have hn := nila_deque_Step
  clear h hs
  go_enter Tryz.func19, Tryz.ntmps19
  go_wp2_with fail
  refine (COver_any H.out).mono ?_
  rintro e w1 ⟨rfl, rfl⟩
  go_wp2_with fail
  refine HS.out.mono ?_
  rintro e w1 ⟨rfl, h1, h2⟩
  have H1 := hide h1
  have H2 := hide h2
  clear h1 h2 c0 hm hn
  go_wp2_with fail
  refine (COver_any H1.out).mono ?_
  rintro e w2 ⟨rfl, rfl⟩
  go_wp2_with fail
  go_ret
  exact ⟨rfl, H1.out, H2.out⟩
set_option maxRecDepth 100000 in
theorem CStep_gate_stay {R : World → Prop} (h : CopAt w co cb (.iface 113 (.pointer (some ⟨bo, 0, none⟩))) thn 0 val)
    (hs : Calls Tryz.prog 148 #[.pointer (some ⟨bo, 0, none⟩)] w fun e w' => e = .returned (.bool false) ∧ CopAt w' co cb (.iface 113 (.pointer (some ⟨bo, 0, none⟩))) thn 0 val ∧ R w') :
    Calls Tryz.prog 19 #[.pointer (some ⟨co, 0, none⟩)] w fun e w' => e = .returned (.bool false) ∧ CopAt w' co cb (.iface 113 (.pointer (some ⟨bo, 0, none⟩))) thn 0 val ∧ R w' := by
  have c0 := h.c0
  have HS := Lib.hid hs
  have H := hide h
  have hm := meth_gate_Step
  have hn := nila_gate_Step
  clear h hs
  go_enter Tryz.func19, Tryz.ntmps19
  go_wp2_with fail
  refine (COver_any H.out).mono ?_
  rintro e w1 ⟨rfl, rfl⟩
  go_wp2_with fail
  refine HS.out.mono ?_
  rintro e w1 ⟨rfl, h1, h2⟩
  have H1 := hide h1
  have H2 := hide h2
  clear h1 h2 c0 hm hn
  go_wp2_with fail
  refine (COver_any H1.out).mono ?_
  rintro e w2 ⟨rfl, rfl⟩
  go_wp2_with fail
  go_ret
  exact ⟨rfl, H1.out, H2.out⟩
set_option maxRecDepth 100000 in
theorem CStep_bell_stay {R : World → Prop} (h : CopAt w co cb (.iface 119 (.pointer (some ⟨bo, 0, none⟩))) thn 0 val)
    (hs : Calls Tryz.prog 152 #[.pointer (some ⟨bo, 0, none⟩)] w fun e w' => e = .returned (.bool false) ∧ CopAt w' co cb (.iface 119 (.pointer (some ⟨bo, 0, none⟩))) thn 0 val ∧ R w') :
    Calls Tryz.prog 19 #[.pointer (some ⟨co, 0, none⟩)] w fun e w' => e = .returned (.bool false) ∧ CopAt w' co cb (.iface 119 (.pointer (some ⟨bo, 0, none⟩))) thn 0 val ∧ R w' := by
  have c0 := h.c0
  have HS := Lib.hid hs
  have H := hide h
  have hm := meth_bell_Step
  have hn := nila_bell_Step
  clear h hs
  go_enter Tryz.func19, Tryz.ntmps19
  go_wp2_with fail
  refine (COver_any H.out).mono ?_
  rintro e w1 ⟨rfl, rfl⟩
  go_wp2_with fail
  refine HS.out.mono ?_
  rintro e w1 ⟨rfl, h1, h2⟩
  have H1 := hide h1
  have H2 := hide h2
  clear h1 h2 c0 hm hn
  go_wp2_with fail
  refine (COver_any H1.out).mono ?_
  rintro e w2 ⟨rfl, rfl⟩
  go_wp2_with fail
  go_ret
  exact ⟨rfl, H1.out, H2.out⟩
set_option maxRecDepth 100000 in
theorem CStep_bell_ring {R R2 : World → Prop} {cap : Array Value} (hcs : cap.size = 1) (h : CopAt w co cb (.iface 119 (.pointer (some ⟨bo, 0, none⟩))) (.func (.func 85) #[] cap) 0 val)
    (hs : Calls Tryz.prog 152 #[.pointer (some ⟨bo, 0, none⟩)] w fun e w' => e = .returned (.bool true) ∧ CopAt w' co cb (.iface 119 (.pointer (some ⟨bo, 0, none⟩))) (.func (.func 85) #[] cap) 0 val ∧ R w')
    (hk : ∀ w1, R w1 → Calls Tryz.prog 85 cap w1 fun e w' => e = .returned (.tuple #[]) ∧ ∃ cur' thn' out' val', CopAt w' co cb cur' thn' out' val' ∧ R2 w') :
    Calls Tryz.prog 19 #[.pointer (some ⟨co, 0, none⟩)] w fun e w' => ∃ b, e = .returned (.bool b) ∧ ∃ cur' thn' out' val', b = (out' != 0) ∧ CopAt w' co cb cur' thn' out' val' ∧ R2 w' := by
  have c0 := h.c0
  have HS := Lib.hid hs
  have HK := Lib.hid hk
  have H := hide h
  have HCS := hide hcs
  have hm := meth_bell_Step
  have hn := nila_bell_Step
  clear h hs hk hcs
  go_enter Tryz.func19, Tryz.ntmps19
  go_wp2_with fail
  refine (COver_any H.out).mono ?_
  rintro e w1 ⟨rfl, rfl⟩
  go_wp2_with fail
  refine HS.out.mono ?_
  rintro e w1 ⟨rfl, h1, h2⟩
  have c1 := h1.c1
  have H1 := hide h1
  have H2 := hide h2
  clear h1 h2 c0 hm hn
  go_wp2_with fail
  refine (HK.out w1 H2.out).mono ?_
  rintro e w2 ⟨rfl, cur', thn', out', val', h3, h4⟩
  have H3 := hide h3
  have H4 := hide h4
  clear h3 h4 c1
  go_wp2_with fail
  refine (COver_any H3.out).mono ?_
  rintro e w3 ⟨rfl, rfl⟩
  go_wp2_with fail
  go_ret
  exact ⟨_, rfl, cur', thn', out', val', rfl, H3.out, H4.out⟩
set_option maxRecDepth 100000 in
theorem CStep_gate_enter {R R2 : World → Prop} {cap : Array Value} (hcs : cap.size = 3) (h : CopAt w co cb (.iface 113 (.pointer (some ⟨bo, 0, none⟩))) (.func (.func 82) #[] cap) 0 val)
    (hs : Calls Tryz.prog 148 #[.pointer (some ⟨bo, 0, none⟩)] w fun e w' => e = .returned (.bool true) ∧ CopAt w' co cb (.iface 113 (.pointer (some ⟨bo, 0, none⟩))) (.func (.func 82) #[] cap) 0 val ∧ R w')
    (hk : ∀ w1, R w1 → Calls Tryz.prog 82 cap w1 fun e w' => e = .returned (.tuple #[]) ∧ ∃ cur' thn' out' val', CopAt w' co cb cur' thn' out' val' ∧ R2 w') :
    Calls Tryz.prog 19 #[.pointer (some ⟨co, 0, none⟩)] w fun e w' => ∃ b, e = .returned (.bool b) ∧ ∃ cur' thn' out' val', b = (out' != 0) ∧ CopAt w' co cb cur' thn' out' val' ∧ R2 w' := by
  have c0 := h.c0
  have HS := Lib.hid hs
  have HK := Lib.hid hk
  have H := hide h
  have HCS := hide hcs
  have hm := meth_gate_Step
  have hn := nila_gate_Step
  clear h hs hk hcs
  go_enter Tryz.func19, Tryz.ntmps19
  go_wp2_with fail
  refine (COver_any H.out).mono ?_
  rintro e w1 ⟨rfl, rfl⟩
  go_wp2_with fail
  refine HS.out.mono ?_
  rintro e w1 ⟨rfl, h1, h2⟩
  have c1 := h1.c1
  have H1 := hide h1
  have H2 := hide h2
  clear h1 h2 c0 hm hn
  go_wp2_with fail
  refine (HK.out w1 H2.out).mono ?_
  rintro e w2 ⟨rfl, cur', thn', out', val', h3, h4⟩
  have H3 := hide h3
  have H4 := hide h4
  clear h3 h4 c1
  go_wp2_with fail
  refine (COver_any H3.out).mono ?_
  rintro e w3 ⟨rfl, rfl⟩
  go_wp2_with fail
  go_ret
  exact ⟨_, rfl, cur', thn', out', val', rfl, H3.out, H4.out⟩
set_option maxRecDepth 100000 in
theorem CStep_deque_offer {R R2 : World → Prop} {cap : Array Value} (hcs : cap.size = 3) (h : CopAt w co cb (.iface 104 (.pointer (some ⟨bo, 0, none⟩))) (.func (.func 52) #[] cap) 0 val)
    (hs : Calls Tryz.prog 145 #[.pointer (some ⟨bo, 0, none⟩)] w fun e w' => e = .returned (.bool true) ∧ CopAt w' co cb (.iface 104 (.pointer (some ⟨bo, 0, none⟩))) (.func (.func 52) #[] cap) 0 val ∧ R w')
    (hk : ∀ w1, R w1 → Calls Tryz.prog 52 cap w1 fun e w' => e = .returned (.tuple #[]) ∧ ∃ cur' thn' out' val', CopAt w' co cb cur' thn' out' val' ∧ R2 w') :
    Calls Tryz.prog 19 #[.pointer (some ⟨co, 0, none⟩)] w fun e w' => ∃ b, e = .returned (.bool b) ∧ ∃ cur' thn' out' val', b = (out' != 0) ∧ CopAt w' co cb cur' thn' out' val' ∧ R2 w' := by
  have c0 := h.c0
  have HS := Lib.hid hs
  have HK := Lib.hid hk
  have H := hide h
  have HCS := hide hcs
  have hm := meth_deque_Step
  have hn := nila_deque_Step
  clear h hs hk hcs
  go_enter Tryz.func19, Tryz.ntmps19
  go_wp2_with fail
  refine (COver_any H.out).mono ?_
  rintro e w1 ⟨rfl, rfl⟩
  go_wp2_with fail
  refine HS.out.mono ?_
  rintro e w1 ⟨rfl, h1, h2⟩
  have c1 := h1.c1
  have H1 := hide h1
  have H2 := hide h2
  clear h1 h2 c0 hm hn
  go_wp2_with fail
  refine (HK.out w1 H2.out).mono ?_
  rintro e w2 ⟨rfl, cur', thn', out', val', h3, h4⟩
  have H3 := hide h3
  have H4 := hide h4
  clear h3 h4 c1
  go_wp2_with fail
  refine (COver_any H3.out).mono ?_
  rintro e w3 ⟨rfl, rfl⟩
  go_wp2_with fail
  go_ret
  exact ⟨_, rfl, cur', thn', out', val', rfl, H3.out, H4.out⟩
set_option maxRecDepth 100000 in
theorem CStep_deque_try {R R2 : World → Prop} {cap : Array Value} (hcs : cap.size = 3) (h : CopAt w co cb (.iface 104 (.pointer (some ⟨bo, 0, none⟩))) (.func (.func 90) #[] cap) 0 val)
    (hs : Calls Tryz.prog 145 #[.pointer (some ⟨bo, 0, none⟩)] w fun e w' => e = .returned (.bool true) ∧ CopAt w' co cb (.iface 104 (.pointer (some ⟨bo, 0, none⟩))) (.func (.func 90) #[] cap) 0 val ∧ R w')
    (hk : ∀ w1, R w1 → Calls Tryz.prog 90 cap w1 fun e w' => e = .returned (.tuple #[]) ∧ ∃ cur' thn' out' val', CopAt w' co cb cur' thn' out' val' ∧ R2 w') :
    Calls Tryz.prog 19 #[.pointer (some ⟨co, 0, none⟩)] w fun e w' => ∃ b, e = .returned (.bool b) ∧ ∃ cur' thn' out' val', b = (out' != 0) ∧ CopAt w' co cb cur' thn' out' val' ∧ R2 w' := by
  have c0 := h.c0
  have HS := Lib.hid hs
  have HK := Lib.hid hk
  have H := hide h
  have HCS := hide hcs
  have hm := meth_deque_Step
  have hn := nila_deque_Step
  clear h hs hk hcs
  go_enter Tryz.func19, Tryz.ntmps19
  go_wp2_with fail
  refine (COver_any H.out).mono ?_
  rintro e w1 ⟨rfl, rfl⟩
  go_wp2_with fail
  refine HS.out.mono ?_
  rintro e w1 ⟨rfl, h1, h2⟩
  have c1 := h1.c1
  have H1 := hide h1
  have H2 := hide h2
  clear h1 h2 c0 hm hn
  go_wp2_with fail
  refine (HK.out w1 H2.out).mono ?_
  rintro e w2 ⟨rfl, cur', thn', out', val', h3, h4⟩
  have H3 := hide h3
  have H4 := hide h4
  clear h3 h4 c1
  go_wp2_with fail
  refine (COver_any H3.out).mono ?_
  rintro e w3 ⟨rfl, rfl⟩
  go_wp2_with fail
  go_ret
  exact ⟨_, rfl, cur', thn', out', val', rfl, H3.out, H4.out⟩
set_option maxRecDepth 100000 in
theorem CStep_gate_try {R R2 : World → Prop} {cap : Array Value} (hcs : cap.size = 3) (h : CopAt w co cb (.iface 113 (.pointer (some ⟨bo, 0, none⟩))) (.func (.func 90) #[] cap) 0 val)
    (hs : Calls Tryz.prog 148 #[.pointer (some ⟨bo, 0, none⟩)] w fun e w' => e = .returned (.bool true) ∧ CopAt w' co cb (.iface 113 (.pointer (some ⟨bo, 0, none⟩))) (.func (.func 90) #[] cap) 0 val ∧ R w')
    (hk : ∀ w1, R w1 → Calls Tryz.prog 90 cap w1 fun e w' => e = .returned (.tuple #[]) ∧ ∃ cur' thn' out' val', CopAt w' co cb cur' thn' out' val' ∧ R2 w') :
    Calls Tryz.prog 19 #[.pointer (some ⟨co, 0, none⟩)] w fun e w' => ∃ b, e = .returned (.bool b) ∧ ∃ cur' thn' out' val', b = (out' != 0) ∧ CopAt w' co cb cur' thn' out' val' ∧ R2 w' := by
  have c0 := h.c0
  have HS := Lib.hid hs
  have HK := Lib.hid hk
  have H := hide h
  have HCS := hide hcs
  have hm := meth_gate_Step
  have hn := nila_gate_Step
  clear h hs hk hcs
  go_enter Tryz.func19, Tryz.ntmps19
  go_wp2_with fail
  refine (COver_any H.out).mono ?_
  rintro e w1 ⟨rfl, rfl⟩
  go_wp2_with fail
  refine HS.out.mono ?_
  rintro e w1 ⟨rfl, h1, h2⟩
  have c1 := h1.c1
  have H1 := hide h1
  have H2 := hide h2
  clear h1 h2 c0 hm hn
  go_wp2_with fail
  refine (HK.out w1 H2.out).mono ?_
  rintro e w2 ⟨rfl, cur', thn', out', val', h3, h4⟩
  have H3 := hide h3
  have H4 := hide h4
  clear h3 h4 c1
  go_wp2_with fail
  refine (COver_any H3.out).mono ?_
  rintro e w3 ⟨rfl, rfl⟩
  go_wp2_with fail
  go_ret
  exact ⟨_, rfl, cur', thn', out', val', rfl, H3.out, H4.out⟩
set_option maxRecDepth 100000 in
theorem CStep_bell_rest {R R2 : World → Prop} {cap : Array Value} (hcs : cap.size = 3) (h : CopAt w co cb (.iface 119 (.pointer (some ⟨bo, 0, none⟩))) (.func (.func 65) #[] cap) 0 val)
    (hs : Calls Tryz.prog 152 #[.pointer (some ⟨bo, 0, none⟩)] w fun e w' => e = .returned (.bool true) ∧ CopAt w' co cb (.iface 119 (.pointer (some ⟨bo, 0, none⟩))) (.func (.func 65) #[] cap) 0 val ∧ R w')
    (hk : ∀ w1, R w1 → Calls Tryz.prog 65 cap w1 fun e w' => e = .returned (.tuple #[]) ∧ ∃ cur' thn' out' val', CopAt w' co cb cur' thn' out' val' ∧ R2 w') :
    Calls Tryz.prog 19 #[.pointer (some ⟨co, 0, none⟩)] w fun e w' => ∃ b, e = .returned (.bool b) ∧ ∃ cur' thn' out' val', b = (out' != 0) ∧ CopAt w' co cb cur' thn' out' val' ∧ R2 w' := by
  have c0 := h.c0
  have HS := Lib.hid hs
  have HK := Lib.hid hk
  have H := hide h
  have HCS := hide hcs
  have hm := meth_bell_Step
  have hn := nila_bell_Step
  clear h hs hk hcs
  go_enter Tryz.func19, Tryz.ntmps19
  go_wp2_with fail
  refine (COver_any H.out).mono ?_
  rintro e w1 ⟨rfl, rfl⟩
  go_wp2_with fail
  refine HS.out.mono ?_
  rintro e w1 ⟨rfl, h1, h2⟩
  have c1 := h1.c1
  have H1 := hide h1
  have H2 := hide h2
  clear h1 h2 c0 hm hn
  go_wp2_with fail
  refine (HK.out w1 H2.out).mono ?_
  rintro e w2 ⟨rfl, cur', thn', out', val', h3, h4⟩
  have H3 := hide h3
  have H4 := hide h4
  clear h3 h4 c1
  go_wp2_with fail
  refine (COver_any H3.out).mono ?_
  rintro e w3 ⟨rfl, rfl⟩
  go_wp2_with fail
  go_ret
  exact ⟨_, rfl, cur', thn', out', val', rfl, H3.out, H4.out⟩
set_option maxRecDepth 100000 in
theorem CStep_gate_rest2 {R R2 : World → Prop} {cap : Array Value} (hcs : cap.size = 4) (h : CopAt w co cb (.iface 113 (.pointer (some ⟨bo, 0, none⟩))) (.func (.func 66) #[] cap) 0 val)
    (hs : Calls Tryz.prog 148 #[.pointer (some ⟨bo, 0, none⟩)] w fun e w' => e = .returned (.bool true) ∧ CopAt w' co cb (.iface 113 (.pointer (some ⟨bo, 0, none⟩))) (.func (.func 66) #[] cap) 0 val ∧ R w')
    (hk : ∀ w1, R w1 → Calls Tryz.prog 66 cap w1 fun e w' => e = .returned (.tuple #[]) ∧ ∃ cur' thn' out' val', CopAt w' co cb cur' thn' out' val' ∧ R2 w') :
    Calls Tryz.prog 19 #[.pointer (some ⟨co, 0, none⟩)] w fun e w' => ∃ b, e = .returned (.bool b) ∧ ∃ cur' thn' out' val', b = (out' != 0) ∧ CopAt w' co cb cur' thn' out' val' ∧ R2 w' := by
  have c0 := h.c0
  have HS := Lib.hid hs
  have HK := Lib.hid hk
  have H := hide h
  have HCS := hide hcs
  have hm := meth_gate_Step
  have hn := nila_gate_Step
  clear h hs hk hcs
  go_enter Tryz.func19, Tryz.ntmps19
  go_wp2_with fail
  refine (COver_any H.out).mono ?_
  rintro e w1 ⟨rfl, rfl⟩
  go_wp2_with fail
  refine HS.out.mono ?_
  rintro e w1 ⟨rfl, h1, h2⟩
  have c1 := h1.c1
  have H1 := hide h1
  have H2 := hide h2
  clear h1 h2 c0 hm hn
  go_wp2_with fail
  refine (HK.out w1 H2.out).mono ?_
  rintro e w2 ⟨rfl, cur', thn', out', val', h3, h4⟩
  have H3 := hide h3
  have H4 := hide h4
  clear h3 h4 c1
  go_wp2_with fail
  refine (COver_any H3.out).mono ?_
  rintro e w3 ⟨rfl, rfl⟩
  go_wp2_with fail
  go_ret
  exact ⟨_, rfl, cur', thn', out', val', rfl, H3.out, H4.out⟩
set_option maxRecDepth 100000 in
theorem CStep_bell_rest3 {R R2 : World → Prop} {cap : Array Value} (hcs : cap.size = 2) (h : CopAt w co cb (.iface 119 (.pointer (some ⟨bo, 0, none⟩))) (.func (.func 70) #[] cap) 0 val)
    (hs : Calls Tryz.prog 152 #[.pointer (some ⟨bo, 0, none⟩)] w fun e w' => e = .returned (.bool true) ∧ CopAt w' co cb (.iface 119 (.pointer (some ⟨bo, 0, none⟩))) (.func (.func 70) #[] cap) 0 val ∧ R w')
    (hk : ∀ w1, R w1 → Calls Tryz.prog 70 cap w1 fun e w' => e = .returned (.tuple #[]) ∧ ∃ cur' thn' out' val', CopAt w' co cb cur' thn' out' val' ∧ R2 w') :
    Calls Tryz.prog 19 #[.pointer (some ⟨co, 0, none⟩)] w fun e w' => ∃ b, e = .returned (.bool b) ∧ ∃ cur' thn' out' val', b = (out' != 0) ∧ CopAt w' co cb cur' thn' out' val' ∧ R2 w' := by
  have c0 := h.c0
  have HS := Lib.hid hs
  have HK := Lib.hid hk
  have H := hide h
  have HCS := hide hcs
  have hm := meth_bell_Step
  have hn := nila_bell_Step
  clear h hs hk hcs
  go_enter Tryz.func19, Tryz.ntmps19
  go_wp2_with fail
  refine (COver_any H.out).mono ?_
  rintro e w1 ⟨rfl, rfl⟩
  go_wp2_with fail
  refine HS.out.mono ?_
  rintro e w1 ⟨rfl, h1, h2⟩
  have c1 := h1.c1
  have H1 := hide h1
  have H2 := hide h2
  clear h1 h2 c0 hm hn
  go_wp2_with fail
  refine (HK.out w1 H2.out).mono ?_
  rintro e w2 ⟨rfl, cur', thn', out', val', h3, h4⟩
  have H3 := hide h3
  have H4 := hide h4
  clear h3 h4 c1
  go_wp2_with fail
  refine (COver_any H3.out).mono ?_
  rintro e w3 ⟨rfl, rfl⟩
  go_wp2_with fail
  go_ret
  exact ⟨_, rfl, cur', thn', out', val', rfl, H3.out, H4.out⟩
set_option maxRecDepth 100000 in
theorem CStep_bell_poll {R R2 : World → Prop} {cap : Array Value} (hcs : cap.size = 2) (h : CopAt w co cb (.iface 119 (.pointer (some ⟨bo, 0, none⟩))) (.func (.func 73) #[] cap) 0 val)
    (hs : Calls Tryz.prog 152 #[.pointer (some ⟨bo, 0, none⟩)] w fun e w' => e = .returned (.bool true) ∧ CopAt w' co cb (.iface 119 (.pointer (some ⟨bo, 0, none⟩))) (.func (.func 73) #[] cap) 0 val ∧ R w')
    (hk : ∀ w1, R w1 → Calls Tryz.prog 73 cap w1 fun e w' => e = .returned (.tuple #[]) ∧ ∃ cur' thn' out' val', CopAt w' co cb cur' thn' out' val' ∧ R2 w') :
    Calls Tryz.prog 19 #[.pointer (some ⟨co, 0, none⟩)] w fun e w' => ∃ b, e = .returned (.bool b) ∧ ∃ cur' thn' out' val', b = (out' != 0) ∧ CopAt w' co cb cur' thn' out' val' ∧ R2 w' := by
  have c0 := h.c0
  have HS := Lib.hid hs
  have HK := Lib.hid hk
  have H := hide h
  have HCS := hide hcs
  have hm := meth_bell_Step
  have hn := nila_bell_Step
  clear h hs hk hcs
  go_enter Tryz.func19, Tryz.ntmps19
  go_wp2_with fail
  refine (COver_any H.out).mono ?_
  rintro e w1 ⟨rfl, rfl⟩
  go_wp2_with fail
  refine HS.out.mono ?_
  rintro e w1 ⟨rfl, h1, h2⟩
  have c1 := h1.c1
  have H1 := hide h1
  have H2 := hide h2
  clear h1 h2 c0 hm hn
  go_wp2_with fail
  refine (HK.out w1 H2.out).mono ?_
  rintro e w2 ⟨rfl, cur', thn', out', val', h3, h4⟩
  have H3 := hide h3
  have H4 := hide h4
  clear h3 h4 c1
  go_wp2_with fail
  refine (COver_any H3.out).mono ?_
  rintro e w3 ⟨rfl, rfl⟩
  go_wp2_with fail
  go_ret
  exact ⟨_, rfl, cur', thn', out', val', rfl, H3.out, H4.out⟩
theorem CStep_over (h : CopAt w co cb cur thn out val) (ho : out ≠ 0) : Calls Tryz.prog 19 #[.pointer (some ⟨co, 0, none⟩)] w fun e w' => e = .returned (.bool true) ∧ w = w' := by
  have hb : (out != 0) = true := by simp [ho]
  have H := hide h
  clear h ho
  go_enter Tryz.func19, Tryz.ntmps19
  go_wp2_with fail
  refine (COver_any H.out).mono ?_
  rintro e w1 ⟨rfl, rfl⟩
  go_wp2_with fail
  refine (COver_any H.out).mono ?_
  rintro e w1 ⟨rfl, rfl⟩
  go_wp2_with fail
  go_ret
  exact ⟨rfl, rfl⟩
end
end Go.Proofs.YtdoaipjdldknaaaGreat
