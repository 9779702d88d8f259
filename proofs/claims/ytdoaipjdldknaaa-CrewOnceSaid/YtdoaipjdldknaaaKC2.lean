/-
  Package steps: Do, with a part that is pending; Step.
-/
import Derived.Test.YtdoaipjdldknaaaKC1
import Derived.StillTailTactics
import Derived.Laws.EntriesVeiled
namespace Go.Proofs.Ytdoaipjdldknaaa
open Go.RowKit
set_option linter.unusedVariables false

theorem meth_deque_Over (n : Nat) (a : Addr) (w : World) : (method (n + 1) 73 (.pointer (some a)) "Over").run Try.prog w = .ok (105, .pointer (some a)) w := by kernel_rfl
theorem meth_deque_Step (n : Nat) (a : Addr) (w : World) : (method (n + 1) 73 (.pointer (some a)) "Step").run Try.prog w = .ok (106, .pointer (some a)) w := by kernel_rfl
theorem meth_deque_Outcome (n : Nat) (a : Addr) (w : World) : (method (n + 1) 73 (.pointer (some a)) "Outcome").run Try.prog w = .ok (33, .pointer (some a)) w := by kernel_rfl
theorem meth_deque_Value (n : Nat) (a : Addr) (w : World) : (method (n + 1) 73 (.pointer (some a)) "Value").run Try.prog w = .ok (107, .pointer (some a)) w := by kernel_rfl
theorem meth_gate_Over (n : Nat) (a : Addr) (w : World) : (method (n + 1) 82 (.pointer (some a)) "Over").run Try.prog w = .ok (108, .pointer (some a)) w := by kernel_rfl
theorem meth_gate_Step (n : Nat) (a : Addr) (w : World) : (method (n + 1) 82 (.pointer (some a)) "Step").run Try.prog w = .ok (109, .pointer (some a)) w := by kernel_rfl
theorem meth_gate_Outcome (n : Nat) (a : Addr) (w : World) : (method (n + 1) 82 (.pointer (some a)) "Outcome").run Try.prog w = .ok (47, .pointer (some a)) w := by kernel_rfl
theorem meth_gate_Value (n : Nat) (a : Addr) (w : World) : (method (n + 1) 82 (.pointer (some a)) "Value").run Try.prog w = .ok (51, .pointer (some a)) w := by kernel_rfl
theorem meth_bell_Over (n : Nat) (a : Addr) (w : World) : (method (n + 1) 87 (.pointer (some a)) "Over").run Try.prog w = .ok (112, .pointer (some a)) w := by kernel_rfl
theorem meth_bell_Step (n : Nat) (a : Addr) (w : World) : (method (n + 1) 87 (.pointer (some a)) "Step").run Try.prog w = .ok (113, .pointer (some a)) w := by kernel_rfl
theorem meth_bell_Outcome (n : Nat) (a : Addr) (w : World) : (method (n + 1) 87 (.pointer (some a)) "Outcome").run Try.prog w = .ok (54, .pointer (some a)) w := by kernel_rfl
theorem nila_deque_Step (n : Nat) (a : Addr) (w : World) : (nilAhead (n + 1) 73 (.pointer (some a)) "Step").run Try.prog w = .ok (some false) w := by kernel_rfl
theorem nila_gate_Step (n : Nat) (a : Addr) (w : World) : (nilAhead (n + 1) 82 (.pointer (some a)) "Step").run Try.prog w = .ok (some false) w := by kernel_rfl
theorem nila_bell_Step (n : Nat) (a : Addr) (w : World) : (nilAhead (n + 1) 87 (.pointer (some a)) "Step").run Try.prog w = .ok (some false) w := by kernel_rfl
section
variable {w : World} {co cb bo bd : Nat} {cur thn : Value} {out val : Int}
set_option maxRecDepth 100000 in
theorem CDo_deque {o : Dop} (k : Nat) (cap : Array Value) (h : CopAt w co cb cur thn out val) (hp : DopIs w bo bd o) (ho : o.out = 0) : Calls Try.prog 31 #[.pointer (some ⟨co, 0, none⟩), .iface 73 (.pointer (some ⟨bo, 0, none⟩)), .func (.func k) #[] cap] w fun e w' =>
    e = .returned (.tuple #[]) ∧ CopAt w' co cb (.iface 73 (.pointer (some ⟨bo, 0, none⟩))) (.func (.func k) #[] cap) out val ∧ Only (S1 co) w w' := by
  have c0 := h.c0
  have c1 := h.c1
  have f0 := h.fz 0
  have f1 := h.fz 1
  have H := hide h
  have HP := hide hp
  have HO := hide ho
  have hm := meth_deque_Over
  clear h hp ho
  go_enter Try.func31, Try.ntmps31
  go_wp2_with fail
  clear hm
  refine (HP.out.over0 HO.out).mono ?_
  rintro e w1 ⟨rfl, rfl⟩
  go_wp2_with fail
  go_end0
  exact ⟨rfl, H.out.do_ _ _, (only_set w co 0 _).set1 (g := co) 1 rfl _⟩
set_option maxRecDepth 100000 in
theorem CDo_gate {o : Gop} (k : Nat) (cap : Array Value) (h : CopAt w co cb cur thn out val) (hp : GopIs w bo bd o) (ho : o.out = 0) : Calls Try.prog 31 #[.pointer (some ⟨co, 0, none⟩), .iface 82 (.pointer (some ⟨bo, 0, none⟩)), .func (.func k) #[] cap] w fun e w' =>
    e = .returned (.tuple #[]) ∧ CopAt w' co cb (.iface 82 (.pointer (some ⟨bo, 0, none⟩))) (.func (.func k) #[] cap) out val ∧ Only (S1 co) w w' := by
  have c0 := h.c0
  have c1 := h.c1
  have f0 := h.fz 0
  have f1 := h.fz 1
  have H := hide h
  have HP := hide hp
  have HO := hide ho
  have hm := meth_gate_Over
  clear h hp ho
  go_enter Try.func31, Try.ntmps31
  go_wp2_with fail
  clear hm
  refine (HP.out.over0 HO.out).mono ?_
  rintro e w1 ⟨rfl, rfl⟩
  go_wp2_with fail
  go_end0
  exact ⟨rfl, H.out.do_ _ _, (only_set w co 0 _).set1 (g := co) 1 rfl _⟩
set_option maxRecDepth 100000 in
theorem CDo_bell {o : Bop} (k : Nat) (cap : Array Value) (h : CopAt w co cb cur thn out val) (hp : BopIs w bo bd o) (ho : o.out = 0) : Calls Try.prog 31 #[.pointer (some ⟨co, 0, none⟩), .iface 87 (.pointer (some ⟨bo, 0, none⟩)), .func (.func k) #[] cap] w fun e w' =>
    e = .returned (.tuple #[]) ∧ CopAt w' co cb (.iface 87 (.pointer (some ⟨bo, 0, none⟩))) (.func (.func k) #[] cap) out val ∧ Only (S1 co) w w' := by
  have c0 := h.c0
  have c1 := h.c1
  have f0 := h.fz 0
  have f1 := h.fz 1
  have H := hide h
  have HP := hide hp
  have HO := hide ho
  have hm := meth_bell_Over
  clear h hp ho
  go_enter Try.func31, Try.ntmps31
  go_wp2_with fail
  clear hm
  refine (HP.out.over0 HO.out).mono ?_
  rintro e w1 ⟨rfl, rfl⟩
  go_wp2_with fail
  go_end0
  exact ⟨rfl, H.out.do_ _ _, (only_set w co 0 _).set1 (g := co) 1 rfl _⟩
set_option maxRecDepth 100000 in
theorem CStep_deque_stay {R : World → Prop} (h : CopAt w co cb (.iface 73 (.pointer (some ⟨bo, 0, none⟩))) thn 0 val)
    (hs : Calls Try.prog 106 #[.pointer (some ⟨bo, 0, none⟩)] w fun e w' => e = .returned (.bool false) ∧ CopAt w' co cb (.iface 73 (.pointer (some ⟨bo, 0, none⟩))) thn 0 val ∧ R w') :
    Calls Try.prog 26 #[.pointer (some ⟨co, 0, none⟩)] w fun e w' => e = .returned (.bool false) ∧ CopAt w' co cb (.iface 73 (.pointer (some ⟨bo, 0, none⟩))) thn 0 val ∧ R w' := by
  have c0 := h.c0
  have HS := Lib.hid hs
  have H := hide h
  have hm := meth_deque_Step
  have hn := nila_deque_Step
  clear h hs
  go_enter Try.func26, Try.ntmps26
  go_wp2_with fail
  refine (COver_any H.out).mono ?_
  rintro e w1 ⟨rfl, rfl⟩
  go_wp2_with fail
  refine HS.out.mono ?_
  rintro e w1 ⟨rfl, h1, h2⟩
  have H1 := hide h1
  have H2 := hide h2
  clear h1 h2 c0 hm hn
  go_wp2_with fail
  refine (COver_any H1.out).mono ?_
  rintro e w2 ⟨rfl, rfl⟩
  go_wp2_with fail
  go_ret
  exact ⟨rfl, H1.out, H2.out⟩
set_option maxRecDepth 100000 in
theorem CStep_gate_stay {R : World → Prop} (h : CopAt w co cb (.iface 82 (.pointer (some ⟨bo, 0, none⟩))) thn 0 val)
    (hs : Calls Try.prog 109 #[.pointer (some ⟨bo, 0, none⟩)] w fun e w' => e = .returned (.bool false) ∧ CopAt w' co cb (.iface 82 (.pointer (some ⟨bo, 0, none⟩))) thn 0 val ∧ R w') :
    Calls Try.prog 26 #[.pointer (some ⟨co, 0, none⟩)] w fun e w' => e = .returned (.bool false) ∧ CopAt w' co cb (.iface 82 (.pointer (some ⟨bo, 0, none⟩))) thn 0 val ∧ R w' := by
  have c0 := h.c0
  have HS := Lib.hid hs
  have H := hide h
  have hm := meth_gate_Step
  have hn := nila_gate_Step
  clear h hs
  go_enter Try.func26, Try.ntmps26
  go_wp2_with fail
  refine (COver_any H.out).mono ?_
  rintro e w1 ⟨rfl, rfl⟩
  go_wp2_with fail
  refine HS.out.mono ?_
  rintro e w1 ⟨rfl, h1, h2⟩
  have H1 := hide h1
  have H2 := hide h2
  clear h1 h2 c0 hm hn
  go_wp2_with fail
  refine (COver_any H1.out).mono ?_
  rintro e w2 ⟨rfl, rfl⟩
  go_wp2_with fail
  go_ret
  exact ⟨rfl, H1.out, H2.out⟩
set_option maxRecDepth 100000 in
theorem CStep_bell_stay {R : World → Prop} (h : CopAt w co cb (.iface 87 (.pointer (some ⟨bo, 0, none⟩))) thn 0 val)
    (hs : Calls Try.prog 113 #[.pointer (some ⟨bo, 0, none⟩)] w fun e w' => e = .returned (.bool false) ∧ CopAt w' co cb (.iface 87 (.pointer (some ⟨bo, 0, none⟩))) thn 0 val ∧ R w') :
    Calls Try.prog 26 #[.pointer (some ⟨co, 0, none⟩)] w fun e w' => e = .returned (.bool false) ∧ CopAt w' co cb (.iface 87 (.pointer (some ⟨bo, 0, none⟩))) thn 0 val ∧ R w' := by
  have c0 := h.c0
  have HS := Lib.hid hs
  have H := hide h
  have hm := meth_bell_Step
  have hn := nila_bell_Step
  clear h hs
  go_enter Try.func26, Try.ntmps26
  go_wp2_with fail
  refine (COver_any H.out).mono ?_
  rintro e w1 ⟨rfl, rfl⟩
  go_wp2_with fail
  refine HS.out.mono ?_
  rintro e w1 ⟨rfl, h1, h2⟩
  have H1 := hide h1
  have H2 := hide h2
  clear h1 h2 c0 hm hn
  go_wp2_with fail
  refine (COver_any H1.out).mono ?_
  rintro e w2 ⟨rfl, rfl⟩
  go_wp2_with fail
  go_ret
  exact ⟨rfl, H1.out, H2.out⟩
set_option maxRecDepth 100000 in
theorem CStep_bell_ring {R R2 : World → Prop} {cap : Array Value} (hcs : cap.size = 1) (h : CopAt w co cb (.iface 87 (.pointer (some ⟨bo, 0, none⟩))) (.func (.func 60) #[] cap) 0 val)
    (hs : Calls Try.prog 113 #[.pointer (some ⟨bo, 0, none⟩)] w fun e w' => e = .returned (.bool true) ∧ CopAt w' co cb (.iface 87 (.pointer (some ⟨bo, 0, none⟩))) (.func (.func 60) #[] cap) 0 val ∧ R w')
    (hk : ∀ w1, R w1 → Calls Try.prog 60 cap w1 fun e w' => e = .returned (.tuple #[]) ∧ ∃ cur' thn' out' val', CopAt w' co cb cur' thn' out' val' ∧ R2 w') :
    Calls Try.prog 26 #[.pointer (some ⟨co, 0, none⟩)] w fun e w' => ∃ b, e = .returned (.bool b) ∧ ∃ cur' thn' out' val', b = (out' != 0) ∧ CopAt w' co cb cur' thn' out' val' ∧ R2 w' := by
  have c0 := h.c0
  have HS := Lib.hid hs
  have HK := Lib.hid hk
  have H := hide h
  have HCS := hide hcs
  have hm := meth_bell_Step
  have hn := nila_bell_Step
  clear h hs hk hcs
  go_enter Try.func26, Try.ntmps26
  go_wp2_with fail
  refine (COver_any H.out).mono ?_
  rintro e w1 ⟨rfl, rfl⟩
  go_wp2_with fail
  refine HS.out.mono ?_
  rintro e w1 ⟨rfl, h1, h2⟩
  have c1 := h1.c1
  have H1 := hide h1
  have H2 := hide h2
  clear h1 h2 c0 hm hn
  go_wp2_with fail
  refine (HK.out w1 H2.out).mono ?_
  rintro e w2 ⟨rfl, cur', thn', out', val', h3, h4⟩
  have H3 := hide h3
  have H4 := hide h4
  clear h3 h4 c1
  go_wp2_with fail
  refine (COver_any H3.out).mono ?_
  rintro e w3 ⟨rfl, rfl⟩
  go_wp2_with fail
  go_ret
  exact ⟨_, rfl, cur', thn', out', val', rfl, H3.out, H4.out⟩
set_option maxRecDepth 100000 in
theorem CStep_gate_enter {R R2 : World → Prop} {cap : Array Value} (hcs : cap.size = 3) (h : CopAt w co cb (.iface 82 (.pointer (some ⟨bo, 0, none⟩))) (.func (.func 57) #[] cap) 0 val)
    (hs : Calls Try.prog 109 #[.pointer (some ⟨bo, 0, none⟩)] w fun e w' => e = .returned (.bool true) ∧ CopAt w' co cb (.iface 82 (.pointer (some ⟨bo, 0, none⟩))) (.func (.func 57) #[] cap) 0 val ∧ R w')
    (hk : ∀ w1, R w1 → Calls Try.prog 57 cap w1 fun e w' => e = .returned (.tuple #[]) ∧ ∃ cur' thn' out' val', CopAt w' co cb cur' thn' out' val' ∧ R2 w') :
    Calls Try.prog 26 #[.pointer (some ⟨co, 0, none⟩)] w fun e w' => ∃ b, e = .returned (.bool b) ∧ ∃ cur' thn' out' val', b = (out' != 0) ∧ CopAt w' co cb cur' thn' out' val' ∧ R2 w' := by
  have c0 := h.c0
  have HS := Lib.hid hs
  have HK := Lib.hid hk
  have H := hide h
  have HCS := hide hcs
  have hm := meth_gate_Step
  have hn := nila_gate_Step
  clear h hs hk hcs
  go_enter Try.func26, Try.ntmps26
  go_wp2_with fail
  refine (COver_any H.out).mono ?_
  rintro e w1 ⟨rfl, rfl⟩
  go_wp2_with fail
  refine HS.out.mono ?_
  rintro e w1 ⟨rfl, h1, h2⟩
  have c1 := h1.c1
  have H1 := hide h1
  have H2 := hide h2
  clear h1 h2 c0 hm hn
  go_wp2_with fail
  refine (HK.out w1 H2.out).mono ?_
  rintro e w2 ⟨rfl, cur', thn', out', val', h3, h4⟩
  have H3 := hide h3
  have H4 := hide h4
  clear h3 h4 c1
  go_wp2_with fail
  refine (COver_any H3.out).mono ?_
  rintro e w3 ⟨rfl, rfl⟩
  go_wp2_with fail
  go_ret
  exact ⟨_, rfl, cur', thn', out', val', rfl, H3.out, H4.out⟩
set_option maxRecDepth 100000 in
theorem CStep_deque_offer {R R2 : World → Prop} {cap : Array Value} (hcs : cap.size = 3) (h : CopAt w co cb (.iface 73 (.pointer (some ⟨bo, 0, none⟩))) (.func (.func 32) #[] cap) 0 val)
    (hs : Calls Try.prog 106 #[.pointer (some ⟨bo, 0, none⟩)] w fun e w' => e = .returned (.bool true) ∧ CopAt w' co cb (.iface 73 (.pointer (some ⟨bo, 0, none⟩))) (.func (.func 32) #[] cap) 0 val ∧ R w')
    (hk : ∀ w1, R w1 → Calls Try.prog 32 cap w1 fun e w' => e = .returned (.tuple #[]) ∧ ∃ cur' thn' out' val', CopAt w' co cb cur' thn' out' val' ∧ R2 w') :
    Calls Try.prog 26 #[.pointer (some ⟨co, 0, none⟩)] w fun e w' => ∃ b, e = .returned (.bool b) ∧ ∃ cur' thn' out' val', b = (out' != 0) ∧ CopAt w' co cb cur' thn' out' val' ∧ R2 w' := by
  have c0 := h.c0
  have HS := Lib.hid hs
  have HK := Lib.hid hk
  have H := hide h
  have HCS := hide hcs
  have hm := meth_deque_Step
  have hn := nila_deque_Step
  clear h hs hk hcs
  go_enter Try.func26, Try.ntmps26
  go_wp2_with fail
  refine (COver_any H.out).mono ?_
  rintro e w1 ⟨rfl, rfl⟩
  go_wp2_with fail
  refine HS.out.mono ?_
  rintro e w1 ⟨rfl, h1, h2⟩
  have c1 := h1.c1
  have H1 := hide h1
  have H2 := hide h2
  clear h1 h2 c0 hm hn
  go_wp2_with fail
  refine (HK.out w1 H2.out).mono ?_
  rintro e w2 ⟨rfl, cur', thn', out', val', h3, h4⟩
  have H3 := hide h3
  have H4 := hide h4
  clear h3 h4 c1
  go_wp2_with fail
  refine (COver_any H3.out).mono ?_
  rintro e w3 ⟨rfl, rfl⟩
  go_wp2_with fail
  go_ret
  exact ⟨_, rfl, cur', thn', out', val', rfl, H3.out, H4.out⟩
set_option maxRecDepth 100000 in
theorem CStep_deque_try {R R2 : World → Prop} {cap : Array Value} (hcs : cap.size = 3) (h : CopAt w co cb (.iface 73 (.pointer (some ⟨bo, 0, none⟩))) (.func (.func 65) #[] cap) 0 val)
    (hs : Calls Try.prog 106 #[.pointer (some ⟨bo, 0, none⟩)] w fun e w' => e = .returned (.bool true) ∧ CopAt w' co cb (.iface 73 (.pointer (some ⟨bo, 0, none⟩))) (.func (.func 65) #[] cap) 0 val ∧ R w')
    (hk : ∀ w1, R w1 → Calls Try.prog 65 cap w1 fun e w' => e = .returned (.tuple #[]) ∧ ∃ cur' thn' out' val', CopAt w' co cb cur' thn' out' val' ∧ R2 w') :
    Calls Try.prog 26 #[.pointer (some ⟨co, 0, none⟩)] w fun e w' => ∃ b, e = .returned (.bool b) ∧ ∃ cur' thn' out' val', b = (out' != 0) ∧ CopAt w' co cb cur' thn' out' val' ∧ R2 w' := by
  have c0 := h.c0
  have HS := Lib.hid hs
  have HK := Lib.hid hk
  have H := hide h
  have HCS := hide hcs
  have hm := meth_deque_Step
  have hn := nila_deque_Step
  clear h hs hk hcs
  go_enter Try.func26, Try.ntmps26
  go_wp2_with fail
  refine (COver_any H.out).mono ?_
  rintro e w1 ⟨rfl, rfl⟩
  go_wp2_with fail
  refine HS.out.mono ?_
  rintro e w1 ⟨rfl, h1, h2⟩
  have c1 := h1.c1
  have H1 := hide h1
  have H2 := hide h2
  clear h1 h2 c0 hm hn
  go_wp2_with fail
  refine (HK.out w1 H2.out).mono ?_
  rintro e w2 ⟨rfl, cur', thn', out', val', h3, h4⟩
  have H3 := hide h3
  have H4 := hide h4
  clear h3 h4 c1
  go_wp2_with fail
  refine (COver_any H3.out).mono ?_
  rintro e w3 ⟨rfl, rfl⟩
  go_wp2_with fail
  go_ret
  exact ⟨_, rfl, cur', thn', out', val', rfl, H3.out, H4.out⟩
set_option maxRecDepth 100000 in
theorem CStep_gate_try {R R2 : World → Prop} {cap : Array Value} (hcs : cap.size = 3) (h : CopAt w co cb (.iface 82 (.pointer (some ⟨bo, 0, none⟩))) (.func (.func 65) #[] cap) 0 val)
    (hs : Calls Try.prog 109 #[.pointer (some ⟨bo, 0, none⟩)] w fun e w' => e = .returned (.bool true) ∧ CopAt w' co cb (.iface 82 (.pointer (some ⟨bo, 0, none⟩))) (.func (.func 65) #[] cap) 0 val ∧ R w')
    (hk : ∀ w1, R w1 → Calls Try.prog 65 cap w1 fun e w' => e = .returned (.tuple #[]) ∧ ∃ cur' thn' out' val', CopAt w' co cb cur' thn' out' val' ∧ R2 w') :
    Calls Try.prog 26 #[.pointer (some ⟨co, 0, none⟩)] w fun e w' => ∃ b, e = .returned (.bool b) ∧ ∃ cur' thn' out' val', b = (out' != 0) ∧ CopAt w' co cb cur' thn' out' val' ∧ R2 w' := by
  have c0 := h.c0
  have HS := Lib.hid hs
  have HK := Lib.hid hk
  have H := hide h
  have HCS := hide hcs
  have hm := meth_gate_Step
  have hn := nila_gate_Step
  clear h hs hk hcs
  go_enter Try.func26, Try.ntmps26
  go_wp2_with fail
  refine (COver_any H.out).mono ?_
  rintro e w1 ⟨rfl, rfl⟩
  go_wp2_with fail
  refine HS.out.mono ?_
  rintro e w1 ⟨rfl, h1, h2⟩
  have c1 := h1.c1
  have H1 := hide h1
  have H2 := hide h2
  clear h1 h2 c0 hm hn
  go_wp2_with fail
  refine (HK.out w1 H2.out).mono ?_
  rintro e w2 ⟨rfl, cur', thn', out', val', h3, h4⟩
  have H3 := hide h3
  have H4 := hide h4
  clear h3 h4 c1
  go_wp2_with fail
  refine (COver_any H3.out).mono ?_
  rintro e w3 ⟨rfl, rfl⟩
  go_wp2_with fail
  go_ret
  exact ⟨_, rfl, cur', thn', out', val', rfl, H3.out, H4.out⟩
set_option maxRecDepth 100000 in
theorem CStep_bell_rest {R R2 : World → Prop} {cap : Array Value} (hcs : cap.size = 3) (h : CopAt w co cb (.iface 87 (.pointer (some ⟨bo, 0, none⟩))) (.func (.func 45) #[] cap) 0 val)
    (hs : Calls Try.prog 113 #[.pointer (some ⟨bo, 0, none⟩)] w fun e w' => e = .returned (.bool true) ∧ CopAt w' co cb (.iface 87 (.pointer (some ⟨bo, 0, none⟩))) (.func (.func 45) #[] cap) 0 val ∧ R w')
    (hk : ∀ w1, R w1 → Calls Try.prog 45 cap w1 fun e w' => e = .returned (.tuple #[]) ∧ ∃ cur' thn' out' val', CopAt w' co cb cur' thn' out' val' ∧ R2 w') :
    Calls Try.prog 26 #[.pointer (some ⟨co, 0, none⟩)] w fun e w' => ∃ b, e = .returned (.bool b) ∧ ∃ cur' thn' out' val', b = (out' != 0) ∧ CopAt w' co cb cur' thn' out' val' ∧ R2 w' := by
  have c0 := h.c0
  have HS := Lib.hid hs
  have HK := Lib.hid hk
  have H := hide h
  have HCS := hide hcs
  have hm := meth_bell_Step
  have hn := nila_bell_Step
  clear h hs hk hcs
  go_enter Try.func26, Try.ntmps26
  go_wp2_with fail
  refine (COver_any H.out).mono ?_
  rintro e w1 ⟨rfl, rfl⟩
  go_wp2_with fail
  refine HS.out.mono ?_
  rintro e w1 ⟨rfl, h1, h2⟩
  have c1 := h1.c1
  have H1 := hide h1
  have H2 := hide h2
  clear h1 h2 c0 hm hn
  go_wp2_with fail
  refine (HK.out w1 H2.out).mono ?_
  rintro e w2 ⟨rfl, cur', thn', out', val', h3, h4⟩
  have H3 := hide h3
  have H4 := hide h4
  clear h3 h4 c1
  go_wp2_with fail
  refine (COver_any H3.out).mono ?_
  rintro e w3 ⟨rfl, rfl⟩
  go_wp2_with fail
  go_ret
  exact ⟨_, rfl, cur', thn', out', val', rfl, H3.out, H4.out⟩
set_option maxRecDepth 100000 in
theorem CStep_gate_rest2 {R R2 : World → Prop} {cap : Array Value} (hcs : cap.size = 4) (h : CopAt w co cb (.iface 82 (.pointer (some ⟨bo, 0, none⟩))) (.func (.func 46) #[] cap) 0 val)
    (hs : Calls Try.prog 109 #[.pointer (some ⟨bo, 0, none⟩)] w fun e w' => e = .returned (.bool true) ∧ CopAt w' co cb (.iface 82 (.pointer (some ⟨bo, 0, none⟩))) (.func (.func 46) #[] cap) 0 val ∧ R w')
    (hk : ∀ w1, R w1 → Calls Try.prog 46 cap w1 fun e w' => e = .returned (.tuple #[]) ∧ ∃ cur' thn' out' val', CopAt w' co cb cur' thn' out' val' ∧ R2 w') :
    Calls Try.prog 26 #[.pointer (some ⟨co, 0, none⟩)] w fun e w' => ∃ b, e = .returned (.bool b) ∧ ∃ cur' thn' out' val', b = (out' != 0) ∧ CopAt w' co cb cur' thn' out' val' ∧ R2 w' := by
  have c0 := h.c0
  have HS := Lib.hid hs
  have HK := Lib.hid hk
  have H := hide h
  have HCS := hide hcs
  have hm := meth_gate_Step
  have hn := nila_gate_Step
  clear h hs hk hcs
  go_enter Try.func26, Try.ntmps26
  go_wp2_with fail
  refine (COver_any H.out).mono ?_
  rintro e w1 ⟨rfl, rfl⟩
  go_wp2_with fail
  refine HS.out.mono ?_
  rintro e w1 ⟨rfl, h1, h2⟩
  have c1 := h1.c1
  have H1 := hide h1
  have H2 := hide h2
  clear h1 h2 c0 hm hn
  go_wp2_with fail
  refine (HK.out w1 H2.out).mono ?_
  rintro e w2 ⟨rfl, cur', thn', out', val', h3, h4⟩
  have H3 := hide h3
  have H4 := hide h4
  clear h3 h4 c1
  go_wp2_with fail
  refine (COver_any H3.out).mono ?_
  rintro e w3 ⟨rfl, rfl⟩
  go_wp2_with fail
  go_ret
  exact ⟨_, rfl, cur', thn', out', val', rfl, H3.out, H4.out⟩
set_option maxRecDepth 100000 in
theorem CStep_bell_rest3 {R R2 : World → Prop} {cap : Array Value} (hcs : cap.size = 2) (h : CopAt w co cb (.iface 87 (.pointer (some ⟨bo, 0, none⟩))) (.func (.func 50) #[] cap) 0 val)
    (hs : Calls Try.prog 113 #[.pointer (some ⟨bo, 0, none⟩)] w fun e w' => e = .returned (.bool true) ∧ CopAt w' co cb (.iface 87 (.pointer (some ⟨bo, 0, none⟩))) (.func (.func 50) #[] cap) 0 val ∧ R w')
    (hk : ∀ w1, R w1 → Calls Try.prog 50 cap w1 fun e w' => e = .returned (.tuple #[]) ∧ ∃ cur' thn' out' val', CopAt w' co cb cur' thn' out' val' ∧ R2 w') :
    Calls Try.prog 26 #[.pointer (some ⟨co, 0, none⟩)] w fun e w' => ∃ b, e = .returned (.bool b) ∧ ∃ cur' thn' out' val', b = (out' != 0) ∧ CopAt w' co cb cur' thn' out' val' ∧ R2 w' := by
  have c0 := h.c0
  have HS := Lib.hid hs
  have HK := Lib.hid hk
  have H := hide h
  have HCS := hide hcs
  have hm := meth_bell_Step
  have hn := nila_bell_Step
  clear h hs hk hcs
  go_enter Try.func26, Try.ntmps26
  go_wp2_with fail
  refine (COver_any H.out).mono ?_
  rintro e w1 ⟨rfl, rfl⟩
  go_wp2_with fail
  refine HS.out.mono ?_
  rintro e w1 ⟨rfl, h1, h2⟩
  have c1 := h1.c1
  have H1 := hide h1
  have H2 := hide h2
  clear h1 h2 c0 hm hn
  go_wp2_with fail
  refine (HK.out w1 H2.out).mono ?_
  rintro e w2 ⟨rfl, cur', thn', out', val', h3, h4⟩
  have H3 := hide h3
  have H4 := hide h4
  clear h3 h4 c1
  go_wp2_with fail
  refine (COver_any H3.out).mono ?_
  rintro e w3 ⟨rfl, rfl⟩
  go_wp2_with fail
  go_ret
  exact ⟨_, rfl, cur', thn', out', val', rfl, H3.out, H4.out⟩
set_option maxRecDepth 100000 in
theorem CStep_bell_poll {R R2 : World → Prop} {cap : Array Value} (hcs : cap.size = 2) (h : CopAt w co cb (.iface 87 (.pointer (some ⟨bo, 0, none⟩))) (.func (.func 53) #[] cap) 0 val)
    (hs : Calls Try.prog 113 #[.pointer (some ⟨bo, 0, none⟩)] w fun e w' => e = .returned (.bool true) ∧ CopAt w' co cb (.iface 87 (.pointer (some ⟨bo, 0, none⟩))) (.func (.func 53) #[] cap) 0 val ∧ R w')
    (hk : ∀ w1, R w1 → Calls Try.prog 53 cap w1 fun e w' => e = .returned (.tuple #[]) ∧ ∃ cur' thn' out' val', CopAt w' co cb cur' thn' out' val' ∧ R2 w') :
    Calls Try.prog 26 #[.pointer (some ⟨co, 0, none⟩)] w fun e w' => ∃ b, e = .returned (.bool b) ∧ ∃ cur' thn' out' val', b = (out' != 0) ∧ CopAt w' co cb cur' thn' out' val' ∧ R2 w' := by
  have c0 := h.c0
  have HS := Lib.hid hs
  have HK := Lib.hid hk
  have H := hide h
  have HCS := hide hcs
  have hm := meth_bell_Step
  have hn := nila_bell_Step
  clear h hs hk hcs
  go_enter Try.func26, Try.ntmps26
  go_wp2_with fail
  refine (COver_any H.out).mono ?_
  rintro e w1 ⟨rfl, rfl⟩
  go_wp2_with fail
  refine HS.out.mono ?_
  rintro e w1 ⟨rfl, h1, h2⟩
  have c1 := h1.c1
  have H1 := hide h1
  have H2 := hide h2
  clear h1 h2 c0 hm hn
  go_wp2_with fail
  refine (HK.out w1 H2.out).mono ?_
  rintro e w2 ⟨rfl, cur', thn', out', val', h3, h4⟩
  have H3 := hide h3
  have H4 := hide h4
  clear h3 h4 c1
  go_wp2_with fail
  refine (COver_any H3.out).mono ?_
  rintro e w3 ⟨rfl, rfl⟩
  go_wp2_with fail
  go_ret
  exact ⟨_, rfl, cur', thn', out', val', rfl, H3.out, H4.out⟩
theorem CStep_over (h : CopAt w co cb cur thn out val) (ho : out ≠ 0) : Calls Try.prog 26 #[.pointer (some ⟨co, 0, none⟩)] w fun e w' => e = .returned (.bool true) ∧ w = w' := by
  have hb : (out != 0) = true := by simp [ho]
  have H := hide h
  clear h ho
  go_enter Try.func26, Try.ntmps26
  go_wp2_with fail
  refine (COver_any H.out).mono ?_
  rintro e w1 ⟨rfl, rfl⟩
  go_wp2_with fail
  refine (COver_any H.out).mono ?_
  rintro e w1 ⟨rfl, rfl⟩
  go_wp2_with fail
  go_ret
  exact ⟨rfl, rfl⟩
end
end Go.Proofs.Ytdoaipjdldknaaa
