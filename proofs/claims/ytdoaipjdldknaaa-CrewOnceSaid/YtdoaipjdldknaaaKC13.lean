/-
  Package crew: what comes behind a source.
-/
import Derived.Test.YtdoaipjdldknaaaKC8
namespace Go.Proofs.Ytdoaipjdldknaaa
open Go.RowKit
set_option linter.unusedVariables false
theorem nila_deque_Outcome (n : Nat) (a : Addr) (w : World) : (nilAhead (n + 1) 73 (.pointer (some a)) "Outcome").run Try.prog w = .ok (some false) w := by kernel_rfl
theorem nila_deque_Value (n : Nat) (a : Addr) (w : World) : (nilAhead (n + 1) 73 (.pointer (some a)) "Value").run Try.prog w = .ok (some false) w := by kernel_rfl
theorem nila_gate_Outcome (n : Nat) (a : Addr) (w : World) : (nilAhead (n + 1) 82 (.pointer (some a)) "Outcome").run Try.prog w = .ok (some false) w := by kernel_rfl
theorem nila_gate_Value (n : Nat) (a : Addr) (w : World) : (nilAhead (n + 1) 82 (.pointer (some a)) "Value").run Try.prog w = .ok (some false) w := by kernel_rfl
section
variable {w w' : World} {co cb p xs xo xq : Nat} {cur thn : Value} {out val : Int}
set_option maxRecDepth 100000 in
set_option maxHeartbeats 1000000 in
theorem try1_deque_done {bd : Nat} {o : Dop} (hxs : IBox w xs 73 p) (hxo : OBox w xo co) (hp : DopIs w p bd o) (ho : o.out = 1) (h : CopAt w co cb cur thn out val) :
    Calls Try.prog 65 #[.pointer (some ⟨xs, 0, none⟩), .pointer (some ⟨xo, 0, none⟩), .pointer (some ⟨xq, 0, none⟩)] w fun e w' => e = .returned (.tuple #[]) ∧ CopAt w' co cb cur thn 1 (dvalue o.v o.out) ∧ Only (S1 co) w w' := by
  have c0 := hxs.c0
  have hb : (o.out == 1) = true := by rw [ho]; rfl
  have HP := hide hp
  have H := hide h
  have HXO := hide hxo
  have HXS := hide hxs
  have n1 : xo ≠ co := fun e => Blk.ne_ hxo h (by decide) e
  have n2 : xs ≠ co := fun e => Blk.ne_ hxs h (by decide) e
  have m1 := meth_deque_Outcome
  have m2 := nila_deque_Outcome
  have m3 := meth_deque_Value
  have m4 := nila_deque_Value
  clear hxs hxo hp h ho
  go_enter Try.func65, Try.ntmps65
  go_wp2_with fail
  refine (HP.out.outcome).mono ?_
  rintro e w1 ⟨rfl, rfl⟩
  go_upto_region 1 with fail
  have z0 := HXO.out.drew.c0
  have z1 := HXS.out.drew.c0
  go_region_held3 (fun w' : World => w'.cell? ⟨xo, 0, none⟩ = some (.pointer (some ⟨co, 0, none⟩)) ∧ w'.cell? ⟨xs, 0, none⟩ = some (.iface 73 (.pointer (some ⟨p, 0, none⟩)))) (first | with_reducible exact ⟨z0, z1⟩ | with_reducible exact ⟨y0, y1⟩) (first | (go_at_call 107; refine (DopIs.value (show DopIs w.drew p bd o from HP.out)).mono ?_; rintro e w2 ⟨rfl, rfl⟩) | (go_at_call 48; refine (CEnd_any _ _ H.out.drew).mono ?_; rintro e w3 ⟨rfl, h3, o3⟩; have H3 := hide h3; have y0 := (HXO.out.drew.only o3 n1).c0; have y1 := (HXS.out.drew.only o3 n2).c0; have O3 := hide (((Only.refl (S1 co) w).drew).trans o3); clear h3 o3))
  clear m1 m2 m3 m4
  go_wp2_with fail
  all_goals refine bodyPost_ret (results_none rfl _ _ _) rfl ?_
  all_goals exact ⟨rfl, H3.out, O3.out⟩
set_option maxRecDepth 100000 in
set_option maxHeartbeats 1000000 in
theorem try1_deque_next {bd : Nat} {o : Dop} {rest : List Src} {s : Src} {sv : Value} {R : World → Prop} (hxs : IBox w xs 73 p) (hxo : OBox w xo co) (hxq : QBox w xq sv) (hs : SrcsAt w cb sv (s :: rest)) (hp : DopIs w p bd o) (ho : o.out ≠ 1)
    (hk : ∀ w1 sv', Only S0 w w1 → SrcsAt w1 cb sv' rest → Calls Try.prog 43 #[.pointer (some ⟨co, 0, none⟩), sv'] w1 fun e w' => e = .returned (.tuple #[]) ∧ R w') :
    Calls Try.prog 65 #[.pointer (some ⟨xs, 0, none⟩), .pointer (some ⟨xo, 0, none⟩), .pointer (some ⟨xq, 0, none⟩)] w fun e w' => e = .returned (.tuple #[]) ∧ R w' := by
  have c0 := hxs.c0
  have hb : (o.out == 1) = false := by simp [ho]
  have HP := hide hp
  have HXO := hide hxo
  have HXQ := hide hxq
  have HK := Lib.hid hk
  have m1 := meth_deque_Outcome
  have m2 := nila_deque_Outcome
  obtain ⟨a, cap, rfl, hcap, hx⟩ := hs.ex
  obtain ⟨g, off, cs, rfl, hblk, hx⟩ := hx (by simp)
  simp only [List.length_cons] at hcap HXQ
  have hnext : ∀ a', (rest ≠ [] → a' = some ⟨g, off + 1, none⟩) → SrcsAt w.drew cb (.slice a' rest.length (cap - 1)) rest := fun a' ha => ⟨a', cap - 1, rfl, by omega, fun hne => ⟨g, off + 1, cs, ha hne, hblk, fun i s hi => by
    obtain ⟨v, h1, h2⟩ := hx (i + 1) s hi
    exact ⟨v, by rw [show off + 1 + i = off + (i + 1) by omega]; exact h1, h2⟩⟩⟩
  have HN := hide hnext
  clear hxs hxo hxq hs hp ho hk hx hblk hnext
  have hc1 : cap = 1 ∨ 1 < cap := by omega
  rcases hc1 with hc1 | hc1
  · have hr0 : rest = [] := List.eq_nil_of_length_eq_zero (by omega)
    subst hr0
    subst hc1
    go_enter Try.func65, Try.ntmps65
    go_wp2_with fail
    refine (HP.out.outcome).mono ?_
    rintro e w1 ⟨rfl, rfl⟩
    clear m1 m2
    go_upto_region 2 with fail
    have z0 := HXO.out.drew.c0
    have z1 := HXQ.out.drew.c0
    go_still_tail 3, (by kernel_rfl)
    go_wp2_with fail
    refine (HK.out w.drew _ (Only.refl S0 w).drew (HN.out _ (fun h => by first | exact absurd rfl h | rfl))).mono ?_
    rintro e w2 ⟨rfl, h2⟩
    have H2 := hide h2
    clear h2
    go_wp2_with fail
    all_goals go_end0
    all_goals exact ⟨rfl, H2.out⟩
  · have hle : (1:Int) ≤ (rest.length:Int) + 1 := by omega
    have hcn : ¬ cap = 1 := by omega
    go_enter Try.func65, Try.ntmps65
    go_wp2_with fail
    refine (HP.out.outcome).mono ?_
    rintro e w1 ⟨rfl, rfl⟩
    clear m1 m2
    go_upto_region 2 with fail
    have z0 := HXO.out.drew.c0
    have z1 := HXQ.out.drew.c0
    go_still_tail 3, (by kernel_rfl)
    go_wp2_with fail
    refine (HK.out w.drew _ (Only.refl S0 w).drew (HN.out _ (fun h => by first | exact absurd rfl h | rfl))).mono ?_
    rintro e w2 ⟨rfl, h2⟩
    have H2 := hide h2
    clear h2
    go_wp2_with fail
    all_goals go_end0
    all_goals exact ⟨rfl, H2.out⟩
set_option maxRecDepth 100000 in
set_option maxHeartbeats 1000000 in
theorem try1_gate_done {bg : Nat} {o : Gop} (hxs : IBox w xs 82 p) (hxo : OBox w xo co) (hp : GopIs w p bg o) (ho : o.out = 1) (h : CopAt w co cb cur thn out val) :
    Calls Try.prog 65 #[.pointer (some ⟨xs, 0, none⟩), .pointer (some ⟨xo, 0, none⟩), .pointer (some ⟨xq, 0, none⟩)] w fun e w' => e = .returned (.tuple #[]) ∧ CopAt w' co cb cur thn 1 (gvalue o.ahead o.v o.out) ∧ Only (S1 co) w w' := by
  have c0 := hxs.c0
  have hb : (o.out == 1) = true := by rw [ho]; rfl
  have HP := hide hp
  have H := hide h
  have HXO := hide hxo
  have HXS := hide hxs
  have n1 : xo ≠ co := fun e => Blk.ne_ hxo h (by decide) e
  have n2 : xs ≠ co := fun e => Blk.ne_ hxs h (by decide) e
  have m1 := meth_gate_Outcome
  have m2 := nila_gate_Outcome
  have m3 := meth_gate_Value
  have m4 := nila_gate_Value
  clear hxs hxo hp h ho
  go_enter Try.func65, Try.ntmps65
  go_wp2_with fail
  refine (HP.out.outcome).mono ?_
  rintro e w1 ⟨rfl, rfl⟩
  go_upto_region 1 with fail
  have z0 := HXO.out.drew.c0
  have z1 := HXS.out.drew.c0
  go_region_held3 (fun w' : World => w'.cell? ⟨xo, 0, none⟩ = some (.pointer (some ⟨co, 0, none⟩)) ∧ w'.cell? ⟨xs, 0, none⟩ = some (.iface 82 (.pointer (some ⟨p, 0, none⟩)))) (first | with_reducible exact ⟨z0, z1⟩ | with_reducible exact ⟨y0, y1⟩) (first | (go_at_call 51; refine (GopIs.value (show GopIs w.drew p bg o from HP.out)).mono ?_; rintro e w2 ⟨rfl, rfl⟩) | (go_at_call 48; refine (CEnd_any _ _ H.out.drew).mono ?_; rintro e w3 ⟨rfl, h3, o3⟩; have H3 := hide h3; have y0 := (HXO.out.drew.only o3 n1).c0; have y1 := (HXS.out.drew.only o3 n2).c0; have O3 := hide (((Only.refl (S1 co) w).drew).trans o3); clear h3 o3))
  clear m1 m2 m3 m4
  go_wp2_with fail
  all_goals refine bodyPost_ret (results_none rfl _ _ _) rfl ?_
  all_goals exact ⟨rfl, H3.out, O3.out⟩
set_option maxRecDepth 100000 in
set_option maxHeartbeats 1000000 in
theorem try1_gate_next {bg : Nat} {o : Gop} {rest : List Src} {s : Src} {sv : Value} {R : World → Prop} (hxs : IBox w xs 82 p) (hxo : OBox w xo co) (hxq : QBox w xq sv) (hs : SrcsAt w cb sv (s :: rest)) (hp : GopIs w p bg o) (ho : o.out ≠ 1)
    (hk : ∀ w1 sv', Only S0 w w1 → SrcsAt w1 cb sv' rest → Calls Try.prog 43 #[.pointer (some ⟨co, 0, none⟩), sv'] w1 fun e w' => e = .returned (.tuple #[]) ∧ R w') :
    Calls Try.prog 65 #[.pointer (some ⟨xs, 0, none⟩), .pointer (some ⟨xo, 0, none⟩), .pointer (some ⟨xq, 0, none⟩)] w fun e w' => e = .returned (.tuple #[]) ∧ R w' := by
  have c0 := hxs.c0
  have hb : (o.out == 1) = false := by simp [ho]
  have HP := hide hp
  have HXO := hide hxo
  have HXQ := hide hxq
  have HK := Lib.hid hk
  have m1 := meth_gate_Outcome
  have m2 := nila_gate_Outcome
  obtain ⟨a, cap, rfl, hcap, hx⟩ := hs.ex
  obtain ⟨g, off, cs, rfl, hblk, hx⟩ := hx (by simp)
  simp only [List.length_cons] at hcap HXQ
  have hnext : ∀ a', (rest ≠ [] → a' = some ⟨g, off + 1, none⟩) → SrcsAt w.drew cb (.slice a' rest.length (cap - 1)) rest := fun a' ha => ⟨a', cap - 1, rfl, by omega, fun hne => ⟨g, off + 1, cs, ha hne, hblk, fun i s hi => by
    obtain ⟨v, h1, h2⟩ := hx (i + 1) s hi
    exact ⟨v, by rw [show off + 1 + i = off + (i + 1) by omega]; exact h1, h2⟩⟩⟩
  have HN := hide hnext
  clear hxs hxo hxq hs hp ho hk hx hblk hnext
  have hc1 : cap = 1 ∨ 1 < cap := by omega
  rcases hc1 with hc1 | hc1
  · have hr0 : rest = [] := List.eq_nil_of_length_eq_zero (by omega)
    subst hr0
    subst hc1
    go_enter Try.func65, Try.ntmps65
    go_wp2_with fail
    refine (HP.out.outcome).mono ?_
    rintro e w1 ⟨rfl, rfl⟩
    clear m1 m2
    go_upto_region 2 with fail
    have z0 := HXO.out.drew.c0
    have z1 := HXQ.out.drew.c0
    go_still_tail 3, (by kernel_rfl)
    go_wp2_with fail
    refine (HK.out w.drew _ (Only.refl S0 w).drew (HN.out _ (fun h => by first | exact absurd rfl h | rfl))).mono ?_
    rintro e w2 ⟨rfl, h2⟩
    have H2 := hide h2
    clear h2
    go_wp2_with fail
    all_goals go_end0
    all_goals exact ⟨rfl, H2.out⟩
  · have hle : (1:Int) ≤ (rest.length:Int) + 1 := by omega
    have hcn : ¬ cap = 1 := by omega
    go_enter Try.func65, Try.ntmps65
    go_wp2_with fail
    refine (HP.out.outcome).mono ?_
    rintro e w1 ⟨rfl, rfl⟩
    clear m1 m2
    go_upto_region 2 with fail
    have z0 := HXO.out.drew.c0
    have z1 := HXQ.out.drew.c0
    go_still_tail 3, (by kernel_rfl)
    go_wp2_with fail
    refine (HK.out w.drew _ (Only.refl S0 w).drew (HN.out _ (fun h => by first | exact absurd rfl h | rfl))).mono ?_
    rintro e w2 ⟨rfl, h2⟩
    have H2 := hide h2
    clear h2
    go_wp2_with fail
    all_goals go_end0
    all_goals exact ⟨rfl, H2.out⟩
end
end Go.Proofs.Ytdoaipjdldknaaa
/-
  Package crew: of, what an operation of a worker begins with.
-/
namespace Go.Proofs.Ytdoaipjdldknaaa
open Go.RowKit
set_option linter.unusedVariables false
/-- The cells of an operation that has begun nothing. -/
def cop0 (cb : Nat) : Array Value := #[.nilIface, .nilFunc, .int .i64 0, .int .u64 0, .pointer (some ⟨cb, 0, none⟩)]
section
variable {w : World} {cb bb bg : Nat} {dv : Value} {n : Nat} {bd : Nat → Nat} {wk : Int}
theorem of_in (hc : CrewAt w cb bb bg dv) (hd : DqsAt w dv n bd) (h0 : 0 ≤ wk) (h1 : wk < n) : Calls Try.prog 35 #[.pointer (some ⟨cb, 0, none⟩), .int .i64 wk] w fun e w' =>
    e = .returned (.tuple #[.pointer (some ⟨w.heap.size, 0, none⟩), .bool true]) ∧ w' = w.alloc (.cells (cop0 cb) 70) := by
  obtain ⟨g, cap, cs, rfl, hblk, hx⟩ := hd.ex
  have o1 := (Only.refl S0 w).alloc (.cells (cop0 cb) 70)
  have c2 := (hc.only o1 (fun h => h)).c2
  unfold cop0 at *
  clear hc hd hblk hx o1
  go_enter Try.func35, Try.ntmps35
  go_wp2_with fail
  go_ret2
  exact ⟨rfl, rfl⟩
theorem of_out (hc : CrewAt w cb bb bg dv) (hd : DqsAt w dv n bd) (h : wk < 0 ∨ (n:Int) ≤ wk) : Calls Try.prog 35 #[.pointer (some ⟨cb, 0, none⟩), .int .i64 wk] w fun e w' =>
    e = .returned (.tuple #[.pointer (some ⟨w.heap.size, 0, none⟩), .bool false]) ∧ CopAt w' w.heap.size cb .nilIface .nilFunc 4 0 ∧ Only S0 w w' := by
  obtain ⟨g, cap, cs, rfl, hblk, hx⟩ := hd.ex
  have o1 := (Only.refl S0 w).alloc (.cells (cop0 cb) 70)
  have c2 := (hc.only o1 (fun h => h)).c2
  have hn := Blk.new w 70 (cop0 cb)
  have HN := hide (show CopAt _ w.heap.size cb .nilIface .nilFunc 0 0 from hn)
  have HO := hide o1
  unfold cop0 at *
  clear hc hd hblk hx o1 hn
  rcases h with h | h
  · have hh : ¬ (0 ≤ wk) := by omega
    go_enter Try.func35, Try.ntmps35
    go_wp2_with fail
    refine (CEnd_any 4 0 HN.out).mono ?_
    rintro e w1 ⟨rfl, h1, o1⟩
    have H1 := hide h1
    have O1 := hide (HO.out.then o1 (fun i hi h => by have h' : i = w.heap.size := h; omega))
    clear h1 o1
    go_wp2_with fail
    go_ret2
    exact ⟨rfl, H1.out, O1.out⟩
  · rcases Int.lt_or_le wk 0 with hl | hl
    · have hh : ¬ (0 ≤ wk) := by omega
      clear h
      go_enter Try.func35, Try.ntmps35
      go_wp2_with fail
      refine (CEnd_any 4 0 HN.out).mono ?_
      rintro e w1 ⟨rfl, h1, o1⟩
      have H1 := hide h1
      have O1 := hide (HO.out.then o1 (fun i hi h => by have h' : i = w.heap.size := h; omega))
      clear h1 o1
      go_wp2_with fail
      go_ret2
      exact ⟨rfl, H1.out, O1.out⟩
    · have hh : ¬ (wk < n) := by omega
      go_enter Try.func35, Try.ntmps35
      go_wp2_with fail
      refine (CEnd_any 4 0 HN.out).mono ?_
      rintro e w1 ⟨rfl, h1, o1⟩
      have H1 := hide h1
      have O1 := hide (HO.out.then o1 (fun i hi h => by have h' : i = w.heap.size := h; omega))
      clear h1 o1
      go_wp2_with fail
      go_ret2
      exact ⟨rfl, H1.out, O1.out⟩
end
end Go.Proofs.Ytdoaipjdldknaaa
/-
  Package crew: Poll.
-/
namespace Go.Proofs.Ytdoaipjdldknaaa
open Go.RowKit
set_option linter.unusedVariables false
def pollK (xo xb : Nat) : Value := .func (.func 53) #[] #[.pointer (some ⟨xo, 0, none⟩), .pointer (some ⟨xb, 0, none⟩)]
section
variable {w : World} {cb bb bg bm bc : Nat} {dv : Value} {n : Nat} {bd : Nat → Nat} {wk : Int} {bbase bn tc : Int} {L : List Int}
theorem cop_new (w : World) (cb : Nat) : CopAt (w.alloc (.cells (cop0 cb) 70)) w.heap.size cb .nilIface .nilFunc 0 0 := Blk.new w 70 (cop0 cb)
set_option maxRecDepth 100000 in
set_option maxHeartbeats 1000000 in
theorem poll_in (hc : CrewAt w cb bb bg dv) (hd : DqsAt w dv n bd) (h0 : 0 ≤ wk) (h1 : wk < n) (hbe : BellEnv w bb bm bc bbase bn tc L) (hbn : wk < bn) : Calls Try.prog 13 #[.pointer (some ⟨cb, 0, none⟩), .int .i64 wk] w fun e w' =>
    ∃ co bp xo xb, e = .returned (.pointer (some ⟨co, 0, none⟩)) ∧ CopAt w' co cb (.iface 87 (.pointer (some ⟨bp, 0, none⟩))) (pollK xo xb) 0 0 ∧ BopIs w' bp bb ⟨2, wk, 0⟩ ∧ OBox w' xo co ∧ BBox w' xb bp ∧ Only S0 w w' ∧ w.heap.size ≤ co ∧ w.heap.size ≤ bp ∧ w.heap.size ≤ xo ∧ w.heap.size ≤ xb := by
  have hob : bout0 bn wk = 0 := by unfold bout0; rw [if_pos (by omega)]
  have HOB := hide hob
  have HOF := hide (of_in hc hd h0 h1)
  have oa := (Only.refl S0 w).alloc (.cells (cop0 cb) 70)
  have ha := cop_new w cb
  have hca := hc.only oa (fun h => h)
  have hba := hbe.only0 oa
  clear hob hc hd hbe
  go_enter Try.func13, Try.ntmps13
  go_wp2_with fail
  refine (HOF.out).mono ?_
  rintro e w1 ⟨rfl, rfl⟩
  clear HOF
  have hb : w.heap.size < (w.alloc (.cells (cop0 cb) 70)).heap.size := Blk.lt ha
  generalize hw1 : w.alloc (.cells (cop0 cb) 70) = w1 at *
  generalize hco : w.heap.size = co at *
  have HB := hide hb
  have OA := hide oa
  clear hw1 hb oa
  have ob := (Only.refl S0 w1).alloc (.cells #[.pointer (some ⟨co, 0, none⟩)] 30)
  have HX := hide (show OBox _ w1.heap.size co from Blk.new w1 30 #[.pointer (some ⟨co, 0, none⟩)])
  have HA := hide (ha.only ob (fun h => h))
  have HCA := hide (hca.only ob (fun h => h))
  have cc0 := HCA.out.c0
  have HBA := hide (hba.only0 ob)
  have OB := hide ob
  clear ha hca hba ob
  go_wp2_with fail
  refine (BPoll_all wk HBA.out).mono ?_
  rintro e w2 ⟨bp, rfl, g1, e1, o1, b1⟩
  rw [HOB.out] at g1
  have OC := hide ((OB.out.trans o1).alloc (.cells #[.pointer (some ⟨bp, 0, none⟩)] 87))
  have oc := (Only.refl S0 w2).alloc (.cells #[.pointer (some ⟨bp, 0, none⟩)] 87)
  have HX2 := hide ((HX.out.only o1 (fun h => h)).only oc (fun h => h))
  have HA2 := hide ((HA.out.only o1 (fun h => h)).only oc (fun h => h))
  have HG := hide (show BopIs _ bp bb ⟨2, wk, 0⟩ from BopAt.only g1 oc (fun h => h))
  have HXB := hide (show BBox _ w2.heap.size bp from Blk.new w2 87 #[.pointer (some ⟨bp, 0, none⟩)])
  have B1 := hide (Nat.le_trans OB.out.size b1)
  have S1' := hide (Nat.le_trans OB.out.size o1.size)
  clear g1 e1 o1 b1 oc cc0
  go_upto_region 5 with fail
  have z0 := HX2.out.drew.c0
  have z1 := HXB.out.drew.c0
  have n1 : w1.heap.size ≠ co := by have := HB.out; omega
  have n2 : w2.heap.size ≠ co := by have := HB.out; have := S1'.out; omega
  generalize w2.heap.size = xb at *
  generalize w1.heap.size = xo at *
  generalize w2.alloc (.cells #[.pointer (some ⟨bp, 0, none⟩)] 87) = w2' at *
  go_region_held3 (fun w' : World => w'.cell? ⟨xo, 0, none⟩ = some (.pointer (some ⟨co, 0, none⟩)) ∧ w'.cell? ⟨xb, 0, none⟩ = some (.pointer (some ⟨bp, 0, none⟩))) (first | with_reducible exact ⟨z0, z1⟩ | with_reducible exact ⟨y0, y1⟩) (first | (go_at_call 31; refine (CDo_bell _ _ HA2.out.drew (show BopIs w2'.drew bp bb ⟨2, wk, 0⟩ from HG.out) rfl).mono ?_; rintro e w3 ⟨rfl, h3, o3⟩; have H3 := hide h3; have HX3 := hide (HX2.out.drew.only o3 n1); have HXB3 := hide (HXB.out.drew.only o3 n2); have y0 := HX3.out.c0; have y1 := HXB3.out.c0; have O3 := hide o3; clear h3 o3))
  go_wp2_with fail
  go_ret
  exact ⟨co, bp, xo, xb, rfl, H3.out, (show BopIs w3 bp bb ⟨2, wk, 0⟩ from BopAt.only (show BopIs w2'.drew bp bb ⟨2, wk, 0⟩ from HG.out) O3.out (fun e => Blk.ne_ HG.out HA2.out (by decide) e)), HX3.out, HXB3.out, (OA.out.trans OC.out).drew.then O3.out (fun i hi h => by have h' : i = co := h; omega), by omega, by have := HB.out; have := B1.out; omega, by have := HB.out; omega, by have := HB.out; have := S1'.out; omega⟩
theorem poll_out (hc : CrewAt w cb bb bg dv) (hd : DqsAt w dv n bd) (h : wk < 0 ∨ (n:Int) ≤ wk) : Calls Try.prog 13 #[.pointer (some ⟨cb, 0, none⟩), .int .i64 wk] w fun e w' =>
    ∃ co, e = .returned (.pointer (some ⟨co, 0, none⟩)) ∧ CopAt w' co cb .nilIface .nilFunc 4 0 ∧ Only S0 w w' ∧ w.heap.size ≤ co := by
  have HOF := hide (of_out hc hd h)
  clear hc hd h
  go_enter Try.func13, Try.ntmps13
  go_wp2_with fail
  refine (HOF.out).mono ?_
  rintro e w1 ⟨rfl, h1, o1⟩
  have ob := (Only.refl S0 w1).alloc (.cells #[.pointer (some ⟨w.heap.size, 0, none⟩)] 30)
  have HX := hide (show OBox _ w1.heap.size w.heap.size from Blk.new w1 30 #[.pointer (some ⟨w.heap.size, 0, none⟩)])
  have z0 := HX.out.c0
  have H1 := hide (h1.only ob (fun h => h))
  have O1 := hide (o1.trans ob)
  clear HOF h1 o1 ob
  go_wp2_with fail
  go_ret
  exact ⟨w.heap.size, rfl, H1.out, O1.out, Nat.le_refl _⟩
end
end Go.Proofs.Ytdoaipjdldknaaa
/-
  Package crew: Rest.
-/
namespace Go.Proofs.Ytdoaipjdldknaaa
open Go.RowKit
set_option linter.unusedVariables false
def rest1K (xc xo xw : Nat) : Value := .func (.func 45) #[] #[.pointer (some ⟨xc, 0, none⟩), .pointer (some ⟨xo, 0, none⟩), .pointer (some ⟨xw, 0, none⟩)]
section
variable {w : World} {cb bb bg bm bc : Nat} {dv : Value} {n : Nat} {bd : Nat → Nat} {wk : Int} {bbase bn tc : Int} {L : List Int}
/-- Two boxes at once. -/
theorem two_new (w : World) (cb : Nat) (wk : Int) : CBox ((w.alloc (.cells #[.pointer (some ⟨cb, 0, none⟩)] 27)).alloc (.cells #[.int .i64 wk] 3)) w.heap.size cb ∧ WBox ((w.alloc (.cells #[.pointer (some ⟨cb, 0, none⟩)] 27)).alloc (.cells #[.int .i64 wk] 3)) (w.heap.size + 1) wk := by
  refine ⟨(Blk.new w 27 #[.pointer (some ⟨cb, 0, none⟩)]).alloc _, ?_⟩
  have h := Blk.new (w.alloc (.cells #[.pointer (some ⟨cb, 0, none⟩)] 27)) 3 #[.int .i64 wk]
  simpa [WBox] using h
set_option maxRecDepth 100000 in
set_option maxHeartbeats 1000000 in
theorem rest_in (hc : CrewAt w cb bb bg dv) (hd : DqsAt w dv n bd) (h0 : 0 ≤ wk) (h1 : wk < n) (hbe : BellEnv w bb bm bc bbase bn tc L) (hbn : wk < bn) : Calls Try.prog 12 #[.pointer (some ⟨cb, 0, none⟩), .int .i64 wk] w fun e w' =>
    ∃ co bp xc xo xw, e = .returned (.pointer (some ⟨co, 0, none⟩)) ∧ CopAt w' co cb (.iface 87 (.pointer (some ⟨bp, 0, none⟩))) (rest1K xc xo xw) 0 0 ∧ BopIs w' bp bb ⟨0, wk, 0⟩ ∧ CBox w' xc cb ∧ OBox w' xo co ∧ WBox w' xw wk ∧ Only S0 w w' ∧ w.heap.size ≤ co ∧ w.heap.size ≤ bp ∧ w.heap.size ≤ xc ∧ w.heap.size ≤ xo ∧ w.heap.size ≤ xw := by
  have hob : bout0 bn wk = 0 := by unfold bout0; rw [if_pos (by omega)]
  have HOB := hide hob
  have o2 := ((Only.refl S0 w).alloc (.cells #[.pointer (some ⟨cb, 0, none⟩)] 27)).alloc (.cells #[.int .i64 wk] 3)
  have hxc := (two_new w cb wk).1
  have hxw := (two_new w cb wk).2
  have h2 := hc.only o2 (fun h => h)
  have hd2 := hd.only0 o2
  have hb2 := hbe.only0 o2
  have hsz : ((w.alloc (.cells #[.pointer (some ⟨cb, 0, none⟩)] 27)).alloc (.cells #[.int .i64 wk] 3)).heap.size = w.heap.size + 2 := by simp
  have HO2 := hide o2
  clear hc hd hbe o2 hob
  generalize hw2 : (w.alloc (.cells #[.pointer (some ⟨cb, 0, none⟩)] 27)).alloc (.cells #[.int .i64 wk] 3) = w2 at *
  have HSZ := hide hsz
  have HOF := hide (of_in h2 hd2 h0 h1)
  have oa := (Only.refl S0 w2).alloc (.cells (cop0 cb) 70)
  have ha := cop_new w2 cb
  have hxca := hxc.only oa (fun h => h)
  have hxwa := hxw.only oa (fun h => h)
  have hca := h2.only oa (fun h => h)
  have hba := hb2.only0 oa
  have y0 := hxc.c0
  have y1 := hxw.c0
  have HW2 := hide hw2
  clear hsz h2 hd2 hb2 hxc hxw
  subst hw2
  go_enter Try.func12, Try.ntmps12
  go_wp2_with fail
  refine (HOF.out).mono ?_
  rintro e w1 ⟨rfl, rfl⟩
  clear HOF
  have hb := Blk.lt ha
  have HAX := hide hxca
  generalize ((w.alloc (.cells #[.pointer (some ⟨cb, 0, none⟩)] 27)).alloc (.cells #[.int .i64 wk] 3)).alloc (.cells (cop0 cb) 70) = w1 at *
  generalize hco : ((w.alloc (.cells #[.pointer (some ⟨cb, 0, none⟩)] 27)).alloc (.cells #[.int .i64 wk] 3)).heap.size = co at *
  generalize hxc' : w.heap.size = xc at *
  generalize hxw' : xc + 1 = xw at *
  have HCO := hide hco
  have HB := hide hb
  have HQ := hide (And.intro hxc' hxw')
  have OA := hide oa
  clear HW2 hb oa hco hxc' hxw' y0 y1 HAX
  have ob := (Only.refl S0 w1).alloc (.cells #[.pointer (some ⟨co, 0, none⟩)] 30)
  have HX := hide (show OBox _ w1.heap.size co from Blk.new w1 30 #[.pointer (some ⟨co, 0, none⟩)])
  have HA := hide (ha.only ob (fun h => h))
  have HC := hide (hca.only ob (fun h => h))
  have HXC := hide (hxca.only ob (fun h => h))
  have HXW := hide (hxwa.only ob (fun h => h))
  have HE := hide (hba.only0 ob)
  have OB := hide ob
  clear ha hca hba hxca hxwa ob
  go_upto_region 4 with fail
  have hxo := Blk.lt HA.out
  have n1 : w1.heap.size ≠ co := by have := HB.out; omega
  have n2 : cb ≠ co := fun e => Blk.ne_ HC.out HA.out (by decide) e
  have n3 : xc ≠ co := fun e => Blk.ne_ HXC.out HA.out (by decide) e
  have n4 : xw ≠ co := fun e => Blk.ne_ HXW.out HA.out (by decide) e
  have OB2 := hide OB.out.size
  clear hxo
  generalize w1.heap.size = xo at *
  generalize w1.alloc (.cells #[.pointer (some ⟨co, 0, none⟩)] 30) = w3 at *
  have z0 := HX.out.drew.c0
  have z1 := HXC.out.drew.c0
  have z2 := HC.out.drew.c0
  have z3 := HXW.out.drew.c0
  go_region_held3 (fun w' : World => w'.cell? ⟨xo, 0, none⟩ = some (.pointer (some ⟨co, 0, none⟩)) ∧ w'.cell? ⟨xc, 0, none⟩ = some (.pointer (some ⟨cb, 0, none⟩)) ∧ w'.cell? ⟨cb, 0, none⟩ = some (.pointer (some ⟨bb, 0, none⟩)) ∧ w'.cell? ⟨xw, 0, none⟩ = some (.int .i64 wk)) (first | with_reducible exact ⟨z0, z1, z2, z3⟩ | with_reducible exact ⟨y0, y1, y2, y3⟩ | with_reducible exact ⟨q0, q1, q2, q3⟩) (first | (go_at_call 44; refine (BSleep_all wk (HE.out.only0 (Only.refl S0 w3).drew)).mono ?_; rintro e w4 ⟨bp, rfl, g1, e1, o1, b1⟩; rw [HOB.out] at g1; have HX2 := hide (HX.out.drew.only o1 (fun h => h)); have HXC2 := hide (HXC.out.drew.only o1 (fun h => h)); have HC2 := hide (HC.out.drew.only o1 (fun h => h)); have HXW2 := hide (HXW.out.drew.only o1 (fun h => h)); have HA2 := hide (HA.out.drew.only o1 (fun h => h)); have y0 := HX2.out.c0; have y1 := HXC2.out.c0; have y2 := HC2.out.c0; have y3 := HXW2.out.c0; have G1 := hide g1; have O1 := hide (((Only.refl S0 w3).drew).trans o1); have B1 := hide (show w3.heap.size ≤ bp from b1); clear g1 e1 o1 b1) | (go_at_call 31; refine (CDo_bell _ _ HA2.out G1.out rfl).mono ?_; rintro e w5 ⟨rfl, h3, o3⟩; have H3 := hide h3; have HX3 := hide (HX2.out.only o3 n1); have HXC3 := hide (HXC2.out.only o3 n3); have HC3 := hide (HC2.out.only o3 n2); have HXW3 := hide (HXW2.out.only o3 n4); have q0 := HX3.out.c0; have q1 := HXC3.out.c0; have q2 := HC3.out.c0; have q3 := HXW3.out.c0; have G3 := hide (show BopIs w5 bp bb ⟨0, wk, 0⟩ from BopAt.only G1.out o3 (fun e => Blk.ne_ G1.out HA2.out (by decide) e)); have O3 := hide ((O1.out.mono (R := S1 co) fun _ h => h.elim).trans o3); clear h3 o3))
  go_wp2_with fail
  all_goals go_ret
  all_goals exact ⟨co, bp, xc, xo, xw, rfl, H3.out, G3.out, HXC3.out, HX3.out, HXW3.out, (((HO2.out.trans OA.out).trans OB.out).then O3.out (fun i hi h => by have h' : i = co := h; have := HQ.out; have := HSZ.out; omega)), by have := HQ.out; have := HSZ.out; omega, by have := HQ.out; have := HSZ.out; have := HB.out; have := OB2.out; have := B1.out; omega, by have := HQ.out; omega, by have := HQ.out; have := HSZ.out; have := HB.out; omega, by have := HQ.out; omega⟩
theorem rest_out (hc : CrewAt w cb bb bg dv) (hd : DqsAt w dv n bd) (h : wk < 0 ∨ (n:Int) ≤ wk) : Calls Try.prog 12 #[.pointer (some ⟨cb, 0, none⟩), .int .i64 wk] w fun e w' =>
    ∃ co, e = .returned (.pointer (some ⟨co, 0, none⟩)) ∧ CopAt w' co cb .nilIface .nilFunc 4 0 ∧ Only S0 w w' ∧ w.heap.size ≤ co := by
  have o2 := ((Only.refl S0 w).alloc (.cells #[.pointer (some ⟨cb, 0, none⟩)] 27)).alloc (.cells #[.int .i64 wk] 3)
  have y0 := (two_new w cb wk).1.c0
  have y1 := (two_new w cb wk).2.c0
  have HOF := hide (of_out (hc.only o2 (fun h => h)) (hd.only0 o2) h)
  have HO2 := hide o2
  have hsz : w.heap.size ≤ ((w.alloc (.cells #[.pointer (some ⟨cb, 0, none⟩)] 27)).alloc (.cells #[.int .i64 wk] 3)).heap.size := o2.size
  have HSZ := hide hsz
  clear hc hd h o2 hsz
  go_enter Try.func12, Try.ntmps12
  go_wp2_with fail
  refine (HOF.out).mono ?_
  rintro e w1 ⟨rfl, h1, o1⟩
  clear HOF y0 y1
  generalize ((w.alloc (.cells #[.pointer (some ⟨cb, 0, none⟩)] 27)).alloc (.cells #[.int .i64 wk] 3)).heap.size = co at *
  have ob := (Only.refl S0 w1).alloc (.cells #[.pointer (some ⟨co, 0, none⟩)] 30)
  have HX := hide (show OBox _ w1.heap.size co from Blk.new w1 30 #[.pointer (some ⟨co, 0, none⟩)])
  have z0 := HX.out.c0
  have H1 := hide (h1.only ob (fun h => h))
  have O1 := hide ((HO2.out.trans o1).trans ob)
  clear h1 o1 ob
  go_wp2_with fail
  go_ret
  exact ⟨co, rfl, H1.out, O1.out, HSZ.out⟩
end
end Go.Proofs.Ytdoaipjdldknaaa
/-
  Package crew: Offer.
-/
namespace Go.Proofs.Ytdoaipjdldknaaa
open Go.RowKit
set_option linter.unusedVariables false
def offerK (xp xo xv : Nat) : Value := .func (.func 32) #[] #[.pointer (some ⟨xp, 0, none⟩), .pointer (some ⟨xo, 0, none⟩), .pointer (some ⟨xv, 0, none⟩)]
section
variable {w : World} {cb bb bg bm bc : Nat} {dv : Value} {n : Nat} {bd : Nat → Nat} {wk : Int} {gbase ga dbase slots tc : Int} {L : List Int}
/-- The number's box, the operation, its box. -/
def three (w : World) (cb : Nat) (v : Int) : World := ((w.alloc (.cells #[.int .u64 v] 31)).alloc (.cells (cop0 cb) 70)).alloc (.cells #[.pointer (some ⟨w.heap.size + 1, 0, none⟩)] 30)
theorem three_v (w : World) (cb : Nat) (v : Int) : VBox (three w cb v) w.heap.size v := ((Blk.new w 31 #[.int .u64 v]).alloc _).alloc _
theorem three_o (w : World) (cb : Nat) (v : Int) : CopAt (three w cb v) (w.heap.size + 1) cb .nilIface .nilFunc 0 0 := by
  have h := (Blk.new (w.alloc (.cells #[.int .u64 v] 31)) 70 (cop0 cb)).alloc (.cells #[.pointer (some ⟨w.heap.size + 1, 0, none⟩)] 30)
  have e : (w.alloc (.cells #[.int .u64 v] 31)).heap.size = w.heap.size + 1 := by simp
  rw [e] at h
  exact h
theorem three_x (w : World) (cb : Nat) (v : Int) : OBox (three w cb v) (w.heap.size + 2) (w.heap.size + 1) := by
  have h := Blk.new ((w.alloc (.cells #[.int .u64 v] 31)).alloc (.cells (cop0 cb) 70)) 30 #[.pointer (some ⟨w.heap.size + 1, 0, none⟩)]
  have e : ((w.alloc (.cells #[.int .u64 v] 31)).alloc (.cells (cop0 cb) 70)).heap.size = w.heap.size + 2 := by simp
  rw [e] at h
  exact h
theorem three_only (w : World) (cb : Nat) (v : Int) : Only S0 w (three w cb v) := (((Only.refl S0 w).alloc _).alloc _).alloc _
set_option maxRecDepth 100000 in
set_option maxHeartbeats 1000000 in
theorem offer_neg (v : Int) (hc : CrewAt w cb bb bg dv) (h : wk < 0) (he : GateEnv w bg bm bc gbase ga tc L) : Calls Try.prog 10 #[.pointer (some ⟨cb, 0, none⟩), .int .i64 wk, .int .u64 v] w fun e w' =>
    ∃ w1, e = .returned (.pointer (some ⟨w.heap.size + 1, 0, none⟩)) ∧ Only S0 w w1 ∧ w.heap.size + 2 ≤ w1.heap.size ∧ Entered w1 w' (w.heap.size + 1) cb bg gbase v 0 := by
  have o3 := three_only w cb v
  have hx := three_x w cb v
  have hv := three_v w cb v
  have hco := three_o w cb v
  have hcc := hc.only o3 (fun h => h)
  have hge := he.only0 o3
  have z0 := hx.c0
  have z1 := hv.c0
  clear hc he
  have HC := hide hcc
  have HG := hide hge
  have HO := hide o3
  have HX := hide hx
  have HV := hide hv
  have HCO := hide hco
  clear hcc hge o3 hx hv hco
  unfold three at z0 z1
  unfold cop0 at z0 z1
  go_enter Try.func10, Try.ntmps10
  go_wp2_with fail
  refine (enter_any v HCO.out HC.out HG.out).mono ?_
  rintro e w1 ⟨rfl, h1⟩
  have H1 := hide h1
  obtain ⟨gp, xp, xo, xv, ht, hg, hp, hxo, hvv, ho, hh⟩ := h1
  have q0 := (HX.out.only ho (fun e => by have e' : w.heap.size + 2 = w.heap.size + 1 := e; omega)).c0
  clear ht hg hp hxo hvv ho hh
  go_wp2_with fail
  refine bodyPost_ret (results_tmp rfl _ _ _) rfl ?_
  exact ⟨_, rfl, HO.out, Nat.le_of_lt (Blk.lt HX.out), H1.out⟩
set_option maxRecDepth 100000 in
set_option maxHeartbeats 1000000 in
theorem offer_big (v : Int) (hc : CrewAt w cb bb bg dv) (hd : DqsAt w dv n bd) (h : (n:Int) ≤ wk) (he : GateEnv w bg bm bc gbase ga tc L) : Calls Try.prog 10 #[.pointer (some ⟨cb, 0, none⟩), .int .i64 wk, .int .u64 v] w fun e w' =>
    ∃ w1, e = .returned (.pointer (some ⟨w.heap.size + 1, 0, none⟩)) ∧ Only S0 w w1 ∧ w.heap.size + 2 ≤ w1.heap.size ∧ Entered w1 w' (w.heap.size + 1) cb bg gbase v 0 := by
  obtain ⟨g, cap, cs, rfl, hblk, hx⟩ := hd.ex
  clear hblk hx hd
  have hh : ¬ (wk < 0) := by omega
  have o3 := three_only w cb v
  have hx := three_x w cb v
  have hv := three_v w cb v
  have hco := three_o w cb v
  have hcc := hc.only o3 (fun h => h)
  have hge := he.only0 o3
  have z0 := hx.c0
  have z1 := hv.c0
  have z2 := hcc.c2
  clear hc he
  have HC := hide hcc
  have HG := hide hge
  have HO := hide o3
  have HX := hide hx
  have HV := hide hv
  have HCO := hide hco
  clear hcc hge o3 hx hv hco
  unfold three at z0 z1 z2
  unfold cop0 at z0 z1 z2
  go_enter Try.func10, Try.ntmps10
  go_wp2_with fail
  refine (enter_any v HCO.out HC.out HG.out).mono ?_
  rintro e w1 ⟨rfl, h1⟩
  have H1 := hide h1
  obtain ⟨gp, xp, xo, xv, ht, hg, hp, hxo, hvv, ho, hh⟩ := h1
  have q0 := (HX.out.only ho (fun e => by have e' : w.heap.size + 2 = w.heap.size + 1 := e; omega)).c0
  clear ht hg hp hxo hvv ho hh
  go_wp2_with fail
  refine bodyPost_ret (results_tmp rfl _ _ _) rfl ?_
  exact ⟨_, rfl, HO.out, Nat.le_of_lt (Blk.lt HX.out), H1.out⟩
/-- A number offered to a worker's own deque. -/
def Offered (w w' : World) (co cb bd : Nat) (v : Int) : Prop := ∃ p xp xo xv, CopAt w' co cb (.iface 73 (.pointer (some ⟨p, 0, none⟩))) (offerK xp xo xv) 0 0 ∧ DopIs w' p bd (pushOp v) ∧ DBox w' xp p ∧ OBox w' xo co ∧ VBox w' xv v ∧ Only S0 w w' ∧ w.heap.size ≤ co ∧ w.heap.size ≤ p ∧ w.heap.size ≤ xp ∧ w.heap.size ≤ xo ∧ w.heap.size ≤ xv
set_option maxRecDepth 100000 in
set_option maxHeartbeats 2000000 in
theorem offer_in {i : Nat} (v : Int) (hc : CrewAt w cb bb bg dv) (hd : DqsAt w dv n bd) (hi : i < n) (hn : n ≤ 1000) (he : DeqEnv w (bd i) bm bc dbase slots tc L) : Calls Try.prog 10 #[.pointer (some ⟨cb, 0, none⟩), .int .i64 (i:Int), .int .u64 v] w fun e w' =>
    ∃ co, e = .returned (.pointer (some ⟨co, 0, none⟩)) ∧ Offered w w' co cb (bd i) v := by
  obtain ⟨g, cap, cs, rfl, hblk, hcell⟩ := hd.ex
  have o3 := three_only w cb v
  have hx := three_x w cb v
  have hv := three_v w cb v
  have hco := three_o w cb v
  have hcc := hc.only o3 (fun h => h)
  have hbb := hblk.only o3 (fun h => h)
  have hge := he.only0 o3
  have hg0 := (o3.cell (p := ⟨g, i, none⟩) hblk.lt (fun h => h)).trans (hcell i hi)
  have z0 := hx.c0
  have z1 := hv.c0
  have z2 := hcc.c2
  have hi0 : ¬ ((i : Int) < 0) := by omega
  have hi1 : ¬ ((n : Int) ≤ (i : Int)) := by omega
  have hi2 : (0 : Int) ≤ (i : Int) := by omega
  have hi3 : (i : Int) < n := by omega
  clear hc he hd hcell hblk
  have HC := hide hcc
  have HE := hide hge
  have HO := hide o3
  have HX := hide hx
  have HV := hide hv
  have HCO := hide hco
  have HBB := hide hbb
  have HG0 := hide hg0
  have hl := Blk.lt hx
  have HL := hide hl
  clear hcc hge o3 hx hv hco hbb hg0 hl
  unfold three at z0 z1 z2
  unfold cop0 at z0 z1 z2
  go_enter Try.func10, Try.ntmps10
  go_upto_region 5 with fail
  clear z0 z1 z2
  have h3 : (((w.alloc (.cells #[.int .u64 v] 31)).alloc (.cells #[.nilIface, .nilFunc, .int .i64 0, .int .u64 0, .pointer (some ⟨cb, 0, none⟩)] 70)).alloc (.cells #[.pointer (some ⟨w.heap.size + 1, 0, none⟩)] 30)) = three w cb v := rfl
  rw [h3]
  clear h3
  generalize three w cb v = w1 at *
  generalize hxv : w.heap.size = xv at *
  generalize hco : xv + 1 = co at *
  have hX : OBox w1 (co + 1) co := by have := HX.out; rwa [show xv + 2 = co + 1 by omega] at this
  generalize hxo : co + 1 = xo at *
  have HXX := hide hX
  have HQ := hide (And.intro hxv (And.intro hco hxo))
  clear hX HX hxv hco hxo
  go_cut [8] (fun v8 wx => ∃ gp xp, v8 = .pointer (some ⟨xp, 0, none⟩) ∧ DopIs wx gp (bd i) (pushOp v) ∧ DBox wx xp gp ∧ Only S0 w1 wx ∧ w1.heap.size ≤ gp ∧ w1.heap.size ≤ xp)
  case first =>
    have Z := hide (And.intro HV.out.c0 (And.intro HC.out.c2 (And.intro HXX.out.c0 HG0.out)))
    have b0 := Blk.lt HV.out
    have b4 := Blk.lt HC.out
    have b5 := Blk.lt HXX.out
    have b6 := Blk.lt HBB.out
    have hoA : Only S0 w1 ((w1.alloc (.cells #[.pointer none] 73)).drew) := ((Only.refl S0 w1).alloc _).drew
    have hbA : Blk ((w1.alloc (.cells #[.pointer none] 73)).drew) w1.heap.size 73 #[.pointer none] := (Blk.new w1 _ _).drew
    have HOA := hide hoA
    have HBA := hide hbA
    clear hoA hbA
    go_region_held3 (fun w' : World => w'.cell? ⟨xv, 0, none⟩ = some (.int .u64 v) ∧ w'.cell? ⟨cb, 2, none⟩ = some (.slice (some ⟨g, 0, none⟩) n cap) ∧ w'.cell? ⟨xo, 0, none⟩ = some (.pointer (some ⟨co, 0, none⟩)) ∧ w'.cell? ⟨g, i, none⟩ = some (.pointer (some ⟨bd i, 0, none⟩))) (first | with_reducible exact hold4 Z.out b0 b4 b5 b6 (Only.refl S0 w1).drew | with_reducible exact hold4 Z.out b0 b4 b5 b6 ((Only.refl S0 w1).alloc _).drew | with_reducible exact hold4 Z.out b0 b4 b5 b6 O1.out | with_reducible exact hold4 Z.out b0 b4 b5 b6 (O1.out.alloc _) | with_reducible exact hold4 Z.out b0 b4 b5 b6 (O1.out.setNew 0 (Nat.le_refl _) _) | with_reducible exact hold4 Z.out b0 b4 b5 b6 ((O1.out.alloc _).setNew 0 O1.out.size _)) (first | (go_at_call 30; (with_reducible refine (DPush_all (HE.out.only0 (Only.refl S0 w1).drew) v).mono ?_); rintro e w2 ⟨gp, rfl, g1, e1, o1, b1⟩; have O1 := hide ((Only.refl S0 w1).drew.trans o1); have G1 := hide g1; have WAY : gp = gp := rfl; clear g1 e1 o1) | (go_at_call 30; (with_reducible refine (DPush_all (HE.out.only0 HOA.out) v).mono ?_); rintro e w2 ⟨gp, rfl, g1, e1, o1, b1⟩; have O1 := hide (HOA.out.trans o1); have G1 := hide g1; have BX := hide (HBA.out.only o1 (fun h => h)); have q0 : w2.cell? ⟨w1.heap.size, 0, none⟩ = some (.pointer none) := Blk.cellv BX.out rfl; have q1 := BX.out.frozen 0; clear g1 e1 o1))
    all_goals (go_wp2_with fail; go_meet)
    all_goals first
      | exact ⟨gp, w2.heap.size, rfl, DopAt.only G1.out ((Only.refl S0 w2).alloc _) (fun h => h), Blk.new w2 _ _, O1.out.alloc _, b1, O1.out.size⟩
      | (have b1' : w1.heap.size + 1 ≤ gp := by simpa using b1
         exact ⟨gp, w1.heap.size, rfl, DopAt.only G1.out (only_set w2 w1.heap.size 0 _) (fun e => by unfold S1 at e; omega), by simpa [DBox] using BX.out.set_ 0 (.pointer (some ⟨gp, 0, none⟩)), O1.out.setNew 0 (Nat.le_refl _) _, by omega, Nat.le_refl _⟩)
  case rest =>
    obtain ⟨gp, xp, rfl, hg, hxp, ho, hb3, hb4⟩ := hcut
    have HG := hide hg
    have HP := hide hxp
    have HX2 := hide (HXX.out.only ho (fun h => h))
    have HV2 := hide (HV.out.only ho (fun h => h))
    have H2 := hide (HCO.out.only ho (fun h => h))
    have HO2 := hide (HO.out.trans ho)
    have bco := Blk.lt HCO.out
    have hgo : gp ≠ co := by omega
    have hpo : xp ≠ co := by omega
    have hxoc : xo ≠ co := by have := HQ.out; omega
    have hxvc : xv ≠ co := by have := HQ.out; omega
    have z0 := HX2.out.drew.c0
    have z1 := HP.out.drew.c0
    have HB34 := hide (And.intro hb3 (And.intro hb4 (And.intro bco HO.out.size)))
    clear hg hxp ho hb3 hb4 bco
    go_upto_region 6 with fail
    go_region_held3 (fun w' : World => w'.cell? ⟨xo, 0, none⟩ = some (.pointer (some ⟨co, 0, none⟩)) ∧ w'.cell? ⟨xp, 0, none⟩ = some (.pointer (some ⟨gp, 0, none⟩))) (first | with_reducible exact ⟨z0, z1⟩ | with_reducible exact ⟨y0, y1⟩) (first | (go_at_call 31; refine (CDo_deque _ _ H2.out.drew (show DopIs wc.drew gp (bd i) (pushOp v) from HG.out) rfl).mono ?_; rintro e w3 ⟨rfl, h3, o3⟩; have H3 := hide h3; have X3 := hide (HX2.out.drew.only o3 hxoc); have P3 := hide (HP.out.drew.only o3 hpo); have V3 := hide (HV2.out.drew.only o3 hxvc); have G3 := hide (show DopIs w3 gp (bd i) (pushOp v) from DopAt.only (show DopIs wc.drew gp (bd i) (pushOp v) from HG.out) o3 hgo); have y0 := X3.out.c0; have y1 := P3.out.c0; have O3 := hide ((HO2.out.drew).then o3 (fun j hj h => by have h' : j = co := h; have := HQ.out; omega)); clear h3 o3))
    go_wp2_with fail
    all_goals go_ret
    all_goals exact ⟨co, rfl, gp, xp, xo, xv, H3.out, G3.out, P3.out, X3.out, V3.out, O3.out, by have := HQ.out; omega, by have := HB34.out; omega, by have := HB34.out; omega, by have := HQ.out; omega, by have := HQ.out; omega⟩
end
end Go.Proofs.Ytdoaipjdldknaaa
