/-
  Package crew: what comes behind a source.
-/
import Derived.Test.YtdoaipjdldknaaaKC8
namespace Go.Proofs.Ytdoaipjdldknaaa
open Go.RowKit
set_option linter.unusedVariables false
theorem nila_deque_Outcome (n : Nat) (a : Addr) (w : World) : (nilAhead (n + 1) 73 (.pointer (some a)) "Outcome").run Try.prog w = .ok (some false) w := by kernel_rfl
theorem nila_deque_Value (n : Nat) (a : Addr) (w : World) : (nilAhead (n + 1) 73 (.pointer (some a)) "Value").run Try.prog w = .ok (some false) w := by kernel_rfl
theorem nila_gate_Outcome (n : Nat) (a : Addr) (w : World) : (nilAhead (n + 1) 82 (.pointer (some a)) "Outcome").run Try.prog w = .ok (some false) w := by kernel_rfl
theorem nila_gate_Value (n : Nat) (a : Addr) (w : World) : (nilAhead (n + 1) 82 (.pointer (some a)) "Value").run Try.prog w = .ok (some false) w := by kernel_rfl
section
variable {w w' : World} {co cb p xs xo xq : Nat} {cur thn : Value} {out val : Int}
set_option maxRecDepth 100000 in
set_option maxHeartbeats 1000000 in
theorem try1_deque_done {bd : Nat} {o : Dop} (hxs : IBox w xs 73 p) (hxo : OBox w xo co) (hp : DopIs w p bd o) (ho : o.out = 1) (h : CopAt w co cb cur thn out val) :
    Calls Try.prog 65 #[.pointer (some ⟨xs, 0, none⟩), .pointer (some ⟨xo, 0, none⟩), .pointer (some ⟨xq, 0, none⟩)] w fun e w' => e = .returned (.tuple #[]) ∧ CopAt w' co cb cur thn 1 (dvalue o.v o.out) ∧ Only (S1 co) w w' := by
  have c0 := hxs.c0
  have hb : (o.out == 1) = true := by rw [ho]; rfl
  have HP := hide hp
  have H := hide h
  have HXO := hide hxo
  have HXS := hide hxs
  have n1 : xo ≠ co := fun e => Blk.ne_ hxo h (by decide) e
  have n2 : xs ≠ co := fun e => Blk.ne_ hxs h (by decide) e
  have m1 := meth_deque_Outcome
  have m2 := nila_deque_Outcome
  have m3 := meth_deque_Value
  have m4 := nila_deque_Value
  clear hxs hxo hp h ho
  go_enter Try.func65, Try.ntmps65
  go_wp2_with fail
  refine (HP.out.outcome).mono ?_
  rintro e w1 ⟨rfl, rfl⟩
  go_upto_region 1 with fail
  have z0 := HXO.out.drew.c0
  have z1 := HXS.out.drew.c0
  go_region_held3 (fun w' : World => w'.cell? ⟨xo, 0, none⟩ = some (.pointer (some ⟨co, 0, none⟩)) ∧ w'.cell? ⟨xs, 0, none⟩ = some (.iface 73 (.pointer (some ⟨p, 0, none⟩)))) (first | with_reducible exact ⟨z0, z1⟩ | with_reducible exact ⟨y0, y1⟩) (first | (go_at_call 107; refine (DopIs.value (show DopIs w.drew p bd o from HP.out)).mono ?_; rintro e w2 ⟨rfl, rfl⟩) | (go_at_call 48; refine (CEnd_any _ _ H.out.drew).mono ?_; rintro e w3 ⟨rfl, h3, o3⟩; have H3 := hide h3; have y0 := (HXO.out.drew.only o3 n1).c0; have y1 := (HXS.out.drew.only o3 n2).c0; have O3 := hide (((Only.refl (S1 co) w).drew).trans o3); clear h3 o3))
  clear m1 m2 m3 m4
  go_wp2_with fail
  all_goals refine bodyPost_ret (results_none rfl _ _ _) rfl ?_
  all_goals exact ⟨rfl, H3.out, O3.out⟩
set_option maxRecDepth 100000 in
set_option maxHeartbeats 1000000 in
theorem try1_deque_next {bd : Nat} {o : Dop} {rest : List Src} {s : Src} {sv : Value} {R : World → Prop} (hxs : IBox w xs 73 p) (hxo : OBox w xo co) (hxq : QBox w xq sv) (hs : SrcsAt w cb sv (s :: rest)) (hp : DopIs w p bd o) (ho : o.out ≠ 1)
    (hk : ∀ w1 sv', Only S0 w w1 → SrcsAt w1 cb sv' rest → Calls Try.prog 43 #[.pointer (some ⟨co, 0, none⟩), sv'] w1 fun e w' => e = .returned (.tuple #[]) ∧ R w') :
    Calls Try.prog 65 #[.pointer (some ⟨xs, 0, none⟩), .pointer (some ⟨xo, 0, none⟩), .pointer (some ⟨xq, 0, none⟩)] w fun e w' => e = .returned (.tuple #[]) ∧ R w' := by
  have c0 := hxs.c0
  have hb : (o.out == 1) = false := by simp [ho]
  have HP := hide hp
  have HXO := hide hxo
  have HXQ := hide hxq
  have HK := Lib.hid hk
  have m1 := meth_deque_Outcome
  have m2 := nila_deque_Outcome
  obtain ⟨a, cap, rfl, hcap, hx⟩ := hs.ex
  obtain ⟨g, off, cs, rfl, hblk, hx⟩ := hx (by simp)
  simp only [List.length_cons] at hcap HXQ
  have hnext : ∀ a', (rest ≠ [] → a' = some ⟨g, off + 1, none⟩) → SrcsAt w.drew cb (.slice a' rest.length (cap - 1)) rest := fun a' ha => ⟨a', cap - 1, rfl, by omega, fun hne => ⟨g, off + 1, cs, ha hne, hblk, fun i s hi => by
    obtain ⟨v, h1, h2⟩ := hx (i + 1) s hi
    exact ⟨v, by rw [show off + 1 + i = off + (i + 1) by omega]; exact h1, h2⟩⟩⟩
  have HN := hide hnext
  clear hxs hxo hxq hs hp ho hk hx hblk hnext
  have hc1 : cap = 1 ∨ 1 < cap := by omega
  rcases hc1 with hc1 | hc1
  · have hr0 : rest = [] := List.eq_nil_of_length_eq_zero (by omega)
    subst hr0
    subst hc1
    go_enter Try.func65, Try.ntmps65
    go_wp2_with fail
    refine (HP.out.outcome).mono ?_
    rintro e w1 ⟨rfl, rfl⟩
    clear m1 m2
    go_upto_region 2 with fail
    have z0 := HXO.out.drew.c0
    have z1 := HXQ.out.drew.c0
    go_still_tail 3, (by kernel_rfl)
    go_wp2_with fail
    refine (HK.out w.drew _ (Only.refl S0 w).drew (HN.out _ (fun h => by first | exact absurd rfl h | rfl))).mono ?_
    rintro e w2 ⟨rfl, h2⟩
    have H2 := hide h2
    clear h2
    go_wp2_with fail
    all_goals go_end0
    all_goals exact ⟨rfl, H2.out⟩
  · have hle : (1:Int) ≤ (rest.length:Int) + 1 := by omega
    have hcn : ¬ cap = 1 := by omega
    go_enter Try.func65, Try.ntmps65
    go_wp2_with fail
    refine (HP.out.outcome).mono ?_
    rintro e w1 ⟨rfl, rfl⟩
    clear m1 m2
    go_upto_region 2 with fail
    have z0 := HXO.out.drew.c0
    have z1 := HXQ.out.drew.c0
    go_still_tail 3, (by kernel_rfl)
    go_wp2_with fail
    refine (HK.out w.drew _ (Only.refl S0 w).drew (HN.out _ (fun h => by first | exact absurd rfl h | rfl))).mono ?_
    rintro e w2 ⟨rfl, h2⟩
    have H2 := hide h2
    clear h2
    go_wp2_with fail
    all_goals go_end0
    all_goals exact ⟨rfl, H2.out⟩
set_option maxRecDepth 100000 in
set_option maxHeartbeats 1000000 in
theorem try1_gate_done {bg : Nat} {o : Gop} (hxs : IBox w xs 82 p) (hxo : OBox w xo co) (hp : GopIs w p bg o) (ho : o.out = 1) (h : CopAt w co cb cur thn out val) :
    Calls Try.prog 65 #[.pointer (some ⟨xs, 0, none⟩), .pointer (some ⟨xo, 0, none⟩), .pointer (some ⟨xq, 0, none⟩)] w fun e w' => e = .returned (.tuple #[]) ∧ CopAt w' co cb cur thn 1 (gvalue o.ahead o.v o.out) ∧ Only (S1 co) w w' := by
  have c0 := hxs.c0
  have hb : (o.out == 1) = true := by rw [ho]; rfl
  have HP := hide hp
  have H := hide h
  have HXO := hide hxo
  have HXS := hide hxs
  have n1 : xo ≠ co := fun e => Blk.ne_ hxo h (by decide) e
  have n2 : xs ≠ co := fun e => Blk.ne_ hxs h (by decide) e
  have m1 := meth_gate_Outcome
  have m2 := nila_gate_Outcome
  have m3 := meth_gate_Value
  have m4 := nila_gate_Value
  clear hxs hxo hp h ho
  go_enter Try.func65, Try.ntmps65
  go_wp2_with fail
  refine (HP.out.outcome).mono ?_
  rintro e w1 ⟨rfl, rfl⟩
  go_upto_region 1 with fail
  have z0 := HXO.out.drew.c0
  have z1 := HXS.out.drew.c0
  go_region_held3 (fun w' : World => w'.cell? ⟨xo, 0, none⟩ = some (.pointer (some ⟨co, 0, none⟩)) ∧ w'.cell? ⟨xs, 0, none⟩ = some (.iface 82 (.pointer (some ⟨p, 0, none⟩)))) (first | with_reducible exact ⟨z0, z1⟩ | with_reducible exact ⟨y0, y1⟩) (first | (go_at_call 51; refine (GopIs.value (show GopIs w.drew p bg o from HP.out)).mono ?_; rintro e w2 ⟨rfl, rfl⟩) | (go_at_call 48; refine (CEnd_any _ _ H.out.drew).mono ?_; rintro e w3 ⟨rfl, h3, o3⟩; have H3 := hide h3; have y0 := (HXO.out.drew.only o3 n1).c0; have y1 := (HXS.out.drew.only o3 n2).c0; have O3 := hide (((Only.refl (S1 co) w).drew).trans o3); clear h3 o3))
  clear m1 m2 m3 m4
  go_wp2_with fail
  all_goals refine bodyPost_ret (results_none rfl _ _ _) rfl ?_
  all_goals exact ⟨rfl, H3.out, O3.out⟩
set_option maxRecDepth 100000 in
set_option maxHeartbeats 1000000 in
theorem try1_gate_next {bg : Nat} {o : Gop} {rest : List Src} {s : Src} {sv : Value} {R : World → Prop} (hxs : IBox w xs 82 p) (hxo : OBox w xo co) (hxq : QBox w xq sv) (hs : SrcsAt w cb sv (s :: rest)) (hp : GopIs w p bg o) (ho : o.out ≠ 1)
    (hk : ∀ w1 sv', Only S0 w w1 → SrcsAt w1 cb sv' rest → Calls Try.prog 43 #[.pointer (some ⟨co, 0, none⟩), sv'] w1 fun e w' => e = .returned (.tuple #[]) ∧ R w') :
    Calls Try.prog 65 #[.pointer (some ⟨xs, 0, none⟩), .pointer (some ⟨xo, 0, none⟩), .pointer (some ⟨xq, 0, none⟩)] w fun e w' => e = .returned (.tuple #[]) ∧ R w' := by
  have c0 := hxs.c0
  have hb : (o.out == 1) = false := by simp [ho]
  have HP := hide hp
  have HXO := hide hxo
  have HXQ := hide hxq
  have HK := Lib.hid hk
  have m1 := meth_gate_Outcome
  have m2 := nila_gate_Outcome
  obtain ⟨a, cap, rfl, hcap, hx⟩ := hs.ex
  obtain ⟨g, off, cs, rfl, hblk, hx⟩ := hx (by simp)
  simp only [List.length_cons] at hcap HXQ
  have hnext : ∀ a', (rest ≠ [] → a' = some ⟨g, off + 1, none⟩) → SrcsAt w.drew cb (.slice a' rest.length (cap - 1)) rest := fun a' ha => ⟨a', cap - 1, rfl, by omega, fun hne => ⟨g, off + 1, cs, ha hne, hblk, fun i s hi => by
    obtain ⟨v, h1, h2⟩ := hx (i + 1) s hi
    exact ⟨v, by rw [show off + 1 + i = off + (i + 1) by omega]; exact h1, h2⟩⟩⟩
  have HN := hide hnext
  clear hxs hxo hxq hs hp ho hk hx hblk hnext
  have hc1 : cap = 1 ∨ 1 < cap := by omega
  rcases hc1 with hc1 | hc1
  · have hr0 : rest = [] := List.eq_nil_of_length_eq_zero (by omega)
    subst hr0
    subst hc1
    go_enter Try.func65, Try.ntmps65
    go_wp2_with fail
    refine (HP.out.outcome).mono ?_
    rintro e w1 ⟨rfl, rfl⟩
    clear m1 m2
    go_upto_region 2 with fail
    have z0 := HXO.out.drew.c0
    have z1 := HXQ.out.drew.c0
    go_still_tail 3, (by kernel_rfl)
    go_wp2_with fail
    refine (HK.out w.drew _ (Only.refl S0 w).drew (HN.out _ (fun h => by first | exact absurd rfl h | rfl))).mono ?_
    rintro e w2 ⟨rfl, h2⟩
    have H2 := hide h2
    clear h2
    go_wp2_with fail
    all_goals go_end0
    all_goals exact ⟨rfl, H2.out⟩
  · have hle : (1:Int) ≤ (rest.length:Int) + 1 := by omega
    have hcn : ¬ cap = 1 := by omega
    go_enter Try.func65, Try.ntmps65
    go_wp2_with fail
    refine (HP.out.outcome).mono ?_
    rintro e w1 ⟨rfl, rfl⟩
    clear m1 m2
    go_upto_region 2 with fail
    have z0 := HXO.out.drew.c0
    have z1 := HXQ.out.drew.c0
    go_still_tail 3, (by kernel_rfl)
    go_wp2_with fail
    refine (HK.out w.drew _ (Only.refl S0 w).drew (HN.out _ (fun h => by first | exact absurd rfl h | rfl))).mono ?_
    rintro e w2 ⟨rfl, h2⟩
    have H2 := hide h2
    clear h2
    go_wp2_with fail
    all_goals go_end0
    all_goals exact ⟨rfl, H2.out⟩
end
end Go.Proofs.Ytdoaipjdldknaaa
