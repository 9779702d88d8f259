/-
  A deque with an owner and thieves, their steps mixed (plain lists; no program).
-/
import Derived.Test.YtdoaipjdldknaaaKGateC
import Derived.Test.YtdoaipjdldknaaaFam
namespace Go.Proofs.Ytdoaipjdldknaaa
open Go.RowKit
set_option linter.unusedVariables false

/-- The cells: T is the top; B how far what is in it reaches; bot what the bottom's cell says. -/
structure DI (n : Nat) (L : List Int) (T B bot : Nat) (val : Nat → Int) : Prop where
  n1 : 1 ≤ n
  n64 : n ≤ 64
  len : L.length = 2 + n
  top : at_ L ((0 : Nat) : Int) = T
  bot_ : at_ L ((1 : Nat) : Int) = bot
  t1 : 1 ≤ T
  le : T ≤ B
  ge : B ≤ T + n
  small : B ≤ 1000000
  has : ∀ t, T ≤ t → t < B → at_ L ((2 + t % n : Nat) : Int) = val t
/-- The owner's operation; what it has taken out and not yet told. -/
inductive Own (n : Nat) (L : List Int) (T B : Nat) (val : Nat → Int) : Dop → Nat → List Int → Prop
  | push1 (v t b : Int) (won : Bool) : Own n L T B val ⟨1, 0, v, t, b, won⟩ B []
  | push2 (v t : Int) (won : Bool) : Own n L T B val ⟨2, 0, v, t, B, won⟩ B []
  | push3 (v t : Int) (won : Bool) (h : B < T + n) : Own n L T B val ⟨3, 0, v, t, B, won⟩ B []
  | push4 (v t : Int) (won : Bool) (h : B < T + n) (hv : at_ L ((2 + B % n : Nat) : Int) = v) : Own n L T B val ⟨4, 0, v, t, B, won⟩ B []
  | pop1 (v t b : Int) : Own n L T B val ⟨5, 0, v, t, b, false⟩ B []
  | pop2 (v t : Int) : Own n L T B val ⟨6, 0, v, t, B, false⟩ B []
  | pop3 (v t : Int) : Own n L T B val ⟨7, 0, v, t, B, false⟩ (B - 1) []
  | pop4a (v : Int) (t : Nat) (y : Int) (h : t < B) (hB : B < T + n) (hy : at_ L ((2 + B % n : Nat) : Int) = y) : Own n L T B val ⟨8, 0, v, t, (B + 1 : Nat), false⟩ B [y]
  | pop4b (v : Int) (h : B - 1 ≤ T) (hB : 2 ≤ B) : Own n L T B val ⟨8, 0, v, (B - 1 : Nat), B, false⟩ (B - 1) []
  | pop5 (v : Int) (h : B - 1 ≤ T) (hB : 2 ≤ B) (hv : T = B - 1 → v = val (B - 1)) : Own n L T B val ⟨9, 0, v, (B - 1 : Nat), B, false⟩ (B - 1) []
  | pop6a (v t : Int) (h : T = B) : Own n L T B val ⟨10, 0, v, t, B, false⟩ (B - 1) []
  | pop6b (v t : Int) (h : T = B) : Own n L T B val ⟨10, 0, v, t, B, true⟩ (B - 1) [v]
/-- A thief's operation. -/
def Thf (T B : Nat) (val : Nat → Int) (x : Dop) : Prop :=
  x.out = 0 ∧ (x.k = 11 ∨ (x.k = 12 ∧ ∃ t : Nat, x.t = t ∧ t ≤ T) ∨ (x.k = 13 ∧ ∃ t : Nat, x.t = t ∧ t ≤ T ∧ (t = T → T < B)) ∨ (x.k = 14 ∧ ∃ t : Nat, x.t = t ∧ t ≤ T ∧ (t = T → T < B ∧ x.v = val T)))
/-- How an owner's operation ends: what was in it, what is. -/
def Ends (o o' : Dop) (S S' : List Int) : Prop :=
  (o.k ≤ 4 ∧ o'.out = 1 ∧ S' = S ++ [o.v]) ∨ (o.k ≤ 4 ∧ o'.out = 2 ∧ S' = S) ∨ (4 < o.k ∧ o'.out = 1 ∧ S = S' ++ [o'.v]) ∨ (4 < o.k ∧ o'.out = 4 ∧ S' = S ∧ S = [])
theorem inD_cons {T B : Nat} (val : Nat → Int) (h : T < B) : inD T B val = val T :: inD (T + 1) B val := by
  unfold inD
  rw [show B - T = (B - (T + 1)) + 1 by omega, List.range_succ_eq_map, List.map_cons, List.map_map]
  congr 1
  refine List.map_congr_left fun i _ => ?_
  show val (T + (i + 1)) = val (T + 1 + i)
  congr 1; omega
theorem Thf.keep {T B B' : Nat} {val val' : Nat → Int} {x : Dop} (h : Thf T B val x) (hB : T < B → T < B' ∧ val' T = val T) : Thf T B' val' x := by
  obtain ⟨h0, h⟩ := h
  refine ⟨h0, ?_⟩
  rcases h with h | h | ⟨hk, t, e1, e2, e3⟩ | ⟨hk, t, e1, e2, e3⟩
  · exact .inl h
  · exact .inr (.inl h)
  · exact .inr (.inr (.inl ⟨hk, t, e1, e2, fun e => (hB (e3 e)).1⟩))
  · exact .inr (.inr (.inr ⟨hk, t, e1, e2, fun e => ⟨(hB (e3 e).1).1, by rw [(hB (e3 e).1).2]; exact (e3 e).2⟩⟩))
theorem Thf.up {T B : Nat} {val : Nat → Int} {x : Dop} (h : Thf T B val x) {T' B' : Nat} {val' : Nat → Int} (hT : T < T') : Thf T' B' val' x := by
  obtain ⟨h0, h⟩ := h
  refine ⟨h0, ?_⟩
  rcases h with h | ⟨hk, t, e1, e2⟩ | ⟨hk, t, e1, e2, e3⟩ | ⟨hk, t, e1, e2, e3⟩
  · exact .inl h
  · exact .inr (.inl ⟨hk, t, e1, by omega⟩)
  · exact .inr (.inr (.inl ⟨hk, t, e1, by omega, fun e => by omega⟩))
  · exact .inr (.inr (.inr ⟨hk, t, e1, by omega, fun e => by omega⟩))
section
variable {n T B bot : Nat} {L : List Int} {val : Nat → Int} {o : Dop} {held : List Int}
theorem DI.setBot (h : DI n L T B bot val) (k : Nat) : DI n (L.set 1 (k : Int)) T B k val := by
  have hl := h.len
  have g : ∀ j : Nat, at_ (L.set 1 (k : Int)) (j : Int) = if j = 1 then (k : Int) else at_ L (j : Int) := fun j => at_set _ _ _ _ (by omega)
  refine ⟨h.n1, h.n64, by simpa using hl, ?_, ?_, h.t1, h.le, h.ge, h.small, fun t t1 t2 => ?_⟩
  · rw [g, if_neg (by omega)]; exact h.top
  · rw [g, if_pos rfl]
  · rw [g, if_neg (by omega)]; exact h.has t t1 t2
theorem DI.slot_bot (h : DI n L T B bot val) (k : Nat) (t : Nat) : at_ (L.set 1 (k : Int)) ((2 + t % n : Nat) : Int) = at_ L ((2 + t % n : Nat) : Int) := by
  have hl := h.len
  rw [at_set _ _ _ _ (by omega), if_neg (by omega)]
theorem DI.setTop (h : DI n L T B bot val) (ht : T < B) : DI n (L.set 0 ((T + 1 : Nat) : Int)) (T + 1) B bot val := by
  have hl := h.len
  have hge := h.ge
  have g : ∀ j : Nat, at_ (L.set 0 ((T + 1 : Nat) : Int)) (j : Int) = if j = 0 then ((T + 1 : Nat) : Int) else at_ L (j : Int) := fun j => at_set _ _ _ _ (by omega)
  refine ⟨h.n1, h.n64, by simpa using hl, ?_, ?_, by omega, by omega, by omega, h.small, fun t t1 t2 => ?_⟩
  · rw [g, if_pos rfl]
  · rw [g, if_neg (by omega)]; exact h.bot_
  · rw [g, if_neg (by omega)]; exact h.has t (by omega) t2
theorem DI.slot_top (h : DI n L T B bot val) (k : Int) (t : Nat) : at_ (L.set 0 k) ((2 + t % n : Nat) : Int) = at_ L ((2 + t % n : Nat) : Int) := by
  have hl := h.len
  rw [at_set _ _ _ _ (by omega), if_neg (by omega)]
/-- An owner's step. -/
theorem own_step (h : DI n L T B bot val) (ho : Own n L T B val o bot held) (hs : B + 1 ≤ 1000000) :
    ∃ T' B' bot' val', DI n (dstep 0 n L o).1 T' B' bot' val' ∧ T' ≤ B' ∧ B' ≤ B + 1 ∧ (∀ x, Thf T B val x → Thf T' B' val' x) ∧
      (((dstep 0 n L o).2.out = 0 ∧ (o.k < (dstep 0 n L o).2.k ∧ (dstep 0 n L o).2.k ≤ 10 ∧ (o.k ≤ 4 ↔ (dstep 0 n L o).2.k ≤ 4) ∧ (o.k ≤ 4 → (dstep 0 n L o).2.v = o.v)) ∧
          ∃ held', Own n (dstep 0 n L o).1 T' B' val' (dstep 0 n L o).2 bot' held' ∧ inD T' B' val' ++ held' = inD T B val ++ held) ∨
       ((dstep 0 n L o).2.out ≠ 0 ∧ bot' = B' ∧ Ends o (dstep 0 n L o).2 (inD T B val ++ held) (inD T' B' val'))) := by
  have hl := h.len
  have h1 := h.n1
  have hle := h.le
  have hge := h.ge
  have hsm := h.small
  have ht := h.top
  have hb := h.bot_
  have ht1 := h.t1
  have hm := Nat.mod_lt B (show n > 0 by omega)
  have keep0 : ∀ x, Thf T B val x → Thf T B val x := fun x hx => hx
  cases ho with
  | push1 v t b won =>
    rw [ds1, show at_ L ((0 : Int) + 1) = (B : Int) from hb]
    exact ⟨T, B, B, val, h, hle, by omega, keep0, .inl ⟨rfl, ⟨by show (1:Int) < 2; omega, by show (2:Int) ≤ 10; omega, by simp, fun _ => rfl⟩, [], .push2 _ _ _, rfl⟩⟩
  | push2 v t won =>
    rw [ds2, show at_ L (0 : Int) = (T : Int) from ht]
    by_cases hf : n ≤ B - T
    · have : dfull n B T = 2 := by unfold dfull; rw [w64_diff B T hsm hle, if_pos (by omega)]
      rw [this]
      exact ⟨T, B, B, val, h, hle, by omega, keep0, .inr ⟨by show (2:Int) ≠ 0; omega, rfl, .inr (.inl ⟨by show (2:Int) ≤ 4; omega, rfl, by simp⟩)⟩⟩
    · have : dfull n B T = 0 := by unfold dfull; rw [w64_diff B T hsm hle, if_neg (by omega)]
      rw [this]
      exact ⟨T, B, B, val, h, hle, by omega, keep0, .inl ⟨rfl, ⟨by show (2:Int) < 3; omega, by show (3:Int) ≤ 10; omega, by simp, fun _ => rfl⟩, [], .push3 _ _ _ (by omega), rfl⟩⟩
  | push3 v t won hlt =>
    rw [ds3, dslot_nat, Int.toNat_natCast]
    have g : ∀ k : Nat, at_ (L.set (2 + B % n) v) (k : Int) = if k = 2 + B % n then v else at_ L (k : Int) := fun k => at_set _ _ _ _ (by omega)
    refine ⟨T, B, B, val, ⟨h.n1, h.n64, by simpa using hl, ?_, ?_, ht1, hle, hge, hsm, fun t t1 t2 => ?_⟩, hle, by omega, keep0, .inl ⟨rfl, ⟨by show (3:Int) < 4; omega, by show (4:Int) ≤ 10; omega, by simp, fun _ => rfl⟩, [], .push4 _ _ _ hlt ?_, rfl⟩⟩
    · rw [g, if_neg (by omega)]; exact ht
    · rw [g, if_neg (by omega)]; exact hb
    · have := dmod_ne (n := n) (a := t) (b := B) (by omega) (by omega) (by omega)
      rw [g, if_neg (by omega)]; exact h.has t t1 t2
    · rw [g, if_pos rfl]
  | push4 v t won hlt hv =>
    rw [ds4, w64_add B hsm]
    have hd := h.setBot (B + 1)
    refine ⟨T, B + 1, B + 1, fun t => if t = B then v else val t, ⟨h.n1, h.n64, hd.len, hd.top, hd.bot_, ht1, by omega, by omega, hs, fun t t1 t2 => ?_⟩, by omega, by omega, fun x hx => hx.keep fun ht => ⟨by omega, if_neg (by omega)⟩, .inr ⟨by show (1:Int) ≠ 0; omega, rfl, .inl ⟨by show (4:Int) ≤ 4; omega, rfl, ?_⟩⟩⟩
    · by_cases e : t = B
      · subst e
        rw [if_pos rfl]
        exact (h.slot_bot (t + 1) t).trans hv
      · rw [if_neg e]
        exact hd.has t t1 (by omega)
    · rw [inD_push val v hle, List.append_nil]
  | pop1 v t b =>
    rw [ds5, show at_ L ((0 : Int) + 1) = (B : Int) from hb]
    exact ⟨T, B, B, val, h, hle, by omega, keep0, .inl ⟨rfl, ⟨by show (5:Int) < 6; omega, by show (6:Int) ≤ 10; omega, by simp, fun e => absurd e (by show ¬ (5:Int) ≤ 4; omega)⟩, [], .pop2 _ _, rfl⟩⟩
  | pop2 v t =>
    rw [ds6, w64_sub B hsm (by omega)]
    exact ⟨T, B, B - 1, val, h.setBot (B - 1), hle, by omega, keep0, .inl ⟨rfl, ⟨by show (6:Int) < 7; omega, by show (7:Int) ≤ 10; omega, by simp, fun e => absurd e (by show ¬ (6:Int) ≤ 4; omega)⟩, [], .pop3 _ _, rfl⟩⟩
  | pop3 v t =>
    rw [ds7, show at_ L (0 : Int) = (T : Int) from ht, w64_sub B hsm (by omega)]
    by_cases c : B - 1 < T
    · rw [if_pos (by omega)]
      exact ⟨T, B, B - 1, val, h, hle, by omega, keep0, .inl ⟨rfl, ⟨by show (7:Int) < 10; omega, by show (10:Int) ≤ 10; omega, by simp, fun e => absurd e (by show ¬ (7:Int) ≤ 4; omega)⟩, [], .pop6a _ _ (by omega), rfl⟩⟩
    · rw [if_neg (by omega)]
      by_cases c2 : T = B - 1
      · refine ⟨T, B, B - 1, val, h, hle, by omega, keep0, .inl ⟨rfl, ⟨by show (7:Int) < 8; omega, by show (8:Int) ≤ 10; omega, by simp, fun e => absurd e (by show ¬ (7:Int) ≤ 4; omega)⟩, [], ?_, rfl⟩⟩
        have := Own.pop4b (n := n) (L := L) (T := T) (B := B) (val := val) v (by omega) (by omega)
        rw [show ((B - 1 : Nat) : Int) = (T : Int) by omega] at this
        exact this
      · refine ⟨T, B - 1, B - 1, val, ⟨h.n1, h.n64, hl, ht, hb, ht1, by omega, by omega, by omega, fun t t1 t2 => h.has t t1 (by omega)⟩, by omega, by omega, fun x hx => hx.keep fun _ => ⟨by omega, rfl⟩, .inl ⟨rfl, ⟨by show (7:Int) < 8; omega, by show (8:Int) ≤ 10; omega, by simp, fun e => absurd e (by show ¬ (7:Int) ≤ 4; omega)⟩, [val (B - 1)], ?_, ?_⟩⟩
        · have := Own.pop4a (n := n) (L := L) (T := T) (B := B - 1) (val := val) v T (val (B - 1)) (by omega) (by omega) (h.has (B - 1) (by omega) (by omega))
          rw [show B - 1 + 1 = B by omega] at this
          exact this
        · rw [List.append_nil, inD_pop val (show T < B by omega)]
  | pop4a v t y htB hB hy =>
    have e1 : IntKind.u64.wrap (((B + 1 : Nat) : Int) - 1) = (B : Int) := by rw [w64_sub (B + 1) (by omega) (by omega)]; simp
    have e2 : dlast (t : Int) ((B + 1 : Nat) : Int) = 1 := by unfold dlast; rw [e1, if_pos (by omega)]
    rw [ds8, e1, dslot_nat, hy, e2]
    exact ⟨T, B, B, val, h, hle, by omega, keep0, .inr ⟨by show (1:Int) ≠ 0; omega, rfl, .inr (.inr (.inl ⟨by show (4:Int) < 8; omega, rfl, rfl⟩))⟩⟩
  | pop4b v hT hB =>
    have e1 : IntKind.u64.wrap ((B : Int) - 1) = ((B - 1 : Nat) : Int) := w64_sub B (by omega) (by omega)
    have e2 : dlast ((B - 1 : Nat) : Int) (B : Int) = 0 := by unfold dlast; rw [e1, if_neg (by omega)]
    rw [ds8, e1, dslot_nat, e2]
    exact ⟨T, B, B - 1, val, h, hle, by omega, keep0, .inl ⟨rfl, ⟨by show (8:Int) < 9; omega, by show (9:Int) ≤ 10; omega, by simp, fun e => absurd e (by show ¬ (8:Int) ≤ 4; omega)⟩, [], .pop5 _ hT hB (fun e => h.has (B - 1) (by omega) (by omega)), rfl⟩⟩
  | pop5 v hT hB hv =>
    rw [ds9]
    by_cases c : T = B - 1
    · have e1 : at_ L (0 : Int) = ((B - 1 : Nat) : Int) := by rw [show at_ L (0 : Int) = (T : Int) from ht, c]
      have e2 : dswapL 0 L ((B - 1 : Nat) : Int) = L.set 0 ((T + 1 : Nat) : Int) := by
        unfold dswapL
        rw [if_pos e1, w64_add (B - 1) (by omega), c]
        rfl
      have e3 : dswapB 0 L ((B - 1 : Nat) : Int) = true := by unfold dswapB; exact decide_eq_true e1
      rw [e2, e3]
      refine ⟨T + 1, B, B - 1, val, h.setTop (by omega), by omega, by omega, fun x hx => hx.up (by omega), .inl ⟨rfl, ⟨by show (9:Int) < 10; omega, by show (10:Int) ≤ 10; omega, by simp, fun e => absurd e (by show ¬ (9:Int) ≤ 4; omega)⟩, [v], .pop6b _ _ (by omega), ?_⟩⟩
      rw [inD_nil val (by omega), inD_cons val (show T < B by omega), inD_nil val (by omega), hv c, c]
      rfl
    · have e1 : ¬ at_ L (0 : Int) = ((B - 1 : Nat) : Int) := by rw [show at_ L (0 : Int) = (T : Int) from ht]; omega
      have e2 : dswapL 0 L ((B - 1 : Nat) : Int) = L := by unfold dswapL; rw [if_neg e1]
      have e3 : dswapB 0 L ((B - 1 : Nat) : Int) = false := by unfold dswapB; exact decide_eq_false e1
      rw [e2, e3]
      exact ⟨T, B, B - 1, val, h, hle, by omega, keep0, .inl ⟨rfl, ⟨by show (9:Int) < 10; omega, by show (10:Int) ≤ 10; omega, by simp, fun e => absurd e (by show ¬ (9:Int) ≤ 4; omega)⟩, [], .pop6a _ _ (by omega), rfl⟩⟩
  | pop6a v t hT =>
    rw [ds10]
    exact ⟨T, B, B, val, h.setBot B, hle, by omega, keep0, .inr ⟨by show (4:Int) ≠ 0; omega, rfl, .inr (.inr (.inr ⟨by show (4:Int) < 10; omega, rfl, by simp, by rw [List.append_nil]; exact inD_nil val (by omega)⟩))⟩⟩
  | pop6b v t hT =>
    rw [ds10]
    exact ⟨T, B, B, val, h.setBot B, hle, by omega, keep0, .inr ⟨by show (1:Int) ≠ 0; omega, rfl, .inr (.inr (.inl ⟨by show (4:Int) < 10; omega, rfl, rfl⟩))⟩⟩
theorem Own.bot_le (ho : Own n L T B val o bot held) : bot ≤ B := by cases ho <;> omega
theorem Own.out0 (ho : Own n L T B val o bot held) : o.out = 0 := by cases ho <;> rfl
theorem Own.k10 (ho : Own n L T B val o bot held) : 1 ≤ o.k ∧ o.k ≤ 10 := by cases ho <;> (dsimp only; omega)
/-- An owner's operation, while a thief has taken one. -/
theorem Own.taken (h : DI n L T B bot val) (ho : Own n L T B val o bot held) (ht : T < B) (k : Int) : Own n (L.set 0 k) (T + 1) B val o bot held := by
  cases ho with
  | push1 v t b won => exact .push1 _ _ _ _
  | push2 v t won => exact .push2 _ _ _
  | push3 v t won h1 => exact .push3 _ _ _ (by omega)
  | push4 v t won h1 hv => exact .push4 _ _ _ (by omega) ((h.slot_top _ _).trans hv)
  | pop1 v t b => exact .pop1 _ _ _
  | pop2 v t => exact .pop2 _ _
  | pop3 v t => exact .pop3 _ _
  | pop4a v t y h1 h2 hy => exact .pop4a _ _ _ h1 (by omega) ((h.slot_top _ _).trans hy)
  | pop4b v h1 h2 => exact .pop4b _ (by omega) h2
  | pop5 v h1 h2 hv => exact .pop5 _ (by omega) h2 (fun e => by omega)
  | pop6a v t h1 => omega
  | pop6b v t h1 => omega
/-- A thief's step. -/
theorem thf_step {x : Dop} (h : DI n L T B bot val) (hb : bot ≤ B) (hx : Thf T B val x) :
    (∃ x', dstep 0 n L x = (L, x') ∧ ((Thf T B val x' ∧ x.k < x'.k ∧ x'.k ≤ 14) ∨ (x'.out ≠ 0 ∧ x'.out ≠ 1))) ∨
    (∃ x', dstep 0 n L x = (L.set 0 ((T + 1 : Nat) : Int), x') ∧ x'.out = 1 ∧ x'.v = val T ∧ T < B) := by
  have ht := h.top
  have hbt := h.bot_
  have hsm := h.small
  have hle := h.le
  obtain ⟨k, out, v, t, b, won⟩ := x
  obtain ⟨h0, hx⟩ := hx
  dsimp only at h0
  subst h0
  dsimp only at hx
  rcases hx with rfl | ⟨rfl, t', rfl, e2⟩ | ⟨rfl, t', rfl, e2, e3⟩ | ⟨rfl, t', rfl, e2, e3⟩
  · refine .inl ⟨_, ds11, .inl ⟨⟨rfl, .inr (.inl ⟨rfl, T, ht, Nat.le_refl _⟩)⟩, by show (11:Int) < 12; omega, by show (12:Int) ≤ 14; omega⟩⟩
  · refine .inl ⟨_, ds12, ?_⟩
    rw [show at_ L ((0 : Int) + 1) = (bot : Int) from hbt]
    by_cases c : bot ≤ t'
    · have : dnone (t' : Int) (bot : Int) = 4 := by unfold dnone; rw [if_pos (by omega)]
      rw [this]
      exact .inr ⟨by show (4:Int) ≠ 0; omega, by show (4:Int) ≠ 1; omega⟩
    · have : dnone (t' : Int) (bot : Int) = 0 := by unfold dnone; rw [if_neg (by omega)]
      rw [this]
      exact .inl ⟨⟨rfl, .inr (.inr (.inl ⟨rfl, t', rfl, e2, fun e => by omega⟩))⟩, by show (12:Int) < 13; omega, by show (13:Int) ≤ 14; omega⟩
  · refine .inl ⟨_, ds13, .inl ⟨⟨rfl, .inr (.inr (.inr ⟨rfl, t', rfl, e2, fun e => ⟨e3 e, ?_⟩⟩))⟩, by show (13:Int) < 14; omega, by show (14:Int) ≤ 14; omega⟩⟩
    show at_ L (dslotOf 0 n (t' : Int)) = val T
    rw [dslot_nat, e]
    exact h.has T (Nat.le_refl _) (e3 e)
  · by_cases c : t' = T
    · obtain ⟨c1, c2⟩ := e3 c
      have e1 : at_ L (0 : Int) = (t' : Int) := by rw [show at_ L (0 : Int) = (T : Int) from ht, c]
      have q2 : dswapL 0 L (t' : Int) = L.set 0 ((T + 1 : Nat) : Int) := by
        unfold dswapL
        rw [if_pos e1, w64_add t' (by omega), c]
        rfl
      have q3 : dswapB 0 L (t' : Int) = true := by unfold dswapB; exact decide_eq_true e1
      refine .inr ⟨_, by rw [ds14, q2, q3], rfl, c2, c1⟩
    · have e1 : ¬ at_ L (0 : Int) = (t' : Int) := by rw [show at_ L (0 : Int) = (T : Int) from ht]; omega
      have q2 : dswapL 0 L (t' : Int) = L := by unfold dswapL; rw [if_neg e1]
      have q3 : dswapB 0 L (t' : Int) = false := by unfold dswapB; exact decide_eq_false e1
      exact .inl ⟨_, by rw [ds14, q2, q3], .inr ⟨by show (6:Int) ≠ 0; omega, by show (6:Int) ≠ 1; omega⟩⟩
end
end Go.Proofs.Ytdoaipjdldknaaa
