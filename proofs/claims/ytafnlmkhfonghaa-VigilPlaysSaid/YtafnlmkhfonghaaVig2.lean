/-
  Package vigil: operations begun; a step as one function of the cells and the operation; operations done at once; Size and Make.
-/
import Derived.Test.YtafnlmkhfonghaaVig
import Derived.Test.YtafnlmkhfonghaaRef1
namespace Go.Proofs.Ytafnlmkhfonghaa
open Go.RowKit
set_option linter.unusedVariables false
section
variable {w : World} {bo vb bm bc nx : Nat} {base n cell seen out tc : Int} {L : List Int}
/-- The cell of two actors; is there one? -/
def vcell (base n x y : Int) : Int := base + (x - 1) * n + y - 1
def vin (n x y : Int) : Prop := 1 ≤ x ∧ x ≤ n ∧ 1 ≤ y ∧ y ≤ n
instance (n x y : Int) : Decidable (vin n x y) := by unfold vin; infer_instance
def vc0 (base n x y : Int) : Int := if vin n x y then vcell base n x y else 0
def vo0 (n x y : Int) : Int := if vin n x y then 0 else 4
theorem vmul {n x : Int} (h1 : 1 ≤ x) (h2 : x ≤ n) (hn : n ≤ 16) : 0 ≤ (x - 1) * n ∧ (x - 1) * n ≤ 240 := by
  have h3 : 0 ≤ x - 1 := by omega
  have h4 : 0 ≤ n := by omega
  refine ⟨Int.mul_nonneg h3 h4, ?_⟩
  have : (x - 1) * n ≤ 15 * 16 := Int.mul_le_mul (by omega) hn h4 (by decide)
  omega
theorem vmul2 {n x : Int} (h2 : x ≤ n) (h0 : 0 ≤ n) : (x - 1) * n + n ≤ n * n := by
  have h1 : (x - 1) * n ≤ (n - 1) * n := Int.mul_le_mul_of_nonneg_right (by omega) h0
  have h3 : (n - 1) * n = n * n - n := by rw [Int.sub_mul]; omega
  omega
theorem vcell_in {base n x y : Int} (hin : vin n x y) (hb : 0 ≤ base) : base ≤ vcell base n x y ∧ vcell base n x y < base + n * n := by
  obtain ⟨h1, h2, h3, h4⟩ := hin
  have := vmul2 h2 (by omega)
  have : 0 ≤ (x - 1) * n := Int.mul_nonneg (by omega) (by omega)
  unfold vcell
  omega
set_option maxHeartbeats 1000000 in
theorem of_yes (x y : Int) (h : VigAt w vb bm base n) (b0 : 0 ≤ base) (b1 : base ≤ 70000) (h16 : n ≤ 16) (hin : vin n x y) : Calls Try.prog 58 #[.pointer (some ⟨vb, 0, none⟩), .int .i64 x, .int .i64 y] w fun e w' =>
    ∃ bo, e = .returned (.pointer (some ⟨bo, 0, none⟩)) ∧ Blk w' bo 108 #[.pointer (some ⟨bm, 0, none⟩), .int .i64 (vcell base n x y), .int .u64 0, .nilFunc, .int .i64 0] ∧ Only S0 w w' ∧ w.heap.size ≤ bo := by
  obtain ⟨h1, h2, h3, h4⟩ := hin
  obtain ⟨m1, m2⟩ := vmul h1 h2 h16
  have c0 := h.c0
  have c1 := fun o => (Blk.alloc h o).cellv (i := 1) rfl
  have c2 := fun o => (Blk.alloc h o).cellv (i := 2) rfl
  have hlt := Blk.lt h
  clear h
  go_enter Try.func58, Try.ntmps58
  go_wp2_with fail
  go_region
  go_wp2_with fail
  go_ret
  exact ⟨_, rfl, (Blk.new w _ _).drew, ((Only.refl _ _).alloc _).drew, Nat.le_refl _⟩
set_option maxHeartbeats 1000000 in
theorem of_no (x y : Int) (h : VigAt w vb bm base n) (hin : ¬ vin n x y) : Calls Try.prog 58 #[.pointer (some ⟨vb, 0, none⟩), .int .i64 x, .int .i64 y] w fun e w' =>
    ∃ bo, e = .returned (.pointer (some ⟨bo, 0, none⟩)) ∧ Blk w' bo 108 #[.pointer (some ⟨bm, 0, none⟩), .int .i64 0, .int .u64 0, .nilFunc, .int .i64 4] ∧ Only S0 w w' ∧ w.heap.size ≤ bo := by
  have c0 := h.c0
  have c2 := fun o => (Blk.alloc h o).cellv (i := 2) rfl
  have hlt := Blk.lt h
  clear h
  unfold vin at hin
  by_cases h1 : x < 1
  · clear hin
    go_enter Try.func58, Try.ntmps58
    go_wp2_with fail
    go_ret
    exact ⟨_, rfl, Blk.new w _ _, (Only.refl _ _).alloc _, Nat.le_refl _⟩
  · replace h1 : 1 ≤ x := by omega
    by_cases h2 : n < x
    · clear hin
      go_enter Try.func58, Try.ntmps58
      go_wp2_with fail
      go_ret
      exact ⟨_, rfl, Blk.new w _ _, (Only.refl _ _).alloc _, Nat.le_refl _⟩
    · replace h2 : x ≤ n := by omega
      by_cases h3 : y < 1
      · clear hin
        go_enter Try.func58, Try.ntmps58
        go_wp2_with fail
        go_ret
        exact ⟨_, rfl, Blk.new w _ _, (Only.refl _ _).alloc _, Nat.le_refl _⟩
      · replace h3 : 1 ≤ y := by omega
        have h4 : n < y := by omega
        clear hin
        go_enter Try.func58, Try.ntmps58
        go_wp2_with fail
        go_ret
        exact ⟨_, rfl, Blk.new w _ _, (Only.refl _ _).alloc _, Nat.le_refl _⟩
theorem of_any (x y : Int) (h : VigAt w vb bm base n) (b0 : 0 ≤ base) (b1 : base ≤ 70000) (h16 : n ≤ 16) : Calls Try.prog 58 #[.pointer (some ⟨vb, 0, none⟩), .int .i64 x, .int .i64 y] w fun e w' =>
    ∃ bo, e = .returned (.pointer (some ⟨bo, 0, none⟩)) ∧ Blk w' bo 108 #[.pointer (some ⟨bm, 0, none⟩), .int .i64 (vc0 base n x y), .int .u64 0, .nilFunc, .int .i64 (vo0 n x y)] ∧ Only S0 w w' ∧ w.heap.size ≤ bo := by
  by_cases hin : vin n x y
  · rw [vc0, vo0, if_pos hin, if_pos hin]
    exact of_yes x y h b0 b1 h16 hin
  · rw [vc0, vo0, if_neg hin, if_neg hin]
    exact of_no x y h hin
theorem Watch_any (x y : Int) (h : VigAt w vb bm base n) (b0 : 0 ≤ base) (b1 : base ≤ 70000) (h16 : n ≤ 16) : Calls Try.prog 28 #[.pointer (some ⟨vb, 0, none⟩), .int .i64 x, .int .i64 y] w fun e w' =>
    ∃ bo, e = .returned (.pointer (some ⟨bo, 0, none⟩)) ∧ VopAt w' bo bm 59 (vc0 base n x y) 0 (vo0 n x y) ∧ Only S0 w w' ∧ w.heap.size ≤ bo := by
  go_enter Try.func28, Try.ntmps28
  go_wp2_with fail
  refine (of_any x y h b0 b1 h16).mono ?_
  rintro e w1 ⟨bo, rfl, h1, o1, b1⟩
  have k3 := h1.cellv (i := 3) rfl
  have f3 := h1.frozen 3
  have H1 := hide h1
  clear h1
  go_wp2_with fail
  go_ret
  refine ⟨bo, rfl, ?_, o1.setNew 3 b1 _, b1⟩
  simpa [VopAt] using H1.out.set_ 3 (.func (.func 59) #[.pointer (some ⟨bo, 0, none⟩)] #[])
theorem Unwatch_any (x y : Int) (h : VigAt w vb bm base n) (b0 : 0 ≤ base) (b1 : base ≤ 70000) (h16 : n ≤ 16) : Calls Try.prog 34 #[.pointer (some ⟨vb, 0, none⟩), .int .i64 x, .int .i64 y] w fun e w' =>
    ∃ bo, e = .returned (.pointer (some ⟨bo, 0, none⟩)) ∧ VopAt w' bo bm 61 (vc0 base n x y) 0 (vo0 n x y) ∧ Only S0 w w' ∧ w.heap.size ≤ bo := by
  go_enter Try.func34, Try.ntmps34
  go_wp2_with fail
  refine (of_any x y h b0 b1 h16).mono ?_
  rintro e w1 ⟨bo, rfl, h1, o1, b1⟩
  have k3 := h1.cellv (i := 3) rfl
  have f3 := h1.frozen 3
  have H1 := hide h1
  clear h1
  go_wp2_with fail
  go_ret
  refine ⟨bo, rfl, ?_, o1.setNew 3 b1 _, b1⟩
  simpa [VopAt] using H1.out.set_ 3 (.func (.func 61) #[.pointer (some ⟨bo, 0, none⟩)] #[])
theorem Claim_any (x y : Int) (h : VigAt w vb bm base n) (b0 : 0 ≤ base) (b1 : base ≤ 70000) (h16 : n ≤ 16) : Calls Try.prog 29 #[.pointer (some ⟨vb, 0, none⟩), .int .i64 x, .int .i64 y] w fun e w' =>
    ∃ bo, e = .returned (.pointer (some ⟨bo, 0, none⟩)) ∧ VopAt w' bo bm 60 (vc0 base n x y) 0 (vo0 n x y) ∧ Only S0 w w' ∧ w.heap.size ≤ bo := by
  go_enter Try.func29, Try.ntmps29
  go_wp2_with fail
  refine (of_any x y h b0 b1 h16).mono ?_
  rintro e w1 ⟨bo, rfl, h1, o1, b1⟩
  have k3 := h1.cellv (i := 3) rfl
  have f3 := h1.frozen 3
  have H1 := hide h1
  clear h1
  go_wp2_with fail
  go_ret
  refine ⟨bo, rfl, ?_, o1.setNew 3 b1 _, b1⟩
  simpa [VopAt] using H1.out.set_ 3 (.func (.func 60) #[.pointer (some ⟨bo, 0, none⟩)] #[])

/-- An operation: which function is next, its cell, what it saw, the outcome. -/
structure Vop where
  k : Nat
  cell : Int
  seen : Int
  out : Int
def vxF (k : Nat) : Nat := if k = 0 then 59 else if k = 1 then 70 else if k = 2 then 61 else if k = 3 then 72 else 60
def vstep (L : List Int) (o : Vop) : List Int × Vop :=
  if o.out ≠ 0 then (L, o)
  else if o.k = 0 then (L, { o with k := 1, seen := at_ L o.cell, out := if at_ L o.cell = 1 then 4 else 0 })
  else if o.k = 1 then (if at_ L o.cell = o.seen then (L.set o.cell.toNat 1, { o with k := 0, out := 1 }) else (L, { o with k := 0 }))
  else if o.k = 2 then (L, { o with k := 3, seen := at_ L o.cell, out := if at_ L o.cell = 1 then 0 else 4 })
  else if o.k = 3 then (if at_ L o.cell = 1 then (L.set o.cell.toNat 0, { o with k := 2, out := 1 }) else (L, { o with k := 2 }))
  else (if at_ L o.cell = 1 then (L.set o.cell.toNat 2, { o with out := 1 }) else (L, { o with out := 4 }))
def vtick (o : Vop) : Int := if o.out ≠ 0 then 0 else 1
structure VopOk (len : Nat) (o : Vop) : Prop where
  k : o.k = 0 ∨ o.k = 1 ∨ o.k = 2 ∨ o.k = 3 ∨ o.k = 4
  c0 : o.out = 0 → 0 ≤ o.cell
  c1 : o.out = 0 → o.cell < len
def VopIs (w : World) (bo bm : Nat) (o : Vop) : Prop := VopAt w bo bm (vxF o.k) o.cell o.seen o.out
theorem VopIs.only {w' : World} {S : Nat → Prop} {o : Vop} (h : VopIs w bo bm o) (ho : Only S w w') (h1 : ¬ S bo) : VopIs w' bo bm o := VopAt.only h ho h1
theorem vstep_len (L : List Int) (o : Vop) : (vstep L o).1.length = L.length := by
  unfold vstep
  (repeat' split) <;> simp
theorem vstep_ok (L : List Int) (o : Vop) (ho : VopOk L.length o) : VopOk L.length (vstep L o).2 := by
  unfold vstep
  split
  · exact ho
  rename_i h0
  simp only [ne_eq, Decidable.not_not] at h0
  have w0 := ho.c0 h0
  have w1 := ho.c1 h0
  (repeat' split)
  all_goals first | exact ⟨ho.k, fun _ => w0, fun _ => w1⟩ | exact ⟨by simp, fun _ => w0, fun _ => w1⟩

/-- A memory for vigils. -/
structure VEnv (w : World) (bm bc : Nat) (tc : Int) (L : List Int) : Prop where
  mem : MemAt w bm bc L tc
  few : Few tc
variable {o : Vop}
theorem VEnv.only {w' : World} {S : Nat → Prop} (he : VEnv w bm bc tc L) (ho : Only S w w') (h2 : ¬ S bm) (h3 : ¬ S bc) : VEnv w' bm bc tc L := ⟨he.mem.only ho h2 h3, he.few⟩
theorem VEnv.only0 {w' : World} (he : VEnv w bm bc tc L) (ho : Only S0 w w') : VEnv w' bm bc tc L := he.only ho (fun h => h) (fun h => h)
/-- A step of a vigil's operation. -/
theorem VStep_all (he : VEnv w bm bc tc L) (ho : VopOk L.length o) (h : VopIs w bo bm o) (hf : Few (tc + 1)) :
    Calls Try.prog 31 #[.pointer (some ⟨bo, 0, none⟩)] w fun e w' => e = .returned (.bool ((vstep L o).2.out != 0)) ∧ VopIs w' bo bm (vstep L o).2 ∧
      VEnv w' bm bc (tc + vtick o) (vstep L o).1 ∧ Only (S3 bo bm bc) w w' := by
  by_cases h0 : o.out = 0
  · have hS2 : ∀ {k}, o.k = k → VStepAt w bo bm bc (vxF k) o.cell o.seen tc L := by
      intro k hk
      refine ⟨?_, he.mem, he.few, ho.c0 h0, ho.c1 h0⟩
      unfold VopIs at h
      rw [h0, hk] at h
      exact h
    have htk : vtick o = 1 := by simp [vtick, h0]
    rw [htk]
    rcases ho.k with hp | hp | hp | hp | hp
    · by_cases hv : at_ L o.cell = 1
      · have hg : vstep L o = (L, { o with k := 1, seen := at_ L o.cell, out := 4 }) := by simp [vstep, h0, hp, hv]
        rw [hg]
        refine (VStep_watch (hS2 hp).op (watch_yes (hS2 hp) hv)).mono ?_
        rintro e w' ⟨rfl, h1, h2, h3⟩
        refine ⟨by first | rfl | simp [h0], ?_, ⟨h2, hf⟩, h3⟩
        unfold VopIs
        simpa [hp, h0, vxF] using h1
      · have hg : vstep L o = (L, { o with k := 1, seen := at_ L o.cell, out := 0 }) := by simp [vstep, h0, hp, hv]
        rw [hg]
        refine (VStep_watch (hS2 hp).op (watch_no (hS2 hp) hv)).mono ?_
        rintro e w' ⟨rfl, h1, h2, h3⟩
        refine ⟨by first | rfl | simp [h0], ?_, ⟨h2, hf⟩, h3⟩
        unfold VopIs
        simpa [hp, h0, vxF] using h1
    · by_cases hv : at_ L o.cell = o.seen
      · have hg : vstep L o = (L.set o.cell.toNat 1, { o with k := 0, out := 1 }) := by simp [vstep, h0, hp, hv]
        rw [hg]
        refine (VStep_begin (hS2 hp).op (begin_yes (hS2 hp) hv)).mono ?_
        rintro e w' ⟨rfl, h1, h2, h3⟩
        refine ⟨by first | rfl | simp [h0], ?_, ⟨h2, hf⟩, h3⟩
        unfold VopIs
        simpa [hp, h0, vxF] using h1
      · have hg : vstep L o = (L, { o with k := 0 }) := by simp [vstep, h0, hp, hv]
        rw [hg]
        refine (VStep_begin (hS2 hp).op (begin_no (hS2 hp) hv)).mono ?_
        rintro e w' ⟨rfl, h1, h2, h3⟩
        refine ⟨by first | rfl | simp [h0], ?_, ⟨h2, hf⟩, h3⟩
        unfold VopIs
        simpa [hp, h0, vxF] using h1
    · by_cases hv : at_ L o.cell = 1
      · have hg : vstep L o = (L, { o with k := 3, seen := at_ L o.cell, out := 0 }) := by simp [vstep, h0, hp, hv]
        rw [hg]
        refine (VStep_unwatch (hS2 hp).op (unwatch_no (hS2 hp) (fun h => h hv))).mono ?_
        rintro e w' ⟨rfl, h1, h2, h3⟩
        refine ⟨by simp, ?_, ⟨h2, hf⟩, h3⟩
        unfold VopIs
        simpa [hp, h0, vxF] using h1
      · have hg : vstep L o = (L, { o with k := 3, seen := at_ L o.cell, out := 4 }) := by simp [vstep, h0, hp, hv]
        rw [hg]
        refine (VStep_unwatch (hS2 hp).op (unwatch_yes (hS2 hp) hv)).mono ?_
        rintro e w' ⟨rfl, h1, h2, h3⟩
        refine ⟨by simp, ?_, ⟨h2, hf⟩, h3⟩
        unfold VopIs
        simpa [hp, h0, vxF] using h1
    · by_cases hv : at_ L o.cell = 1
      · have hg : vstep L o = (L.set o.cell.toNat 0, { o with k := 2, out := 1 }) := by simp [vstep, h0, hp, hv]
        rw [hg]
        refine (VStep_end (hS2 hp).op (end_yes (hS2 hp) hv)).mono ?_
        rintro e w' ⟨rfl, h1, h2, h3⟩
        refine ⟨by first | rfl | simp [h0], ?_, ⟨h2, hf⟩, h3⟩
        unfold VopIs
        simpa [hp, h0, vxF] using h1
      · have hg : vstep L o = (L, { o with k := 2 }) := by simp [vstep, h0, hp, hv]
        rw [hg]
        refine (VStep_end (hS2 hp).op (end_no (hS2 hp) hv)).mono ?_
        rintro e w' ⟨rfl, h1, h2, h3⟩
        refine ⟨by first | rfl | simp [h0], ?_, ⟨h2, hf⟩, h3⟩
        unfold VopIs
        simpa [hp, h0, vxF] using h1
    · by_cases hv : at_ L o.cell = 1
      · have hg : vstep L o = (L.set o.cell.toNat 2, { o with out := 1 }) := by simp [vstep, h0, hp, hv]
        rw [hg]
        refine (VStep_claim (hS2 hp).op (claim_yes (hS2 hp) hv)).mono ?_
        rintro e w' ⟨rfl, h1, h2, h3⟩
        refine ⟨by first | rfl | simp [h0], ?_, ⟨h2, hf⟩, h3⟩
        unfold VopIs
        simpa [hp, h0, vxF] using h1
      · have hg : vstep L o = (L, { o with out := 4 }) := by simp [vstep, h0, hp, hv]
        rw [hg]
        refine (VStep_claim (hS2 hp).op (claim_no (hS2 hp) hv)).mono ?_
        rintro e w' ⟨rfl, h1, h2, h3⟩
        refine ⟨by first | rfl | simp [h0], ?_, ⟨h2, hf⟩, h3⟩
        unfold VopIs
        simpa [hp, h0, vxF] using h1
  · have hg : vstep L o = (L, o) := by simp [vstep, h0]
    have htk : vtick o = 0 := by simp [vtick, h0]
    rw [hg, htk]
    refine (VStep_over h h0).mono ?_
    rintro e w' ⟨rfl, rfl⟩
    have hb : (o.out != 0) = true := by simp [h0]
    refine ⟨by rw [hb], h, ?_, Only.refl _ _⟩
    rw [Int.add_zero]
    exact he

/-- An operation that is done at once: the cells, the operation, how many steps. -/
def vdone : Nat → List Int → Vop → List Int × Vop × Nat
  | 0, L, o => (L, o, 0)
  | k + 1, L, o => if o.out ≠ 0 then (L, o, 0) else ((vdone k (vstep L o).1 (vstep L o).2).1, (vdone k (vstep L o).1 (vstep L o).2).2.1, (vdone k (vstep L o).1 (vstep L o).2).2.2 + 1)
theorem vdone_over (k : Nat) (L : List Int) (o : Vop) (h : o.out ≠ 0) : vdone k L o = (L, o, 0) := by
  cases k <;> simp [vdone, h]
theorem vdone_succ (k : Nat) (L : List Int) (o : Vop) (h : o.out = 0) : vdone (k + 1) L o =
    ((vdone k (vstep L o).1 (vstep L o).2).1, (vdone k (vstep L o).1 (vstep L o).2).2.1, (vdone k (vstep L o).1 (vstep L o).2).2.2 + 1) := by
  simp [vdone, h]
theorem vdone_cons {k j : Nat} {L L1 L2 : List Int} {o o1 o2 : Vop} (h : o.out = 0) (hs : vstep L o = (L1, o1)) (hr : vdone k L1 o1 = (L2, o2, j)) :
    vdone (k + 1) L o = (L2, o2, j + 1) := by
  rw [vdone_succ _ _ _ h, hs, hr]
theorem VopIs.over0 (h : VopIs w bo bm o) (ho : o.out = 0) : Calls Try.prog 30 #[.pointer (some ⟨bo, 0, none⟩)] w fun e w' => e = .returned (.bool false) ∧ w = w' := by
  unfold VopIs at h
  rw [ho] at h
  exact VOver_pend h
theorem VopIs.over1 (h : VopIs w bo bm o) (ho : o.out ≠ 0) : Calls Try.prog 30 #[.pointer (some ⟨bo, 0, none⟩)] w fun e w' => e = .returned (.bool true) ∧ w = w' := VOver_over h ho
theorem VopIs.outcome (h : VopIs w bo bm o) : Calls Try.prog 32 #[.pointer (some ⟨bo, 0, none⟩)] w fun e w' => e = .returned (.int .i64 o.out) ∧ w = w' := VOutcome_any h

/-- What 'done' answers. -/
def vdoneV (r : List Int × Vop × Nat) : Value := .tuple #[.int .i64 r.2.1.out, .int .i64 (r.2.2 : Int)]
set_option maxHeartbeats 1000000 in
theorem vdone_any (he : VEnv w bm bc tc L) (ho : VopOk L.length o) (h : VopIs w bo bm o) (hf : Few (tc + 100)) :
    Calls Try.prog 33 #[.pointer (some ⟨bo, 0, none⟩)] w fun e w' => e = .returned (vdoneV (vdone 100 L o)) ∧ VopIs w' bo bm (vdone 100 L o).2.1 ∧
      VEnv w' bm bc (tc + ((vdone 100 L o).2.2 : Nat)) (vdone 100 L o).1 ∧ Only (S3 bo bm bc) w w' ∧ (vdone 100 L o).1.length = L.length := by
  obtain ⟨r, hr⟩ : ∃ r, vdone 100 L o = r := ⟨_, rfl⟩
  rw [hr]
  have HE := hide he
  have HO := hide ho
  have H := hide h
  have HF := hide hf
  have HR := hide hr
  clear he ho h hf hr
  go_enter Try.func33, Try.ntmps33
  go_wp2_with fail
  go_loopg [4] 100 (fun q iv wr => ∃ (k : Nat) (L' : List Int) (o' : Vop), q = 100 - k ∧ k ≤ 100 ∧ iv = .int .i64 k ∧ L'.length = L.length ∧ VopIs wr bo bm o' ∧ VopOk L'.length o' ∧ VEnv wr bm bc (tc + k) L' ∧ Only (S3 bo bm bc) w wr ∧
      r = ((vdone (100 - k) L' o').1, (vdone (100 - k) L' o').2.1, (vdone (100 - k) L' o').2.2 + k))
  case atStart => exact ⟨0, L, o, rfl, by omega, rfl, rfl, H.out, HO.out, by simpa using HE.out, Only.refl _ _, HR.out.symm⟩
  case round =>
    obtain ⟨k, L', o', rfl, hk, rfl, hl, hi, hok, henv, hon, hrr⟩ := hrel
    have HL := hide hl
    have HI := hide hi
    have HOK := hide hok
    have HENV := hide henv
    have HON := hide hon
    have HRR := hide hrr
    clear hl hi hok henv hon hrr
    by_cases hlt : k < 100
    · by_cases hov : o'.out = 0
      · have HOV := hide hov
        clear hov
        go_wp2_with fail
        refine (HI.out.over0 HOV.out).mono ?_
        rintro e w1 ⟨rfl, rfl⟩
        go_wp2_with fail
        refine (VStep_all HENV.out HOK.out HI.out (HF.out.le_ (by omega))).mono ?_
        rintro e w1 ⟨rfl, h1, h2, h3⟩
        generalize hb : ((vstep L' o').2.out != 0) = b
        have H1 := hide h1
        have htk : vtick o' = 1 := by simp [vtick, HOV.out]
        rw [htk] at h2
        have H2 := hide h2
        have H3 := hide (HON.out.trans h3)
        have H4 := hide (vstep_ok L' o' HOK.out)
        clear h1 h2 h3 hb htk
        go_wp2_with fail
        go_roundg (100 - (k + 1))
        case rel =>
          refine ⟨k + 1, (vstep L' o').1, (vstep L' o').2, rfl, by omega, by go_num, ?_, H1.out, by rw [vstep_len]; exact H4.out, ?_, H3.out, ?_⟩
          · rw [vstep_len]; exact HL.out
          · have := H2.out
            rw [show tc + ((k + 1 : Nat) : Int) = tc + k + 1 by omega]
            exact this
          · rw [HRR.out, show 100 - k = (100 - (k + 1)) + 1 by omega, vdone_succ _ _ _ HOV.out]
            simp; omega
        case measure => omega
      · have HOV := hide hov
        clear hov
        go_wp2_with fail
        refine (HI.out.over1 HOV.out).mono ?_
        rintro e w1 ⟨rfl, rfl⟩
        go_wp2_with fail
        refine (HI.out.outcome).mono ?_
        rintro e w1 ⟨rfl, rfl⟩
        go_wp2_with fail
        go_ret2
        have hrr := HRR.out
        rw [vdone_over _ _ _ HOV.out] at hrr
        subst hrr
        refine ⟨by simp [vdoneV], HI.out, ?_, HON.out, HL.out⟩
        simpa using HENV.out
    · obtain rfl : k = 100 := by omega
      go_wp2_with fail
      refine (HI.out.outcome).mono ?_
      rintro e w1 ⟨rfl, rfl⟩
      go_wp2_with fail
      go_ret2
      have hrr := HRR.out
      rw [show 100 - 100 = 0 by omega, vdone] at hrr
      subst hrr
      refine ⟨by simp [vdoneV], HI.out, ?_, HON.out, HL.out⟩
      simpa using HENV.out
end
end Go.Proofs.Ytafnlmkhfonghaa
