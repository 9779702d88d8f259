/-
  The document's crew (trouperef20): where its parts lie; its cells laid out.
-/
import Derived.Test.YtdoaipjdldknaaaGreatKC18
import Derived.Test.YtdoaipjdldknaaaGreatKLay4
namespace Go.Proofs.YtdoaipjdldknaaaGreat
open Go.RowKit
set_option linter.unusedVariables false
/-- The cells as the document lays them: a mark and a deque for each worker, the gate at last. -/
def layR (L : List Int) (F : CLay) : Nat → List Int
  | 0 => L
  | k + 1 => layD ((layR L F k).set (F.base + k) 0) (F.db k) (2 + F.slots)
theorem zeroL_set (L : List Int) (b k i : Nat) (x : Int) (h : i < b ∨ b + k ≤ i) : zeroL (L.set i x) b k = (zeroL L b k).set i x := by
  induction k with
  | zero => rfl
  | succ k ih => simp only [zeroL]; rw [ih (by omega), List.set_comm _ _ (by omega)]
theorem layD_set (L : List Int) (b k i : Nat) (x : Int) (h : i < b ∨ b + k ≤ i) : layD (L.set i x) b k = (layD L b k).set i x := by
  induction k with
  | zero => rfl
  | succ k ih => simp only [layD]; rw [ih (by omega), List.set_comm _ _ (by omega)]
theorem layDs_set (L : List Int) (db : Nat → Nat) (sl k i : Nat) (x : Int) (h : ∀ j, j < k → i < db j ∨ db j + (2 + sl) ≤ i) : layDs (L.set i x) db sl k = (layDs L db sl k).set i x := by
  induction k with
  | zero => rfl
  | succ k ih => simp only [layDs]; rw [ih (fun j hj => h j (by omega)), layD_set _ _ _ _ _ (h k (by omega))]
theorem layDs_zeroL (L : List Int) (db : Nat → Nat) (sl k b m : Nat) (h : ∀ j, j < k → b + m ≤ db j) : layDs (zeroL L b m) db sl k = zeroL (layDs L db sl k) b m := by
  induction m with
  | zero => rfl
  | succ m ih => simp only [zeroL]; rw [layDs_set _ _ _ _ _ _ (fun j hj => .inl (by have := h j hj; omega)), ih (fun j hj => by have := h j hj; omega)]
theorem db_ge (F : CLay) (i : Nat) : F.gb + (2 + 2 * F.actors) ≤ F.db i := by unfold CLay.gb CLay.db; omega
theorem layR_eq (L : List Int) (F : CLay) (k : Nat) (hk : k ≤ F.n) : layR L F k = layDs (zeroL L F.base k) F.db F.slots k := by
  induction k with
  | zero => rfl
  | succ k ih =>
    simp only [layR, layDs, zeroL]
    rw [ih (by omega), layDs_set _ _ _ _ _ _ (fun j hj => .inl (by have := db_ge F j; unfold CLay.gb at this; omega))]
theorem layR_done (L : List Int) (F : CLay) : zeroL (layR L F F.n) F.gb (2 + 2 * F.actors) = layC L F := by
  unfold layC
  rw [layR_eq L F F.n (Nat.le_refl _), layDs_zeroL _ _ _ _ _ _ (fun j _ => db_ge F j)]
theorem layR_len (L : List Int) (F : CLay) (k : Nat) : (layR L F k).length = L.length := by
  induction k with
  | zero => rfl
  | succ k ih => simp [layR, layD_len, ih]
/-- The document's Crew, as a value. -/
def crewV (F : CLay) : Value := .agg #[.int .i64 F.base, .int .i64 F.n, .int .i64 F.slots, .int .i64 F.actors]
section
variable {w : World} {F : CLay}
theorem CLay.Ok.mul (h : F.Ok) {i : Nat} (hi : i ≤ 8) : IntKind.i64.wrap ((i : Int) * (2 + (F.slots : Int))) = (i : Int) * (2 + (F.slots : Int)) ∧ 0 ≤ (i : Int) * (2 + (F.slots : Int)) ∧ (i : Int) * (2 + (F.slots : Int)) ≤ 600 := by
  obtain ⟨m1, m2⟩ := mul_bound (show (0:Int) ≤ (i:Int) by omega) (show (i:Int) ≤ 8 by omega) (show (0:Int) ≤ 2 + (F.slots : Int) by omega) (show 2 + (F.slots : Int) ≤ 66 by have := h.s64; omega)
  exact ⟨IntWalk.i64_in _ (by omega), m1, by omega⟩
theorem RSize_any (base : Int) (hF : F.Ok) : Calls Tryz.prog 10 #[.agg #[.int .i64 base, .int .i64 F.n, .int .i64 F.slots, .int .i64 F.actors]] w fun e w' => e = .returned (.int .i64 (F.size : Nat)) ∧ Only S0 w w' := by
  obtain ⟨m1, m2, m3⟩ := hF.mul hF.n8
  have a1 := hF.a64
  have a2 := hF.s64
  have a3 := hF.n8
  have e0 : (F.size : Int) = (F.n : Int) + 2 + 2 * (F.actors : Int) + (F.n : Int) * (2 + (F.slots : Int)) := by unfold CLay.size; simp only [Int.natCast_add, Int.natCast_mul]; rw [show ((2:Nat):Int) = 2 from rfl]; omega
  have HE := hide e0
  have o1 := (Only.refl S0 w).alloc (.cells #[.int .i64 base, .int .i64 F.n, .int .i64 F.slots, .int .i64 F.actors] 34)
  have HO := hide o1
  rw [HE.out]
  clear e0 o1 hF
  go_enter Tryz.func10, Tryz.ntmps10
  go_wp2_with fail
  go_ret
  exact ⟨rfl, HO.out⟩
theorem RDeque_any (hF : F.Ok) (hb : F.base ≤ 70000) (i : Nat) (hi : i ≤ 8) : Calls Tryz.prog 39 #[crewV F, .int .i64 i] w fun e w' => e = .returned (.agg #[.int .i64 (F.db i : Nat), .int .i64 F.slots]) ∧ Only S0 w w' := by
  obtain ⟨m1, m2, m3⟩ := hF.mul hi
  have a1 := hF.a64
  have a2 := hF.s64
  have a3 := hF.n8
  have e0 : (F.db i : Int) = (F.base : Int) + F.n + 2 + 2 * (F.actors : Int) + (i : Int) * (2 + (F.slots : Int)) := by unfold CLay.db; simp only [Int.natCast_add, Int.natCast_mul]; rw [show ((2:Nat):Int) = 2 from rfl]; omega
  have HE := hide e0
  have o1 := (Only.refl S0 w).alloc (.cells #[.int .i64 F.base, .int .i64 F.n, .int .i64 F.slots, .int .i64 F.actors] 34)
  have HO := hide o1
  unfold crewV
  rw [HE.out]
  clear e0 o1 hF
  go_enter Tryz.func39, Tryz.ntmps39
  go_wp2_with fail
  refine bodyPost_ret (v := .agg #[.int .i64 ((F.base : Int) + F.n + 2 + 2 * (F.actors : Int) + (i : Int) * (2 + (F.slots : Int))), .int .i64 F.slots]) (by simp [results, Tryz.results39, go_sem]) rfl ⟨rfl, ?_⟩
  exact HO.out.alloc _
theorem RGate_any (hF : F.Ok) (hb : F.base ≤ 70000) : Calls Tryz.prog 41 #[crewV F] w fun e w' => e = .returned (.agg #[.int .i64 (F.gb : Nat), .int .i64 F.actors]) ∧ Only S0 w w' := by
  have a1 := hF.a64
  have a3 := hF.n8
  have e0 : (F.gb : Int) = (F.base : Int) + F.n := by unfold CLay.gb; omega
  have HE := hide e0
  have o1 := (Only.refl S0 w).alloc (.cells #[.int .i64 F.base, .int .i64 F.n, .int .i64 F.slots, .int .i64 F.actors] 34)
  have HO := hide o1
  unfold crewV
  rw [HE.out]
  clear e0 o1 hF
  go_enter Tryz.func41, Tryz.ntmps41
  go_wp2_with fail
  refine bodyPost_ret (v := .agg #[.int .i64 ((F.base : Int) + F.n), .int .i64 F.actors]) (by simp [results, Tryz.results41, go_sem]) rfl ⟨rfl, ?_⟩
  exact HO.out.alloc _
variable {rm rc : Nat} {L : List Int} {tc : Int}
set_option maxRecDepth 100000 in
set_option maxHeartbeats 1000000 in
theorem RLay_any (hF : F.Ok) (hb : F.base ≤ 70000) (hin : F.base + F.size ≤ L.length) (h : RefAt w rm rc L tc) :
    Calls Tryz.prog 15 #[.pointer (some ⟨rm, 0, none⟩), crewV F] w fun e w' => e = .returned (.tuple #[]) ∧ RefAt w' rm rc (layC L F) tc ∧ Only (S2 rm rc) w w' := by
  have hl := h.len
  have hn := h.ne
  have h1 := h.mem.lt
  have h2 := h.cells.lt
  have o1 := (Only.refl (S2 rm rc) w).alloc (.cells #[.int .i64 F.base, .int .i64 F.n, .int .i64 F.slots, .int .i64 F.actors] 34)
  have HB := hide (Blk.new w 34 #[.int .i64 F.base, .int .i64 F.n, .int .i64 F.slots, .int .i64 F.actors])
  have H1 := hide (show RefAt (w.alloc (.cells #[.int .i64 F.base, .int .i64 F.n, .int .i64 F.slots, .int .i64 F.actors] 34)) rm rc L tc from h.only ((Only.refl S0 w).alloc _) (fun h => h) (fun h => h))
  have HO1 := hide o1
  have HK := hide hF
  have n8 := hF.n8
  have hat1 : w.heap.size ≠ rm := by omega
  have hat2 : w.heap.size ≠ rc := by omega
  have HIN := hide hin
  have HSZ := hide (show F.base + F.n ≤ L.length from by unfold CLay.size at hin; omega)
  clear h o1 hF hin
  unfold crewV
  go_enter Tryz.func15, Tryz.ntmps15
  go_wp2_with fail
  generalize hw1 : w.alloc (.cells #[.int .i64 F.base, .int .i64 F.n, .int .i64 F.slots, .int .i64 F.actors] 34) = w1 at *
  generalize hat : w.heap.size = at_ at *
  have HATE := hide hat
  clear hw1 hat
  go_loopg [4] F.n (fun q iv wr => ∃ (k : Nat), q = F.n - k ∧ k ≤ F.n ∧ iv = .int .i64 k ∧ RefAt wr rm rc (layR L F k) tc ∧ Blk wr at_ 34 #[.int .i64 F.base, .int .i64 F.n, .int .i64 F.slots, .int .i64 F.actors] ∧ Only (S2 rm rc) w wr)
  case atStart => exact ⟨0, rfl, Nat.zero_le _, rfl, H1.out, HB.out, HO1.out⟩
  case round =>
    obtain ⟨k, rfl, hk, rfl, hm, hb', ho⟩ := hrel
    clear H1 HB HO1
    have d0 := hb'.cellv (i := 0) rfl
    have d1 := hb'.cellv (i := 1) rfl
    have d2 := hb'.cellv (i := 2) rfl
    have d3 := hb'.cellv (i := 3) rfl
    have e0 := hm.mem.cellv (i := 0) rfl
    rw [layR_len] at e0
    by_cases hlt : k < F.n
    · have hlk : F.base + k < L.length := by have := HSZ.out; omega
      have f1 := hm.cells.frozen (F.base + k)
      have c2 := hm.cellN (F.base + k) (by rw [layR_len]; omega)
      have HM := hide hm
      have HB := hide hb'
      have HO := hide ho
      clear hm hb' ho
      go_upto_region 4 with fail
      go_region
      have HM2 := hide (show RefAt (wr.setCell ⟨rc, F.base + k, none⟩ (.int .u64 0)).drew rm rc ((layR L F k).set (F.base + k) 0) tc from (HM.out.stored (F.base + k) 0).drew)
      have HB2 := hide (HB.out.far (p := ⟨rc, F.base + k, none⟩) (by have := HATE.out; show at_ ≠ rc; omega) (.int .u64 0)).drew
      have HO2 := hide (HO.out.set1 (F.base + k) (.inr rfl) (.int .u64 0)).drew
      clear d0 d1 d2 d3 e0 f1 c2 HM HB HO
      generalize (wr.setCell ⟨rc, F.base + k, none⟩ (.int .u64 0)).drew = w2 at *
      have d0 := HB2.out.cellv (i := 0) rfl
      have d1 := HB2.out.cellv (i := 1) rfl
      have d2 := HB2.out.cellv (i := 2) rfl
      have d3 := HB2.out.cellv (i := 3) rfl
      go_wp2_with fail
      refine (RDeque_any HK.out hb k (by omega)).mono ?_
      rintro e w3 ⟨rfl, o3⟩
      have HM3 := hide (HM2.out.only o3 (fun h => h) (fun h => h))
      have HB3 := hide (HB2.out.only o3 (fun h => h))
      have HO3 := hide (HO2.out.trans (o3.mono fun _ h => h.elim))
      clear o3 HM2 HB2 HO2 d0 d1 d2 d3
      go_wp2_with fail
      refine (Lay4_any (F.db k) F.slots HM3.out HK.out.s64 (by rw [List.length_set, layR_len]; have := CLay.db_in hlt; have := HIN.out; omega)).mono ?_
      rintro e w4 ⟨rfl, h4, o4⟩
      have HM4 := hide h4
      have HB4 := hide (HB3.out.only o4 (fun h => by have := HATE.out; unfold S2 at h; omega))
      have HO4 := hide (HO3.out.trans o4)
      clear h4 o4 HM3 HB3 HO3
      go_wp2_with fail
      go_roundg (F.n - (k + 1))
      case rel => exact ⟨k + 1, rfl, by omega, by go_num, HM4.out, HB4.out, HO4.out⟩
      case measure => omega
    · obtain rfl : k = F.n := by omega
      have HM := hide hm
      have HO := hide ho
      clear hm hb' ho
      go_wp2_with fail
      refine (RGate_any HK.out hb).mono ?_
      rintro e w3 ⟨rfl, o3⟩
      have HM3 := hide (HM.out.only o3 (fun h => h) (fun h => h))
      have HO3 := hide (HO.out.trans (o3.mono fun _ h => h.elim))
      clear o3 HM HO d0 d1 d2 d3
      go_wp2_with fail
      refine (Lay3_any F.gb F.actors HM3.out HK.out.a64 (by rw [layR_len]; have := HIN.out; unfold CLay.size at this; unfold CLay.gb; omega)).mono ?_
      rintro e w4 ⟨rfl, h4, o4⟩
      rw [layR_done] at h4
      have HM4 := hide h4
      have HO4 := hide (HO3.out.trans o4)
      clear h4 o4 HM3 HO3
      go_wp2_with fail
      go_end0
      exact ⟨rfl, HM4.out, HO4.out⟩
end
end Go.Proofs.YtdoaipjdldknaaaGreat
