/-
  LotAll, the walk.
-/
import Derived.Test.YtdaddbkhdalcfaaOpen
import Derived.Test.YtdaddbkhdalcfaaAlive7
import Derived.Test.YtdaddbkhdalcfaaLotR
namespace Go.Proofs.Ytdaddbkhdalcfaa
open Go.RowKit
set_option linter.unusedVariables false

theorem erase_perm {l : List Nat} {i : Nat} (h : i < l.length) : (l[i] :: l.eraseIdx i).Perm l := by
  have h1 : l = l.take i ++ l[i] :: l.drop (i + 1) := by rw [← List.drop_eq_getElem_cons h, List.take_append_drop]
  rw [List.eraseIdx_eq_take_drop_succ]
  have h2 := (List.perm_middle (a := l[i]) (l₁ := l.take i) (l₂ := l.drop (i + 1))).symm
  rw [← h1] at h2
  exact h2
theorem ord_perm : ∀ (m d : Nat) (l : List Nat), l.length = m → (ordN m d l).Perm l
  | 0, d, l, hl => by
    have : l = [] := List.eq_nil_of_length_eq_zero hl
    subst this
    simp [ordN]
  | m + 1, d, l, hl => by
    have hne : l ≠ [] := fun e => by rw [e] at hl; simp at hl
    have hp : d % l.length < l.length := Nat.mod_lt _ (by omega)
    rw [ordN_succ _ _ _ hne]
    have h1 := ord_perm m (d / l.length) (l.eraseIdx (d % l.length)) (by rw [List.length_eraseIdx_of_lt hp]; omega)
    have h2 : l.getD (d % l.length) 0 = l[d % l.length] := by simp [List.getD, hp]
    rw [h2]
    exact (h1.cons _).trans (erase_perm hp)
theorem ordZ_mem (d n s : Nat) (h0 : n ≤ 8) (h1 : s < n) (v : Nat) (h : v ∈ ordZ d n s) : v < n ∧ v ≠ s := by
  unfold ordZ at h
  rw [othZ_good n s h0 h1] at h
  exact (mem_othN n s v).1 ((ord_perm _ d _ rfl).mem_iff.1 h)
theorem ordZ_nodup (d n s : Nat) (h0 : n ≤ 8) (h1 : s < n) : (ordZ d n s).Nodup := by
  unfold ordZ
  rw [othZ_good n s h0 h1]
  exact (ord_perm _ d _ rfl).nodup_iff.2 (oth_nodup n s)
theorem ordZ_size (d n s : Nat) (h0 : n ≤ 8) (h1 : s < n) : (ordZ d n s).length = n - 1 := by
  rw [ordZ_len, othZ_good n s h0 h1, othN_len n s h1]
/-- Whoever is marked has been named. -/
def Marked (gs : List Bool) (o : List Nat) (k : Nat) : Prop := ∀ v, gs.getD v true = true → v < gs.length → v ∈ o.take k

set_option maxHeartbeats 1000000 in
theorem lotAll_walk (d wk who : Int) (w : World) (w0 : (Lit.int .u64 d).wf = true) (w1 : (Lit.int .u8 wk).wf = true) (w2 : (Lit.int .u8 who).wf = true) :
    Calls Try.prog 10 #[.int .u64 d, .int .u8 wk, .int .u8 who] w fun e w' => e = .returned (.bool true) ∧ Below w.heap.size w w' := by
  have hd := bounds_u64 w0
  have HD0 := hide hd.1
  have HD1 := hide hd.2
  have k1 := (bounds_u8 w1).1
  have k2 := (bounds_u8 w1).2
  have k3 := (bounds_u8 w2).1
  have k4 := (bounds_u8 w2).2
  clear w0 w1 w2 hd
  obtain ⟨n, hn⟩ : ∃ n : Nat, 1 + wk % 8 = (n : Int) := ⟨(1 + wk % 8).toNat, by omega⟩
  have n1 : 1 ≤ n := by omega
  have n8 : n ≤ 8 := by omega
  obtain ⟨s, hs⟩ : ∃ s : Nat, who % (n : Int) = (s : Int) := ⟨(who % (n : Int)).toNat, by have := Int.emod_nonneg who (show (n : Int) ≠ 0 by omega); omega⟩
  have sn : s < n := by have := Int.emod_lt_of_pos who (show (0 : Int) < (n : Int) by omega); omega
  have hmk := make_flat 59 4 (.bool false) 1 Try.underlying59 info_bool rfl n (by omega) (by omega)
  go_enter Try.func10, Try.ntmps10
  go_wp2_with fail
  refine (alive7_any w).mono ?_
  rintro e w1 ⟨rfl, p1⟩
  have P1 := hide p1
  clear p1
  go_wp2_with fail
  refine (Order_any d n s _ HD0.out (by have := HD1.out; omega)).mono ?_
  rintro e w2 ⟨v, rfl, hv, p2⟩
  obtain ⟨o, ho⟩ : ∃ o, ordZ d.toNat n s = o := ⟨_, rfl⟩
  have HMEM := hide (ordZ_mem d.toNat n s n8 sn)
  have HND := hide (ordZ_nodup d.toNat n s n8 sn)
  have hsz := ordZ_size d.toNat n s n8 sn
  rw [ho] at hv HMEM HND hsz
  have HSZ := hide hsz
  obtain ⟨av, cv, rfl, hcell⟩ := hv.rd
  rw [vN_len, hsz] at hcell ⊢
  have HC := hide hcell
  have HV := hide hv
  have P2 := hide (P1.out.trans p2)
  clear hv p2 P1 ho hsz hcell
  go_wp2_with fail
  have B3 := Blk.new w2 4 (zeros (.bool false) n)
  have O3 := (Only.refl S0 w2).alloc (.cells (zeros (.bool false) n) 4)
  rw [show zeros (.bool false) n = ((List.replicate n false).map Value.bool).toArray from by simp only [zeros, List.map_replicate]] at B3 O3 ⊢
  generalize w2.alloc _ = w3 at B3 O3 ⊢
  have hgb0 : w.heap.size ≤ w2.heap.size := P2.out.size
  generalize w2.heap.size = gb at B3 hgb0 ⊢
  have HB3 := hide B3
  have HV3 := hide (HV.out.only O3 (fun _ _ h => h))
  have hneb : ∀ g, (Value.slice av (n - 1) cv).ownBlock = some g → g ≠ gb := fun g hg e => HV3.out.ne_blk HB3.out (by decide) (by rw [vN_len, HSZ.out, hg, e])
  have HNEB := hide hneb
  have HP3 := hide (P2.out.trans O3)
  clear B3 O3 P2 hmk hneb HC HV
  go_loopg [11] (n - 1) (fun q iv wr => ∃ (k : Nat) (gs : List Bool), q = n - 1 - k ∧ k ≤ n - 1 ∧ iv = .int .i64 k ∧ gs.length = n ∧ Marked gs o k ∧ Blk wr gb 4 (gs.map Value.bool).toArray ∧ Sl wr w1.heap.size 3 (.slice av (vN o).length cv) (vN o) ∧ Only S0 w wr)
  case atStart =>
    refine ⟨0, List.replicate n false, rfl, Nat.zero_le _, rfl, by simp, ?_, HB3.out, HV3.out, HP3.out⟩
    intro v hv hvl
    simp at hvl
    simp [List.getD, hvl] at hv
  case round =>
    obtain ⟨k, gs, rfl, hk, rfl, hgs, hmk, hb, hv, ho⟩ := hrel
    have HGS := hide hgs
    have HMK := hide hmk
    have HB := hide hb
    have HV := hide hv
    have HO := hide ho
    clear hgs hmk hb hv ho
    by_cases hlt : k < n - 1
    · obtain ⟨a9, c9, hv9, hcell⟩ := HV.out.rd
      rw [vN_len, HSZ.out] at hv9 hcell
      injection hv9 with e1 _ e3
      subst e1
      obtain ⟨g, off, rfl, hg, hc⟩ := hcell (by omega)
      have hko : k < o.length := by rw [HSZ.out]; exact hlt
      have c1 := hc k _ (vN_at o k hko)
      obtain ⟨x, hx⟩ : ∃ x, o.getD k 0 = x := ⟨_, rfl⟩
      rw [hx] at c1
      have hxm : x ∈ o := by rw [← hx]; simp [List.getD, hko]
      obtain ⟨hxn, hxs⟩ := HMEM.out x hxm
      have hxk : gs.getD x true = false := by
        cases h : gs.getD x true with
        | false => rfl
        | true =>
          have h2 := HMK.out x h (by rw [HGS.out]; exact hxn)
          rw [← hx] at h2
          have h3 : o.getD k 0 = o[k] := by simp [List.getD, hko]
          rw [h3] at h2
          obtain ⟨j, hj, hje⟩ := List.getElem_of_mem h2
          rw [List.getElem_take] at hje
          have hjk : j < k := by rw [List.length_take] at hj; omega
          exact absurd hje ((List.pairwise_iff_getElem.1 HND.out) j k (by omega) hko hjk)
      have c2 := gone_cell HB.out x (by rw [HGS.out]; exact hxn)
      rw [hxk] at c2
      have f2 := HB.out.frozen x
      have hgne : g ≠ gb := HNEB.out g rfl
      have hb1 : ((x : Int) == (s : Int)) = false := by simp; omega
      have HX := hide hx
      have HXK := hide hxk
      clear hc hcell hx hxk hxm e3
      go_wp2_with fail
      go_roundg (n - 1 - (k + 1))
      case rel =>
        refine ⟨k + 1, gs.set x true, rfl, by omega, by go_num, by simpa using HGS.out, ?_, ?_, ?_, HO.out.setNew x hgb0 _⟩
        · intro v hv hvl
          rw [List.take_succ_eq_append_getElem hko]
          by_cases hvx : v = x
          · have h3 : o.getD k 0 = o[k] := by simp [List.getD, hko]
            rw [hvx, ← HX.out, h3]
            exact List.mem_append.2 (.inr (List.mem_singleton.2 rfl))
          · have hvl' : v < gs.length := by simpa using hvl
            have h1 : gs.getD v true = true := by
              have h2 := hv
              simp only [List.getD] at h2 ⊢
              rwa [List.getElem?_set_ne (by omega)] at h2
            exact List.mem_append.2 (.inl (HMK.out v h1 hvl'))
        · have := HB.out.set_ x (.bool true)
          simpa [List.map_set] using this
        · exact HV.out.only (only_set _ gb x _) (fun g' hg' e => HV.out.ne_blk HB.out (by decide) (by rw [hg', e]))
      case measure => omega
    · obtain rfl : k = n - 1 := by omega
      have hl1 : ((n - 1 : Nat) : Int) = (n : Int) - 1 := by omega
      have hle : (((n - 1 : Nat) : Int) == (n : Int) - 1) = true := by simp; omega
      have HL1 := hide hl1
      clear hl1
      go_wp2_with fail
      go_ret
      refine ⟨?_, S0.below HO.out⟩
      first | rfl | simp [HL1.out]
end Go.Proofs.Ytdaddbkhdalcfaa
