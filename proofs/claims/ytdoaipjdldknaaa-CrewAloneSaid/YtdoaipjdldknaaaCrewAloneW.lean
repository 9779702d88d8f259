/-
  CrewAlone, the walk.
-/
import Derived.Test.YtdoaipjdldknaaaKRun
import Derived.Test.YtdoaipjdldknaaaKAlive
import Derived.Test.YtdoaipjdldknaaaOpen
namespace Go.Proofs.Ytdoaipjdldknaaa
open Go.RowKit
set_option linter.unusedVariables false
theorem sub_layD (L : List Int) (b k m : Nat) (h : k ≤ m) : sub (layD L b k) b m = layD (sub L b m) 0 k := by
  induction k with
  | zero => rfl
  | succ k ih =>
    simp only [layD]
    rw [sub_set _ _ _ _ _ (by omega), ih (by omega), Nat.zero_add]
theorem sub_rep (n b k : Nat) (h : b + k ≤ n) : sub (List.replicate n (0 : Int)) b k = List.replicate k 0 := by
  refine List.ext_getElem? fun j => ?_
  by_cases hj : j < k
  · rw [sub_get _ _ _ _ hj, List.getElem?_replicate, List.getElem?_replicate, if_pos hj, if_pos (by omega)]
  · rw [sub_out _ _ _ _ (by omega), List.getElem?_replicate, if_neg hj]
theorem layD_agr (L : List Int) (b k : Nat) : Agr L (layD L b k) b k := by
  have : ∀ j m, j ≤ m → Agr L (layD L b j) b m := by
    intro j m hm
    induction j with
    | zero => exact Agr.refl _ _ _
    | succ j ih => exact (ih (by omega)).set _ (by omega) (by omega)
  exact this k k (Nat.le_refl _)
theorem alone_lay (s : Nat) : layC (List.replicate 1000 0) (aloneF s) = layD (List.replicate 1000 0) 131 (2 + s) := by
  unfold layC
  show layD (layDs _ _ _ 0) ((aloneF s).db 0) (2 + s) = _
  rw [alone_db, layDs, zeroL_rep, zeroL_rep]
theorem CA.start (s : Nat) (h1 : 1 ≤ s) (h64 : s ≤ 64) : CA s (layC (List.replicate 1000 0) (aloneF s)) [] [] 1 := by
  rw [alone_lay]
  have ha := layD_agr (List.replicate 1000 0) 131 (2 + s)
  refine ⟨by rw [layD_len, List.length_replicate], layD_u _ _ _ (allU_zero _), h1, h64, ?_, ⟨1, 1, fun _ => 0, ?_, (inD_nil _ (Nat.le_refl _)).symm, Nat.le_refl _⟩, ⟨0, 0, fun _ => 0, ?_, (inD_nil _ (Nat.le_refl _)).symm, by omega⟩⟩
  · rw [show at_ (layD (List.replicate 1000 0) 131 (2 + s)) 0 = at_ (List.replicate 1000 0) 0 from ha.at (i := 0) (by omega)]; rfl
  · rw [sub_layD _ _ _ _ (Nat.le_refl _), sub_rep _ _ _ (by omega)]; exact layD_alone h1 h64 _
  · rw [ha.sub (b' := 1) (k' := 130) (by omega), sub_rep _ _ _ (by omega)]; exact Alone.fresh (n := 64) (by omega) (by omega) _
theorem inD_snoc {T B : Nat} (f : Nat → Int) (h : T ≤ B) : inD T (B + 1) f = inD T B f ++ [f B] := by
  rw [inD_pop f (show T < B + 1 by omega)]; rfl
/-- One worker's crew in memory; c and t are bounds of what has been counted. -/
structure CW (w0 w : World) (s cb bb bg bm bc : Nat) (dv : Value) (bd : Nat → Nat) (D G : List Int) (c t : Nat) : Prop where
  ex : ∃ tc L, CEnv w (aloneF s) cb bb bg bm bc dv bd tc L ∧ CA s L D G c ∧ tc ≤ t
  only : Only S0 w0 w
  m1 : w0.heap.size ≤ bm
  m2 : w0.heap.size ≤ bc
theorem CW.next {w0 w w5 w6 : World} {s cb bb bg bm bc : Nat} {dv : Value} {bd : Nat → Nat} {D G D' G' : List Int} {c t c' j : Nat} {tc : Int} {L' : List Int} (h : CW w0 w s cb bb bg bm bc dv bd D G c t) (htc : tc ≤ t) (h3 : Only S0 w w5)
    (he : CEnv w6 (aloneF s) cb bb bg bm bc dv bd (tc + (j : Nat)) L') (ho : Only (SB bm bc w.heap.size) w5 w6) (hj : j ≤ 20) (ha : CA s L' D' G' c') : CW w0 w6 s cb bb bg bm bc dv bd D' G' c' (t + 20) :=
  ⟨⟨_, L', he, ha, by omega⟩, (h.only.trans h3).then ho (fun i hi hs => by have := h.only.size; have := h.m1; have := h.m2; rcases hs with e | e | e <;> omega), h.m1, h.m2⟩
set_option maxRecDepth 100000 in
set_option maxHeartbeats 16000000 in
theorem crewAlone_walk (a0 : Int) (a1 : Option Addr) (len1 cap1 : Nat) (xs : List Int) (a2 : Option Addr) (len2 cap2 : Nat) (ys : List Int) (w : World) (w0 : (Lit.int .u8 a0).wf = true) (w1 : InInts .u64 w a1 len1 xs) (w2 : InInts .u64 w a2 len2 ys) :
    Calls Try.prog 4 #[.int .u8 a0, .slice a1 len1 cap1, .slice a2 len2 cap2] w fun e w' => e = .returned (.bool true) ∧ Below w.heap.size w w' := by
  have k1 := (bounds_u8 w0).1
  have k2 := (bounds_u8 w0).2
  have hb1 := w1.big
  have hb2 := w2.big
  obtain ⟨s, hs⟩ : ∃ s : Nat, 1 + a0 % 6 = (s : Int) := ⟨(1 + a0 % 6).toNat, by omega⟩
  have s1 : 1 ≤ s := by omega
  have s6 : s ≤ 6 := by omega
  obtain ⟨n, hn⟩ : ∃ n : Nat, min (len1 : Int) 30 = (n : Int) := ⟨min len1 30, by omega⟩
  obtain ⟨k, hk⟩ : ∃ k : Nat, min (len2 : Int) 30 = (k : Int) := ⟨min len2 30, by omega⟩
  have HI1 := hide w1
  have HI2 := hide w2
  have HN := hide hn
  have HK := hide hk
  clear w0 w1 w2 hn hk
  go_enter Try.func4, Try.ntmps4
  go_wp2_with fail
  refine (alive20_any w).mono ?_
  rintro e wa ⟨rfl, p1⟩
  have P1 := hide p1
  clear p1
  go_wp2_with fail
  refine (New_any 1000).mono ?_
  rintro e w3 ⟨bm, bc, rfl, h3, p3, b1, b2⟩
  rw [show countOf 1000 = 1000 from by decide] at h3
  go_wp2_with fail
  have hF : (aloneF s).Ok := ⟨by show 1 ≤ 1; omega, by show 1 ≤ 8; omega, s1, by show s ≤ 64; omega, by show 1 ≤ 64; omega, by show 64 ≤ 64; omega⟩
  refine (CMake_good (aloneF s) hF h3 (few_of _ (by decide)) (allU_zero _) (by rw [List.length_replicate]; have := hF.size_le; show 0 + _ ≤ _; omega)).mono ?_
  rintro e w4 ⟨cb, bb, bg, dv, bd, rfl, he, p4, -, -, -, -⟩
  have hsz := P1.out.size
  have HW := hide (show CW w w4 s cb bb bg bm bc dv bd [] [] 1 700 from ⟨⟨_, _, he, CA.start s s1 (by omega), by have := hF.size_le; omega⟩, S0.then2 (P1.out.trans p3) p4 (by omega) (by omega), by omega, by omega⟩)
  clear h3 p3 b1 b2 he p4 hF hsz P1 hs k1 k2
  go_wp2_with fail
  rw [HN.out, HK.out]
  have hn1 : n ≤ len1 := by have := HN.out; omega
  have hk1 : k ≤ len2 := by have := HK.out; omega
  have hn30 : n ≤ 30 := by have := HN.out; omega
  have hk30 : k ≤ 30 := by have := HK.out; omega
  clear HN HK
  have hA1 : n ≠ 0 → ∃ g off, a1 = some ⟨g, off, none⟩ ∧ g < w.heap.size ∧ ∀ i, i < n → w.cell? ⟨g, off + i, none⟩ = some (.int .u64 (elt xs i)) := fun hne => by
    obtain ⟨g, off, h1, h2, h3⟩ := HI1.out.cells (by omega)
    exact ⟨g, off, h1, h2, fun i hi => h3 i (by omega)⟩
  have hA2 : k ≠ 0 → ∃ g off, a2 = some ⟨g, off, none⟩ ∧ g < w.heap.size ∧ ∀ i, i < k → w.cell? ⟨g, off + i, none⟩ = some (.int .u64 (elt ys i)) := fun hne => by
    obtain ⟨g, off, h1, h2, h3⟩ := HI2.out.cells (by omega)
    exact ⟨g, off, h1, h2, fun i hi => h3 i (by omega)⟩
  have hU1 : ∀ i, i < n → U64 (elt xs i) := fun i hi => by have := bounds_u64 (elt_wf HI1.out.wf (i := i) (by rw [HI1.out.length]; omega)); unfold U64; omega
  have hU2 : ∀ i, i < k → U64 (elt ys i) := fun i hi => by have := bounds_u64 (elt_wf HI2.out.wf (i := i) (by rw [HI2.out.length]; omega)); unfold U64; omega
  have HA1 := hide hA1
  have HA2 := hide hA2
  have HU1 := hide hU1
  have HU2 := hide hU2
  clear hA1 hA2 hU1 hU2
  generalize hf : elt xs = f at *
  generalize hg : elt ys = g at *
  clear hf hg
  go_loopg [12] n (fun q iv wr => ∃ j : Nat, q = n - j ∧ j ≤ n ∧ iv = .int .i64 j ∧ CW w wr s cb bb bg bm bc dv bd (inD 0 (min j s) f) (inD (min j s) j f) (1 + j) (700 + 20 * j))
  case atStart => exact ⟨0, rfl, Nat.zero_le _, rfl, by rw [show min 0 s = 0 by omega, inD_nil f (Nat.le_refl _)]; exact HW.out⟩
  case round =>
  clear HW
  obtain ⟨j, rfl, hj, rfl, hw⟩ := hrel
  have HW := hide hw
  clear hw
  by_cases hlt : j < n
  · obtain ⟨g1, off1, rfl, hg1, hc1⟩ := HA1.out (by omega)
    have z0 := (HW.out.only.cell (p := ⟨g1, off1 + j, none⟩) hg1 (fun h => h)).trans (hc1 j hlt)
    have hu := HU1.out j hlt
    have HU := hide hu
    obtain ⟨tc, L, he, ha, htc⟩ := HW.out.ex
    have HE := hide he
    have HA := hide ha
    have HTC := hide htc
    have hj2 : j < len1 := by omega
    clear hc1 hu he ha htc
    go_wp2_with fail
    refine (Offer_all 0 (f j) HU.out HE.out).mono ?_
    rintro e w5 ⟨co, rfl, h1, h2, h3, h4, h5⟩
    rw [show offerC (aloneF s) 0 (f j) = .push 0 (f j) (pushOp (f j)) from by unfold offerC; rw [if_pos ⟨by omega, by show (0:Int) < 1; omega⟩]; rfl] at h1 h5
    have H1 := hide h1
    have H2 := hide h2
    have H3 := hide h3
    have H5 := hide h5
    clear h1 h2 h3 h4 h5 z0
    go_wp2_with fail
    refine (cdone_any H2.out H5.out H1.out H3.out.size (few_of _ (by have := HTC.out; omega))).mono ?_
    rintro e w6 ⟨rfl, he6, o6, -⟩
    by_cases hs : j < s
    · obtain ⟨q, L', hq, c1, c2⟩ := HA.out.offer0_room (f j) HU.out (by rw [inD_len]; omega) (by omega)
      rw [c2] at he6 ⊢
      have HW6 := hide (HW.out.next HTC.out H3.out he6 o6 hq c1)
      clear he6 o6 c1 c2 H1 H2 H3 H5
      go_wp2_with fail
      go_roundg (n - (j + 1))
      case rel => exact ⟨j + 1, rfl, by omega, by go_num, by rw [show min (j + 1) s = min j s + 1 by omega, show min j s = j by omega]; have := HW6.out; rw [show min j s = j by omega, ← inD_snoc f (Nat.zero_le _)] at this; rw [inD_nil f (Nat.le_refl _)] at this ⊢; rw [show 1 + (j + 1) = 1 + j + 1 by omega, show 700 + 20 * (j + 1) = 700 + 20 * j + 20 by omega]; exact this⟩
      case measure => omega
    · obtain ⟨q, L', hq, c1, c2⟩ := HA.out.offer0_full (f j) HU.out (by rw [inD_len]; omega) (by rw [inD_len]; omega) (by omega)
      rw [c2] at he6 ⊢
      have HW6 := hide (HW.out.next HTC.out H3.out he6 o6 hq c1)
      clear he6 o6 c1 c2 H1 H2 H3 H5
      go_wp2_with fail
      go_roundg (n - (j + 1))
      case rel => exact ⟨j + 1, rfl, by omega, by go_num, by have := HW6.out; rw [show min j s = s by omega, ← inD_snoc f (by omega)] at this; rw [show min (j + 1) s = s by omega, show 1 + (j + 1) = 1 + j + 1 by omega, show 700 + 20 * (j + 1) = 700 + 20 * j + 20 by omega]; exact this⟩
      case measure => omega
  · obtain rfl : j = n := by omega
    obtain ⟨m, hm⟩ : ∃ m : Nat, min j s = m := ⟨_, rfl⟩
    have hmi : min (j : Int) (s : Int) = (m : Int) := by omega
    have hmj : m ≤ j := by omega
    have hms : m ≤ s := by omega
    have hmd : m = j ∨ m = s := by omega
    have HMI := hide hmi
    have HMD := hide hmd
    have hw := HW.out
    rw [hm] at hw
    have HW2 := hide hw
    clear hw HW hm hmi hmd
    go_wp2_with fail
    go_loopg [13] k (fun q iv wr => ∃ i : Nat, q = k - i ∧ i ≤ k ∧ iv = .int .i64 i ∧ CW w wr s cb bb bg bm bc dv bd (inD 0 m f) (inD m j f ++ inD 0 i g) (1 + j + i) (700 + 20 * j + 20 * i))
    case atStart => exact ⟨0, rfl, Nat.zero_le _, rfl, by rw [inD_nil g (Nat.le_refl _), List.append_nil]; exact HW2.out⟩
    case round =>
    clear HW2
    obtain ⟨i, rfl, hi, rfl, hw⟩ := hrel
    have HW := hide hw
    clear hw
    by_cases hlt : i < k
    · obtain ⟨g1, off1, rfl, hg1, hc1⟩ := HA2.out (by omega)
      have z0 := (HW.out.only.cell (p := ⟨g1, off1 + i, none⟩) hg1 (fun h => h)).trans (hc1 i hlt)
      have HU := hide (HU2.out i hlt)
      obtain ⟨tc, L, he, ha, htc⟩ := HW.out.ex
      have HE := hide he
      have HA := hide ha
      have HTC := hide htc
      have hj2 : i < len2 := by omega
      clear hc1 he ha htc
      go_wp2_with fail
      refine (Offer_all 1 (g i) HU.out HE.out).mono ?_
      rintro e w5 ⟨co, rfl, h1, h2, h3, h4, h5⟩
      rw [show offerC (aloneF s) 1 (g i) = .put (g i) (putOp 1 (g i)) from by unfold offerC; rw [if_neg (fun h => by have h' : (1 : Int) < 1 := h.2; omega)]; rfl] at h1 h5
      have H1 := hide h1
      have H2 := hide h2
      have H3 := hide h3
      have H5 := hide h5
      clear h1 h2 h3 h4 h5 z0
      go_wp2_with fail
      refine (cdone_any H2.out H5.out H1.out H3.out.size (few_of _ (by have := HTC.out; omega))).mono ?_
      rintro e w6 ⟨rfl, he6, o6, -⟩
      obtain ⟨q, L', hq, c1, c2⟩ := HA.out.put (g i) HU.out (by rw [List.length_append, inD_len, inD_len]; omega) (by omega)
      rw [c2 200 (by decide)] at he6 ⊢
      have HW6 := hide (HW.out.next HTC.out H3.out he6 o6 (show q ≤ 20 by omega) c1)
      clear he6 o6 c1 c2 H1 H2 H3 H5
      go_wp2_with fail
      go_roundg (k - (i + 1))
      case rel => exact ⟨i + 1, rfl, by omega, by go_num, by have := HW6.out; rw [List.append_assoc, ← inD_snoc g (Nat.zero_le _)] at this; rw [show 1 + j + (i + 1) = 1 + j + i + 1 by omega, show 700 + 20 * j + 20 * (i + 1) = 700 + 20 * j + 20 * i + 20 by omega]; exact this⟩
      case measure => omega
    · obtain rfl : i = k := by omega
      have hmi := HMI.out
      have HW2 := HW
      clear HW
      go_wp2_with fail
      clear hmi
      go_loopg [15] m (fun q iv wr => ∃ r : Nat, q = r * 1 ∧ r ≤ m ∧ iv = .int .i64 ((r : Int) - 1) ∧ CW w wr s cb bb bg bm bc dv bd (inD 0 r f) (inD m j f ++ inD 0 i g) (1 + j + i) (700 + 20 * j + 20 * i + 20 * (m - r)))
      case atStart => exact ⟨m, (Nat.mul_one m).symm, Nat.le_refl _, rfl, by rw [Nat.sub_self]; exact HW2.out⟩
      case round =>
      clear HW2
      obtain ⟨r, rfl, hr, rfl, hw⟩ := hrel
      have HW := hide hw
      clear hw
      by_cases hlt : 0 < r
      · obtain ⟨r', rfl⟩ : ∃ r', r = r' + 1 := ⟨r - 1, by omega⟩
        have hrr : (((r' + 1 : Nat) : Int) - 1) = (r' : Int) := by omega
        rw [hrr]
        clear hrr
        obtain ⟨tc, L, he, ha, htc⟩ := HW.out.ex
        have HE := hide he
        have HA := hide ha
        have HTC := hide htc
        clear he ha htc
        go_wp2_with fail
        refine (Find_all 0 3 ⟨by decide, by decide⟩ HE.out).mono ?_
        rintro e w5 ⟨co, rfl, h1, h2, h3, h4, h5⟩
        rw [show findC (aloneF s) 0 (ordZ (3 : Int).toNat (aloneF s).n 0) = .src (.dq 0 popOp) [.take] from find1 3 s] at h1 h5
        have H1 := hide h1
        have H2 := hide h2
        have H3 := hide h3
        have H5 := hide h5
        clear h1 h2 h3 h4 h5
        go_wp2_with fail
        refine (cdone_any H2.out H5.out H1.out H3.out.size (few_of _ (by have := HTC.out; omega))).mono ?_
        rintro e w6 ⟨rfl, he6, o6, -⟩
        obtain ⟨q, L', hq, c1, c2⟩ := (show CA s L (inD 0 r' f ++ [f r']) _ _ from by rw [← inD_snoc f (Nat.zero_le _)]; exact HA.out).find_pop
        rw [c2] at he6 ⊢
        have HW6 := hide (HW.out.next HTC.out H3.out he6 o6 (show q ≤ 20 by omega) c1)
        clear he6 o6 c1 c2 H1 H2 H3 H5
        rw [show cdoneV (L', CSt.over 1 (f r'), q) = .tuple #[.int .i64 1, .int .u64 (f r'), .int .i64 q] from rfl]
        obtain ⟨g1, off1, rfl, hg1, hc1⟩ := HA1.out (by omega)
        have z0 := (HW6.out.only.cell (p := ⟨g1, off1 + r', none⟩) hg1 (fun h => h)).trans (hc1 r' (by omega))
        have hj2 : r' < len1 := by omega
        clear hc1
        go_wp2_with fail
        go_roundg (r' * 1)
        case rel => exact ⟨r', rfl, by omega, by go_num, by have := HW6.out; rw [show 700 + 20 * j + 20 * i + 20 * (m - r') = 700 + 20 * j + 20 * i + 20 * (m - (r' + 1)) + 20 by omega]; exact this⟩
        case measure => omega
      · obtain rfl : r = 0 := by omega
        have hw := HW.out
        rw [inD_nil f (Nat.le_refl _), Nat.sub_zero] at hw
        have HW2 := hide hw
        clear hw HW
        go_wp2_with fail
        go_loopg [19] (j - m) (fun q iv wr => ∃ r : Nat, q = j - r ∧ m ≤ r ∧ r ≤ j ∧ iv = .int .i64 r ∧ CW w wr s cb bb bg bm bc dv bd [] (inD r j f ++ inD 0 i g) (1 + j + i) (700 + 20 * j + 20 * i + 20 * m + 20 * (r - m)))
        case atStart => exact ⟨m, rfl, Nat.le_refl _, hmj, rfl, by rw [Nat.sub_self]; exact HW2.out⟩
        case round =>
        clear HW2
        obtain ⟨r, rfl, hmr, hr, rfl, hw⟩ := hrel
        have HW := hide hw
        clear hw
        by_cases hlt : r < j
        · have HLT := hide hlt
          obtain ⟨tc, L, he, ha, htc⟩ := HW.out.ex
          have HE := hide he
          have HA := hide ha
          have HTC := hide htc
          clear he ha htc
          go_wp2_with fail
          refine (Find_all 0 3 ⟨by decide, by decide⟩ HE.out).mono ?_
          rintro e w5 ⟨co, rfl, h1, h2, h3, h4, h5⟩
          rw [show findC (aloneF s) 0 (ordZ (3 : Int).toNat (aloneF s).n 0) = .src (.dq 0 popOp) [.take] from find1 3 s] at h1 h5
          have H1 := hide h1
          have H2 := hide h2
          have H3 := hide h3
          have H5 := hide h5
          clear h1 h2 h3 h4 h5
          go_wp2_with fail
          refine (cdone_any H2.out H5.out H1.out H3.out.size (few_of _ (by have := HTC.out; omega))).mono ?_
          rintro e w6 ⟨rfl, he6, o6, -⟩
          obtain ⟨q, L', hq, c1, c2⟩ := (show CA s L [] (f r :: (inD (r + 1) j f ++ inD 0 i g)) _ from by have h := HA.out; rw [show inD r j f = f r :: inD (r + 1) j f from inG_cons f HLT.out] at h; exact h).find_take
          rw [c2] at he6 ⊢
          have HW6 := hide (HW.out.next HTC.out H3.out he6 o6 (show q ≤ 20 by omega) c1)
          clear he6 o6 c1 c2 H1 H2 H3 H5
          rw [show cdoneV (L', CSt.over 1 (f r), q) = .tuple #[.int .i64 1, .int .u64 (f r), .int .i64 q] from rfl]
          obtain ⟨g1, off1, rfl, hg1, hc1⟩ := HA1.out (by omega)
          have z0 := (HW6.out.only.cell (p := ⟨g1, off1 + r, none⟩) hg1 (fun h => h)).trans (hc1 r (by omega))
          have hj2 : r < len1 := by omega
          clear hc1
          go_wp2_with fail
          go_roundg (j - (r + 1))
          case rel => exact ⟨r + 1, rfl, by omega, by omega, by go_num, by have := HW6.out; rw [show 700 + 20 * j + 20 * i + 20 * m + 20 * (r + 1 - m) = 700 + 20 * j + 20 * i + 20 * m + 20 * (r - m) + 20 by omega]; exact this⟩
          case measure => omega
        · obtain rfl : r = j := by omega
          have hw := HW.out
          rw [inD_nil f (Nat.le_refl _), List.nil_append] at hw
          have HW2 := hide hw
          clear hw HW
          go_wp2_with fail
          go_loopg [23] i (fun q iv wr => ∃ p : Nat, q = i - p ∧ p ≤ i ∧ iv = .int .i64 p ∧ CW w wr s cb bb bg bm bc dv bd [] (inD p i g) (1 + r + i) (700 + 20 * r + 20 * i + 20 * m + 20 * (r - m) + 20 * p))
          case atStart => exact ⟨0, rfl, Nat.zero_le _, rfl, HW2.out⟩
          case round =>
          clear HW2
          obtain ⟨p, rfl, hp, rfl, hw⟩ := hrel
          have HW := hide hw
          clear hw
          by_cases hlt : p < i
          · have HLT := hide hlt
            obtain ⟨tc, L, he, ha, htc⟩ := HW.out.ex
            have HE := hide he
            have HA := hide ha
            have HTC := hide htc
            clear he ha htc
            go_wp2_with fail
            refine (Rest_all 0 HE.out).mono ?_
            rintro e w5 ⟨co, rfl, h1, h2, h3, h4, h5⟩
            rw [show restC (aloneF s) 0 = .sleep 0 ⟨0, 0, 0⟩ from by unfold restC; rw [if_pos ⟨by omega, by show (0:Int) < 1; omega⟩]; rfl] at h1 h5
            have H1 := hide h1
            have H2 := hide h2
            have H3 := hide h3
            have H5 := hide h5
            clear h1 h2 h3 h4 h5
            go_wp2_with fail
            refine (cdone_any H2.out H5.out H1.out H3.out.size (few_of _ (by have := HTC.out; omega))).mono ?_
            rintro e w6 ⟨rfl, he6, o6, -⟩
            obtain ⟨q, L', hq, c1, c2⟩ := (show CA s L [] (g p :: inD (p + 1) i g) _ from by have h := HA.out; rw [show inD p i g = g p :: inD (p + 1) i g from inG_cons g HLT.out] at h; exact h).rest_take
            rw [c2] at he6 ⊢
            have HW6 := hide (HW.out.next HTC.out H3.out he6 o6 (show q ≤ 20 by omega) c1)
            clear he6 o6 c1 c2 H1 H2 H3 H5
            rw [show cdoneV (L', CSt.over 1 (g p), q) = .tuple #[.int .i64 1, .int .u64 (g p), .int .i64 q] from rfl]
            obtain ⟨g1, off1, rfl, hg1, hc1⟩ := HA2.out (by omega)
            have z0 := (HW6.out.only.cell (p := ⟨g1, off1 + p, none⟩) hg1 (fun h => h)).trans (hc1 p (by omega))
            have hj2 : p < len2 := by omega
            clear hc1
            go_wp2_with fail
            go_roundg (i - (p + 1))
            case rel => exact ⟨p + 1, rfl, by omega, by go_num, by have := HW6.out; rw [show 700 + 20 * r + 20 * i + 20 * m + 20 * (r - m) + 20 * (p + 1) = 700 + 20 * r + 20 * i + 20 * m + 20 * (r - m) + 20 * p + 20 by omega]; exact this⟩
            case measure => omega
          · obtain rfl : p = i := by omega
            have hw := HW.out
            rw [inD_nil g (Nat.le_refl _)] at hw
            have HW2 := hide hw
            clear hw HW
            obtain ⟨tc, L, he, ha, htc⟩ := HW2.out.ex
            have HE := hide he
            have HA := hide ha
            have HTC := hide htc
            clear he ha htc
            go_wp2_with fail
            refine (Find_all 0 3 ⟨by decide, by decide⟩ HE.out).mono ?_
            rintro e w5 ⟨co, rfl, h1, h2, h3, h4, h5⟩
            rw [show findC (aloneF s) 0 (ordZ (3 : Int).toNat (aloneF s).n 0) = .src (.dq 0 popOp) [.take] from find1 3 s] at h1 h5
            have H1 := hide h1
            have H2 := hide h2
            have H3 := hide h3
            have H5 := hide h5
            clear h1 h2 h3 h4 h5
            go_wp2_with fail
            refine (cdone_any H2.out H5.out H1.out H3.out.size (few_of _ (by have := HTC.out; omega))).mono ?_
            rintro e w6 ⟨rfl, he6, o6, -⟩
            obtain ⟨q, L', hq, c2⟩ := HA.out.find_none
            rw [c2]
            have HO6 := hide ((HW2.out.only.trans H3.out).then o6 (fun i hi hs => by have := HW2.out.only.size; have := HW2.out.m1; have := HW2.out.m2; rcases hs with e | e | e <;> omega))
            clear he6 o6 c2 H1 H2 H3 H5
            rw [show cdoneV (L', CSt.over 4 0, q) = .tuple #[.int .i64 4, .int .u64 0, .int .i64 q] from rfl]
            go_wp2_with fail
            go_ret
            exact ⟨rfl, S0.below HO6.out⟩
end Go.Proofs.Ytdoaipjdldknaaa
