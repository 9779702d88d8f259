/-
  CrewOnce: the walk: the gang runs to its end, and what was found is what was offered.
-/
import Derived.Test.YtdoaipjdldknaaaKO20
import Derived.Test.YtdoaipjdldknaaaJAlive
import Derived.Test.YtdoaipjdldknaaaOpen
namespace Go.Proofs.Ytdoaipjdldknaaa
open Go.RowKit
set_option linter.unusedVariables false
theorem info_bool_ : ((Try.prog).info? 4).map (fun i => (i.zero, i.size, i.bytes)) = some (some (.bool false), 1, 1) := by kernel_rfl
theorem zeros_tabB (n : Nat) : zeros (.bool false) n = tabC n fun k => .bool ((fun _ => false : Nat → Bool) k) := zeros_tab _ _
theorem InInts.rdT {k : IntKind} {w : World} {a : Option Addr} {len : Nat} {xs : List Int} (h : InInts k w a len xs) : RdT w k a len (elt xs) := fun hne => h.cells hne
/-- A slice of numbers, and how it reads. -/
theorem sl_get {w : World} {B : Nat} {a : Option Addr} {cap : Nat} {xs : List Int} (h : Sl w B 31 (.slice a xs.length cap) (ou64s xs)) (hne : xs ≠ []) : ∃ g, a = some ⟨g, 0, none⟩ ∧ B ≤ g ∧ (∃ cs, Blk w g 31 cs) ∧ ∀ i, i < xs.length → w.cell? ⟨g, i, none⟩ = some (.int .u64 (elt xs i)) := by
  rcases h.form with ⟨e1, e2⟩ | ⟨g, cap', cur, e1, hB, hb, h1, h2, h3, h4⟩
  · exfalso; apply hne; unfold ou64s at e2; simpa using e2
  · injection e1 with e1 e3 e4
    refine ⟨g, e1, hB, ⟨_, hb⟩, fun i hi => ?_⟩
    have hlen : (ou64s xs).length = xs.length := ou64s_len xs
    have hx : (ou64s xs)[i]? = some (.int .u64 (elt xs i)) := by
      unfold ou64s elt
      rw [List.getElem?_map, List.getElem?_eq_getElem hi]
      simp [List.getD_eq_getElem?_getD, List.getElem?_eq_getElem hi]
    rw [← h4, List.getElem?_take] at hx
    rw [if_pos (by omega)] at hx
    exact hb.cellv (by simpa using hx)
def Sums (us : Nat → Bool) (fd ps : List Int) (i : Nat) : Prop := ∀ v, lo us v fd = wl v (ps.drop i)
/-- Within a round: has the i-th one been found? -/
def Mid (us : Nat → Bool) (fd ps : List Int) (i k : Nat) (hit : Bool) : Prop := if hit then Sums us fd ps (i + 1) else Sums us fd ps i ∧ ∀ x, x < k → us x = false → elt fd x ≠ elt ps i
theorem elt_get {xs : List Int} {k : Nat} {x : Int} (h : xs[k]? = some x) : elt xs k = x := by unfold elt; simp [List.getD_eq_getElem?_getD, h]
theorem get_elt {xs : List Int} {k : Nat} (h : k < xs.length) : xs[k]? = some (elt xs k) := by unfold elt; simp [List.getD_eq_getElem?_getD, h]
theorem Mid.none {us : Nat → Bool} {fd ps : List Int} {i : Nat} (hi : i < ps.length) (h : Mid us fd ps i fd.length false) : False :=
  lo_some (us := us) (fd := fd) (ps := ps) (i := i) (y := elt ps i) h.1 (get_elt hi) fun k x hk hu => by
    have hl : k < fd.length := by
      rcases Nat.lt_or_ge k fd.length with h1 | h1
      · exact h1
      · rw [List.getElem?_eq_none h1] at hk; cases hk
    have := h.2 k hl hu
    rw [elt_get hk] at this
    exact this
theorem Mid.skip {us : Nat → Bool} {fd ps : List Int} {i k : Nat} (h : Mid us fd ps i k false) (hk : us k = true ∨ elt fd k ≠ elt ps i) : Mid us fd ps i (k + 1) false := ⟨h.1, fun x hx hu => by
  by_cases e : x = k
  · subst e
    rcases hk with hk | hk
    · rw [hk] at hu; cases hu
    · exact hk
  · exact h.2 x (by omega) hu⟩
theorem Mid.hit {us : Nat → Bool} {fd ps : List Int} {i k j : Nat} (h : Mid us fd ps i j false) (hi : i < ps.length) (hk : k < fd.length) (hu : us k = false) (he : elt fd k = elt ps i) (j' : Nat) : Mid (upd us k true) fd ps i j' true :=
  show Sums _ fd ps (i + 1) from lo_used (y := elt ps i) h.1 (get_elt hi) (by rw [← he]; exact get_elt hk) hu
theorem u64_cell {w : World} {B : Nat} {a : Option Addr} {cap : Nat} {xs : List Int} (h : Sl w B 31 (.slice a xs.length cap) (ou64s xs)) : xs.length ≠ 0 → ∃ g, a = some ⟨g, 0, none⟩ ∧ g < w.heap.size ∧ ∀ i, i < xs.length → w.cell? ⟨g, i, none⟩ = some (.int .u64 (elt xs i)) := fun hne => by
  obtain ⟨g, e, -, ⟨cs, hb⟩, hc⟩ := sl_get h (fun e => hne (by rw [e]; rfl))
  exact ⟨g, e, hb.lt, hc⟩
theorem Blk.new_at2 {w : World} {t : TypeId} {cs : Array Value} {g : Nat} (h : w.heap.size = g) : Blk (w.alloc (.cells cs t)) g t cs := by
  subst h; exact Blk.new w t cs
set_option maxRecDepth 100000 in
set_option maxHeartbeats 1000000 in
theorem crewOnce_walk (a0 a1 : Int) (a2 : Option Addr) (len2 cap2 : Nat) (xs : List Int) (a3 : Option Addr) (len3 cap3 : Nat) (ys : List Int) (w : World) (w0 : (Lit.int .u8 a0).wf = true) (w1 : (Lit.int .u8 a1).wf = true) (w2 : InInts .u8 w a2 len2 xs) (w3 : InInts .u64 w a3 len3 ys) :
    Calls Try.prog 3 #[.int .u8 a0, .int .u8 a1, .slice a2 len2 cap2, .slice a3 len3 cap3] w fun e w' => e = .returned (.bool true) ∧ Below w.heap.size w w' := by
  have k1 := (bounds_u8 w0).1
  have k2 := (bounds_u8 w0).2
  have k3 := (bounds_u8 w1).1
  have k4 := (bounds_u8 w1).2
  obtain ⟨n, hn⟩ : ∃ n : Nat, 1 + a0 % 4 = (n : Int) := ⟨(1 + a0 % 4).toNat, by omega⟩
  obtain ⟨s, hs⟩ : ∃ s : Nat, 1 + a1 % 4 = (s : Int) := ⟨(1 + a1 % 4).toNat, by omega⟩
  have n1 : 1 ≤ n := by omega
  have n4 : n ≤ 4 := by omega
  have s1 : 1 ≤ s := by omega
  have s4 : s ≤ 4 := by omega
  have hb2 := w2.big
  have hb3 := w3.big
  have hU2 : ∀ i, i < len2 → 0 ≤ elt xs i ∧ elt xs i ≤ 255 := fun i hi => by have := bounds_u8 (elt_wf w2.wf (i := i) (by rw [w2.length]; omega)); omega
  have hU3 : ∀ i, i < len3 → U64 (elt ys i) := fun i hi => by have := bounds_u64 (elt_wf w3.wf (i := i) (by rw [w3.length]; omega)); unfold U64; omega
  have r2 := w2.rdT
  have r3 := w3.rdT
  have HI2 := hide w2
  have HI3 := hide w3
  have HU2 := hide hU2
  have HU3 := hide hU3
  have HR2 := hide r2
  have HR3 := hide r3
  clear w0 w1 w2 w3 hU2 hU3 r2 r3
  go_enter Try.func3, Try.ntmps3
  go_wp2_with fail
  refine (alive20_any w).mono ?_
  rintro e wa ⟨rfl, p1⟩
  have P1 := hide p1
  clear p1
  have hrun := run_any n s n1 n4 s1 s4 a2 len2 cap2 (elt xs) HU2.out a3 len3 cap3 (elt ys) HU3.out (by omega) (by omega) wa (fun hne => by
    obtain ⟨g, off, e1, e2, e3⟩ := HR2.out hne
    exact ⟨g, off, e1, Nat.lt_of_lt_of_le e2 P1.out.size, fun i hi => (P1.out.cell (p := ⟨g, off + i, none⟩) e2 (fun h => h)).trans (e3 i hi)⟩) (fun hne => by
    obtain ⟨g, off, e1, e2, e3⟩ := HR3.out hne
    exact ⟨g, off, e1, Nat.lt_of_lt_of_le e2 P1.out.size, fun i hi => (P1.out.cell (p := ⟨g, off + i, none⟩) e2 (fun h => h)).trans (e3 i hi)⟩)
  have HRUN := hide hrun
  clear hrun HI2 HI3 HU2 HU3 HR2 HR3 hb2 hb3
  go_wp2_with fail
  refine HRUN.out.mono ?_
  rintro e w6 ⟨B, gb, fv, pv, fd, ps, rfl, hgb, q6, q7, s6, s7, hsum, hl1, hl2, ho⟩
  have HO := hide (P1.out.trans ho)
  clear HRUN ho P1
  obtain ⟨af, capf, rfl⟩ := sl_shape s6
  obtain ⟨ap, capp, rfl⟩ := sl_shape s7
  have hlen : ps.length = fd.length := by have := hsum (fun _ => 1); rw [wl_length, wl_length] at this; omega
  have hs0 : Sums (fun _ => false) fd ps 0 := fun v => by rw [lo_fresh, List.drop_zero, hsum v]
  rw [ou64s_len] at q6 q7 s6 s7
  have hf := u64_cell s6
  have hp := u64_cell s7
  rw [hlen] at q7 hp
  obtain ⟨m, hm⟩ : ∃ m, fd.length = m := ⟨_, rfl⟩
  rw [hm] at q6 q7 hf hp
  have hlf := hm
  have hlp : ps.length = m := by omega
  have HF := hide hf
  have HP := hide hp
  have HS := hide hs0
  have HQ := hide (And.intro q6 q7)
  have HLF := hide hlf
  have HLP := hide hlp
  have hm2 : m ≤ 2000000 := by omega
  clear hf hp hs0 hlf hlp hm hlen hsum hl1 hl2 s6 s7
  go_wp2_with fail
  go_quiet (fail)
  have hm1 := fun wx : World => make_flat (P := Try.prog) 34 4 (.bool false) 1 Try.underlying34 (by kernel_rfl) rfl m (by omega) (by omega) wx
  go_wp2_with fail
  clear hm1 q6 q7
  go_loopg [11] m (fun q iv wr => ∃ (i : Nat) (us : Nat → Bool), q = m - i ∧ i ≤ m ∧ iv = .int .i64 i ∧ Only S0 w6 wr ∧ Blk wr w6.heap.size 4 (tabC m fun k => .bool (us k)) ∧ Sums us fd ps i)
  case atStart =>
    refine ⟨0, fun _ => false, by omega, by omega, rfl, ((Only.refl S0 w6).drewN _).alloc _, ?_, HS.out⟩
    rw [← zeros_tabB]
    exact Blk.new_at2 (by simp)
  case round =>
  obtain ⟨i, us, rfl, hi, rfl, ho, hb, hs⟩ := hrel
  have PP := hide ho
  have BB := hide hb
  have SS := hide hs
  clear ho hb hs
  have q6 := (PP.out.cell (p := ⟨gb, 6, none⟩) hgb (fun h => h)).trans HQ.out.1
  have q7 := (PP.out.cell (p := ⟨gb, 7, none⟩) hgb (fun h => h)).trans HQ.out.2
  by_cases hil : i < m
  · have hii : (i : Int) < m := by omega
    go_wp2_with fail
    clear q6 q7
    go_loopg [12, 13] m (fun q hv kv wx => ∃ (k : Nat) (hit : Bool) (us : Nat → Bool), q = m - k ∧ k ≤ m ∧ kv = .int .i64 k ∧ hv = .bool hit ∧ Only S0 w6 wx ∧ Blk wx w6.heap.size 4 (tabC m fun k => .bool (us k)) ∧ Mid us fd ps i k hit)
    case atStart => exact ⟨0, false, us, by omega, by omega, rfl, rfl, PP.out, BB.out, SS.out, fun x hx => by omega⟩
    case round =>
    clear PP BB SS
    obtain ⟨k, hit, us, rfl, hk, rfl, rfl, ho, hb, hmid⟩ := hrel
    have PP := hide ho
    have BB := hide hb
    have MM := hide hmid
    clear ho hb hmid
    have q6 := (PP.out.cell (p := ⟨gb, 6, none⟩) hgb (fun h => h)).trans HQ.out.1
    have q7 := (PP.out.cell (p := ⟨gb, 7, none⟩) hgb (fun h => h)).trans HQ.out.2
    cases hit with
    | true =>
      by_cases hkm : k < m
      · have hkk : (k : Int) < m := by omega
        go_wp2_with fail
        clear q6 q7
        go_roundg (m - (i + 1))
        case rel => exact ⟨i + 1, us, rfl, by omega, by go_num, PP.out, BB.out, MM.out⟩
        case measure => omega
      · have hkk : ¬ (k : Int) < m := by omega
        go_wp2_with fail
        clear q6 q7
        go_roundg (m - (i + 1))
        case rel => exact ⟨i + 1, us, rfl, by omega, by go_num, PP.out, BB.out, MM.out⟩
        case measure => omega
    | false =>
      by_cases hkm : k < m
      · have hkk : (k : Int) < m := by omega
        obtain ⟨gf, rfl, hgf, hfc⟩ := HF.out (by omega)
        obtain ⟨gp, rfl, hgp, hpc⟩ := HP.out (by omega)
        have z1 := (PP.out.cell (p := ⟨gf, k, none⟩) hgf (fun h => h)).trans (hfc k hkm)
        have z2 := (PP.out.cell (p := ⟨gp, i, none⟩) hgp (fun h => h)).trans (hpc i hil)
        have z3 := BB.out.cellv (tabC_get (fun k => Value.bool (us k)) hkm)
        have z4 := BB.out.frozen k
        clear hfc hpc
        generalize hef : elt fd k = ef at z1
        generalize hep : elt ps i = ep at z2
        cases hus : us k with
        | true =>
          rw [hus] at z3
          have HU := hide hus
          clear hus hef hep
          go_wp2_with fail
          go_quiet (fail)
          go_wp2_with fail
          clear q6 q7 z1 z2 z3 z4
          go_roundg (m - (k + 1))
          case rel => exact ⟨k + 1, false, us, rfl, by omega, by go_num, rfl, PP.out.drewN _, BB.out.drewN _, MM.out.skip (.inl HU.out)⟩
          case measure => omega
        | false =>
          rw [hus] at z3
          have HU := hide hus
          have HEF := hide hef
          have HEP := hide hep
          clear hus hef hep
          by_cases heq : ef = ep
          · subst heq
            go_wp2_with fail
            go_quiet (fail)
            go_wp2_with fail
            clear q6 q7 z1 z2 z3 z4
            go_roundg (m - (k + 1))
            case rel =>
              refine ⟨k + 1, true, upd us k true, rfl, by omega, by go_num, rfl, (PP.out.drewN _).setNew k (Nat.le_refl _) _, ?_, MM.out.hit (by rw [HLP.out]; exact hil) (by rw [HLF.out]; exact hkm) HU.out (HEF.out.trans HEP.out.symm) _⟩
              have := (BB.out.drewN 0).set_ k (.bool true)
              rw [tabC_set] at this
              rw [show (fun j => Value.bool (upd us k true j)) = upd (fun j => Value.bool (us j)) k (.bool true) from by funext j; unfold upd; split <;> rfl]
              exact this
            case measure => omega
          · go_wp2_with fail
            go_quiet (fail)
            go_wp2_with fail
            clear q6 q7 z1 z2 z3 z4
            go_roundg (m - (k + 1))
            case rel => exact ⟨k + 1, false, us, rfl, by omega, by go_num, rfl, PP.out.drewN _, BB.out.drewN _, MM.out.skip (.inr (by rw [HEF.out, HEP.out]; exact heq))⟩
            case measure => omega
      · obtain rfl : k = m := by omega
        exact (Mid.none (by rw [HLP.out]; exact hil) (by rw [HLF.out]; exact MM.out)).elim
  · obtain rfl : m = i := by omega
    have hii : ¬ (m : Int) < m := by omega
    go_wp2_with fail
    go_ret
    exact ⟨rfl, S0.below (HO.out.trans PP.out)⟩
end Go.Proofs.Ytdoaipjdldknaaa
