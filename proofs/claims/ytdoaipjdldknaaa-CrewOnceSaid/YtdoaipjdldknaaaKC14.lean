/-
  Package crew: Find.
-/
import Derived.Test.YtdoaipjdldknaaaKC13
import Derived.Test.YtdoaipjdldknaaaKLot
namespace Go.Proofs.Ytdoaipjdldknaaa
open Go.RowKit
set_option linter.unusedVariables false
section
variable {w : World} {cb bb bg bm bc : Nat} {dv : Value} {n : Nat} {bd : Nat → Nat} {wk dr : Int} {bbase bn tc : Int} {L : List Int}
theorem Sl.form2 {w : World} {B : Nat} {t : TypeId} {v : Value} {ys : List Nat} (h : Sl w B t v (vN ys)) : ∃ a cap, v = .slice a ys.length cap := by
  have e : (vN ys).length = ys.length := by simp [vN]
  rcases h.form with ⟨h1, h2⟩ | ⟨g, cap, cur, h1, _⟩
  · exact ⟨none, 0, by rw [← e, h2]; exact h1⟩
  · exact ⟨_, _, by rw [← e]; exact h1⟩
theorem info_src : (Try.prog.info? 81).map (fun i => (i.zero, i.size, i.bytes)) = some (some .nilFunc, 1, 8) := by kernel_rfl
/-- The slice of sources, while it is being made. -/
def SrcsSl (w : World) (B cb : Nat) (v : Value) (l : List Src) : Prop := ∃ vs : List Value, Sl w B 81 v vs ∧ vs.length = l.length ∧ ∀ (i : Nat) (s : Src), l[i]? = some s → ∃ u, vs[i]? = some u ∧ SrcIs w cb u s
theorem SrcsSl.at_ {w : World} {B cb : Nat} {v : Value} {l : List Src} (h : SrcsSl w B cb v l) : SrcsAt w cb v l := by
  obtain ⟨vs, hs, hl, hi⟩ := h
  rcases hs.form with ⟨rfl, rfl⟩ | ⟨g, cap, cur, rfl, hB, hb, hn, hm, hz, ht⟩
  · have hl0 : l = [] := List.eq_nil_of_length_eq_zero (by simpa using hl.symm)
    subst hl0
    exact ⟨none, 0, rfl, Nat.le_refl _, fun h => absurd rfl h⟩
  · refine ⟨some ⟨g, 0, none⟩, cap, by rw [hl], by omega, fun hne => ⟨g, 0, cur, rfl, hb, fun i s hs' => ?_⟩⟩
    obtain ⟨u, hu, hsrc⟩ := hi i s hs'
    refine ⟨u, ?_, hsrc⟩
    rw [Nat.zero_add]
    exact hs.get hu
theorem SrcsSl.snoc {w w' : World} {B cb : Nat} {v v' u : Value} {l : List Src} {s : Src} {vs : List Value} (hl : vs.length = l.length) (hi : ∀ (i : Nat) (s : Src), l[i]? = some s → ∃ u, vs[i]? = some u ∧ SrcIs w cb u s) (h : SrcIs w cb u s)
    (hown : Sl w B 81 v vs) (ho : Only (fun k => v.ownBlock = some k) w w') (hs : Sl w' B 81 v' (vs ++ [u])) : SrcsSl w' B cb v' (l ++ [s]) := by
  have hk : ∀ {u s}, SrcIs w cb u s → SrcIs w' cb u s := fun h => h.only ho (fun x hx e => hown.ne_blk hx (by decide) e) (fun x m hx e => hown.ne_blk hx (by decide) e)
  refine ⟨vs ++ [u], hs, by simp [hl], fun i s' hs' => ?_⟩
  rcases Nat.lt_or_ge i l.length with hlt | hge
  · rw [List.getElem?_append_left hlt] at hs'
    obtain ⟨u', hu', h'⟩ := hi i s' hs'
    exact ⟨u', by rw [List.getElem?_append_left (by omega)]; exact hu', hk h'⟩
  · rw [List.getElem?_append_right hge] at hs'
    have h0 : i - l.length = 0 := by
      rcases Nat.eq_zero_or_pos (i - l.length) with h | h
      · exact h
      · rw [List.getElem?_eq_none (by simp; omega)] at hs'; cases hs'
    rw [h0] at hs'
    simp at hs'
    subst hs'
    exact ⟨u, by rw [List.getElem?_append_right (by omega), hl, h0]; rfl, hk h⟩
theorem SlN.cell {w : World} {B : Nat} {e : TypeId} {a : Option Addr} {cap : Nat} {ys : List Nat} (h : Sl w B e (.slice a ys.length cap) (vN ys)) {k : Nat} (hk : k < ys.length) : ∃ g cs, a = some ⟨g, 0, none⟩ ∧ Blk w g e cs ∧ w.cell? ⟨g, k, none⟩ = some (.int .i64 (ys.getD k 0 : Nat)) := by
  rcases h.form with ⟨h1, h2⟩ | ⟨g, cap', cur, h1, hB, hb, hn, hm, hz, ht⟩
  · have : (vN ys).length = 0 := by rw [h2]; rfl
    rw [vN_len] at this
    omega
  · injection h1 with e1 e2 e3
    subst e1
    exact ⟨g, cur, rfl, hb, h.get (vN_at ys k hk)⟩
theorem take_snoc (ys : List Nat) (k : Nat) (h : k < ys.length) : (ys.take (k + 1)).map Src.steal = (ys.take k).map Src.steal ++ [.steal (ys.getD k 0)] := by
  rw [List.take_succ_eq_append_getElem h, List.map_append]
  simp [List.getD, h]
theorem find_out (hc : CrewAt w cb bb bg dv) (hd : DqsAt w dv n bd) (h : wk < 0 ∨ (n:Int) ≤ wk) : Calls Try.prog 11 #[.pointer (some ⟨cb, 0, none⟩), .int .i64 wk, .int .u64 dr] w fun e w' =>
    ∃ co, e = .returned (.pointer (some ⟨co, 0, none⟩)) ∧ CopAt w' co cb .nilIface .nilFunc 4 0 ∧ Only S0 w w' ∧ w.heap.size ≤ co := by
  have o2 := ((Only.refl S0 w).alloc (.cells #[.pointer (some ⟨cb, 0, none⟩)] 27)).alloc (.cells #[.int .i64 wk] 3)
  have y0 := (two_new w cb wk).1.c0
  have y1 := (two_new w cb wk).2.c0
  have HOF := hide (of_out (hc.only o2 (fun h => h)) (hd.only0 o2) h)
  have HO2 := hide o2
  have hsz : w.heap.size ≤ ((w.alloc (.cells #[.pointer (some ⟨cb, 0, none⟩)] 27)).alloc (.cells #[.int .i64 wk] 3)).heap.size := o2.size
  have HSZ := hide hsz
  clear hc hd h o2 hsz
  go_enter Try.func11, Try.ntmps11
  go_wp2_with fail
  refine (HOF.out).mono ?_
  rintro e w1 ⟨rfl, h1, o1⟩
  clear HOF y0 y1
  generalize ((w.alloc (.cells #[.pointer (some ⟨cb, 0, none⟩)] 27)).alloc (.cells #[.int .i64 wk] 3)).heap.size = co at *
  have H1 := hide h1
  have O1 := hide (HO2.out.trans o1)
  clear h1 o1
  go_wp2_with fail
  go_ret
  exact ⟨co, rfl, H1.out, O1.out, HSZ.out⟩
variable {dbase slots : Int}
set_option maxRecDepth 100000 in
set_option maxHeartbeats 1000000 in
theorem find_in {i : Nat} (hc : CrewAt w cb bb bg dv) (hd : DqsAt w dv n bd) (hi : i < n) (hn : n ≤ 8) (hdr : 0 ≤ dr) (hdr1 : dr < 18446744073709551616) (he : DeqEnv w (bd i) bm bc dbase slots tc L) : Calls Try.prog 11 #[.pointer (some ⟨cb, 0, none⟩), .int .i64 (i:Int), .int .u64 dr] w fun e w' =>
    ∃ co sv, e = .returned (.pointer (some ⟨co, 0, none⟩)) ∧ w.heap.size ≤ co ∧ SrcsAt w' cb sv (.pop i :: .take :: (ordZ dr.toNat n i).map Src.steal) ∧ Only S0 w w' ∧ ∃ w1, Only S0 w w1 ∧ Tried w1 w' co cb 73 (fun w p => DopIs w p (bd i) popOp) sv 0 := by
  have hdd := hd
  obtain ⟨g, cap, cs, rfl, hblk, hcell⟩ := hdd.ex
  have HDD := hide hd
  clear hblk hcell hdd
  have o2 := ((Only.refl S0 w).alloc (.cells #[.pointer (some ⟨cb, 0, none⟩)] 27)).alloc (.cells #[.int .i64 (i:Int)] 3)
  have hxc := (two_new w cb (i:Int)).1
  have hxw := (two_new w cb (i:Int)).2
  have h2 := hc.only o2 (fun h => h)
  have hd2 := hd.only0 o2
  have hb2 := he.only0 o2
  have hsz : ((w.alloc (.cells #[.pointer (some ⟨cb, 0, none⟩)] 27)).alloc (.cells #[.int .i64 (i:Int)] 3)).heap.size = w.heap.size + 2 := by simp
  have HO2 := hide o2
  clear hc hd he o2
  generalize hw2 : (w.alloc (.cells #[.pointer (some ⟨cb, 0, none⟩)] 27)).alloc (.cells #[.int .i64 (i:Int)] 3) = w2 at *
  have HSZ := hide hsz
  have HOF := hide (of_in h2 hd2 (show (0:Int) ≤ (i:Int) by omega) (show (i:Int) < n by omega))
  have oa := (Only.refl S0 w2).alloc (.cells (cop0 cb) 70)
  have ha := cop_new w2 cb
  have hxca := hxc.only oa (fun h => h)
  have hxwa := hxw.only oa (fun h => h)
  have hca := h2.only oa (fun h => h)
  have hba := hb2.only0 oa
  have y0 := hxc.c0
  have y1 := hxw.c0
  have HW2 := hide hw2
  clear hsz h2 hd2 hb2 hxc hxw
  subst hw2
  go_enter Try.func11, Try.ntmps11
  go_wp2_with fail
  refine (HOF.out).mono ?_
  rintro e w1 ⟨rfl, rfl⟩
  clear HOF
  have hb := Blk.lt ha
  have HAX := hide hxca
  generalize ((w.alloc (.cells #[.pointer (some ⟨cb, 0, none⟩)] 27)).alloc (.cells #[.int .i64 (i:Int)] 3)).alloc (.cells (cop0 cb) 70) = w1 at *
  generalize hco : ((w.alloc (.cells #[.pointer (some ⟨cb, 0, none⟩)] 27)).alloc (.cells #[.int .i64 (i:Int)] 3)).heap.size = co at *
  generalize hxc' : w.heap.size = xc at *
  generalize hxw' : xc + 1 = xw at *
  have HCO := hide hco
  have HB := hide hb
  have HQ := hide (And.intro hxc' hxw')
  have OA := hide oa
  clear HW2 hb oa hco hxc' hxw' y0 y1 HAX
  have hi0 : (0:Int) ≤ (i:Int) := by omega
  go_upto_region 5 with fail
  have ob := (Only.refl S0 w1).alloc (.cells #[popK xc xw, takeK xc] 81)
  have HS := hide (Blk.new w1 81 #[popK xc xw, takeK xc])
  have HA := hide (ha.only ob (fun h => h))
  have HC := hide (hca.only ob (fun h => h))
  have HXC := hide (hxca.only ob (fun h => h))
  have HXW := hide (hxwa.only ob (fun h => h))
  have HE := hide (hba.only0 ob)
  have OB := hide ob
  have HA0 := hide ha
  have HC0 := hide hca
  have HXC0 := hide hxca
  have HXW0 := hide hxwa
  have HE0 := hide hba
  have HG0 := hide (Nat.le_refl w1.heap.size)
  have HSQ := hide (show SrcsSl _ w1.heap.size cb (.slice (some ⟨w1.heap.size, 0, none⟩) 2 2) [.pop i, .take] from by
    refine ⟨[popK xc xw, takeK xc], Blk.sl HS.out (Nat.le_refl _) (by unfold maxLen; simp), rfl, fun j s hs => ?_⟩
    match j, hs with
    | 0, hs => exact ⟨_, rfl, by (injection hs with hs); subst hs; exact ⟨xc, xw, rfl, hxca.only ob (fun h => h), hxwa.only ob (fun h => h)⟩⟩
    | 1, hs => exact ⟨_, rfl, by (injection hs with hs); subst hs; exact ⟨xc, rfl, hxca.only ob (fun h => h)⟩⟩
    | j + 2, hs => simp at hs)
  clear ha hca hba hxca hxwa ob
  unfold popK takeK at HS
  unfold popK takeK at *
  generalize hg0 : w1.heap.size = g0 at *
  have HG := hide hg0
  clear hg0
  generalize hw3 : w1.alloc (.cells #[_, _] 81) = w3 at *
  have HW3 := hide hw3
  have HN := hide hn
  clear hw3 hn
  have z0 := HXC.out.drew.c0
  have z1 := HC.out.drew.c2
  have z2 := HXW.out.drew.c0
  go_region_held3 (fun w' : World => w'.cell? ⟨xc, 0, none⟩ = some (.pointer (some ⟨cb, 0, none⟩)) ∧ w'.cell? ⟨cb, 2, none⟩ = some (.slice (some ⟨g, 0, none⟩) n cap) ∧ w'.cell? ⟨xw, 0, none⟩ = some (.int .i64 i)) (first | with_reducible exact ⟨z0, z1, z2⟩ | with_reducible exact ⟨y0, y1, y2⟩) (first | (go_at_call 40; refine (Order_any dr n i w3.drew hdr hdr1).mono ?_; rintro e w4 ⟨ov, rfl, hsl, o4⟩; have HXC4 := hide (HXC.out.drew.only o4 (fun h => h)); have HC4 := hide (HC.out.drew.only o4 (fun h => h)); have HXW4 := hide (HXW.out.drew.only o4 (fun h => h)); have y0 := HXC4.out.c0; have y1 := HC4.out.c2; have y2 := HXW4.out.c0; have HSL := hide hsl; have O4 := hide ((Only.refl S0 w3).drew.trans o4); obtain ⟨oa, ocap, rfl⟩ := hsl.form2; clear o4))
  have HSQ4 := hide (show SrcsSl w4 g0 cb (.slice (some ⟨g0, 0, none⟩) 2 2) [.pop i, .take] from by
    obtain ⟨vs, h1, h2, h3⟩ := HSQ.out
    exact ⟨vs, Sl.only0 h1 O4.out, h2, fun i s hs => by
      obtain ⟨u, h4, h5⟩ := h3 i s hs
      exact ⟨u, h4, h5.only O4.out (fun _ _ h => h) (fun _ _ _ h => h)⟩⟩)
  have O14 := hide ((OB.out).trans O4.out)
  have HLE := hide (show (ordZ dr.toNat n i).length ≤ 7 from by rw [ordZ_len]; exact othZ_len _ _)
  have HDD1 := hide (((HDD.out.only0 HO2.out).only0 OA.out))
  clear hsl y0 y1 y2 HXC4 HC4 HXW4 HA HC HXC HXW HE HS HW3 O4 HSQ OB
  generalize hys0 : ordZ dr.toNat n i = ys at *
  have HYS := hide hys0
  clear hys0
  go_wp2_with fail
  go_loopg [9, 33] ys.length (fun q v kv wr => ∃ j : Nat, j ≤ ys.length ∧ q = ys.length - j ∧ kv = .int .i64 j ∧ SrcsSl wr g0 cb v (.pop i :: .take :: (ys.take j).map Src.steal) ∧ Sl wr w3.drew.heap.size 3 (.slice oa ys.length ocap) (vN ys) ∧ Only S0 w1 wr)
  case atStart => exact ⟨0, Nat.zero_le _, rfl, rfl, HSQ4.out, HSL.out, O14.out⟩
  case round =>
    obtain ⟨j, hj, rfl, rfl, hv, hys, ho⟩ := hrel
    have HV := hide hv
    have HY := hide hys
    have HO := hide ho
    clear hv hys ho HSQ4 HSL O14
    by_cases hlt : j < ys.length
    · obtain ⟨gy, csy, rfl, hby, hcy⟩ := SlN.cell HY.out hlt
      generalize hyv : ys.getD j 0 = yv at *
      have HYV := hide hyv
      have hle7 : ys.length ≤ 7 := HLE.out
      clear hyv
      go_upto_region 8 with fail
      have o5 := (Only.refl S0 wr).alloc (.cells #[.int .i64 yv] 3)
      have HB5 := hide (show WBox _ wr.heap.size yv from Blk.new wr 3 #[.int .i64 yv])
      obtain ⟨vs, hs1, hs2, hs3⟩ := HV.out
      have HS5 := hide (hs1.only0 o5)
      have HL5 := hide hs2
      have HI5 := hide (show ∀ (i' : Nat) (s : Src), (Src.pop i :: Src.take :: (ys.take j).map Src.steal)[i']? = some s → ∃ u, vs[i']? = some u ∧ SrcIs (wr.alloc (.cells #[.int .i64 yv] 3)) cb u s from fun i' s hs => by
        obtain ⟨u, h4, h5⟩ := hs3 i' s hs
        exact ⟨u, h4, h5.only o5 (fun _ _ h => h) (fun _ _ _ h => h)⟩)
      have HY5 := hide (HY.out.only0 o5)
      have HO5 := hide (HO.out.trans o5)
      have hvl : vs.length ≤ 9 := by rw [hs2]; simp only [List.length_cons, List.length_map, List.length_take]; have := HLE.out; omega
      have HXC5 := hide (HXC0.out.only HO5.out (fun h => h))
      clear o5 hs1 hs2 hs3 HV HY HO hby hcy
      generalize hbx : wr.heap.size = bx at *
      generalize wr.alloc (.cells #[.int .i64 yv] 3) = w5 at *
      have HBX := hide hbx
      clear hbx
      have hg5 : g0 ≤ w5.heap.size := by have := HO5.out.size; have := HG.out; omega
      go_wp2_with (at_builtin; refine wpList_app1 _ rfl (.tmp 37) (.tmp 39) 84 rfl 81 .nilFunc 8 Try.underlying84 info_src rfl g0 _ vs _ rfl rfl HS5.out rfl (by omega) (by unfold maxLen; omega) hg5 ?_; intro v' w6 hv' o6 _; have HV6 := hide (SrcsSl.snoc HL5.out HI5.out (show SrcIs w5 cb (stealK xc bx) (.steal yv) from ⟨xc, bx, rfl, HXC5.out, HB5.out⟩) HS5.out o6 hv'); have HO6 := hide (HO5.out.then o6 (fun i hi e => by have := HS5.out.block e; have := HG.out; omega)); have HY6 := hide (HY5.out.only o6 (fun g' e h => (HS5.out.ne_sl HY5.out (by decide) h) e)); clear hv' o6)
      go_roundg (ys.length - (j + 1))
      case rel => exact ⟨j + 1, by omega, rfl, by go_num, by rw [take_snoc ys j hlt, HYV.out]; exact HV6.out, HY6.out, HO6.out⟩
      case measure => omega
    · obtain rfl : j = ys.length := by omega
      have hsr := HV.out.at_
      rw [List.take_length] at hsr
      have HSR := hide hsr
      clear hsr HV HY
      have HN' := HN.out
      have HOW := hide ((HO2.out.trans OA.out).trans HO.out)
      go_wp2_with fail
      refine (try_pop (HA0.out.only HO.out (fun h => h)) HSR.out (HC0.out.only HO.out (fun h => h)) (HDD1.out.only0 HO.out) hi (by omega) (HE0.out.only0 HO.out)).mono ?_
      rintro e w7 ⟨rfl, ht⟩
      have HT := hide ht
      clear ht
      have HCW := hide (HA0.out.only HO.out (fun h => h))
      go_wp2_with fail
      go_ret
      have hle : w.heap.size ≤ co := by have := HQ.out; have := HSZ.out; omega
      obtain ⟨p, xs, xo, xq, t1, t2, t3, t4, t5, t6, t7⟩ := HT.out
      exact ⟨co, _, rfl, hle, by rw [HYS.out]; exact SrcsAt.only HSR.out t6 (fun x hx e => Blk.ne_ hx HCW.out (by decide) e) (fun x m hx e => Blk.ne_ hx HCW.out (by decide) e) (fun g cs hx e => Blk.ne_ hx HCW.out (by decide) e), S0.then1 HOW.out t6 hle, wr, HOW.out, HT.out⟩
end
end Go.Proofs.Ytdoaipjdldknaaa
