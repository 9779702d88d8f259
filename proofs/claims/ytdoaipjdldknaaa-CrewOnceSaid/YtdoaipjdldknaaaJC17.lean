/-
  A step of a crew's operation, whatever it is at.
-/
import Derived.Test.YtdoaipjdldknaaaJC16
namespace Go.Proofs.Ytdoaipjdldknaaa
open Go.RowKit
set_option linter.unusedVariables false
section
variable {w w1 w' : World} {F : CLay} {cb bb bg bm bc co p : Nat} {dv cur thn : Value} {bd : Nat → Nat} {tc : Int} {L : List Int} {O : Nat → Prop} {st : CSt}
/-- What a part's step writes is no box. -/
theorem s3_not {x : Nat} {t t' : TypeId} {cs cm cs' : Array Value} (hx : Blk w x t cs) (hm : Blk w bm 64 cm) (h1 : t ≠ 64) (h2 : x ≠ bc) (hp : Blk w p t' cs') (ht : OpT t') (h3 : ¬ OpT t) : ¬ S3 p bm bc x := by
  intro hs
  rcases hs with rfl | rfl | rfl
  · exact Blk.ne_ hx hp (fun e => h3 (e ▸ ht)) rfl
  · exact Blk.ne_ hx hm h1 rfl
  · exact h2 rfl
theorem s3_ne {x : Nat} (h1 : x ≠ p) (h2 : x ≠ bm) (h3 : x ≠ bc) : ¬ S3 p bm bc x := by
  rintro (e | e | e)
  · exact h1 e
  · exact h2 e
  · exact h3 e
theorem s3_wr {t' : TypeId} {cs' : Array Value} (hp : Blk w p t' cs') (ht : OpT t') : ∀ k, S3 p bm bc k → k = bm ∨ k = bc ∨ ∃ t cs, Blk w k t cs ∧ OpT t := by
  intro k hk
  rcases hk with rfl | h | h
  · exact .inr (.inr ⟨_, _, hp, ht⟩)
  · exact .inl h
  · exact .inr (.inl h)
theorem bell_step {b : Bop} (he : CEnv w F cb bb bg bm bc dv bd tc L) (hb : b.out = 0) (hok : BopOk F.n b) (hp : BopIs w p bb b) (h : CopAt w co cb cur thn 0 0) (hf : Few (tc + 1)) :
    Calls Try.prog 113 #[.pointer (some ⟨p, 0, none⟩)] w fun e w' => e = .returned (.bool ((bstep F.base F.n L b).2.out != 0)) ∧ CopAt w' co cb cur thn 0 0 ∧
      (CopAt w' co cb cur thn 0 0 ∧ BopIs w' p bb (bstep F.base F.n L b).2 ∧ CEnv w' F cb bb bg bm bc dv bd (tc + 1) (bstep F.base F.n L b).1 ∧ Only (S3 p bm bc) w w') := by
  have hbp : Blk w p 109 _ := hp
  refine (BStep_all he.bell hok hp hf).mono ?_
  rintro e w' ⟨rfl, h1, h2, h3⟩
  rw [show btick b = 1 from by simp [btick, hb]] at h2
  have hc : CopAt w' co cb cur thn 0 0 := h.only h3 (fun hs => by
    rcases hs with rfl | rfl | rfl
    · exact Blk.ne_ h hbp (by decide) rfl
    · exact Blk.ne_ h he.mem.mem (by decide) rfl
    · exact Blk.ne_ h he.mem.cells (by decide) rfl)
  exact ⟨rfl, hc, hc, h1, he.next h3 (s3_wr hbp (by unfold OpT; decide)) h2.mem h2.few (bstep_u b he.u) (bstep_len _ _ _ _), h3⟩
theorem gate_step {g : Gop} (he : CEnv w F cb bb bg bm bc dv bd tc L) (hb : g.out = 0) (hok : GopOk F.gb L.length g) (hp : GopIs w p bg g) (h : CopAt w co cb cur thn 0 0) (hf : Few (tc + 1)) :
    Calls Try.prog 109 #[.pointer (some ⟨p, 0, none⟩)] w fun e w' => e = .returned (.bool ((gstep F.gb F.actors L g).2.out != 0)) ∧ CopAt w' co cb cur thn 0 0 ∧
      (CopAt w' co cb cur thn 0 0 ∧ GopIs w' p bg (gstep F.gb F.actors L g).2 ∧ CEnv w' F cb bb bg bm bc dv bd (tc + 1) (gstep F.gb F.actors L g).1 ∧ Only (S3 p bm bc) w w') := by
  have hbp : Blk w p 103 _ := hp
  refine (GStep_all he.gate hok hp hf).mono ?_
  rintro e w' ⟨rfl, h1, h2, h3⟩
  rw [show gtick g = 1 from by simp [gtick, hb]] at h2
  have hc : CopAt w' co cb cur thn 0 0 := h.only h3 (fun hs => by
    rcases hs with rfl | rfl | rfl
    · exact Blk.ne_ h hbp (by decide) rfl
    · exact Blk.ne_ h he.mem.mem (by decide) rfl
    · exact Blk.ne_ h he.mem.cells (by decide) rfl)
  exact ⟨rfl, hc, hc, h1, he.next h3 (s3_wr hbp (by unfold OpT; decide)) h2.mem h2.few h2.u (gstep_len _ _ _ _), h3⟩
theorem deq_step {i : Nat} {d : Dop} (he : CEnv w F cb bb bg bm bc dv bd tc L) (hi : i < F.n) (hb : d.out = 0) (hok : DopOk d) (hp : DopIs w p (bd i) d) (h : CopAt w co cb cur thn 0 0) (hf : Few (tc + 1)) :
    Calls Try.prog 106 #[.pointer (some ⟨p, 0, none⟩)] w fun e w' => e = .returned (.bool ((dstep (F.db i) F.slots L d).2.out != 0)) ∧ CopAt w' co cb cur thn 0 0 ∧
      (CopAt w' co cb cur thn 0 0 ∧ DopIs w' p (bd i) (dstep (F.db i) F.slots L d).2 ∧ CEnv w' F cb bb bg bm bc dv bd (tc + 1) (dstep (F.db i) F.slots L d).1 ∧ Only (S3 p bm bc) w w') := by
  have hbp : Blk w p 99 _ := hp
  refine (DStep_all (he.deq i hi) hok hp hf).mono ?_
  rintro e w' ⟨rfl, h1, h2, h3⟩
  rw [show dtick d = 1 from by simp [dtick, hb]] at h2
  have hc : CopAt w' co cb cur thn 0 0 := h.only h3 (fun hs => by
    rcases hs with rfl | rfl | rfl
    · exact Blk.ne_ h hbp (by decide) rfl
    · exact Blk.ne_ h he.mem.mem (by decide) rfl
    · exact Blk.ne_ h he.mem.cells (by decide) rfl)
  exact ⟨rfl, hc, hc, h1, he.next h3 (s3_wr hbp (by unfold OpT; decide)) h2.mem h2.few h2.u (dstep_len _ _ _ _), h3⟩
/-- What a step leaves. -/
def CLeft (w : World) (F : CLay) (cb bb bg bm bc : Nat) (dv : Value) (bd : Nat → Nat) (O : Nat → Prop) (co : Nat) (tc : Int) (L : List Int) (st : CSt) (w' : World) : Prop :=
  CIs w' cb bb bg bc bd (fun k => O k ∨ w.heap.size ≤ k) co (cstep F L st).2 ∧ CEnv w' F cb bb bg bm bc dv bd (tc + 1) (cstep F L st).1 ∧ ∃ S, Only S w w' ∧ CFoot w bm bc O S
theorem left_of (hfin : Calls Try.prog 26 #[.pointer (some ⟨co, 0, none⟩)] w fun e w' => ∃ b, e = .returned (.bool b) ∧ ∃ cur' thn' out' val', b = (out' != 0) ∧ CopAt w' co cb cur' thn' out' val' ∧ CLeft w F cb bb bg bm bc dv bd O co tc L st w') :
    Calls Try.prog 26 #[.pointer (some ⟨co, 0, none⟩)] w fun e w' => e = .returned (.bool ((cstep F L st).2.out != 0)) ∧ CLeft w F cb bb bg bm bc dv bd O co tc L st w' := by
  refine hfin.mono ?_
  rintro e w' ⟨b, rfl, cur', thn', out', val', rfl, hc, hl⟩
  obtain ⟨c2, t2, hc2⟩ := hl.1.cop
  rw [(hc.out_eq hc2).1]
  exact ⟨rfl, hl⟩
theorem left_stay (h0 : (cstep F L st).2.out = 0) (hfin : Calls Try.prog 26 #[.pointer (some ⟨co, 0, none⟩)] w fun e w' => e = .returned (.bool false) ∧ CopAt w' co cb cur thn 0 0 ∧ CLeft w F cb bb bg bm bc dv bd O co tc L st w') :
    Calls Try.prog 26 #[.pointer (some ⟨co, 0, none⟩)] w fun e w' => e = .returned (.bool ((cstep F L st).2.out != 0)) ∧ CLeft w F cb bb bg bm bc dv bd O co tc L st w' := by
  refine hfin.mono ?_
  rintro e w' ⟨rfl, hc, hl⟩
  rw [h0]
  exact ⟨rfl, hl⟩
/-- The footprints of a step. -/
theorem foot1 {t : TypeId} {cs : Array Value} (hp : Blk w p t cs) (ht : OpT t) (hO : O p) (o1 : Only (S3 p bm bc) w w') : ∃ S, Only S w w' ∧ CFoot w bm bc O S :=
  ⟨_, o1, fun k hk => by
    rcases hk with rfl | h | h
    · exact .inr (.inr ⟨hO, _, _, hp, ht⟩)
    · exact .inl h
    · exact .inr (.inl h)⟩
theorem foot2 {t : TypeId} {cs cs2 : Array Value} (hp : Blk w p t cs) (ht : OpT t) (hO : O p) (hc : Blk w co 70 cs2) (hOc : O co) (o1 : Only (S3 p bm bc) w w1) (o2 : Only (S1 co) w1 w') : ∃ S, Only S w w' ∧ CFoot w bm bc O S :=
  ⟨fun k => k = co ∨ S3 p bm bc k, (o1.mono fun k h => .inr h).trans (o2.mono fun k h => .inl h), fun k hk => by
    rcases hk with rfl | rfl | h | h
    · exact .inr (.inr ⟨hOc, _, _, hc, by unfold OpT; decide⟩)
    · exact .inr (.inr ⟨hO, _, _, hp, ht⟩)
    · exact .inl h
    · exact .inr (.inl h)⟩
theorem CEnv.cop (he : CEnv w F cb bb bg bm bc dv bd tc L) (h : CopAt w co cb cur thn 0 0) (ho : Only (S1 co) w w') : CEnv w' F cb bb bg bm bc dv bd tc L :=
  he.only ho fun k hk => by
    have e : k = co := hk
    subst e
    exact ⟨_, _, h, by unfold OpT; decide⟩

set_option maxHeartbeats 1000000 in
theorem cs_ring {b : Bop} (he : CEnv w F cb bb bg bm bc dv bd tc L) (hok : CStOk F L.length (.ring b)) (h : CIs w cb bb bg bc bd O co (.ring b)) (hf : Few (tc + 1)) :
    Calls Try.prog 26 #[.pointer (some ⟨co, 0, none⟩)] w fun e w' => e = .returned (.bool ((cstep F L (.ring b)).2.out != 0)) ∧ CLeft w F cb bb bg bm bc dv bd O co tc L (.ring b) w' := by
  obtain ⟨hok0, hok1⟩ := hok
  obtain ⟨p, x, hc, hp, hx, hOc, hOp⟩ := h
  have hbp : Blk w p 109 _ := hp
  have hot : OpT 109 := by unfold OpT; decide
  have hlc := Blk.lt he.mem.cells
  have nb : ∀ {x : Nat} {t : TypeId} {cs : Array Value}, Blk w x t cs → t ≠ 64 → x ≠ bc → ¬ OpT t → ¬ S3 p bm bc x := fun hx h1 h2 h3 => s3_not hx he.mem.mem h1 h2 hbp hot h3
  have hst := bell_step he hok0 hok1 hp hc hf
  have hsz : w.heap.size ≤ w.heap.size := Nat.le_refl _
  by_cases h0 : (bstep F.base F.n L b).2.out = 0
  · have hcs : cstep F L (.ring b) = ((bstep F.base F.n L b).1, .ring (bstep F.base F.n L b).2) := by simp only [cstep]; rw [if_pos h0]
    refine left_stay (cur := _) (thn := _) (by rw [hcs]; rfl) (CStep_bell_stay hc (hst.mono ?_))
    rintro e w1 ⟨rfl, hc1, -, hp1, he1, o1⟩
    rw [h0]
    refine ⟨rfl, hc1, ?_⟩
    unfold CLeft
    rw [hcs]
    refine ⟨?_, he1, foot1 hbp hot hOp o1⟩
    exact ⟨p, x, hc1, hp1, hx.only o1 (nb hx (by decide) (Blk.ne_ hx he.mem.cells (by decide)) (by unfold OpT; decide)), .inl hOc, .inl hOp⟩
  · have HS := hst
    have hst2 : Calls Try.prog _ _ w _ := hst.mono fun e w' h => (show e = .returned (.bool true) ∧ _ ∧ _ from by rw [show ((bstep F.base F.n L b).2.out != 0) = true from by simp [h0]] at h; exact h)
    have hcs : cstep F L (.ring b) = ((bstep F.base F.n L b).1, .over 1 0) := by simp only [cstep]; rw [if_neg h0]
    refine left_of (CStep_bell_ring (R2 := CLeft w F cb bb bg bm bc dv bd O co tc L (.ring b)) rfl hc hst2 ?_)
    rintro w1 ⟨hc1, hp1, he1, o1⟩
    refine (ring1_any x (hx.only o1 (nb hx (by decide) (Blk.ne_ hx he.mem.cells (by decide)) (by unfold OpT; decide))) hc1).mono ?_
    rintro e w2 ⟨rfl, hc2, o2⟩
    refine ⟨rfl, _, _, _, _, hc2, ?_⟩
    unfold CLeft
    rw [hcs]
    exact ⟨⟨_, _, hc2, .inl hOc⟩, he1.cop hc1 o2, foot2 hbp hot hOp hc hOc o1 o2⟩
set_option maxHeartbeats 1000000 in
theorem cs_put {v : Int} {g : Gop} (he : CEnv w F cb bb bg bm bc dv bd tc L) (hok : CStOk F L.length (.put v g)) (h : CIs w cb bb bg bc bd O co (.put v g)) (hf : Few (tc + 1)) :
    Calls Try.prog 26 #[.pointer (some ⟨co, 0, none⟩)] w fun e w' => e = .returned (.bool ((cstep F L (.put v g)).2.out != 0)) ∧ CLeft w F cb bb bg bm bc dv bd O co tc L (.put v g) w' := by
  obtain ⟨hok0, hok1, hok2⟩ := hok
  obtain ⟨p, xp, xo, xv, hc, hp, hx, hxo, hxv, hOc, hOp, hxn⟩ := h
  have hbp : Blk w p 103 _ := hp
  have hot : OpT 103 := by unfold OpT; decide
  have hlc := Blk.lt he.mem.cells
  have nb : ∀ {x : Nat} {t : TypeId} {cs : Array Value}, Blk w x t cs → t ≠ 64 → x ≠ bc → ¬ OpT t → ¬ S3 p bm bc x := fun hx h1 h2 h3 => s3_not hx he.mem.mem h1 h2 hbp hot h3
  have hst := gate_step he hok0 hok1 hp hc hf
  have hsz : w.heap.size ≤ w.heap.size := Nat.le_refl _
  by_cases h0 : (gstep F.gb F.actors L g).2.out = 0
  · have hcs : cstep F L (.put v g) = ((gstep F.gb F.actors L g).1, .put v (gstep F.gb F.actors L g).2) := by simp only [cstep]; rw [if_pos h0]
    refine left_stay (cur := _) (thn := _) (by rw [hcs]; rfl) (CStep_gate_stay hc (hst.mono ?_))
    rintro e w1 ⟨rfl, hc1, -, hp1, he1, o1⟩
    rw [h0]
    refine ⟨rfl, hc1, ?_⟩
    unfold CLeft
    rw [hcs]
    refine ⟨?_, he1, foot1 hbp hot hOp o1⟩
    exact ⟨p, xp, xo, xv, hc1, hp1, hx.only o1 (nb hx (by decide) (Blk.ne_ hx he.mem.cells (by decide)) (by unfold OpT; decide)), hxo.only o1 (nb hxo (by decide) (Blk.ne_ hxo he.mem.cells (by decide)) (by unfold OpT; decide)), hxv.only o1 (nb hxv (by decide) hxn.1 (by unfold OpT; decide)), .inl hOc, .inl hOp, ⟨hxn.1, .inl hxn.2⟩⟩
  · have HS := hst
    have hst2 : Calls Try.prog _ _ w _ := hst.mono fun e w' h => (show e = .returned (.bool true) ∧ _ ∧ _ from by rw [show ((gstep F.gb F.actors L g).2.out != 0) = true from by simp [h0]] at h; exact h)
    by_cases h2 : (gstep F.gb F.actors L g).2.out = 2
    · have hcs : cstep F L (.put v g) = ((gstep F.gb F.actors L g).1, .put v (putOp F.gb v)) := by simp only [cstep]; rw [if_neg h0, if_pos h2]
      refine left_of (CStep_gate_enter (R2 := CLeft w F cb bb bg bm bc dv bd O co tc L (.put v g)) rfl hc hst2 ?_)
      rintro w1 ⟨hc1, hp1, he1, o1⟩
      refine (enter1_full (hx.only o1 (nb hx (by decide) (Blk.ne_ hx he.mem.cells (by decide)) (by unfold OpT; decide))) (hxo.only o1 (nb hxo (by decide) (Blk.ne_ hxo he.mem.cells (by decide)) (by unfold OpT; decide))) (hxv.only o1 (nb hxv (by decide) hxn.1 (by unfold OpT; decide))) hp1 h2 hc1 he1.crew he1.bell he1.gate).mono ?_
      rintro e w2 ⟨rfl, gp, xp2, xo2, xv2, hc2, hg2, hx2, hxo2, hxv2, o2, g1, g2, g3, g4⟩
      refine ⟨rfl, _, _, _, _, hc2, ?_⟩
      unfold CLeft
      rw [hcs]
      have := o1.size
      exact ⟨⟨gp, xp2, xo2, xv2, hc2, hg2, hx2, hxo2, hxv2, .inl hOc, .inr (by omega), ⟨by omega, .inr (by omega)⟩⟩, he1.cop hc1 o2, foot2 hbp hot hOp hc hOc o1 o2⟩
    · have hcs : cstep F L (.put v g) = ((gstep F.gb F.actors L g).1, .ring ringB) := by simp only [cstep]; rw [if_neg h0, if_neg h2]
      refine left_of (CStep_gate_enter (R2 := CLeft w F cb bb bg bm bc dv bd O co tc L (.put v g)) rfl hc hst2 ?_)
      rintro w1 ⟨hc1, hp1, he1, o1⟩
      refine (enter1_ring (hx.only o1 (nb hx (by decide) (Blk.ne_ hx he.mem.cells (by decide)) (by unfold OpT; decide))) (hxo.only o1 (nb hxo (by decide) (Blk.ne_ hxo he.mem.cells (by decide)) (by unfold OpT; decide))) (hxv.only o1 (nb hxv (by decide) hxn.1 (by unfold OpT; decide))) hp1 h2 hc1 he1.crew he1.bell he1.gate).mono ?_
      rintro e w2 ⟨rfl, bp, x2, hc2, hb2, hx2, o2, g1, g2⟩
      refine ⟨rfl, _, _, _, _, hc2, ?_⟩
      unfold CLeft
      rw [hcs]
      have := o1.size
      exact ⟨⟨bp, x2, hc2, hb2, hx2, .inl hOc, .inr (by omega)⟩, he1.cop hc1 o2, foot2 hbp hot hOp hc hOc o1 o2⟩
set_option maxHeartbeats 1000000 in
theorem cs_push {i : Nat} {v : Int} {d : Dop} (he : CEnv w F cb bb bg bm bc dv bd tc L) (hok : CStOk F L.length (.push i v d)) (h : CIs w cb bb bg bc bd O co (.push i v d)) (hf : Few (tc + 1)) :
    Calls Try.prog 26 #[.pointer (some ⟨co, 0, none⟩)] w fun e w' => e = .returned (.bool ((cstep F L (.push i v d)).2.out != 0)) ∧ CLeft w F cb bb bg bm bc dv bd O co tc L (.push i v d) w' := by
  obtain ⟨hok0, hok1, hok2, hi⟩ := hok
  obtain ⟨p, xp, xo, xv, hc, hp, hx, hxo, hxv, hOc, hOp, hxn⟩ := h
  have hbp : Blk w p 99 _ := hp
  have hot : OpT 99 := by unfold OpT; decide
  have hlc := Blk.lt he.mem.cells
  have nb : ∀ {x : Nat} {t : TypeId} {cs : Array Value}, Blk w x t cs → t ≠ 64 → x ≠ bc → ¬ OpT t → ¬ S3 p bm bc x := fun hx h1 h2 h3 => s3_not hx he.mem.mem h1 h2 hbp hot h3
  have hst := deq_step he hi hok0 hok1 hp hc hf
  have hsz : w.heap.size ≤ w.heap.size := Nat.le_refl _
  by_cases h0 : (dstep (F.db i) F.slots L d).2.out = 0
  · have hcs : cstep F L (.push i v d) = ((dstep (F.db i) F.slots L d).1, .push i v (dstep (F.db i) F.slots L d).2) := by simp only [cstep]; rw [if_pos h0]
    refine left_stay (cur := _) (thn := _) (by rw [hcs]; rfl) (CStep_deque_stay hc (hst.mono ?_))
    rintro e w1 ⟨rfl, hc1, -, hp1, he1, o1⟩
    rw [h0]
    refine ⟨rfl, hc1, ?_⟩
    unfold CLeft
    rw [hcs]
    refine ⟨?_, he1, foot1 hbp hot hOp o1⟩
    exact ⟨p, xp, xo, xv, hc1, hp1, hx.only o1 (nb hx (by decide) (Blk.ne_ hx he.mem.cells (by decide)) (by unfold OpT; decide)), hxo.only o1 (nb hxo (by decide) (Blk.ne_ hxo he.mem.cells (by decide)) (by unfold OpT; decide)), hxv.only o1 (nb hxv (by decide) hxn.1 (by unfold OpT; decide)), .inl hOc, .inl hOp, ⟨hxn.1, .inl hxn.2⟩⟩
  · have HS := hst
    have hst2 : Calls Try.prog _ _ w _ := hst.mono fun e w' h => (show e = .returned (.bool true) ∧ _ ∧ _ from by rw [show ((dstep (F.db i) F.slots L d).2.out != 0) = true from by simp [h0]] at h; exact h)
    by_cases h2 : (dstep (F.db i) F.slots L d).2.out = 2
    · have hcs : cstep F L (.push i v d) = ((dstep (F.db i) F.slots L d).1, .put v (putOp F.gb v)) := by simp only [cstep]; rw [if_neg h0, if_pos h2]
      refine left_of (CStep_deque_offer (R2 := CLeft w F cb bb bg bm bc dv bd O co tc L (.push i v d)) rfl hc hst2 ?_)
      rintro w1 ⟨hc1, hp1, he1, o1⟩
      refine (offer1_full (hx.only o1 (nb hx (by decide) (Blk.ne_ hx he.mem.cells (by decide)) (by unfold OpT; decide))) (hxo.only o1 (nb hxo (by decide) (Blk.ne_ hxo he.mem.cells (by decide)) (by unfold OpT; decide))) (hxv.only o1 (nb hxv (by decide) hxn.1 (by unfold OpT; decide))) hp1 h2 hc1 he1.crew he1.bell he1.gate).mono ?_
      rintro e w2 ⟨rfl, gp, xp2, xo2, xv2, hc2, hg2, hx2, hxo2, hxv2, o2, g1, g2, g3, g4⟩
      refine ⟨rfl, _, _, _, _, hc2, ?_⟩
      unfold CLeft
      rw [hcs]
      have := o1.size
      exact ⟨⟨gp, xp2, xo2, xv2, hc2, hg2, hx2, hxo2, hxv2, .inl hOc, .inr (by omega), ⟨by omega, .inr (by omega)⟩⟩, he1.cop hc1 o2, foot2 hbp hot hOp hc hOc o1 o2⟩
    · have hcs : cstep F L (.push i v d) = ((dstep (F.db i) F.slots L d).1, .ring ringB) := by simp only [cstep]; rw [if_neg h0, if_neg h2]
      refine left_of (CStep_deque_offer (R2 := CLeft w F cb bb bg bm bc dv bd O co tc L (.push i v d)) rfl hc hst2 ?_)
      rintro w1 ⟨hc1, hp1, he1, o1⟩
      refine (offer1_ring (hx.only o1 (nb hx (by decide) (Blk.ne_ hx he.mem.cells (by decide)) (by unfold OpT; decide))) (hxo.only o1 (nb hxo (by decide) (Blk.ne_ hxo he.mem.cells (by decide)) (by unfold OpT; decide))) (hxv.only o1 (nb hxv (by decide) hxn.1 (by unfold OpT; decide))) hp1 h2 hc1 he1.crew he1.bell he1.gate).mono ?_
      rintro e w2 ⟨rfl, bp, x2, hc2, hb2, hx2, o2, g1, g2⟩
      refine ⟨rfl, _, _, _, _, hc2, ?_⟩
      unfold CLeft
      rw [hcs]
      have := o1.size
      exact ⟨⟨bp, x2, hc2, hb2, hx2, .inl hOc, .inr (by omega)⟩, he1.cop hc1 o2, foot2 hbp hot hOp hc hOc o1 o2⟩
set_option maxHeartbeats 1000000 in
theorem cs_srcd {i : Nat} {d : Dop} {rest : List Src} (he : CEnv w F cb bb bg bm bc dv bd tc L) (hok : CStOk F L.length (.src (.dq i d) rest)) (h : CIs w cb bb bg bc bd O co (.src (.dq i d) rest)) (hf : Few (tc + 1)) :
    Calls Try.prog 26 #[.pointer (some ⟨co, 0, none⟩)] w fun e w' => e = .returned (.bool ((cstep F L (.src (.dq i d) rest)).2.out != 0)) ∧ CLeft w F cb bb bg bm bc dv bd O co tc L (.src (.dq i d) rest) w' := by
  obtain ⟨hok0, hok1, hi, hok3⟩ := hok
  obtain ⟨p, xs, xo, xq, sv, s0, hc, hp, hxs, hxo, hxq, hsq, hOc, hOp⟩ := h
  have hbp : Blk w p 99 _ := hp
  have hot : OpT 99 := by unfold OpT; decide
  have hlc := Blk.lt he.mem.cells
  have nb : ∀ {x : Nat} {t : TypeId} {cs : Array Value}, Blk w x t cs → t ≠ 64 → x ≠ bc → ¬ OpT t → ¬ S3 p bm bc x := fun hx h1 h2 h3 => s3_not hx he.mem.mem h1 h2 hbp hot h3
  have hst := deq_step he hi hok0 hok1 hp hc hf
  have hsz : w.heap.size ≤ w.heap.size := Nat.le_refl _
  by_cases h0 : (dstep (F.db i) F.slots L d).2.out = 0
  · have hcs : cstep F L (.src (.dq i d) rest) = ((dstep (F.db i) F.slots L d).1, .src (.dq i (dstep (F.db i) F.slots L d).2) rest) := by simp [cstep, sstep, SOp.out, h0]
    refine left_stay (cur := _) (thn := _) (by rw [hcs]; rfl) (CStep_deque_stay hc (hst.mono ?_))
    rintro e w1 ⟨rfl, hc1, -, hp1, he1, o1⟩
    rw [h0]
    refine ⟨rfl, hc1, ?_⟩
    unfold CLeft
    rw [hcs]
    refine ⟨?_, he1, foot1 hbp hot hOp o1⟩
    exact ⟨p, xs, xo, xq, sv, s0, hc1, hp1, hxs.only o1 (nb hxs (by decide) (Blk.ne_ hxs he.mem.cells (by decide)) (by unfold OpT; decide)), hxo.only o1 (nb hxo (by decide) (Blk.ne_ hxo he.mem.cells (by decide)) (by unfold OpT; decide)), hxq.only o1 (nb hxq (by decide) (Blk.ne_ hxq he.mem.cells (by decide)) (by unfold OpT; decide)), (hsq.only o1 (fun x hx => (nb hx (by decide) (Blk.ne_ hx he.mem.cells (by decide)) (by unfold OpT; decide))) (fun x m hx => (nb hx (by decide) (Blk.ne_ hx he.mem.cells (by decide)) (by unfold OpT; decide))) (fun g cs hx => (nb hx (by decide) (Blk.ne_ hx he.mem.cells (by decide)) (by unfold OpT; decide)))), .inl hOc, .inl hOp⟩
  · have HS := hst
    have hst2 : Calls Try.prog _ _ w _ := hst.mono fun e w' h => (show e = .returned (.bool true) ∧ _ ∧ _ from by rw [show ((dstep (F.db i) F.slots L d).2.out != 0) = true from by simp [h0]] at h; exact h)
    by_cases h1 : (dstep (F.db i) F.slots L d).2.out = 1
    · have hcs : cstep F L (.src (.dq i d) rest) = ((dstep (F.db i) F.slots L d).1, .over 1 (SOp.value (.dq i (dstep (F.db i) F.slots L d).2))) := by simp [cstep, sstep, SOp.out, h1]
      refine left_of (CStep_deque_try (R2 := CLeft w F cb bb bg bm bc dv bd O co tc L (.src (.dq i d) rest)) rfl hc hst2 ?_)
      rintro w1 ⟨hc1, hp1, he1, o1⟩
      refine (try1_deque_done (hxs.only o1 (nb hxs (by decide) (Blk.ne_ hxs he.mem.cells (by decide)) (by unfold OpT; decide))) (hxo.only o1 (nb hxo (by decide) (Blk.ne_ hxo he.mem.cells (by decide)) (by unfold OpT; decide))) hp1 h1 hc1).mono ?_
      rintro e w2 ⟨rfl, hc2, o2⟩
      refine ⟨rfl, _, _, _, _, hc2, ?_⟩
      unfold CLeft
      rw [hcs]
      exact ⟨⟨_, _, hc2, .inl hOc⟩, he1.cop hc1 o2, foot2 hbp hot hOp hc hOc o1 o2⟩
    · have hcs : cstep F L (.src (.dq i d) rest) = ((dstep (F.db i) F.slots L d).1, ctry F rest) := by simp [cstep, sstep, SOp.out, h0, h1]
      refine left_of (CStep_deque_try (R2 := CLeft w F cb bb bg bm bc dv bd O co tc L (.src (.dq i d) rest)) rfl hc hst2 ?_)
      rintro w1 ⟨hc1, hp1, he1, o1⟩
      refine try1_deque_next (hxs.only o1 (nb hxs (by decide) (Blk.ne_ hxs he.mem.cells (by decide)) (by unfold OpT; decide))) (hxo.only o1 (nb hxo (by decide) (Blk.ne_ hxo he.mem.cells (by decide)) (by unfold OpT; decide))) (hxq.only o1 (nb hxq (by decide) (Blk.ne_ hxq he.mem.cells (by decide)) (by unfold OpT; decide))) (hsq.only o1 (fun x hx => (nb hx (by decide) (Blk.ne_ hx he.mem.cells (by decide)) (by unfold OpT; decide))) (fun x m hx => (nb hx (by decide) (Blk.ne_ hx he.mem.cells (by decide)) (by unfold OpT; decide))) (fun g cs hx => (nb hx (by decide) (Blk.ne_ hx he.mem.cells (by decide)) (by unfold OpT; decide)))) hp1 h1 ?_
      intro w2 sv2 o2 hsr
      have hc2 := hc1.only o2 (fun h => h)
      have he2 := he1.only0 o2
      have hn8 := he.n8
      cases rest with
      | nil =>
        obtain ⟨a, cap, rfl, -⟩ := hsr.ex
        refine (try_nil hc2).mono ?_
        rintro e w3 ⟨rfl, hc3, o3⟩
        refine ⟨rfl, _, _, _, _, hc3, ?_⟩
        unfold CLeft
        rw [hcs]
        have o13 : Only (S1 co) w1 w3 := (o2.mono fun _ h => h.elim).trans o3
        exact ⟨⟨_, _, hc3, .inl hOc⟩, he1.cop hc1 o13, foot2 hbp hot hOp hc hOc o1 o13⟩
      | cons s rest =>
        have hs0 := hok3 s (List.mem_cons_self ..)
        cases s with
        | pop j =>
          refine (try_pop hc2 hsr he2.crew he2.dqs hs0 (by omega) (he2.deq j hs0)).mono ?_
          rintro e w3 ⟨rfl, p2, xs2, xo2, xq2, hc3, hp3, hxs3, hxo3, hxq3, o3, g1, g2, g3, g4⟩
          refine ⟨rfl, _, _, _, _, hc3, ?_⟩
          unfold CLeft
          rw [hcs]
          have o13 : Only (S1 co) w1 w3 := (o2.mono fun _ h => h.elim).trans o3
          have := o1.size
          have := o2.size
          exact ⟨⟨p2, xs2, xo2, xq2, _, _, hc3, hp3, hxs3, hxo3, hxq3, SrcsAt.only hsr o3 (fun x hx e => Blk.ne_ hx hc2 (by decide) e) (fun x m hx e => Blk.ne_ hx hc2 (by decide) e) (fun g cs hx e => Blk.ne_ hx hc2 (by decide) e), .inl hOc, .inr (by omega)⟩, he1.cop hc1 o13, foot2 hbp hot hOp hc hOc o1 o13⟩
        | take =>
          refine (try_take hc2 hsr he2.crew he2.gate).mono ?_
          rintro e w3 ⟨rfl, p2, xs2, xo2, xq2, hc3, hp3, hxs3, hxo3, hxq3, o3, g1, g2, g3, g4⟩
          refine ⟨rfl, _, _, _, _, hc3, ?_⟩
          unfold CLeft
          rw [hcs]
          have o13 : Only (S1 co) w1 w3 := (o2.mono fun _ h => h.elim).trans o3
          have := o1.size
          have := o2.size
          exact ⟨⟨p2, xs2, xo2, xq2, _, _, hc3, hp3, hxs3, hxo3, hxq3, SrcsAt.only hsr o3 (fun x hx e => Blk.ne_ hx hc2 (by decide) e) (fun x m hx e => Blk.ne_ hx hc2 (by decide) e) (fun g cs hx e => Blk.ne_ hx hc2 (by decide) e), .inl hOc, .inr (by omega)⟩, he1.cop hc1 o13, foot2 hbp hot hOp hc hOc o1 o13⟩
        | steal j =>
          refine (try_steal hc2 hsr he2.crew he2.dqs hs0 (by omega) (he2.deq j hs0)).mono ?_
          rintro e w3 ⟨rfl, p2, xs2, xo2, xq2, hc3, hp3, hxs3, hxo3, hxq3, o3, g1, g2, g3, g4⟩
          refine ⟨rfl, _, _, _, _, hc3, ?_⟩
          unfold CLeft
          rw [hcs]
          have o13 : Only (S1 co) w1 w3 := (o2.mono fun _ h => h.elim).trans o3
          have := o1.size
          have := o2.size
          exact ⟨⟨p2, xs2, xo2, xq2, _, _, hc3, hp3, hxs3, hxo3, hxq3, SrcsAt.only hsr o3 (fun x hx e => Blk.ne_ hx hc2 (by decide) e) (fun x m hx e => Blk.ne_ hx hc2 (by decide) e) (fun g cs hx e => Blk.ne_ hx hc2 (by decide) e), .inl hOc, .inr (by omega)⟩, he1.cop hc1 o13, foot2 hbp hot hOp hc hOc o1 o13⟩
set_option maxHeartbeats 1000000 in
theorem cs_srcg {g : Gop} {rest : List Src} (he : CEnv w F cb bb bg bm bc dv bd tc L) (hok : CStOk F L.length (.src (.gt g) rest)) (h : CIs w cb bb bg bc bd O co (.src (.gt g) rest)) (hf : Few (tc + 1)) :
    Calls Try.prog 26 #[.pointer (some ⟨co, 0, none⟩)] w fun e w' => e = .returned (.bool ((cstep F L (.src (.gt g) rest)).2.out != 0)) ∧ CLeft w F cb bb bg bm bc dv bd O co tc L (.src (.gt g) rest) w' := by
  obtain ⟨hok0, hok1, hok3⟩ := hok
  obtain ⟨p, xs, xo, xq, sv, s0, hc, hp, hxs, hxo, hxq, hsq, hOc, hOp⟩ := h
  have hbp : Blk w p 103 _ := hp
  have hot : OpT 103 := by unfold OpT; decide
  have hlc := Blk.lt he.mem.cells
  have nb : ∀ {x : Nat} {t : TypeId} {cs : Array Value}, Blk w x t cs → t ≠ 64 → x ≠ bc → ¬ OpT t → ¬ S3 p bm bc x := fun hx h1 h2 h3 => s3_not hx he.mem.mem h1 h2 hbp hot h3
  have hst := gate_step he hok0 hok1 hp hc hf
  have hsz : w.heap.size ≤ w.heap.size := Nat.le_refl _
  by_cases h0 : (gstep F.gb F.actors L g).2.out = 0
  · have hcs : cstep F L (.src (.gt g) rest) = ((gstep F.gb F.actors L g).1, .src (.gt (gstep F.gb F.actors L g).2) rest) := by simp [cstep, sstep, SOp.out, h0]
    refine left_stay (cur := _) (thn := _) (by rw [hcs]; rfl) (CStep_gate_stay hc (hst.mono ?_))
    rintro e w1 ⟨rfl, hc1, -, hp1, he1, o1⟩
    rw [h0]
    refine ⟨rfl, hc1, ?_⟩
    unfold CLeft
    rw [hcs]
    refine ⟨?_, he1, foot1 hbp hot hOp o1⟩
    exact ⟨p, xs, xo, xq, sv, s0, hc1, hp1, hxs.only o1 (nb hxs (by decide) (Blk.ne_ hxs he.mem.cells (by decide)) (by unfold OpT; decide)), hxo.only o1 (nb hxo (by decide) (Blk.ne_ hxo he.mem.cells (by decide)) (by unfold OpT; decide)), hxq.only o1 (nb hxq (by decide) (Blk.ne_ hxq he.mem.cells (by decide)) (by unfold OpT; decide)), (hsq.only o1 (fun x hx => (nb hx (by decide) (Blk.ne_ hx he.mem.cells (by decide)) (by unfold OpT; decide))) (fun x m hx => (nb hx (by decide) (Blk.ne_ hx he.mem.cells (by decide)) (by unfold OpT; decide))) (fun g cs hx => (nb hx (by decide) (Blk.ne_ hx he.mem.cells (by decide)) (by unfold OpT; decide)))), .inl hOc, .inl hOp⟩
  · have HS := hst
    have hst2 : Calls Try.prog _ _ w _ := hst.mono fun e w' h => (show e = .returned (.bool true) ∧ _ ∧ _ from by rw [show ((gstep F.gb F.actors L g).2.out != 0) = true from by simp [h0]] at h; exact h)
    by_cases h1 : (gstep F.gb F.actors L g).2.out = 1
    · have hcs : cstep F L (.src (.gt g) rest) = ((gstep F.gb F.actors L g).1, .over 1 (SOp.value (.gt (gstep F.gb F.actors L g).2))) := by simp [cstep, sstep, SOp.out, h1]
      refine left_of (CStep_gate_try (R2 := CLeft w F cb bb bg bm bc dv bd O co tc L (.src (.gt g) rest)) rfl hc hst2 ?_)
      rintro w1 ⟨hc1, hp1, he1, o1⟩
      refine (try1_gate_done (hxs.only o1 (nb hxs (by decide) (Blk.ne_ hxs he.mem.cells (by decide)) (by unfold OpT; decide))) (hxo.only o1 (nb hxo (by decide) (Blk.ne_ hxo he.mem.cells (by decide)) (by unfold OpT; decide))) hp1 h1 hc1).mono ?_
      rintro e w2 ⟨rfl, hc2, o2⟩
      refine ⟨rfl, _, _, _, _, hc2, ?_⟩
      unfold CLeft
      rw [hcs]
      exact ⟨⟨_, _, hc2, .inl hOc⟩, he1.cop hc1 o2, foot2 hbp hot hOp hc hOc o1 o2⟩
    · have hcs : cstep F L (.src (.gt g) rest) = ((gstep F.gb F.actors L g).1, ctry F rest) := by simp [cstep, sstep, SOp.out, h0, h1]
      refine left_of (CStep_gate_try (R2 := CLeft w F cb bb bg bm bc dv bd O co tc L (.src (.gt g) rest)) rfl hc hst2 ?_)
      rintro w1 ⟨hc1, hp1, he1, o1⟩
      refine try1_gate_next (hxs.only o1 (nb hxs (by decide) (Blk.ne_ hxs he.mem.cells (by decide)) (by unfold OpT; decide))) (hxo.only o1 (nb hxo (by decide) (Blk.ne_ hxo he.mem.cells (by decide)) (by unfold OpT; decide))) (hxq.only o1 (nb hxq (by decide) (Blk.ne_ hxq he.mem.cells (by decide)) (by unfold OpT; decide))) (hsq.only o1 (fun x hx => (nb hx (by decide) (Blk.ne_ hx he.mem.cells (by decide)) (by unfold OpT; decide))) (fun x m hx => (nb hx (by decide) (Blk.ne_ hx he.mem.cells (by decide)) (by unfold OpT; decide))) (fun g cs hx => (nb hx (by decide) (Blk.ne_ hx he.mem.cells (by decide)) (by unfold OpT; decide)))) hp1 h1 ?_
      intro w2 sv2 o2 hsr
      have hc2 := hc1.only o2 (fun h => h)
      have he2 := he1.only0 o2
      have hn8 := he.n8
      cases rest with
      | nil =>
        obtain ⟨a, cap, rfl, -⟩ := hsr.ex
        refine (try_nil hc2).mono ?_
        rintro e w3 ⟨rfl, hc3, o3⟩
        refine ⟨rfl, _, _, _, _, hc3, ?_⟩
        unfold CLeft
        rw [hcs]
        have o13 : Only (S1 co) w1 w3 := (o2.mono fun _ h => h.elim).trans o3
        exact ⟨⟨_, _, hc3, .inl hOc⟩, he1.cop hc1 o13, foot2 hbp hot hOp hc hOc o1 o13⟩
      | cons s rest =>
        have hs0 := hok3 s (List.mem_cons_self ..)
        cases s with
        | pop j =>
          refine (try_pop hc2 hsr he2.crew he2.dqs hs0 (by omega) (he2.deq j hs0)).mono ?_
          rintro e w3 ⟨rfl, p2, xs2, xo2, xq2, hc3, hp3, hxs3, hxo3, hxq3, o3, g1, g2, g3, g4⟩
          refine ⟨rfl, _, _, _, _, hc3, ?_⟩
          unfold CLeft
          rw [hcs]
          have o13 : Only (S1 co) w1 w3 := (o2.mono fun _ h => h.elim).trans o3
          have := o1.size
          have := o2.size
          exact ⟨⟨p2, xs2, xo2, xq2, _, _, hc3, hp3, hxs3, hxo3, hxq3, SrcsAt.only hsr o3 (fun x hx e => Blk.ne_ hx hc2 (by decide) e) (fun x m hx e => Blk.ne_ hx hc2 (by decide) e) (fun g cs hx e => Blk.ne_ hx hc2 (by decide) e), .inl hOc, .inr (by omega)⟩, he1.cop hc1 o13, foot2 hbp hot hOp hc hOc o1 o13⟩
        | take =>
          refine (try_take hc2 hsr he2.crew he2.gate).mono ?_
          rintro e w3 ⟨rfl, p2, xs2, xo2, xq2, hc3, hp3, hxs3, hxo3, hxq3, o3, g1, g2, g3, g4⟩
          refine ⟨rfl, _, _, _, _, hc3, ?_⟩
          unfold CLeft
          rw [hcs]
          have o13 : Only (S1 co) w1 w3 := (o2.mono fun _ h => h.elim).trans o3
          have := o1.size
          have := o2.size
          exact ⟨⟨p2, xs2, xo2, xq2, _, _, hc3, hp3, hxs3, hxo3, hxq3, SrcsAt.only hsr o3 (fun x hx e => Blk.ne_ hx hc2 (by decide) e) (fun x m hx e => Blk.ne_ hx hc2 (by decide) e) (fun g cs hx e => Blk.ne_ hx hc2 (by decide) e), .inl hOc, .inr (by omega)⟩, he1.cop hc1 o13, foot2 hbp hot hOp hc hOc o1 o13⟩
        | steal j =>
          refine (try_steal hc2 hsr he2.crew he2.dqs hs0 (by omega) (he2.deq j hs0)).mono ?_
          rintro e w3 ⟨rfl, p2, xs2, xo2, xq2, hc3, hp3, hxs3, hxo3, hxq3, o3, g1, g2, g3, g4⟩
          refine ⟨rfl, _, _, _, _, hc3, ?_⟩
          unfold CLeft
          rw [hcs]
          have o13 : Only (S1 co) w1 w3 := (o2.mono fun _ h => h.elim).trans o3
          have := o1.size
          have := o2.size
          exact ⟨⟨p2, xs2, xo2, xq2, _, _, hc3, hp3, hxs3, hxo3, hxq3, SrcsAt.only hsr o3 (fun x hx e => Blk.ne_ hx hc2 (by decide) e) (fun x m hx e => Blk.ne_ hx hc2 (by decide) e) (fun g cs hx e => Blk.ne_ hx hc2 (by decide) e), .inl hOc, .inr (by omega)⟩, he1.cop hc1 o13, foot2 hbp hot hOp hc hOc o1 o13⟩
set_option maxHeartbeats 1000000 in
theorem cs_sleep {i : Nat} {b : Bop} (he : CEnv w F cb bb bg bm bc dv bd tc L) (hok : CStOk F L.length (.sleep i b)) (h : CIs w cb bb bg bc bd O co (.sleep i b)) (hf : Few (tc + 1)) :
    Calls Try.prog 26 #[.pointer (some ⟨co, 0, none⟩)] w fun e w' => e = .returned (.bool ((cstep F L (.sleep i b)).2.out != 0)) ∧ CLeft w F cb bb bg bm bc dv bd O co tc L (.sleep i b) w' := by
  obtain ⟨hok0, hok1, hi⟩ := hok
  obtain ⟨p, xc, xo, xw, hc, hp, hxc, hxo, hxw, hOc, hOp⟩ := h
  have hbp : Blk w p 109 _ := hp
  have hot : OpT 109 := by unfold OpT; decide
  have hlc := Blk.lt he.mem.cells
  have nb : ∀ {x : Nat} {t : TypeId} {cs : Array Value}, Blk w x t cs → t ≠ 64 → x ≠ bc → ¬ OpT t → ¬ S3 p bm bc x := fun hx h1 h2 h3 => s3_not hx he.mem.mem h1 h2 hbp hot h3
  have hst := bell_step he hok0 hok1 hp hc hf
  have hsz : w.heap.size ≤ w.heap.size := Nat.le_refl _
  by_cases h0 : (bstep F.base F.n L b).2.out = 0
  · have hcs : cstep F L (.sleep i b) = ((bstep F.base F.n L b).1, .sleep i (bstep F.base F.n L b).2) := by simp only [cstep]; rw [if_pos h0]
    refine left_stay (cur := _) (thn := _) (by rw [hcs]; rfl) (CStep_bell_stay hc (hst.mono ?_))
    rintro e w1 ⟨rfl, hc1, -, hp1, he1, o1⟩
    rw [h0]
    refine ⟨rfl, hc1, ?_⟩
    unfold CLeft
    rw [hcs]
    refine ⟨?_, he1, foot1 hbp hot hOp o1⟩
    exact ⟨p, xc, xo, xw, hc1, hp1, hxc.only o1 (nb hxc (by decide) (Blk.ne_ hxc he.mem.cells (by decide)) (by unfold OpT; decide)), hxo.only o1 (nb hxo (by decide) (Blk.ne_ hxo he.mem.cells (by decide)) (by unfold OpT; decide)), hxw.only o1 (nb hxw (by decide) (Blk.ne_ hxw he.mem.cells (by decide)) (by unfold OpT; decide)), .inl hOc, .inl hOp⟩
  · have HS := hst
    have hst2 : Calls Try.prog _ _ w _ := hst.mono fun e w' h => (show e = .returned (.bool true) ∧ _ ∧ _ from by rw [show ((bstep F.base F.n L b).2.out != 0) = true from by simp [h0]] at h; exact h)
    have hcs : cstep F L (.sleep i b) = ((bstep F.base F.n L b).1, .take i (takeOp F.gb)) := by simp only [cstep]; rw [if_neg h0]
    refine left_of (CStep_bell_rest (R2 := CLeft w F cb bb bg bm bc dv bd O co tc L (.sleep i b)) rfl hc hst2 ?_)
    rintro w1 ⟨hc1, hp1, he1, o1⟩
    refine (rest1_any (hxc.only o1 (nb hxc (by decide) (Blk.ne_ hxc he.mem.cells (by decide)) (by unfold OpT; decide))) (hxo.only o1 (nb hxo (by decide) (Blk.ne_ hxo he.mem.cells (by decide)) (by unfold OpT; decide))) hc1 he1.crew he1.gate).mono ?_
    rintro e w2 ⟨rfl, tp, xt, hc2, hg2, hx2, o2, g1, g2⟩
    refine ⟨rfl, _, _, _, _, hc2, ?_⟩
    unfold CLeft
    rw [hcs]
    have := o1.size
    exact ⟨⟨tp, xt, xo, xc, xw, hc2, hg2, hx2, (hxo.only o1 (nb hxo (by decide) (Blk.ne_ hxo he.mem.cells (by decide)) (by unfold OpT; decide))).only o2 (fun e => Blk.ne_ hxo hc (by decide) e), (hxc.only o1 (nb hxc (by decide) (Blk.ne_ hxc he.mem.cells (by decide)) (by unfold OpT; decide))).only o2 (fun e => Blk.ne_ hxc hc (by decide) e), (hxw.only o1 (nb hxw (by decide) (Blk.ne_ hxw he.mem.cells (by decide)) (by unfold OpT; decide))).only o2 (fun e => Blk.ne_ hxw hc (by decide) e), .inl hOc, .inr (by omega)⟩, he1.cop hc1 o2, foot2 hbp hot hOp hc hOc o1 o2⟩
set_option maxHeartbeats 1000000 in
theorem cs_take {i : Nat} {g : Gop} (he : CEnv w F cb bb bg bm bc dv bd tc L) (hok : CStOk F L.length (.take i g)) (h : CIs w cb bb bg bc bd O co (.take i g)) (hf : Few (tc + 1)) :
    Calls Try.prog 26 #[.pointer (some ⟨co, 0, none⟩)] w fun e w' => e = .returned (.bool ((cstep F L (.take i g)).2.out != 0)) ∧ CLeft w F cb bb bg bm bc dv bd O co tc L (.take i g) w' := by
  obtain ⟨hok0, hok1, hi⟩ := hok
  obtain ⟨p, xt, xo, xc, xw, hc, hp, hxt, hxo, hxc, hxw, hOc, hOp⟩ := h
  have hbp : Blk w p 103 _ := hp
  have hot : OpT 103 := by unfold OpT; decide
  have hlc := Blk.lt he.mem.cells
  have nb : ∀ {x : Nat} {t : TypeId} {cs : Array Value}, Blk w x t cs → t ≠ 64 → x ≠ bc → ¬ OpT t → ¬ S3 p bm bc x := fun hx h1 h2 h3 => s3_not hx he.mem.mem h1 h2 hbp hot h3
  have hst := gate_step he hok0 hok1 hp hc hf
  have hsz : w.heap.size ≤ w.heap.size := Nat.le_refl _
  by_cases h0 : (gstep F.gb F.actors L g).2.out = 0
  · have hcs : cstep F L (.take i g) = ((gstep F.gb F.actors L g).1, .take i (gstep F.gb F.actors L g).2) := by simp only [cstep]; rw [if_pos h0]
    refine left_stay (cur := _) (thn := _) (by rw [hcs]; rfl) (CStep_gate_stay hc (hst.mono ?_))
    rintro e w1 ⟨rfl, hc1, -, hp1, he1, o1⟩
    rw [h0]
    refine ⟨rfl, hc1, ?_⟩
    unfold CLeft
    rw [hcs]
    refine ⟨?_, he1, foot1 hbp hot hOp o1⟩
    exact ⟨p, xt, xo, xc, xw, hc1, hp1, hxt.only o1 (nb hxt (by decide) (Blk.ne_ hxt he.mem.cells (by decide)) (by unfold OpT; decide)), hxo.only o1 (nb hxo (by decide) (Blk.ne_ hxo he.mem.cells (by decide)) (by unfold OpT; decide)), hxc.only o1 (nb hxc (by decide) (Blk.ne_ hxc he.mem.cells (by decide)) (by unfold OpT; decide)), hxw.only o1 (nb hxw (by decide) (Blk.ne_ hxw he.mem.cells (by decide)) (by unfold OpT; decide)), .inl hOc, .inl hOp⟩
  · have HS := hst
    have hst2 : Calls Try.prog _ _ w _ := hst.mono fun e w' h => (show e = .returned (.bool true) ∧ _ ∧ _ from by rw [show ((gstep F.gb F.actors L g).2.out != 0) = true from by simp [h0]] at h; exact h)
    by_cases h1 : (gstep F.gb F.actors L g).2.out = 1
    · have hcs : cstep F L (.take i g) = ((gstep F.gb F.actors L g).1, .up i (gvalue (gstep F.gb F.actors L g).2.ahead (gstep F.gb F.actors L g).2.v 1) ⟨1, i, 0⟩) := by simp only [cstep]; rw [if_neg h0, if_pos h1]
      refine left_of (CStep_gate_rest2 (R2 := CLeft w F cb bb bg bm bc dv bd O co tc L (.take i g)) rfl hc hst2 ?_)
      rintro w1 ⟨hc1, hp1, he1, o1⟩
      refine (rest2_up (hxt.only o1 (nb hxt (by decide) (Blk.ne_ hxt he.mem.cells (by decide)) (by unfold OpT; decide))) (hxo.only o1 (nb hxo (by decide) (Blk.ne_ hxo he.mem.cells (by decide)) (by unfold OpT; decide))) (hxc.only o1 (nb hxc (by decide) (Blk.ne_ hxc he.mem.cells (by decide)) (by unfold OpT; decide))) (hxw.only o1 (nb hxw (by decide) (Blk.ne_ hxw he.mem.cells (by decide)) (by unfold OpT; decide))) hp1 h1 hc1 he1.crew he1.bell (by omega) (by omega)).mono ?_
      rintro e w2 ⟨rfl, bp, hc2, hb2, o2, g1⟩
      refine ⟨rfl, _, _, _, _, hc2, ?_⟩
      unfold CLeft
      rw [hcs]
      have := o1.size
      exact ⟨⟨bp, xo, xt, p, _, hc2, hb2, (hxo.only o1 (nb hxo (by decide) (Blk.ne_ hxo he.mem.cells (by decide)) (by unfold OpT; decide))).only o2 (fun e => Blk.ne_ hxo hc (by decide) e), (hxt.only o1 (nb hxt (by decide) (Blk.ne_ hxt he.mem.cells (by decide)) (by unfold OpT; decide))).only o2 (fun e => Blk.ne_ hxt hc (by decide) e), GopAt.only hp1 o2 (fun e => Blk.ne_ hbp hc (by decide) e), by rw [h1], .inl hOc, .inr (by omega), .inl hOp⟩, he1.cop hc1 o2, foot2 hbp hot hOp hc hOc o1 o2⟩
    · have hcs : cstep F L (.take i g) = ((gstep F.gb F.actors L g).1, .over 4 0) := by simp only [cstep]; rw [if_neg h0, if_neg h1]
      refine left_of (CStep_gate_rest2 (R2 := CLeft w F cb bb bg bm bc dv bd O co tc L (.take i g)) rfl hc hst2 ?_)
      rintro w1 ⟨hc1, hp1, he1, o1⟩
      refine (rest2_none (hxt.only o1 (nb hxt (by decide) (Blk.ne_ hxt he.mem.cells (by decide)) (by unfold OpT; decide))) (hxo.only o1 (nb hxo (by decide) (Blk.ne_ hxo he.mem.cells (by decide)) (by unfold OpT; decide))) hp1 h1 hc1).mono ?_
      rintro e w2 ⟨rfl, hc2, o2⟩
      refine ⟨rfl, _, _, _, _, hc2, ?_⟩
      unfold CLeft
      rw [hcs]
      exact ⟨⟨_, _, hc2, .inl hOc⟩, he1.cop hc1 o2, foot2 hbp hot hOp hc hOc o1 o2⟩
set_option maxHeartbeats 1000000 in
theorem cs_up {i : Nat} {v : Int} {b : Bop} (he : CEnv w F cb bb bg bm bc dv bd tc L) (hok : CStOk F L.length (.up i v b)) (h : CIs w cb bb bg bc bd O co (.up i v b)) (hf : Few (tc + 1)) :
    Calls Try.prog 26 #[.pointer (some ⟨co, 0, none⟩)] w fun e w' => e = .returned (.bool ((cstep F L (.up i v b)).2.out != 0)) ∧ CLeft w F cb bb bg bm bc dv bd O co tc L (.up i v b) w' := by
  obtain ⟨hok0, hok1, hi, hok4⟩ := hok
  obtain ⟨p, xo, xt, gp, g, hc, hp, hxo, hxt, hg, hv, hOc, hOp, hOg⟩ := h
  have hbp : Blk w p 109 _ := hp
  have hot : OpT 109 := by unfold OpT; decide
  have hlc := Blk.lt he.mem.cells
  have nb : ∀ {x : Nat} {t : TypeId} {cs : Array Value}, Blk w x t cs → t ≠ 64 → x ≠ bc → ¬ OpT t → ¬ S3 p bm bc x := fun hx h1 h2 h3 => s3_not hx he.mem.mem h1 h2 hbp hot h3
  have hst := bell_step he hok0 hok1 hp hc hf
  have hsz : w.heap.size ≤ w.heap.size := Nat.le_refl _
  by_cases h0 : (bstep F.base F.n L b).2.out = 0
  · have hcs : cstep F L (.up i v b) = ((bstep F.base F.n L b).1, .up i v (bstep F.base F.n L b).2) := by simp only [cstep]; rw [if_pos h0]
    refine left_stay (cur := _) (thn := _) (by rw [hcs]; rfl) (CStep_bell_stay hc (hst.mono ?_))
    rintro e w1 ⟨rfl, hc1, -, hp1, he1, o1⟩
    rw [h0]
    refine ⟨rfl, hc1, ?_⟩
    unfold CLeft
    rw [hcs]
    refine ⟨?_, he1, foot1 hbp hot hOp o1⟩
    exact ⟨p, xo, xt, gp, g, hc1, hp1, hxo.only o1 (nb hxo (by decide) (Blk.ne_ hxo he.mem.cells (by decide)) (by unfold OpT; decide)), hxt.only o1 (nb hxt (by decide) (Blk.ne_ hxt he.mem.cells (by decide)) (by unfold OpT; decide)), (GopAt.only hg o1 (s3_ne (Blk.ne_ (show Blk w gp 103 _ from hg) hbp (by decide)) (Blk.ne_ (show Blk w gp 103 _ from hg) he.mem.mem (by decide)) (Blk.ne_ (show Blk w gp 103 _ from hg) he.mem.cells (by decide)))), hv, .inl hOc, .inl hOp, .inl hOg⟩
  · have HS := hst
    have hst2 : Calls Try.prog _ _ w _ := hst.mono fun e w' h => (show e = .returned (.bool true) ∧ _ ∧ _ from by rw [show ((bstep F.base F.n L b).2.out != 0) = true from by simp [h0]] at h; exact h)
    have hcs : cstep F L (.up i v b) = ((bstep F.base F.n L b).1, .over 1 v) := by simp only [cstep]; rw [if_neg h0]
    refine left_of (CStep_bell_rest3 (R2 := CLeft w F cb bb bg bm bc dv bd O co tc L (.up i v b)) rfl hc hst2 ?_)
    rintro w1 ⟨hc1, hp1, he1, o1⟩
    refine (rest3_any (hxo.only o1 (nb hxo (by decide) (Blk.ne_ hxo he.mem.cells (by decide)) (by unfold OpT; decide))) (hxt.only o1 (nb hxt (by decide) (Blk.ne_ hxt he.mem.cells (by decide)) (by unfold OpT; decide))) (GopAt.only hg o1 (s3_ne (Blk.ne_ (show Blk w gp 103 _ from hg) hbp (by decide)) (Blk.ne_ (show Blk w gp 103 _ from hg) he.mem.mem (by decide)) (Blk.ne_ (show Blk w gp 103 _ from hg) he.mem.cells (by decide)))) hc1).mono ?_
    rintro e w2 ⟨rfl, hc2, o2⟩
    rw [← hv] at hc2
    refine ⟨rfl, _, _, _, _, hc2, ?_⟩
    unfold CLeft
    rw [hcs]
    exact ⟨⟨_, _, hc2, .inl hOc⟩, he1.cop hc1 o2, foot2 hbp hot hOp hc hOc o1 o2⟩
set_option maxHeartbeats 1000000 in
theorem cs_poll {b : Bop} (he : CEnv w F cb bb bg bm bc dv bd tc L) (hok : CStOk F L.length (.poll b)) (h : CIs w cb bb bg bc bd O co (.poll b)) (hf : Few (tc + 1)) :
    Calls Try.prog 26 #[.pointer (some ⟨co, 0, none⟩)] w fun e w' => e = .returned (.bool ((cstep F L (.poll b)).2.out != 0)) ∧ CLeft w F cb bb bg bm bc dv bd O co tc L (.poll b) w' := by
  obtain ⟨hok0, hok1⟩ := hok
  obtain ⟨p, xo, xb, hc, hp, hxo, hxb, hOc, hOp⟩ := h
  have hbp : Blk w p 109 _ := hp
  have hot : OpT 109 := by unfold OpT; decide
  have hlc := Blk.lt he.mem.cells
  have nb : ∀ {x : Nat} {t : TypeId} {cs : Array Value}, Blk w x t cs → t ≠ 64 → x ≠ bc → ¬ OpT t → ¬ S3 p bm bc x := fun hx h1 h2 h3 => s3_not hx he.mem.mem h1 h2 hbp hot h3
  have hst := bell_step he hok0 hok1 hp hc hf
  have hsz : w.heap.size ≤ w.heap.size := Nat.le_refl _
  by_cases h0 : (bstep F.base F.n L b).2.out = 0
  · have hcs : cstep F L (.poll b) = ((bstep F.base F.n L b).1, .poll (bstep F.base F.n L b).2) := by simp only [cstep]; rw [if_pos h0]
    refine left_stay (cur := _) (thn := _) (by rw [hcs]; rfl) (CStep_bell_stay hc (hst.mono ?_))
    rintro e w1 ⟨rfl, hc1, -, hp1, he1, o1⟩
    rw [h0]
    refine ⟨rfl, hc1, ?_⟩
    unfold CLeft
    rw [hcs]
    refine ⟨?_, he1, foot1 hbp hot hOp o1⟩
    exact ⟨p, xo, xb, hc1, hp1, hxo.only o1 (nb hxo (by decide) (Blk.ne_ hxo he.mem.cells (by decide)) (by unfold OpT; decide)), hxb.only o1 (nb hxb (by decide) (Blk.ne_ hxb he.mem.cells (by decide)) (by unfold OpT; decide)), .inl hOc, .inl hOp⟩
  · have HS := hst
    have hst2 : Calls Try.prog _ _ w _ := hst.mono fun e w' h => (show e = .returned (.bool true) ∧ _ ∧ _ from by rw [show ((bstep F.base F.n L b).2.out != 0) = true from by simp [h0]] at h; exact h)
    have hcs : cstep F L (.poll b) = ((bstep F.base F.n L b).1, .over (bstep F.base F.n L b).2.out 0) := by simp only [cstep]; rw [if_neg h0]
    refine left_of (CStep_bell_poll (R2 := CLeft w F cb bb bg bm bc dv bd O co tc L (.poll b)) rfl hc hst2 ?_)
    rintro w1 ⟨hc1, hp1, he1, o1⟩
    refine (poll1c_any (hxo.only o1 (nb hxo (by decide) (Blk.ne_ hxo he.mem.cells (by decide)) (by unfold OpT; decide))) (hxb.only o1 (nb hxb (by decide) (Blk.ne_ hxb he.mem.cells (by decide)) (by unfold OpT; decide))) hp1 hc1).mono ?_
    rintro e w2 ⟨rfl, hc2, o2⟩
    refine ⟨rfl, _, _, _, _, hc2, ?_⟩
    unfold CLeft
    rw [hcs]
    exact ⟨⟨_, _, hc2, .inl hOc⟩, he1.cop hc1 o2, foot2 hbp hot hOp hc hOc o1 o2⟩
/-- A step of a crew's operation. -/
theorem COp_step (he : CEnv w F cb bb bg bm bc dv bd tc L) (hok : CStOk F L.length st) (h : CIs w cb bb bg bc bd O co st) (hf : Few (tc + 1)) (h0 : st.out = 0) :
    Calls Try.prog 26 #[.pointer (some ⟨co, 0, none⟩)] w fun e w' => e = .returned (.bool ((cstep F L st).2.out != 0)) ∧ CLeft w F cb bb bg bm bc dv bd O co tc L st w' := by
  cases st with
  | over out v => exact absurd h0 hok.1
  | ring b => exact cs_ring he hok h hf
  | put v g => exact cs_put he hok h hf
  | push i v d => exact cs_push he hok h hf
  | src s rest =>
    cases s with
    | dq i d => exact cs_srcd he hok h hf
    | gt g => exact cs_srcg he hok h hf
  | sleep i b => exact cs_sleep he hok h hf
  | take i g => exact cs_take he hok h hf
  | up i v b => exact cs_up he hok h hf
  | poll b => exact cs_poll he hok h hf
theorem COp_idle (h : CIs w cb bb bg bc bd O co st) (h0 : st.out ≠ 0) :
    Calls Try.prog 26 #[.pointer (some ⟨co, 0, none⟩)] w fun e w' => e = .returned (.bool true) ∧ w = w' := by
  obtain ⟨c, t, hc⟩ := h.cop
  exact CStep_over hc h0
end
end Go.Proofs.Ytdoaipjdldknaaa
