/-
  Package deque: a step as one function of the cells and the operation.
-/
import Derived.Test.YtdoaipjdldknaaaDeq
import Derived.Test.YtdoaipjdldknaaaFam
import Derived.Deep.LoopGhost
namespace Go.Proofs.Ytdoaipjdldknaaa
open Go.RowKit
set_option linter.unusedVariables false

section
variable {w : World} {bo bd bm bc nx : Nat} {base n out v t b tc : Int} {won : Bool} {L : List Int}
theorem DStep_over (h : DopAt w bo bd nx out v t b won) (ho : out ≠ 0) : Calls Try.prog 106 #[.pointer (some ⟨bo, 0, none⟩)] w fun e w' => e = .returned (.bool true) ∧ w = w' := by
  go_enter Try.func106, Try.ntmps106
  go_wp2_with fail
  refine (DOver_over h ho).mono ?_
  rintro e w' ⟨rfl, rfl⟩
  go_wp2_with fail
  refine (DOver_over h ho).mono ?_
  rintro e w' ⟨rfl, rfl⟩
  go_wp2_with fail
  go_ret
  exact ⟨rfl, rfl⟩
theorem DStep_pushBottom {nx' : Nat} {out' v' t' b' tc' : Int} {won' : Bool} {L' : List Int} (h : DopAt w bo bd 58 0 v t b won)
    (hc : Calls Try.prog 58 #[.pointer (some ⟨bo, 0, none⟩)] w fun e w' => e = .returned (.tuple #[]) ∧ DopAt w' bo bd nx' out' v' t' b' won' ∧ MemAt w' bm bc L' tc' ∧ Only (S3 bo bm bc) w w') :
    Calls Try.prog 106 #[.pointer (some ⟨bo, 0, none⟩)] w fun e w' => e = .returned (.bool (out' != 0)) ∧ DopAt w' bo bd nx' out' v' t' b' won' ∧ MemAt w' bm bc L' tc' ∧ Only (S3 bo bm bc) w w' := by
  have c1 := h.c1
  have HC := Lib.hid hc
  have H := hide h
  clear hc h
  go_enter Try.func106, Try.ntmps106
  go_wp2_with fail
  refine (DOver_pend H.out).mono ?_
  rintro e w' ⟨rfl, rfl⟩
  go_wp2_with fail
  refine HC.out.mono ?_
  rintro e w1 ⟨rfl, h1, h2, h3⟩
  have H1 := hide h1
  have H2 := hide h2
  have H3 := hide h3
  clear h1 h2 h3 c1
  go_wp2_with fail
  by_cases h0 : out' = 0
  · subst h0
    refine (DOver_pend H1.out).mono ?_
    rintro e w' ⟨rfl, rfl⟩
    go_wp2_with fail
    go_ret
    exact ⟨rfl, H1.out, H2.out, H3.out⟩
  · have hb : (out' != 0) = true := by simp [h0]
    refine (DOver_over H1.out h0).mono ?_
    rintro e w' ⟨rfl, rfl⟩
    go_wp2_with fail
    go_ret
    exact ⟨by rw [hb]; rfl, H1.out, H2.out, H3.out⟩
theorem DStep_pushTop {nx' : Nat} {out' v' t' b' tc' : Int} {won' : Bool} {L' : List Int} (h : DopAt w bo bd 73 0 v t b won)
    (hc : Calls Try.prog 73 #[.pointer (some ⟨bo, 0, none⟩)] w fun e w' => e = .returned (.tuple #[]) ∧ DopAt w' bo bd nx' out' v' t' b' won' ∧ MemAt w' bm bc L' tc' ∧ Only (S3 bo bm bc) w w') :
    Calls Try.prog 106 #[.pointer (some ⟨bo, 0, none⟩)] w fun e w' => e = .returned (.bool (out' != 0)) ∧ DopAt w' bo bd nx' out' v' t' b' won' ∧ MemAt w' bm bc L' tc' ∧ Only (S3 bo bm bc) w w' := by
  have c1 := h.c1
  have HC := Lib.hid hc
  have H := hide h
  clear hc h
  go_enter Try.func106, Try.ntmps106
  go_wp2_with fail
  refine (DOver_pend H.out).mono ?_
  rintro e w' ⟨rfl, rfl⟩
  go_wp2_with fail
  refine HC.out.mono ?_
  rintro e w1 ⟨rfl, h1, h2, h3⟩
  have H1 := hide h1
  have H2 := hide h2
  have H3 := hide h3
  clear h1 h2 h3 c1
  go_wp2_with fail
  by_cases h0 : out' = 0
  · subst h0
    refine (DOver_pend H1.out).mono ?_
    rintro e w' ⟨rfl, rfl⟩
    go_wp2_with fail
    go_ret
    exact ⟨rfl, H1.out, H2.out, H3.out⟩
  · have hb : (out' != 0) = true := by simp [h0]
    refine (DOver_over H1.out h0).mono ?_
    rintro e w' ⟨rfl, rfl⟩
    go_wp2_with fail
    go_ret
    exact ⟨by rw [hb]; rfl, H1.out, H2.out, H3.out⟩
theorem DStep_pushSlot {nx' : Nat} {out' v' t' b' tc' : Int} {won' : Bool} {L' : List Int} (h : DopAt w bo bd 77 0 v t b won)
    (hc : Calls Try.prog 77 #[.pointer (some ⟨bo, 0, none⟩)] w fun e w' => e = .returned (.tuple #[]) ∧ DopAt w' bo bd nx' out' v' t' b' won' ∧ MemAt w' bm bc L' tc' ∧ Only (S3 bo bm bc) w w') :
    Calls Try.prog 106 #[.pointer (some ⟨bo, 0, none⟩)] w fun e w' => e = .returned (.bool (out' != 0)) ∧ DopAt w' bo bd nx' out' v' t' b' won' ∧ MemAt w' bm bc L' tc' ∧ Only (S3 bo bm bc) w w' := by
  have c1 := h.c1
  have HC := Lib.hid hc
  have H := hide h
  clear hc h
  go_enter Try.func106, Try.ntmps106
  go_wp2_with fail
  refine (DOver_pend H.out).mono ?_
  rintro e w' ⟨rfl, rfl⟩
  go_wp2_with fail
  refine HC.out.mono ?_
  rintro e w1 ⟨rfl, h1, h2, h3⟩
  have H1 := hide h1
  have H2 := hide h2
  have H3 := hide h3
  clear h1 h2 h3 c1
  go_wp2_with fail
  by_cases h0 : out' = 0
  · subst h0
    refine (DOver_pend H1.out).mono ?_
    rintro e w' ⟨rfl, rfl⟩
    go_wp2_with fail
    go_ret
    exact ⟨rfl, H1.out, H2.out, H3.out⟩
  · have hb : (out' != 0) = true := by simp [h0]
    refine (DOver_over H1.out h0).mono ?_
    rintro e w' ⟨rfl, rfl⟩
    go_wp2_with fail
    go_ret
    exact ⟨by rw [hb]; rfl, H1.out, H2.out, H3.out⟩
theorem DStep_pushDone {nx' : Nat} {out' v' t' b' tc' : Int} {won' : Bool} {L' : List Int} (h : DopAt w bo bd 83 0 v t b won)
    (hc : Calls Try.prog 83 #[.pointer (some ⟨bo, 0, none⟩)] w fun e w' => e = .returned (.tuple #[]) ∧ DopAt w' bo bd nx' out' v' t' b' won' ∧ MemAt w' bm bc L' tc' ∧ Only (S3 bo bm bc) w w') :
    Calls Try.prog 106 #[.pointer (some ⟨bo, 0, none⟩)] w fun e w' => e = .returned (.bool (out' != 0)) ∧ DopAt w' bo bd nx' out' v' t' b' won' ∧ MemAt w' bm bc L' tc' ∧ Only (S3 bo bm bc) w w' := by
  have c1 := h.c1
  have HC := Lib.hid hc
  have H := hide h
  clear hc h
  go_enter Try.func106, Try.ntmps106
  go_wp2_with fail
  refine (DOver_pend H.out).mono ?_
  rintro e w' ⟨rfl, rfl⟩
  go_wp2_with fail
  refine HC.out.mono ?_
  rintro e w1 ⟨rfl, h1, h2, h3⟩
  have H1 := hide h1
  have H2 := hide h2
  have H3 := hide h3
  clear h1 h2 h3 c1
  go_wp2_with fail
  by_cases h0 : out' = 0
  · subst h0
    refine (DOver_pend H1.out).mono ?_
    rintro e w' ⟨rfl, rfl⟩
    go_wp2_with fail
    go_ret
    exact ⟨rfl, H1.out, H2.out, H3.out⟩
  · have hb : (out' != 0) = true := by simp [h0]
    refine (DOver_over H1.out h0).mono ?_
    rintro e w' ⟨rfl, rfl⟩
    go_wp2_with fail
    go_ret
    exact ⟨by rw [hb]; rfl, H1.out, H2.out, H3.out⟩
theorem DStep_popBottom {nx' : Nat} {out' v' t' b' tc' : Int} {won' : Bool} {L' : List Int} (h : DopAt w bo bd 61 0 v t b won)
    (hc : Calls Try.prog 61 #[.pointer (some ⟨bo, 0, none⟩)] w fun e w' => e = .returned (.tuple #[]) ∧ DopAt w' bo bd nx' out' v' t' b' won' ∧ MemAt w' bm bc L' tc' ∧ Only (S3 bo bm bc) w w') :
    Calls Try.prog 106 #[.pointer (some ⟨bo, 0, none⟩)] w fun e w' => e = .returned (.bool (out' != 0)) ∧ DopAt w' bo bd nx' out' v' t' b' won' ∧ MemAt w' bm bc L' tc' ∧ Only (S3 bo bm bc) w w' := by
  have c1 := h.c1
  have HC := Lib.hid hc
  have H := hide h
  clear hc h
  go_enter Try.func106, Try.ntmps106
  go_wp2_with fail
  refine (DOver_pend H.out).mono ?_
  rintro e w' ⟨rfl, rfl⟩
  go_wp2_with fail
  refine HC.out.mono ?_
  rintro e w1 ⟨rfl, h1, h2, h3⟩
  have H1 := hide h1
  have H2 := hide h2
  have H3 := hide h3
  clear h1 h2 h3 c1
  go_wp2_with fail
  by_cases h0 : out' = 0
  · subst h0
    refine (DOver_pend H1.out).mono ?_
    rintro e w' ⟨rfl, rfl⟩
    go_wp2_with fail
    go_ret
    exact ⟨rfl, H1.out, H2.out, H3.out⟩
  · have hb : (out' != 0) = true := by simp [h0]
    refine (DOver_over H1.out h0).mono ?_
    rintro e w' ⟨rfl, rfl⟩
    go_wp2_with fail
    go_ret
    exact ⟨by rw [hb]; rfl, H1.out, H2.out, H3.out⟩
theorem DStep_popLower {nx' : Nat} {out' v' t' b' tc' : Int} {won' : Bool} {L' : List Int} (h : DopAt w bo bd 75 0 v t b won)
    (hc : Calls Try.prog 75 #[.pointer (some ⟨bo, 0, none⟩)] w fun e w' => e = .returned (.tuple #[]) ∧ DopAt w' bo bd nx' out' v' t' b' won' ∧ MemAt w' bm bc L' tc' ∧ Only (S3 bo bm bc) w w') :
    Calls Try.prog 106 #[.pointer (some ⟨bo, 0, none⟩)] w fun e w' => e = .returned (.bool (out' != 0)) ∧ DopAt w' bo bd nx' out' v' t' b' won' ∧ MemAt w' bm bc L' tc' ∧ Only (S3 bo bm bc) w w' := by
  have c1 := h.c1
  have HC := Lib.hid hc
  have H := hide h
  clear hc h
  go_enter Try.func106, Try.ntmps106
  go_wp2_with fail
  refine (DOver_pend H.out).mono ?_
  rintro e w' ⟨rfl, rfl⟩
  go_wp2_with fail
  refine HC.out.mono ?_
  rintro e w1 ⟨rfl, h1, h2, h3⟩
  have H1 := hide h1
  have H2 := hide h2
  have H3 := hide h3
  clear h1 h2 h3 c1
  go_wp2_with fail
  by_cases h0 : out' = 0
  · subst h0
    refine (DOver_pend H1.out).mono ?_
    rintro e w' ⟨rfl, rfl⟩
    go_wp2_with fail
    go_ret
    exact ⟨rfl, H1.out, H2.out, H3.out⟩
  · have hb : (out' != 0) = true := by simp [h0]
    refine (DOver_over H1.out h0).mono ?_
    rintro e w' ⟨rfl, rfl⟩
    go_wp2_with fail
    go_ret
    exact ⟨by rw [hb]; rfl, H1.out, H2.out, H3.out⟩
theorem DStep_popTop {nx' : Nat} {out' v' t' b' tc' : Int} {won' : Bool} {L' : List Int} (h : DopAt w bo bd 80 0 v t b won)
    (hc : Calls Try.prog 80 #[.pointer (some ⟨bo, 0, none⟩)] w fun e w' => e = .returned (.tuple #[]) ∧ DopAt w' bo bd nx' out' v' t' b' won' ∧ MemAt w' bm bc L' tc' ∧ Only (S3 bo bm bc) w w') :
    Calls Try.prog 106 #[.pointer (some ⟨bo, 0, none⟩)] w fun e w' => e = .returned (.bool (out' != 0)) ∧ DopAt w' bo bd nx' out' v' t' b' won' ∧ MemAt w' bm bc L' tc' ∧ Only (S3 bo bm bc) w w' := by
  have c1 := h.c1
  have HC := Lib.hid hc
  have H := hide h
  clear hc h
  go_enter Try.func106, Try.ntmps106
  go_wp2_with fail
  refine (DOver_pend H.out).mono ?_
  rintro e w' ⟨rfl, rfl⟩
  go_wp2_with fail
  refine HC.out.mono ?_
  rintro e w1 ⟨rfl, h1, h2, h3⟩
  have H1 := hide h1
  have H2 := hide h2
  have H3 := hide h3
  clear h1 h2 h3 c1
  go_wp2_with fail
  by_cases h0 : out' = 0
  · subst h0
    refine (DOver_pend H1.out).mono ?_
    rintro e w' ⟨rfl, rfl⟩
    go_wp2_with fail
    go_ret
    exact ⟨rfl, H1.out, H2.out, H3.out⟩
  · have hb : (out' != 0) = true := by simp [h0]
    refine (DOver_over H1.out h0).mono ?_
    rintro e w' ⟨rfl, rfl⟩
    go_wp2_with fail
    go_ret
    exact ⟨by rw [hb]; rfl, H1.out, H2.out, H3.out⟩
theorem DStep_popSlot {nx' : Nat} {out' v' t' b' tc' : Int} {won' : Bool} {L' : List Int} (h : DopAt w bo bd 85 0 v t b won)
    (hc : Calls Try.prog 85 #[.pointer (some ⟨bo, 0, none⟩)] w fun e w' => e = .returned (.tuple #[]) ∧ DopAt w' bo bd nx' out' v' t' b' won' ∧ MemAt w' bm bc L' tc' ∧ Only (S3 bo bm bc) w w') :
    Calls Try.prog 106 #[.pointer (some ⟨bo, 0, none⟩)] w fun e w' => e = .returned (.bool (out' != 0)) ∧ DopAt w' bo bd nx' out' v' t' b' won' ∧ MemAt w' bm bc L' tc' ∧ Only (S3 bo bm bc) w w' := by
  have c1 := h.c1
  have HC := Lib.hid hc
  have H := hide h
  clear hc h
  go_enter Try.func106, Try.ntmps106
  go_wp2_with fail
  refine (DOver_pend H.out).mono ?_
  rintro e w' ⟨rfl, rfl⟩
  go_wp2_with fail
  refine HC.out.mono ?_
  rintro e w1 ⟨rfl, h1, h2, h3⟩
  have H1 := hide h1
  have H2 := hide h2
  have H3 := hide h3
  clear h1 h2 h3 c1
  go_wp2_with fail
  by_cases h0 : out' = 0
  · subst h0
    refine (DOver_pend H1.out).mono ?_
    rintro e w' ⟨rfl, rfl⟩
    go_wp2_with fail
    go_ret
    exact ⟨rfl, H1.out, H2.out, H3.out⟩
  · have hb : (out' != 0) = true := by simp [h0]
    refine (DOver_over H1.out h0).mono ?_
    rintro e w' ⟨rfl, rfl⟩
    go_wp2_with fail
    go_ret
    exact ⟨by rw [hb]; rfl, H1.out, H2.out, H3.out⟩
theorem DStep_popSwap {nx' : Nat} {out' v' t' b' tc' : Int} {won' : Bool} {L' : List Int} (h : DopAt w bo bd 88 0 v t b won)
    (hc : Calls Try.prog 88 #[.pointer (some ⟨bo, 0, none⟩)] w fun e w' => e = .returned (.tuple #[]) ∧ DopAt w' bo bd nx' out' v' t' b' won' ∧ MemAt w' bm bc L' tc' ∧ Only (S3 bo bm bc) w w') :
    Calls Try.prog 106 #[.pointer (some ⟨bo, 0, none⟩)] w fun e w' => e = .returned (.bool (out' != 0)) ∧ DopAt w' bo bd nx' out' v' t' b' won' ∧ MemAt w' bm bc L' tc' ∧ Only (S3 bo bm bc) w w' := by
  have c1 := h.c1
  have HC := Lib.hid hc
  have H := hide h
  clear hc h
  go_enter Try.func106, Try.ntmps106
  go_wp2_with fail
  refine (DOver_pend H.out).mono ?_
  rintro e w' ⟨rfl, rfl⟩
  go_wp2_with fail
  refine HC.out.mono ?_
  rintro e w1 ⟨rfl, h1, h2, h3⟩
  have H1 := hide h1
  have H2 := hide h2
  have H3 := hide h3
  clear h1 h2 h3 c1
  go_wp2_with fail
  by_cases h0 : out' = 0
  · subst h0
    refine (DOver_pend H1.out).mono ?_
    rintro e w' ⟨rfl, rfl⟩
    go_wp2_with fail
    go_ret
    exact ⟨rfl, H1.out, H2.out, H3.out⟩
  · have hb : (out' != 0) = true := by simp [h0]
    refine (DOver_over H1.out h0).mono ?_
    rintro e w' ⟨rfl, rfl⟩
    go_wp2_with fail
    go_ret
    exact ⟨by rw [hb]; rfl, H1.out, H2.out, H3.out⟩
theorem DStep_popBack {nx' : Nat} {out' v' t' b' tc' : Int} {won' : Bool} {L' : List Int} (h : DopAt w bo bd 86 0 v t b won)
    (hc : Calls Try.prog 86 #[.pointer (some ⟨bo, 0, none⟩)] w fun e w' => e = .returned (.tuple #[]) ∧ DopAt w' bo bd nx' out' v' t' b' won' ∧ MemAt w' bm bc L' tc' ∧ Only (S3 bo bm bc) w w') :
    Calls Try.prog 106 #[.pointer (some ⟨bo, 0, none⟩)] w fun e w' => e = .returned (.bool (out' != 0)) ∧ DopAt w' bo bd nx' out' v' t' b' won' ∧ MemAt w' bm bc L' tc' ∧ Only (S3 bo bm bc) w w' := by
  have c1 := h.c1
  have HC := Lib.hid hc
  have H := hide h
  clear hc h
  go_enter Try.func106, Try.ntmps106
  go_wp2_with fail
  refine (DOver_pend H.out).mono ?_
  rintro e w' ⟨rfl, rfl⟩
  go_wp2_with fail
  refine HC.out.mono ?_
  rintro e w1 ⟨rfl, h1, h2, h3⟩
  have H1 := hide h1
  have H2 := hide h2
  have H3 := hide h3
  clear h1 h2 h3 c1
  go_wp2_with fail
  by_cases h0 : out' = 0
  · subst h0
    refine (DOver_pend H1.out).mono ?_
    rintro e w' ⟨rfl, rfl⟩
    go_wp2_with fail
    go_ret
    exact ⟨rfl, H1.out, H2.out, H3.out⟩
  · have hb : (out' != 0) = true := by simp [h0]
    refine (DOver_over H1.out h0).mono ?_
    rintro e w' ⟨rfl, rfl⟩
    go_wp2_with fail
    go_ret
    exact ⟨by rw [hb]; rfl, H1.out, H2.out, H3.out⟩
theorem DStep_stealTop {nx' : Nat} {out' v' t' b' tc' : Int} {won' : Bool} {L' : List Int} (h : DopAt w bo bd 64 0 v t b won)
    (hc : Calls Try.prog 64 #[.pointer (some ⟨bo, 0, none⟩)] w fun e w' => e = .returned (.tuple #[]) ∧ DopAt w' bo bd nx' out' v' t' b' won' ∧ MemAt w' bm bc L' tc' ∧ Only (S3 bo bm bc) w w') :
    Calls Try.prog 106 #[.pointer (some ⟨bo, 0, none⟩)] w fun e w' => e = .returned (.bool (out' != 0)) ∧ DopAt w' bo bd nx' out' v' t' b' won' ∧ MemAt w' bm bc L' tc' ∧ Only (S3 bo bm bc) w w' := by
  have c1 := h.c1
  have HC := Lib.hid hc
  have H := hide h
  clear hc h
  go_enter Try.func106, Try.ntmps106
  go_wp2_with fail
  refine (DOver_pend H.out).mono ?_
  rintro e w' ⟨rfl, rfl⟩
  go_wp2_with fail
  refine HC.out.mono ?_
  rintro e w1 ⟨rfl, h1, h2, h3⟩
  have H1 := hide h1
  have H2 := hide h2
  have H3 := hide h3
  clear h1 h2 h3 c1
  go_wp2_with fail
  by_cases h0 : out' = 0
  · subst h0
    refine (DOver_pend H1.out).mono ?_
    rintro e w' ⟨rfl, rfl⟩
    go_wp2_with fail
    go_ret
    exact ⟨rfl, H1.out, H2.out, H3.out⟩
  · have hb : (out' != 0) = true := by simp [h0]
    refine (DOver_over H1.out h0).mono ?_
    rintro e w' ⟨rfl, rfl⟩
    go_wp2_with fail
    go_ret
    exact ⟨by rw [hb]; rfl, H1.out, H2.out, H3.out⟩
theorem DStep_stealBottom {nx' : Nat} {out' v' t' b' tc' : Int} {won' : Bool} {L' : List Int} (h : DopAt w bo bd 76 0 v t b won)
    (hc : Calls Try.prog 76 #[.pointer (some ⟨bo, 0, none⟩)] w fun e w' => e = .returned (.tuple #[]) ∧ DopAt w' bo bd nx' out' v' t' b' won' ∧ MemAt w' bm bc L' tc' ∧ Only (S3 bo bm bc) w w') :
    Calls Try.prog 106 #[.pointer (some ⟨bo, 0, none⟩)] w fun e w' => e = .returned (.bool (out' != 0)) ∧ DopAt w' bo bd nx' out' v' t' b' won' ∧ MemAt w' bm bc L' tc' ∧ Only (S3 bo bm bc) w w' := by
  have c1 := h.c1
  have HC := Lib.hid hc
  have H := hide h
  clear hc h
  go_enter Try.func106, Try.ntmps106
  go_wp2_with fail
  refine (DOver_pend H.out).mono ?_
  rintro e w' ⟨rfl, rfl⟩
  go_wp2_with fail
  refine HC.out.mono ?_
  rintro e w1 ⟨rfl, h1, h2, h3⟩
  have H1 := hide h1
  have H2 := hide h2
  have H3 := hide h3
  clear h1 h2 h3 c1
  go_wp2_with fail
  by_cases h0 : out' = 0
  · subst h0
    refine (DOver_pend H1.out).mono ?_
    rintro e w' ⟨rfl, rfl⟩
    go_wp2_with fail
    go_ret
    exact ⟨rfl, H1.out, H2.out, H3.out⟩
  · have hb : (out' != 0) = true := by simp [h0]
    refine (DOver_over H1.out h0).mono ?_
    rintro e w' ⟨rfl, rfl⟩
    go_wp2_with fail
    go_ret
    exact ⟨by rw [hb]; rfl, H1.out, H2.out, H3.out⟩
theorem DStep_stealSlot {nx' : Nat} {out' v' t' b' tc' : Int} {won' : Bool} {L' : List Int} (h : DopAt w bo bd 81 0 v t b won)
    (hc : Calls Try.prog 81 #[.pointer (some ⟨bo, 0, none⟩)] w fun e w' => e = .returned (.tuple #[]) ∧ DopAt w' bo bd nx' out' v' t' b' won' ∧ MemAt w' bm bc L' tc' ∧ Only (S3 bo bm bc) w w') :
    Calls Try.prog 106 #[.pointer (some ⟨bo, 0, none⟩)] w fun e w' => e = .returned (.bool (out' != 0)) ∧ DopAt w' bo bd nx' out' v' t' b' won' ∧ MemAt w' bm bc L' tc' ∧ Only (S3 bo bm bc) w w' := by
  have c1 := h.c1
  have HC := Lib.hid hc
  have H := hide h
  clear hc h
  go_enter Try.func106, Try.ntmps106
  go_wp2_with fail
  refine (DOver_pend H.out).mono ?_
  rintro e w' ⟨rfl, rfl⟩
  go_wp2_with fail
  refine HC.out.mono ?_
  rintro e w1 ⟨rfl, h1, h2, h3⟩
  have H1 := hide h1
  have H2 := hide h2
  have H3 := hide h3
  clear h1 h2 h3 c1
  go_wp2_with fail
  by_cases h0 : out' = 0
  · subst h0
    refine (DOver_pend H1.out).mono ?_
    rintro e w' ⟨rfl, rfl⟩
    go_wp2_with fail
    go_ret
    exact ⟨rfl, H1.out, H2.out, H3.out⟩
  · have hb : (out' != 0) = true := by simp [h0]
    refine (DOver_over H1.out h0).mono ?_
    rintro e w' ⟨rfl, rfl⟩
    go_wp2_with fail
    go_ret
    exact ⟨by rw [hb]; rfl, H1.out, H2.out, H3.out⟩
theorem DStep_stealSwap {nx' : Nat} {out' v' t' b' tc' : Int} {won' : Bool} {L' : List Int} (h : DopAt w bo bd 87 0 v t b won)
    (hc : Calls Try.prog 87 #[.pointer (some ⟨bo, 0, none⟩)] w fun e w' => e = .returned (.tuple #[]) ∧ DopAt w' bo bd nx' out' v' t' b' won' ∧ MemAt w' bm bc L' tc' ∧ Only (S3 bo bm bc) w w') :
    Calls Try.prog 106 #[.pointer (some ⟨bo, 0, none⟩)] w fun e w' => e = .returned (.bool (out' != 0)) ∧ DopAt w' bo bd nx' out' v' t' b' won' ∧ MemAt w' bm bc L' tc' ∧ Only (S3 bo bm bc) w w' := by
  have c1 := h.c1
  have HC := Lib.hid hc
  have H := hide h
  clear hc h
  go_enter Try.func106, Try.ntmps106
  go_wp2_with fail
  refine (DOver_pend H.out).mono ?_
  rintro e w' ⟨rfl, rfl⟩
  go_wp2_with fail
  refine HC.out.mono ?_
  rintro e w1 ⟨rfl, h1, h2, h3⟩
  have H1 := hide h1
  have H2 := hide h2
  have H3 := hide h3
  clear h1 h2 h3 c1
  go_wp2_with fail
  by_cases h0 : out' = 0
  · subst h0
    refine (DOver_pend H1.out).mono ?_
    rintro e w' ⟨rfl, rfl⟩
    go_wp2_with fail
    go_ret
    exact ⟨rfl, H1.out, H2.out, H3.out⟩
  · have hb : (out' != 0) = true := by simp [h0]
    refine (DOver_over H1.out h0).mono ?_
    rintro e w' ⟨rfl, rfl⟩
    go_wp2_with fail
    go_ret
    exact ⟨by rw [hb]; rfl, H1.out, H2.out, H3.out⟩
end
/-- An operation's fields; k: what it does next. -/
structure Dop where
  k : Int
  out : Int
  v : Int
  t : Int
  b : Int
  won : Bool
def dnF (k : Int) : Nat := if k = 1 then 58 else if k = 2 then 73 else if k = 3 then 77 else if k = 4 then 83 else if k = 5 then 61 else if k = 6 then 75 else if k = 7 then 80 else if k = 8 then 85 else if k = 9 then 88 else if k = 10 then 86 else if k = 11 then 64 else if k = 12 then 76 else if k = 13 then 81 else 87
def DopIs (w : World) (bo bd : Nat) (o : Dop) : Prop := DopAt w bo bd (dnF o.k) o.out o.v o.t o.b o.won
def dpush (base n : Int) (L : List Int) (o : Dop) : List Int × Dop :=
  if o.k = 1 then (L, { o with k := 2, b := at_ L (base + 1) })
  else if o.k = 2 then (L, { o with k := 3, t := at_ L base, out := dfull n o.b (at_ L base) })
  else if o.k = 3 then (L.set (dslotOf base n o.b).toNat o.v, { o with k := 4 })
  else (L.set (base + 1).toNat (IntKind.u64.wrap (o.b + 1)), { o with out := 1, v := 0 })
def dpop (base n : Int) (L : List Int) (o : Dop) : List Int × Dop :=
  if o.k = 5 then (L, { o with k := 6, b := at_ L (base + 1) })
  else if o.k = 6 then (L.set (base + 1).toNat (IntKind.u64.wrap (o.b - 1)), { o with k := 7 })
  else if o.k = 7 then (L, { o with k := if IntKind.u64.wrap (o.b - 1) < at_ L base then 10 else 8, t := at_ L base })
  else if o.k = 8 then (L, { o with k := 9, v := at_ L (dslotOf base n (IntKind.u64.wrap (o.b - 1))), out := dlast o.t o.b })
  else if o.k = 9 then (dswapL base L o.t, { o with k := 10, won := dswapB base L o.t })
  else (L.set (base + 1).toNat o.b, { o with out := dwon o.won })
def dsteal (base n : Int) (L : List Int) (o : Dop) : List Int × Dop :=
  if o.k = 11 then (L, { o with k := 12, t := at_ L base })
  else if o.k = 12 then (L, { o with k := 13, b := at_ L (base + 1), out := dnone o.t (at_ L (base + 1)) })
  else if o.k = 13 then (L, { o with k := 14, v := at_ L (dslotOf base n o.t) })
  else (dswapL base L o.t, { o with out := if dswapB base L o.t then 1 else 6 })
/-- One step: the cells and the operation behind it. -/
def dstep (base n : Int) (L : List Int) (o : Dop) : List Int × Dop :=
  if o.out ≠ 0 then (L, o) else if o.k ≤ 4 then dpush base n L o else if o.k ≤ 10 then dpop base n L o else dsteal base n L o
theorem dstep_over (base n : Int) (L : List Int) {o : Dop} (h : o.out ≠ 0) : dstep base n L o = (L, o) := by simp [dstep, h]
theorem dstep_push (base n : Int) (L : List Int) {o : Dop} (h : o.out = 0) (hk : o.k ≤ 4) : dstep base n L o = dpush base n L o := by simp [dstep, h, hk]
theorem dstep_pop (base n : Int) (L : List Int) {o : Dop} (h : o.out = 0) (hk : 4 < o.k) (hk2 : o.k ≤ 10) : dstep base n L o = dpop base n L o := by
  unfold dstep
  rw [if_neg (by simp [h]), if_neg (by omega), if_pos hk2]
theorem dstep_steal (base n : Int) (L : List Int) {o : Dop} (h : o.out = 0) (hk : 10 < o.k) : dstep base n L o = dsteal base n L o := by
  unfold dstep
  rw [if_neg (by simp [h]), if_neg (by omega), if_neg (by omega)]
/-- By cases. -/
theorem dstep_by {P : List Int × Dop → Prop} (base n : Int) (L : List Int) (o : Dop) (h0 : P (L, o)) (h1 : P (dpush base n L o)) (h2 : P (dpop base n L o)) (h3 : P (dsteal base n L o)) : P (dstep base n L o) := by
  unfold dstep
  split
  · exact h0
  · split
    · exact h1
    · split
      · exact h2
      · exact h3
def dtick (o : Dop) : Int := if o.out ≠ 0 then 0 else 1
/-- An operation that fits. -/
structure DopOk (o : Dop) : Prop where
  k : 1 ≤ o.k ∧ o.k ≤ 14
  v : U64 o.v
  t : U64 o.t
  b : U64 o.b
/-- A deque and its memory. -/
structure DeqEnv (w : World) (bd bm bc : Nat) (base n tc : Int) (L : List Int) : Prop where
  deq : DeqAt w bd bm base n
  mem : MemAt w bm bc L tc
  few : Few tc
  u : AllU L
  n1 : 1 ≤ n
  n64 : n ≤ 64
  b0 : 0 ≤ base
  b1 : base ≤ 70000
  in_ : base + 2 + n ≤ L.length
theorem dswapL_len (base : Int) (L : List Int) (t : Int) : (dswapL base L t).length = L.length := by unfold dswapL; split <;> simp
theorem dstep_len (base n : Int) (L : List Int) (o : Dop) : (dstep base n L o).1.length = L.length := by
  refine dstep_by (P := fun r => r.1.length = L.length) base n L o rfl ?_ ?_ ?_
  · unfold dpush; (repeat' split) <;> simp
  · unfold dpop; (repeat' split) <;> simp [dswapL_len]
  · unfold dsteal; (repeat' split) <;> simp [dswapL_len]
theorem dswapL_u {base t : Int} {L : List Int} (h : AllU L) : AllU (dswapL base L t) := by
  unfold dswapL
  split
  · exact h.set _ (u64_wrap _)
  · exact h
theorem dstep_u (base n : Int) (L : List Int) (o : Dop) (h : AllU L) (hv : U64 o.v) (hb : U64 o.b) : AllU (dstep base n L o).1 := by
  refine dstep_by (P := fun r => AllU r.1) base n L o h ?_ ?_ ?_
  · unfold dpush; (repeat' split) <;> first | exact h | exact h.set _ hv | exact h.set _ (u64_wrap _)
  · unfold dpop; (repeat' split) <;> first | exact h | exact h.set _ hb | exact h.set _ (u64_wrap _) | exact dswapL_u h
  · unfold dsteal; (repeat' split) <;> first | exact h | exact dswapL_u h
theorem dstep_ok (base n : Int) (L : List Int) (o : Dop) (h : AllU L) (ho : DopOk o) : DopOk (dstep base n L o).2 := by
  have a := h.at_
  obtain ⟨h1, h2, h3, h4⟩ := ho
  have q7 : 1 ≤ (if IntKind.u64.wrap (o.b - 1) < at_ L base then (10 : Int) else 8) ∧ (if IntKind.u64.wrap (o.b - 1) < at_ L base then (10 : Int) else 8) ≤ 14 := by split <;> decide
  refine dstep_by (P := fun r => DopOk r.2) base n L o ⟨h1, h2, h3, h4⟩ ?_ ?_ ?_
  · unfold dpush; (repeat' split) <;> first | exact ⟨by simp, h2, h3, a _⟩ | exact ⟨by simp, h2, a _, h4⟩ | exact ⟨by simp, h2, h3, h4⟩ | exact ⟨h1, u64_zero, h3, h4⟩
  · unfold dpop
    split
    · exact ⟨by simp, h2, h3, a _⟩
    split
    · exact ⟨by simp, h2, h3, h4⟩
    split
    · exact ⟨q7, h2, a _, h4⟩
    split
    · exact ⟨by simp, a _, h3, h4⟩
    split
    · exact ⟨by simp, h2, h3, h4⟩
    · exact ⟨h1, h2, h3, h4⟩
  · unfold dsteal; (repeat' split) <;> first | exact ⟨by simp, h2, h3, a _⟩ | exact ⟨by simp, h2, a _, h4⟩ | exact ⟨by simp, a _, h3, h4⟩ | exact ⟨h1, h2, h3, h4⟩
section
variable {w : World} {bo bd bm bc : Nat} {base n tc : Int} {L : List Int} {o : Dop}
theorem DeqEnv.next {w' : World} (h : DeqEnv w bd bm bc base n tc L) {L' : List Int} {tc' : Int} (hm : MemAt w' bm bc L' tc') (hf : Few tc') (hu : AllU L') (hl : L'.length = L.length) (hg : DeqAt w' bd bm base n) : DeqEnv w' bd bm bc base n tc' L' :=
  ⟨hg, hm, hf, hu, h.n1, h.n64, h.b0, h.b1, by rw [hl]; exact h.in_⟩
theorem DeqEnv.only {w' : World} {S : Nat → Prop} (he : DeqEnv w bd bm bc base n tc L) (ho : Only S w w') (h1 : ¬ S bd) (h2 : ¬ S bm) (h3 : ¬ S bc) : DeqEnv w' bd bm bc base n tc L :=
  ⟨he.deq.only ho h1, he.mem.only ho h2 h3, he.few, he.u, he.n1, he.n64, he.b0, he.b1, he.in_⟩
theorem DeqEnv.only0 {w' : World} (he : DeqEnv w bd bm bc base n tc L) (ho : Only S0 w w') : DeqEnv w' bd bm bc base n tc L := he.only ho (fun h => h) (fun h => h) (fun h => h)
theorem DopIs.over0 (h : DopIs w bo bd o) (ho : o.out = 0) : Calls Try.prog 105 #[.pointer (some ⟨bo, 0, none⟩)] w fun e w' => e = .returned (.bool false) ∧ w = w' := by
  unfold DopIs at h
  rw [ho] at h
  exact DOver_pend h
theorem DopIs.over1 (h : DopIs w bo bd o) (ho : o.out ≠ 0) : Calls Try.prog 105 #[.pointer (some ⟨bo, 0, none⟩)] w fun e w' => e = .returned (.bool true) ∧ w = w' := DOver_over h ho
theorem DopIs.outcome (h : DopIs w bo bd o) : Calls Try.prog 33 #[.pointer (some ⟨bo, 0, none⟩)] w fun e w' => e = .returned (.int .i64 o.out) ∧ w = w' := DOutcome_any h
theorem DopIs.value (h : DopIs w bo bd o) : Calls Try.prog 107 #[.pointer (some ⟨bo, 0, none⟩)] w fun e w' => e = .returned (.int .u64 (dvalue o.v o.out)) ∧ w = w' := DValue_any h
theorem dop_stays (bd : Nat) : Stays (fun w b o => DopIs w b bd o) := fun w w' S b x h ho hs => DopAt.only h ho hs
set_option maxHeartbeats 2000000 in
/-- A step of a deque's operation. -/
theorem DStep_all (he : DeqEnv w bd bm bc base n tc L) (ho : DopOk o) (h : DopIs w bo bd o) (hf : Few (tc + 1)) :
    Calls Try.prog 106 #[.pointer (some ⟨bo, 0, none⟩)] w fun e w' => e = .returned (.bool ((dstep base n L o).2.out != 0)) ∧ DopIs w' bo bd (dstep base n L o).2 ∧
      DeqEnv w' bd bm bc base n (tc + dtick o) (dstep base n L o).1 ∧ Only (S3 bo bm bc) w w' := by
  have hne : bd ≠ bo := Blk.ne_ he.deq h (by decide)
  have hnm : bd ≠ bm := Blk.ne_ he.deq he.mem.mem (by decide)
  have hnc : bd ≠ bc := Blk.ne_ he.deq he.mem.cells (by decide)
  have hS : ¬ S3 bo bm bc bd := fun k => by unfold S3 at k; omega
  have hu := dstep_u base n L o he.u ho.v ho.b
  have hl := dstep_len base n L o
  by_cases h0 : o.out = 0
  · have hS2 : DStepAt w bo bd bm bc (dnF o.k) base n o.v o.t o.b o.won tc L := by
      refine ⟨?_, he.deq, he.mem, he.few, ho.t, ho.b, he.n1, he.n64, he.b0, he.b1, he.in_⟩
      unfold DopIs at h
      rw [h0] at h
      exact h
    have htk : dtick o = 1 := by simp [dtick, h0]
    have hk : o.k = 1 ∨ o.k = 2 ∨ o.k = 3 ∨ o.k = 4 ∨ o.k = 5 ∨ o.k = 6 ∨ o.k = 7 ∨ o.k = 8 ∨ o.k = 9 ∨ o.k = 10 ∨ o.k = 11 ∨ o.k = 12 ∨ o.k = 13 ∨ o.k = 14 := by have := ho.k; omega
    rw [htk]
    rcases hk with hk | hk | hk | hk | hk | hk | hk | hk | hk | hk | hk | hk | hk | hk
    · have hg : dstep base n L o = (L, { o with k := 2, b := at_ L (base + 1) }) := by rw [dstep_push base n L h0 (by omega)]; simp [dpush, hk]
      rw [hg] at hu hl ⊢
      rw [show dnF o.k = 58 from by rw [hk]; rfl] at hS2
      refine (DStep_pushBottom hS2.op (dPushBottom hS2)).mono ?_
      rintro e w' ⟨rfl, h1, h2, h3⟩
      exact ⟨by rw [h0], by unfold DopIs; rw [h0]; exact h1, he.next h2 hf hu hl (he.deq.only h3 hS), h3⟩
    · have hg : dstep base n L o = (L, { o with k := 3, t := at_ L base, out := dfull n o.b (at_ L base) }) := by rw [dstep_push base n L h0 (by omega)]; simp [dpush, hk]
      rw [hg] at hu hl ⊢
      rw [show dnF o.k = 73 from by rw [hk]; rfl] at hS2
      refine (DStep_pushTop hS2.op (dPushTop hS2)).mono ?_
      rintro e w' ⟨rfl, h1, h2, h3⟩
      exact ⟨rfl, h1, he.next h2 hf hu hl (he.deq.only h3 hS), h3⟩
    · have hg : dstep base n L o = (L.set (dslotOf base n o.b).toNat o.v, { o with k := 4 }) := by rw [dstep_push base n L h0 (by omega)]; simp [dpush, hk]
      rw [hg] at hu hl ⊢
      rw [show dnF o.k = 77 from by rw [hk]; rfl] at hS2
      refine (DStep_pushSlot hS2.op (dPushSlot hS2)).mono ?_
      rintro e w' ⟨rfl, h1, h2, h3⟩
      exact ⟨by rw [h0], by unfold DopIs; rw [h0]; exact h1, he.next h2 hf hu hl (he.deq.only h3 hS), h3⟩
    · have hg : dstep base n L o = (L.set (base + 1).toNat (IntKind.u64.wrap (o.b + 1)), { o with out := 1, v := 0 }) := by rw [dstep_push base n L h0 (by omega)]; simp [dpush, hk]
      rw [hg] at hu hl ⊢
      rw [show dnF o.k = 83 from by rw [hk]; rfl] at hS2
      refine (DStep_pushDone hS2.op (dPushDone hS2)).mono ?_
      rintro e w' ⟨rfl, h1, h2, h3⟩
      exact ⟨rfl, by unfold DopIs; rw [hk]; exact h1, he.next h2 hf hu hl (he.deq.only h3 hS), h3⟩
    · have hg : dstep base n L o = (L, { o with k := 6, b := at_ L (base + 1) }) := by rw [dstep_pop base n L h0 (by omega) (by omega)]; simp [dpop, hk]
      rw [hg] at hu hl ⊢
      rw [show dnF o.k = 61 from by rw [hk]; rfl] at hS2
      refine (DStep_popBottom hS2.op (dPopBottom hS2)).mono ?_
      rintro e w' ⟨rfl, h1, h2, h3⟩
      exact ⟨by rw [h0], by unfold DopIs; rw [h0]; exact h1, he.next h2 hf hu hl (he.deq.only h3 hS), h3⟩
    · have hg : dstep base n L o = (L.set (base + 1).toNat (IntKind.u64.wrap (o.b - 1)), { o with k := 7 }) := by rw [dstep_pop base n L h0 (by omega) (by omega)]; simp [dpop, hk]
      rw [hg] at hu hl ⊢
      rw [show dnF o.k = 75 from by rw [hk]; rfl] at hS2
      refine (DStep_popLower hS2.op (dPopLower hS2)).mono ?_
      rintro e w' ⟨rfl, h1, h2, h3⟩
      exact ⟨by rw [h0], by unfold DopIs; rw [h0]; exact h1, he.next h2 hf hu hl (he.deq.only h3 hS), h3⟩
    · have hg : dstep base n L o = (L, { o with k := if IntKind.u64.wrap (o.b - 1) < at_ L base then 10 else 8, t := at_ L base }) := by rw [dstep_pop base n L h0 (by omega) (by omega)]; simp [dpop, hk]
      rw [hg] at hu hl ⊢
      rw [show dnF o.k = 80 from by rw [hk]; rfl] at hS2
      refine (DStep_popTop hS2.op (dPopTop hS2)).mono ?_
      rintro e w' ⟨rfl, h1, h2, h3⟩
      refine ⟨by rw [h0], ?_, he.next h2 hf hu hl (he.deq.only h3 hS), h3⟩
      unfold DopIs
      rw [h0]
      show DopAt w' bo bd (dnF (if IntKind.u64.wrap (o.b - 1) < at_ L base then 10 else 8)) 0 o.v (at_ L base) o.b o.won
      have : dnF (if IntKind.u64.wrap (o.b - 1) < at_ L base then 10 else 8) = dback (at_ L base) o.b := by unfold dback; split <;> rfl
      rw [this]
      exact h1
    · have hg : dstep base n L o = (L, { o with k := 9, v := at_ L (dslotOf base n (IntKind.u64.wrap (o.b - 1))), out := dlast o.t o.b }) := by rw [dstep_pop base n L h0 (by omega) (by omega)]; simp [dpop, hk]
      rw [hg] at hu hl ⊢
      rw [show dnF o.k = 85 from by rw [hk]; rfl] at hS2
      refine (DStep_popSlot hS2.op (dPopSlot hS2)).mono ?_
      rintro e w' ⟨rfl, h1, h2, h3⟩
      exact ⟨rfl, h1, he.next h2 hf hu hl (he.deq.only h3 hS), h3⟩
    · rw [show dnF o.k = 88 from by rw [hk]; rfl] at hS2
      by_cases he2 : at_ L base = o.t
      · have hd : dswapL base L o.t = L.set base.toNat (IntKind.u64.wrap (o.t + 1)) ∧ dswapB base L o.t = true := by unfold dswapL dswapB; simp [he2]
        have hg : dstep base n L o = (L.set base.toNat (IntKind.u64.wrap (o.t + 1)), { o with k := 10, won := true }) := by rw [dstep_pop base n L h0 (by omega) (by omega)]; simp [dpop, hk, hd.1, hd.2]
        rw [hg] at hu hl ⊢
        refine (DStep_popSwap hS2.op (dPopSwap_yes hS2 he2)).mono ?_
        rintro e w' ⟨rfl, h1, h2, h3⟩
        exact ⟨by rw [h0], by unfold DopIs; rw [h0]; exact h1, he.next h2 hf hu hl (he.deq.only h3 hS), h3⟩
      · have hd : dswapL base L o.t = L ∧ dswapB base L o.t = false := by unfold dswapL dswapB; simp [he2]
        have hg : dstep base n L o = (L, { o with k := 10, won := false }) := by rw [dstep_pop base n L h0 (by omega) (by omega)]; simp [dpop, hk, hd.1, hd.2]
        rw [hg] at hu hl ⊢
        refine (DStep_popSwap hS2.op (dPopSwap_no hS2 he2)).mono ?_
        rintro e w' ⟨rfl, h1, h2, h3⟩
        exact ⟨by rw [h0], by unfold DopIs; rw [h0]; exact h1, he.next h2 hf hu hl (he.deq.only h3 hS), h3⟩
    · have hg : dstep base n L o = (L.set (base + 1).toNat o.b, { o with out := dwon o.won }) := by rw [dstep_pop base n L h0 (by omega) (by omega)]; simp [dpop, hk]
      rw [hg] at hu hl ⊢
      rw [show dnF o.k = 86 from by rw [hk]; rfl] at hS2
      refine (DStep_popBack hS2.op (dPopBack hS2)).mono ?_
      rintro e w' ⟨rfl, h1, h2, h3⟩
      exact ⟨rfl, by unfold DopIs; rw [hk]; exact h1, he.next h2 hf hu hl (he.deq.only h3 hS), h3⟩
    · have hg : dstep base n L o = (L, { o with k := 12, t := at_ L base }) := by rw [dstep_steal base n L h0 (by omega)]; simp [dsteal, hk]
      rw [hg] at hu hl ⊢
      rw [show dnF o.k = 64 from by rw [hk]; rfl] at hS2
      refine (DStep_stealTop hS2.op (dStealTop hS2)).mono ?_
      rintro e w' ⟨rfl, h1, h2, h3⟩
      exact ⟨by rw [h0], by unfold DopIs; rw [h0]; exact h1, he.next h2 hf hu hl (he.deq.only h3 hS), h3⟩
    · have hg : dstep base n L o = (L, { o with k := 13, b := at_ L (base + 1), out := dnone o.t (at_ L (base + 1)) }) := by rw [dstep_steal base n L h0 (by omega)]; simp [dsteal, hk]
      rw [hg] at hu hl ⊢
      rw [show dnF o.k = 76 from by rw [hk]; rfl] at hS2
      refine (DStep_stealBottom hS2.op (dStealBottom hS2)).mono ?_
      rintro e w' ⟨rfl, h1, h2, h3⟩
      exact ⟨rfl, h1, he.next h2 hf hu hl (he.deq.only h3 hS), h3⟩
    · have hg : dstep base n L o = (L, { o with k := 14, v := at_ L (dslotOf base n o.t) }) := by rw [dstep_steal base n L h0 (by omega)]; simp [dsteal, hk]
      rw [hg] at hu hl ⊢
      rw [show dnF o.k = 81 from by rw [hk]; rfl] at hS2
      refine (DStep_stealSlot hS2.op (dStealSlot hS2)).mono ?_
      rintro e w' ⟨rfl, h1, h2, h3⟩
      exact ⟨by rw [h0], by unfold DopIs; rw [h0]; exact h1, he.next h2 hf hu hl (he.deq.only h3 hS), h3⟩
    · rw [show dnF o.k = 87 from by rw [hk]; rfl] at hS2
      by_cases he2 : at_ L base = o.t
      · have hd : dswapL base L o.t = L.set base.toNat (IntKind.u64.wrap (o.t + 1)) ∧ dswapB base L o.t = true := by unfold dswapL dswapB; simp [he2]
        have hg : dstep base n L o = (L.set base.toNat (IntKind.u64.wrap (o.t + 1)), { o with out := 1 }) := by rw [dstep_steal base n L h0 (by omega)]; simp [dsteal, hk, hd.1, hd.2]
        rw [hg] at hu hl ⊢
        refine (DStep_stealSwap hS2.op (dStealSwap_yes hS2 he2)).mono ?_
        rintro e w' ⟨rfl, h1, h2, h3⟩
        exact ⟨rfl, by unfold DopIs; rw [hk]; exact h1, he.next h2 hf hu hl (he.deq.only h3 hS), h3⟩
      · have hd : dswapL base L o.t = L ∧ dswapB base L o.t = false := by unfold dswapL dswapB; simp [he2]
        have hg : dstep base n L o = (L, { o with out := 6 }) := by rw [dstep_steal base n L h0 (by omega)]; simp [dsteal, hk, hd.1, hd.2]
        rw [hg] at hu hl ⊢
        refine (DStep_stealSwap hS2.op (dStealSwap_no hS2 he2)).mono ?_
        rintro e w' ⟨rfl, h1, h2, h3⟩
        exact ⟨rfl, by unfold DopIs; rw [hk]; exact h1, he.next h2 hf hu hl (he.deq.only h3 hS), h3⟩
  · have hg : dstep base n L o = (L, o) := by simp [dstep, h0]
    have htk : dtick o = 0 := by simp [dtick, h0]
    rw [hg, htk]
    refine (DStep_over h h0).mono ?_
    rintro e w' ⟨rfl, rfl⟩
    have hb : (o.out != 0) = true := by simp [h0]
    refine ⟨by rw [hb], h, ?_, Only.refl _ _⟩
    rw [Int.add_zero]
    exact he
end
end Go.Proofs.Ytdoaipjdldknaaa
/-
  Package deque: operations that are done at once.
-/
namespace Go.Proofs.Ytdoaipjdldknaaa
open Go.RowKit
set_option linter.unusedVariables false

/-- An operation that is done at once: the cells, the operation, how many steps. -/
def ddone (base n : Int) : Nat → List Int → Dop → List Int × Dop × Nat
  | 0, L, o => (L, o, 0)
  | k + 1, L, o => if o.out ≠ 0 then (L, o, 0) else
    ((ddone base n k (dstep base n L o).1 (dstep base n L o).2).1, (ddone base n k (dstep base n L o).1 (dstep base n L o).2).2.1, (ddone base n k (dstep base n L o).1 (dstep base n L o).2).2.2 + 1)
theorem ddone_over (base n : Int) (k : Nat) (L : List Int) (o : Dop) (h : o.out ≠ 0) : ddone base n k L o = (L, o, 0) := by
  cases k <;> simp [ddone, h]
theorem ddone_succ (base n : Int) (k : Nat) (L : List Int) (o : Dop) (h : o.out = 0) : ddone base n (k + 1) L o =
    ((ddone base n k (dstep base n L o).1 (dstep base n L o).2).1, (ddone base n k (dstep base n L o).1 (dstep base n L o).2).2.1, (ddone base n k (dstep base n L o).1 (dstep base n L o).2).2.2 + 1) := by
  simp [ddone, h]
section
variable {w : World} {bo bd bm bc : Nat} {base n tc : Int} {L : List Int} {o : Dop}
end
end Go.Proofs.Ytdoaipjdldknaaa
/-
  Package deque: Size and Make.
-/
namespace Go.Proofs.Ytdoaipjdldknaaa
open Go.RowKit
set_option linter.unusedVariables false

/-- A fresh deque's cells, k of them. -/
def layD (L : List Int) (b : Nat) : Nat → List Int
  | 0 => L
  | k + 1 => (layD L b k).set (b + k) (if k < 2 then 1 else 0)
theorem layD_len (L : List Int) (b k : Nat) : (layD L b k).length = L.length := by
  induction k with
  | zero => rfl
  | succ k ih => simp [layD, ih]
theorem layD_u (L : List Int) (b k : Nat) (h : AllU L) : AllU (layD L b k) := by
  induction k with
  | zero => exact h
  | succ k ih => exact ih.set _ (by split <;> exact ⟨by decide, by decide⟩)
/-- How many cells a deque takes. -/
def dsize (n : Int) : Int := if 1 ≤ n ∧ n ≤ 64 then 2 + n else 0
theorem DSize_any (n : Int) (w : World) : Calls Try.prog 24 #[.int .i64 n] w fun e w' => e = .returned (.int .i64 (dsize n)) ∧ w = w' := by
  by_cases h : 1 ≤ n ∧ n ≤ 64
  · have hs : dsize n = 2 + n := by simp [dsize, h]
    rw [hs]
    obtain ⟨h1, h2⟩ := h
    clear hs
    go_enter Try.func24, Try.ntmps24
    go_wp2_with fail
    go_ret
    exact ⟨rfl, rfl⟩
  · have hs : dsize n = 0 := by simp [dsize, h]
    rw [hs]
    clear hs
    by_cases h1 : n < 1
    · clear h
      go_enter Try.func24, Try.ntmps24
      go_wp2_with fail
      go_ret
      exact ⟨rfl, rfl⟩
    · have h2 : 64 < n := by omega
      clear h
      go_enter Try.func24, Try.ntmps24
      go_wp2_with fail
      go_ret
      exact ⟨rfl, rfl⟩

theorem DMake_nil (base n : Int) (w : World) : Calls Try.prog 23 #[.pointer none, .int .i64 base, .int .i64 n] w fun e w' => e = .returned (.tuple #[.pointer none, .int .i64 1]) ∧ w = w' := by
  go_enter Try.func23, Try.ntmps23
  go_wp2_with fail
  refine (DSize_any n w).mono ?_
  rintro e w1 ⟨rfl, rfl⟩
  go_wp2_with fail
  go_ret2
  exact ⟨rfl, rfl⟩
section
variable {w : World} {bm bc : Nat} {L : List Int} {tc : Int}
theorem DMake_bad (base n : Int) (h : MemAt w bm bc L tc) (hb : dsize n = 0 ∨ base < 0 ∨ (L.length : Int) - dsize n < base) :
    Calls Try.prog 23 #[.pointer (some ⟨bm, 0, none⟩), .int .i64 base, .int .i64 n] w fun e w' => e = .returned (.tuple #[.pointer none, .int .i64 1]) ∧ w = w' := by
  obtain ⟨sz, hsz⟩ : ∃ sz, dsize n = sz := ⟨_, rfl⟩
  have hs0 : 0 ≤ sz ∧ sz ≤ 200 := by rw [← hsz]; unfold dsize; split <;> omega
  rw [hsz] at hb
  have HSZ := hide hsz
  have H := hide h
  obtain ⟨s1, s2⟩ := hs0
  have hl := h.len
  clear hsz h
  by_cases c1 : sz = 0
  · subst c1
    clear hb
    go_enter Try.func23, Try.ntmps23
    go_wp2_with fail
    refine (DSize_any n w).mono ?_
    rintro e w1 ⟨rfl, rfl⟩
    rw [HSZ.out]
    go_wp2_with fail
    go_ret2
    exact ⟨rfl, rfl⟩
  · have c1' : (sz == 0) = false := by simp [c1]
    by_cases c2 : base < 0
    · clear hb
      go_enter Try.func23, Try.ntmps23
      go_wp2_with fail
      refine (DSize_any n w).mono ?_
      rintro e w1 ⟨rfl, rfl⟩
      rw [HSZ.out]
      go_wp2_with fail
      go_ret2
      exact ⟨rfl, rfl⟩
    · have c3 : (L.length : Int) - sz < base := by omega
      clear hb
      go_enter Try.func23, Try.ntmps23
      go_wp2_with fail
      refine (DSize_any n w).mono ?_
      rintro e w1 ⟨rfl, rfl⟩
      rw [HSZ.out]
      go_wp2_with fail
      refine (Len_any H.out).mono ?_
      rintro e w1 ⟨rfl, rfl⟩
      go_wp2_with fail
      go_ret2
      exact ⟨rfl, rfl⟩

set_option maxHeartbeats 1000000 in
theorem DMake_good (b n : Nat) (h : MemAt w bm bc L tc) (hf : Few (tc + 200)) (h1 : 1 ≤ n) (h64 : n ≤ 64) (hin : b + (2 + n) ≤ L.length) :
    Calls Try.prog 23 #[.pointer (some ⟨bm, 0, none⟩), .int .i64 b, .int .i64 n] w fun e w' => ∃ bd, e = .returned (.tuple #[.pointer (some ⟨bd, 0, none⟩), .int .i64 0]) ∧
      DeqAt w' bd bm b n ∧ MemAt w' bm bc (layD L b (2 + n)) (tc + (2 + n : Nat)) ∧ Only (S2 bm bc) w w' ∧ w.heap.size ≤ bd := by
  have hsz : dsize n = (2 + n : Nat) := by unfold dsize; rw [if_pos (by omega)]; omega
  have hl := h.len
  obtain ⟨sz, hz⟩ : ∃ sz, 2 + n = sz := ⟨_, rfl⟩
  rw [hz] at hsz hin ⊢
  have hz1 : 1 ≤ sz := by omega
  have hz2 : sz ≤ 130 := by omega
  have c1 : ((sz : Int) == 0) = false := by simp; omega
  have c3 : ¬ (L.length : Int) - (sz : Int) < (b : Int) := by omega
  have HSZ := hide hsz
  have H := hide h
  have HF := hide hf
  clear hsz h hf hz
  go_enter Try.func23, Try.ntmps23
  go_wp2_with fail
  refine (DSize_any n w).mono ?_
  rintro e w1 ⟨rfl, rfl⟩
  rw [HSZ.out]
  go_wp2_with fail
  refine (Len_any H.out).mono ?_
  rintro e w1 ⟨rfl, rfl⟩
  go_wp2_with fail
  go_loopg [32] sz (fun q iv wr => ∃ (k : Nat), q = sz - k ∧ k ≤ sz ∧ iv = .int .i64 k ∧ MemAt wr bm bc (layD L b k) (tc + k) ∧ Only (S2 bm bc) w wr)
  case atStart => exact ⟨0, rfl, Nat.zero_le _, rfl, by simpa [layD] using H.out, Only.refl _ _⟩
  case round =>
    obtain ⟨k, rfl, hk, rfl, hm, ho⟩ := hrel
    have HM := hide hm
    have HO := hide ho
    clear hm ho
    by_cases hlt : k < sz
    · by_cases hk2 : k < 2
      · have HK2 := hide hk2
        go_wp2_with fail
        refine (Store_in ((b : Int) + (k : Int)) 1 HM.out (HF.out.le_ (by omega)) (by omega) (by rw [layD_len]; omega)).mono ?_
        rintro e w2 ⟨rfl, h2, o2⟩
        rw [show ((b : Int) + (k : Int)).toNat = b + k by omega] at h2
        have H2 := hide h2
        have O2 := hide (HO.out.trans o2)
        clear h2 o2
        go_wp2_with fail
        go_roundg (sz - (k + 1))
        case rel => exact ⟨k + 1, rfl, by omega, by go_num, by rw [show tc + ((k + 1 : Nat) : Int) = tc + k + 1 by omega, layD, if_pos HK2.out]; exact H2.out, O2.out⟩
        case measure => omega
      · have HK2 := hide hk2
        replace hk2 : 2 ≤ k := by omega
        go_wp2_with fail
        refine (Store_in ((b : Int) + (k : Int)) 0 HM.out (HF.out.le_ (by omega)) (by omega) (by rw [layD_len]; omega)).mono ?_
        rintro e w2 ⟨rfl, h2, o2⟩
        rw [show ((b : Int) + (k : Int)).toNat = b + k by omega] at h2
        have H2 := hide h2
        have O2 := hide (HO.out.trans o2)
        clear h2 o2
        go_wp2_with fail
        go_roundg (sz - (k + 1))
        case rel => exact ⟨k + 1, rfl, by omega, by go_num, by rw [show tc + ((k + 1 : Nat) : Int) = tc + k + 1 by omega, layD, if_neg HK2.out]; exact H2.out, O2.out⟩
        case measure => omega
    · obtain rfl : k = sz := by omega
      go_wp2_with fail
      go_ret2
      refine ⟨_, rfl, Blk.new _ _ _, ?_, HO.out.alloc _, HO.out.size⟩
      exact ⟨HM.out.mem.alloc _, HM.out.cells.alloc _, HM.out.len, HM.out.tc0⟩
end
end Go.Proofs.Ytdoaipjdldknaaa
/-
  A deque's examples, and its operations begun.
-/
namespace Go.Proofs.Ytdoaipjdldknaaa
open Go.RowKit
set_option linter.unusedVariables false

section
variable {w : World} {bd bm bc : Nat} {base n tc : Int} {L : List Int}
def pushOp (x : Int) : Dop := { k := 1, out := 0, v := x, t := 0, b := 0, won := false }
def popOp : Dop := { k := 5, out := 0, v := 0, t := 0, b := 0, won := false }
def stealOp : Dop := { k := 11, out := 0, v := 0, t := 0, b := 0, won := false }
theorem pushOp_ok {x : Int} (hx : U64 x) : DopOk (pushOp x) := ⟨by simp [pushOp], hx, u64_zero, u64_zero⟩
theorem popOp_ok : DopOk popOp := ⟨by simp [popOp], u64_zero, u64_zero, u64_zero⟩
theorem stealOp_ok : DopOk stealOp := ⟨by simp [stealOp], u64_zero, u64_zero, u64_zero⟩
theorem DPush_all (he : DeqEnv w bd bm bc base n tc L) (x : Int) : Calls Try.prog 30 #[.pointer (some ⟨bd, 0, none⟩), .int .u64 x] w fun e w' =>
    ∃ bo, e = .returned (.pointer (some ⟨bo, 0, none⟩)) ∧ DopIs w' bo bd (pushOp x) ∧ DeqEnv w' bd bm bc base n tc L ∧ Only S0 w w' ∧ w.heap.size ≤ bo := by
  refine (DPush_any x w bd).mono ?_
  rintro e w' ⟨bo, rfl, h1, h2, h3⟩
  exact ⟨bo, rfl, h1, he.only0 h2, h2, h3⟩
theorem DPop_all (he : DeqEnv w bd bm bc base n tc L) : Calls Try.prog 37 #[.pointer (some ⟨bd, 0, none⟩)] w fun e w' =>
    ∃ bo, e = .returned (.pointer (some ⟨bo, 0, none⟩)) ∧ DopIs w' bo bd popOp ∧ DeqEnv w' bd bm bc base n tc L ∧ Only S0 w w' ∧ w.heap.size ≤ bo := by
  refine (DPop_any w bd).mono ?_
  rintro e w' ⟨bo, rfl, h1, h2, h3⟩
  exact ⟨bo, rfl, h1, he.only0 h2, h2, h3⟩
theorem DSteal_all (he : DeqEnv w bd bm bc base n tc L) : Calls Try.prog 42 #[.pointer (some ⟨bd, 0, none⟩)] w fun e w' =>
    ∃ bo, e = .returned (.pointer (some ⟨bo, 0, none⟩)) ∧ DopIs w' bo bd stealOp ∧ DeqEnv w' bd bm bc base n tc L ∧ Only S0 w w' ∧ w.heap.size ≤ bo := by
  refine (DSteal_any w bd).mono ?_
  rintro e w' ⟨bo, rfl, h1, h2, h3⟩
  exact ⟨bo, rfl, h1, he.only0 h2, h2, h3⟩
end

end Go.Proofs.Ytdoaipjdldknaaa
