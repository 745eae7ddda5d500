/-
  The walk of silolaw03.ShaWords.
-/
import Derived.Test.YtoijdiokomineaaDoorClass
namespace Go.Proofs.YtoijdiokomineaaDoor
open Go.RowKit
set_option linter.unusedVariables false

/-- Are the first n words of two keys alike? -/
def sameW (A B : Nat → Int) (n : Nat) : Bool := (List.range n).all fun m => wordv A m == wordv B m
theorem sameW_succ (A B : Nat → Int) (n : Nat) : sameW A B (n + 1) = (sameW A B n && (wordv A n == wordv B n)) := by
  unfold sameW
  rw [List.range_succ, List.all_append]
  simp

theorem wordv_inj (A B : Nat → Int) (hA : ∀ j, U8 (A j)) (hB : ∀ j, U8 (B j)) (m : Nat) (h : wordv A m = wordv B m) :
    A (4 * m) = B (4 * m) ∧ A (4 * m + 1) = B (4 * m + 1) ∧ A (4 * m + 2) = B (4 * m + 2) ∧ A (4 * m + 3) = B (4 * m + 3) := by
  have a0 := hA (4 * m)
  have a1 := hA (4 * m + 1)
  have a2 := hA (4 * m + 2)
  have a3 := hA (4 * m + 3)
  have b0 := hB (4 * m)
  have b1 := hB (4 * m + 1)
  have b2 := hB (4 * m + 2)
  have b3 := hB (4 * m + 3)
  unfold U8 at *
  unfold wordv at h
  omega
/-- Keys of the same words are one key. -/
theorem sameW_all (A B : Nat → Int) (hA : ∀ j, U8 (A j)) (hB : ∀ j, U8 (B j)) : sameW A B 8 = sameF A B 32 0 := by
  rw [Bool.eq_iff_iff, sameF_iff]
  unfold sameW
  rw [List.all_eq_true]
  constructor
  · intro h j _ hj
    have := h (j / 4) (by simp; omega)
    obtain ⟨h0, h1, h2, h3⟩ := wordv_inj A B hA hB (j / 4) (by simpa using this)
    have : j = 4 * (j / 4) ∨ j = 4 * (j / 4) + 1 ∨ j = 4 * (j / 4) + 2 ∨ j = 4 * (j / 4) + 3 := by omega
    rcases this with e | e | e | e <;> rw [e] <;> assumption
  · intro h m hm
    have hm : m < 8 := by simpa using hm
    have e0 := h (4 * m) (by omega) (by omega)
    have e1 := h (4 * m + 1) (by omega) (by omega)
    have e2 := h (4 * m + 2) (by omega) (by omega)
    have e3 := h (4 * m + 3) (by omega) (by omega)
    rw [beq_iff_eq]
    unfold wordv
    rw [e0, e1, e2, e3]

/-- The two keys lie where they were laid, and nothing that was there ahead of them has turned. -/
def KC (w : World) (A B : Nat → Int) (w' : World) : Prop := w'.rangeAt w.heap.size 0 (numsL .u8 A 32) ∧ w'.rangeAt (w.heap.size+1) 0 (numsL .u8 B 32) ∧ Below w.heap.size w w'

theorem KC.step {w : World} {A B : Nat → Int} {w1 w2 : World} (h : KC w A B w1) (hb : Below w1.heap.size w1 w2) : KC w A B w2 :=
  ⟨range_below h.1 hb, range_below h.2.1 hb, h.2.2.trans (hb.mono h.2.2.size)⟩

set_option maxRecDepth 100000 in
set_option maxHeartbeats 1000000 in
theorem words_any (A B : Nat → Int) (hA : ∀ j, U8 (A j)) (hB : ∀ j, U8 (B j)) (w : World)
    (haw : ∀ wx : World, Below w.heap.size w wx → Calls Tryd.prog 7 #[] wx fun e w' => e = .returned (.bool true) ∧ Below wx.heap.size wx w') :
    Calls Tryd.prog 4 #[.agg (nums .u8 A 32), .agg (nums .u8 B 32)] w fun e w' => e = .returned (.bool true) ∧ Below w.heap.size w w' := by
  have HA := Lib.hid hA; clear hA
  have HB := Lib.hid hB; clear hB
  have HAW := Lib.hid haw; clear haw
  obtain ⟨W, hW⟩ : ∃ W : World, W = (w.alloc (.cells (nums .u8 A 32) 25)).alloc (.cells (nums .u8 B 32) 25) := ⟨_, rfl⟩
  have a0 : W.rangeAt w.heap.size 0 (numsL .u8 A 32) := by rw [hW]; exact range_nums (by rw [heap_old _ _ _ (by simp), heap_new])
  have b0 : W.rangeAt (w.heap.size+1) 0 (numsL .u8 B 32) := by rw [hW]; exact range_nums (by rw [heap_new' _ _ _ (by simp)])
  have hb : Below w.heap.size w W := by rw [hW]; exact ((Below.refl _ _).alloc (Nat.le_refl _) _).alloc (by simp) _
  have HW := Lib.hid hW; clear hW
  go_enter Tryd.func4, Tryd.ntmps4
  go_wp2_with fail
  rw [← HW.out]
  go_loopg [5, 6] 8 (fun g s v wr => ∃ n : Nat, n + g = 8 ∧ v = .int .i64 n ∧ s = .bool (sameW A B n) ∧ wr.rangeAt w.heap.size 0 (numsL .u8 A 32) ∧ wr.rangeAt (w.heap.size+1) 0 (numsL .u8 B 32) ∧ Below w.heap.size w wr)
  case atStart => exact ⟨0, by omega, rfl, rfl, a0, b0, hb⟩
  case round =>
    obtain ⟨n, hn, rfl, rfl, ra, rb, hbr⟩ := hrel
    clear a0 b0 hb
    by_cases h8 : n < 8
    · have w0 : ∀ K : Nat → Int, (wordv K n != wordv K n) = false := fun K => by simp
      have wp8 : IntKind.i64.wrap ((n : Int) + 8) = (n : Int) + 8 := by rw [IntKind.wrap_i64]; omega
      have wm8 : IntKind.i64.wrap ((n : Int) - 8) = (n : Int) - 8 := by rw [IntKind.wrap_i64]; omega
      cases hs : sameW A B n with
      | true =>
        have HS := Lib.hid hs; clear hs
        go_wp2_with fail
        refine wp_region_class (KC w A B) (by kernel_rfl) (by kernel_rfl) ⟨ra, rb, hbr.drew⟩ ?_
        repeat (first
          | (refine q_load 25 (.tmp 2) rfl rfl (w.heap.size) rfl (fun w' h => h.1) und25 inf25 ?_; simp only [Act.put, List.setIfInBounds_toArray, List.set_cons_zero, List.set_cons_succ])
          | (refine q_load 25 (.tmp 3) rfl rfl (w.heap.size+1) rfl (fun w' h => h.2.1) und25 inf25 ?_; simp only [Act.put, List.setIfInBounds_toArray, List.set_cons_zero, List.set_cons_succ])
          | (refine q_skip rfl ?_; simp only [Act.put, List.setIfInBounds_toArray, List.set_cons_zero, List.set_cons_succ])
          | (refine q_step rfl ?_; apply Exists.intro; refine ⟨fun w => by go_simp; rfl, ?_⟩; simp only [Act.put, List.setIfInBounds_toArray, List.set_cons_zero, List.set_cons_succ])
          | (refine q_callX rfl 10 ?_; apply Exists.intro; refine ⟨fun w => by go_simp; rfl, ?_⟩; refine ⟨_, fun w' h => (word_any _ (by first | exact HA.out | exact HB.out) _ n h8 (by omega) w').mono (fun e w2 h2 => ⟨h2.1, h.step h2.2⟩), ?_⟩; simp only [Act.put, List.setIfInBounds_toArray, List.set_cons_zero, List.set_cons_succ])
          | (refine q_nil ?_))
        intro w1 hk1
        go_wp2_with fail
        refine wp_region_class (KC w A B) (by kernel_rfl) (by kernel_rfl) ⟨hk1.1, hk1.2.1, hk1.2.2.drew⟩ ?_
        repeat (first
          | (refine q_load 25 (.tmp 2) rfl rfl (w.heap.size) rfl (fun w' h => h.1) und25 inf25 ?_; simp only [Act.put, List.setIfInBounds_toArray, List.set_cons_zero, List.set_cons_succ])
          | (refine q_load 25 (.tmp 3) rfl rfl (w.heap.size+1) rfl (fun w' h => h.2.1) und25 inf25 ?_; simp only [Act.put, List.setIfInBounds_toArray, List.set_cons_zero, List.set_cons_succ])
          | (refine q_skip rfl ?_; simp only [Act.put, List.setIfInBounds_toArray, List.set_cons_zero, List.set_cons_succ])
          | (refine q_step rfl ?_; apply Exists.intro; refine ⟨fun w => by go_simp; rfl, ?_⟩; simp only [Act.put, List.setIfInBounds_toArray, List.set_cons_zero, List.set_cons_succ])
          | (refine q_callX rfl 10 ?_; apply Exists.intro; refine ⟨fun w => by go_simp; rfl, ?_⟩; refine ⟨_, fun w' h => (word_any _ (by first | exact HA.out | exact HB.out) _ n h8 (by omega) w').mono (fun e w2 h2 => ⟨h2.1, h.step h2.2⟩), ?_⟩; simp only [Act.put, List.setIfInBounds_toArray, List.set_cons_zero, List.set_cons_succ])
          | (refine q_nil ?_))
        intro w2 hk2
        go_wp2_with fail
        go_roundg (8 - (n+1))
        case measure => omega
        case rel => exact ⟨n+1, by omega, by go_num, by rw [sameW_succ, HS.out, Bool.true_and], hk2.1, hk2.2.1, hk2.2.2⟩
      | false =>
        have HS := Lib.hid hs; clear hs
        go_wp2_with fail
        refine wp_region_class (KC w A B) (by kernel_rfl) (by kernel_rfl) ⟨ra, rb, hbr.drew⟩ ?_
        repeat (first
          | (refine q_load 25 (.tmp 2) rfl rfl (w.heap.size) rfl (fun w' h => h.1) und25 inf25 ?_; simp only [Act.put, List.setIfInBounds_toArray, List.set_cons_zero, List.set_cons_succ])
          | (refine q_load 25 (.tmp 3) rfl rfl (w.heap.size+1) rfl (fun w' h => h.2.1) und25 inf25 ?_; simp only [Act.put, List.setIfInBounds_toArray, List.set_cons_zero, List.set_cons_succ])
          | (refine q_skip rfl ?_; simp only [Act.put, List.setIfInBounds_toArray, List.set_cons_zero, List.set_cons_succ])
          | (refine q_step rfl ?_; apply Exists.intro; refine ⟨fun w => by go_simp; rfl, ?_⟩; simp only [Act.put, List.setIfInBounds_toArray, List.set_cons_zero, List.set_cons_succ])
          | (refine q_callX rfl 10 ?_; apply Exists.intro; refine ⟨fun w => by go_simp; rfl, ?_⟩; refine ⟨_, fun w' h => (word_any _ (by first | exact HA.out | exact HB.out) _ n h8 (by omega) w').mono (fun e w2 h2 => ⟨h2.1, h.step h2.2⟩), ?_⟩; simp only [Act.put, List.setIfInBounds_toArray, List.set_cons_zero, List.set_cons_succ])
          | (refine q_nil ?_))
        intro w1 hk1
        go_wp2_with fail
        refine wp_region_class (KC w A B) (by kernel_rfl) (by kernel_rfl) ⟨hk1.1, hk1.2.1, hk1.2.2.drew⟩ ?_
        repeat (first
          | (refine q_load 25 (.tmp 2) rfl rfl (w.heap.size) rfl (fun w' h => h.1) und25 inf25 ?_; simp only [Act.put, List.setIfInBounds_toArray, List.set_cons_zero, List.set_cons_succ])
          | (refine q_load 25 (.tmp 3) rfl rfl (w.heap.size+1) rfl (fun w' h => h.2.1) und25 inf25 ?_; simp only [Act.put, List.setIfInBounds_toArray, List.set_cons_zero, List.set_cons_succ])
          | (refine q_skip rfl ?_; simp only [Act.put, List.setIfInBounds_toArray, List.set_cons_zero, List.set_cons_succ])
          | (refine q_step rfl ?_; apply Exists.intro; refine ⟨fun w => by go_simp; rfl, ?_⟩; simp only [Act.put, List.setIfInBounds_toArray, List.set_cons_zero, List.set_cons_succ])
          | (refine q_callX rfl 10 ?_; apply Exists.intro; refine ⟨fun w => by go_simp; rfl, ?_⟩; refine ⟨_, fun w' h => (word_any _ (by first | exact HA.out | exact HB.out) _ n h8 (by omega) w').mono (fun e w2 h2 => ⟨h2.1, h.step h2.2⟩), ?_⟩; simp only [Act.put, List.setIfInBounds_toArray, List.set_cons_zero, List.set_cons_succ])
          | (refine q_nil ?_))
        intro w2 hk2
        go_wp2_with fail
        go_roundg (8 - (n+1))
        case measure => omega
        case rel => exact ⟨n+1, by omega, by go_num, by rw [sameW_succ, HS.out, Bool.false_and], hk2.1, hk2.2.1, hk2.2.2⟩
    · obtain rfl : n = 8 := by omega
      have heq := run_eql_nums (P := Tryd.prog) 25 5 32 .u8 A B und25 und5 inf5
      rw [sameW_all A B HA.out HB.out]
      go_wp2_with fail
      refine (HAW.out _ hbr).mono ?_
      rintro e w1 ⟨rfl, hb1⟩
      have ra1 := range_below ra hb1
      have rb1 := range_below rb hb1
      go_wp2_with (first
        | ((with_reducible refine at_op (.load 25 (.tmp 2)) rfl ?_); go_must (refine load_numsW rfl 25 (.tmp 2) rfl w.heap.size rfl ra1 und25 inf25 ?_))
        | ((with_reducible refine at_op (.load 25 (.tmp 3)) rfl ?_); go_must (refine load_numsW rfl 25 (.tmp 3) rfl (w.heap.size+1) rfl rb1 und25 inf25 ?_)))
      go_ret
      exact ⟨by simp, hbr.trans (hb1.mono hbr.size)⟩
end Go.Proofs.YtoijdiokomineaaDoor
