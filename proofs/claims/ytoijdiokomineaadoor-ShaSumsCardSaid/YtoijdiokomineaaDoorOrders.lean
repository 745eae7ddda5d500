/-
  The walk of silolaw03.ShaOrders.
-/
import Derived.Test.YtoijdiokomineaaDoorClass
namespace Go.Proofs.YtoijdiokomineaaDoor
open Go.RowKit
set_option linter.unusedVariables false

theorem lessF_iff (A B : Nat → Int) (n i : Nat) : lessF A B n i = true ↔ ∃ j, i ≤ j ∧ j < i + n ∧ A j < B j ∧ ∀ l, i ≤ l → l < j → A l = B l := by
  induction n generalizing i with
  | zero => simp [lessF]; intro j h1 h2; omega
  | succ n ih =>
    unfold lessF
    by_cases e : A i = B i
    · rw [if_pos e, ih]
      constructor
      · rintro ⟨j, h1, h2, h3, h4⟩
        refine ⟨j, by omega, by omega, h3, fun l a b => ?_⟩
        by_cases e2 : l = i
        · subst e2; exact e
        · exact h4 l (by omega) b
      · rintro ⟨j, h1, h2, h3, h4⟩
        by_cases e2 : j = i
        · subst e2; omega
        · exact ⟨j, by omega, by omega, h3, fun l a b => h4 l (by omega) b⟩
    · rw [if_neg e, decide_eq_true_iff]
      constructor
      · intro h; exact ⟨i, by omega, by omega, h, fun l a b => by omega⟩
      · rintro ⟨j, h1, h2, h3, h4⟩
        by_cases e2 : j = i
        · subst e2; exact h3
        · exact absurd (h4 i (by omega) (by omega)) e
theorem lessF_self (A : Nat → Int) (n i : Nat) : lessF A A n i = false := by
  rw [Bool.eq_false_iff]
  intro h
  obtain ⟨j, _, _, h3, _⟩ := (lessF_iff A A n i).1 h
  omega
theorem lessF_trans (A B C : Nat → Int) (n i : Nat) (h1 : lessF A B n i = true) (h2 : lessF B C n i = true) : lessF A C n i = true := by
  rw [lessF_iff] at *
  obtain ⟨j, a1, a2, a3, a4⟩ := h1
  obtain ⟨k, b1, b2, b3, b4⟩ := h2
  by_cases hjk : j < k
  · exact ⟨j, a1, a2, by have := b4 j a1 hjk; omega, fun l c d => by have := a4 l c d; have := b4 l c (by omega); omega⟩
  · by_cases e : j = k
    · subst e; exact ⟨j, a1, a2, by omega, fun l c d => by have := a4 l c d; have := b4 l c d; omega⟩
    · exact ⟨k, b1, b2, by have := a4 k b1 (by omega); omega, fun l c d => by have := a4 l c (by omega); have := b4 l c d; omega⟩
theorem sameF_less (A B : Nat → Int) (n i : Nat) : sameF A B n i = (!lessF A B n i && !lessF B A n i) := by
  induction n generalizing i with
  | zero => rfl
  | succ n ih =>
    unfold lessF sameF
    by_cases e : A i = B i
    · rw [if_pos e, if_pos e, if_pos e.symm, ih]
    · rw [if_neg e, if_neg e, if_neg (fun h => e h.symm)]
      simp
      omega

/-- The three keys lie where they were laid, and nothing that was there ahead of them has turned. -/
def KC3 (w : World) (A B C : Nat → Int) (w' : World) : Prop := w'.rangeAt w.heap.size 0 (numsL .u8 A 32) ∧ w'.rangeAt (w.heap.size+1) 0 (numsL .u8 B 32) ∧ w'.rangeAt (w.heap.size+1+1) 0 (numsL .u8 C 32) ∧ Below w.heap.size w w'
theorem KC3.step {w : World} {A B C : Nat → Int} {w1 w2 : World} (h : KC3 w A B C w1) (hb : Below w1.heap.size w1 w2) : KC3 w A B C w2 :=
  ⟨range_below h.1 hb, range_below h.2.1 hb, range_below h.2.2.1 hb, h.2.2.2.trans (hb.mono h.2.2.2.size)⟩
theorem KC3.drew {w : World} {A B C : Nat → Int} {w1 : World} (h : KC3 w A B C w1) : KC3 w A B C w1.drew := ⟨h.1, h.2.1, h.2.2.1, h.2.2.2.drew⟩

set_option maxRecDepth 100000 in
set_option maxHeartbeats 1000000 in
theorem orders_any (A B C : Nat → Int) (hA : ∀ j, U8 (A j)) (hB : ∀ j, U8 (B j)) (hC : ∀ j, U8 (C j)) (n : Int) (hn1 : -9223372036854775808 ≤ n) (hn2 : n ≤ 9223372036854775807) (w : World)
    (haw : ∀ wx : World, Below w.heap.size w wx → Calls Tryd.prog 7 #[] wx fun e w' => e = .returned (.bool true) ∧ Below wx.heap.size wx w') :
    Calls Tryd.prog 5 #[.agg (nums .u8 A 32), .agg (nums .u8 B 32), .agg (nums .u8 C 32), .int .i64 n] w fun e w' => e = .returned (.bool true) ∧ Below w.heap.size w w' := by
  have HA := Lib.hid hA; clear hA
  have HB := Lib.hid hB; clear hB
  have HC := Lib.hid hC; clear hC
  have HAW := Lib.hid haw; clear haw
  obtain ⟨m, hm, hnm⟩ : ∃ m : Nat, m < 8 ∧ n % 8 = (m : Int) := ⟨(n % 8).toNat, by omega, by omega⟩
  obtain ⟨W, hW⟩ : ∃ W : World, W = ((w.alloc (.cells (nums .u8 A 32) 25)).alloc (.cells (nums .u8 B 32) 25)).alloc (.cells (nums .u8 C 32) 25) := ⟨_, rfl⟩
  have hk0 : KC3 w A B C W := by
    rw [hW]
    refine ⟨range_nums (t := 25) (fr := (0,0)) ?_, range_nums (t := 25) (fr := (0,0)) ?_, range_nums (t := 25) (fr := (0,0)) ?_, (((Below.refl _ _).alloc (Nat.le_refl _) _).alloc (by simp) _).alloc (by simp <;> omega) _⟩
    · rw [heap_old _ _ _ (by simp <;> omega), heap_old _ _ _ (by simp), heap_new]
    · rw [heap_old _ _ _ (by simp), heap_new' _ _ _ (by simp)]
    · rw [heap_new' _ _ _ (by simp)]
  have HW := Lib.hid hW; clear hW
  have l0 : ∀ X Y : Nat → Int, (lessF X Y 32 0 != lessF X Y 32 0) = false := fun X Y => by simp
  have w0 : ∀ K : Nat → Int, (wordv K m != wordv K m) = false := fun K => by simp
  have s0 : lessF A A 32 0 = false := lessF_self A 32 0
  have heq := run_eql_nums (P := Tryd.prog) 25 5 32 .u8 A B und25 und5 inf5
  have hsame := sameF_less A B 32 0
  have HS := Lib.hid hsame; clear hsame
  go_enter Tryd.func5, Tryd.ntmps5
  go_wp2_with fail
  rw [← HW.out]
  refine wp_region_class (KC3 w A B C) (by kernel_rfl) (by kernel_rfl) hk0.drew ?_
  repeat (first
    | (refine q_load 25 (.tmp 4) rfl rfl (w.heap.size) rfl (fun w' h => h.1) und25 inf25 ?_; simp only [Act.put, List.setIfInBounds_toArray, List.set_cons_zero, List.set_cons_succ])
    | (refine q_load 25 (.tmp 5) rfl rfl (w.heap.size+1) rfl (fun w' h => h.2.1) und25 inf25 ?_; simp only [Act.put, List.setIfInBounds_toArray, List.set_cons_zero, List.set_cons_succ])
    | (refine q_load 25 (.tmp 6) rfl rfl (w.heap.size+1+1) rfl (fun w' h => h.2.2.1) und25 inf25 ?_; simp only [Act.put, List.setIfInBounds_toArray, List.set_cons_zero, List.set_cons_succ])
    | (refine q_skip rfl ?_; simp only [Act.put, List.setIfInBounds_toArray, List.set_cons_zero, List.set_cons_succ])
    | (refine q_step rfl ?_; apply Exists.intro; refine ⟨fun w => by go_simp; rfl, ?_⟩; simp only [Act.put, List.setIfInBounds_toArray, List.set_cons_zero, List.set_cons_succ])
    | (refine q_callX rfl 11 ?_; apply Exists.intro; refine ⟨fun w => by go_simp; rfl, ?_⟩; refine ⟨_, fun w' h => (less_any _ _ (by first | exact HA.out | exact HB.out | exact HC.out) (by first | exact HA.out | exact HB.out | exact HC.out) w').mono (fun e w2 h2 => ⟨h2.1, h.step h2.2⟩), ?_⟩; simp only [Act.put, List.setIfInBounds_toArray, List.set_cons_zero, List.set_cons_succ])
    | (refine q_callX rfl 12 ?_; apply Exists.intro; refine ⟨fun w => by go_simp; rfl, ?_⟩; refine ⟨_, fun w' h => (rless_any _ _ w').mono (fun e w2 h2 => ⟨h2.1, h.step h2.2⟩), ?_⟩; simp only [Act.put, List.setIfInBounds_toArray, List.set_cons_zero, List.set_cons_succ])
    | (refine q_callX rfl 10 ?_; apply Exists.intro; refine ⟨fun w => by go_simp; rfl, ?_⟩; refine ⟨_, fun w' h => (word_any _ (by first | exact HA.out | exact HB.out | exact HC.out) _ m hm hnm w').mono (fun e w2 h2 => ⟨h2.1, h.step h2.2⟩), ?_⟩; simp only [Act.put, List.setIfInBounds_toArray, List.set_cons_zero, List.set_cons_succ])
    | (refine q_callX rfl 13 ?_; apply Exists.intro; refine ⟨fun w => by go_simp; rfl, ?_⟩; refine ⟨_, fun w' h => (rword_any _ (by first | exact HA.out | exact HB.out | exact HC.out) _ hn1 hn2 m hm hnm w').mono (fun e w2 h2 => ⟨h2.1, h.step h2.2⟩), ?_⟩; simp only [Act.put, List.setIfInBounds_toArray, List.set_cons_zero, List.set_cons_succ])
    | (refine q_callX rfl 7 ?_; apply Exists.intro; refine ⟨fun w => by go_simp; rfl, ?_⟩; refine ⟨_, fun w' h => (HAW.out w' h.2.2.2).mono (fun e w2 h2 => ⟨h2.1, h.step h2.2⟩), ?_⟩; simp only [Act.put, List.setIfInBounds_toArray, List.set_cons_zero, List.set_cons_succ])
    | (refine q_nil ?_))
  intro w1 hk1
  cases hab : lessF A B 32 0 with
  | false =>
    go_wp2_with (first
        | ((with_reducible refine at_op (.load 25 (.tmp 4)) rfl ?_); refine load_numsW rfl 25 (.tmp 4) rfl (w.heap.size) rfl hk1.1 und25 inf25 ?_)
        | ((with_reducible refine at_op (.load 25 (.tmp 5)) rfl ?_); refine load_numsW rfl 25 (.tmp 5) rfl (w.heap.size+1) rfl hk1.2.1 und25 inf25 ?_)
        | ((with_reducible refine at_op (.load 25 (.tmp 6)) rfl ?_); refine load_numsW rfl 25 (.tmp 6) rfl (w.heap.size+1+1) rfl hk1.2.2.1 und25 inf25 ?_))
    refine (less_any A B HA.out HB.out _).mono ?_
    rw [hab]
    rintro e w2 ⟨rfl, hb2⟩
    have hk2 := hk1.step hb2
    go_wp2_with (first
        | ((with_reducible refine at_op (.load 25 (.tmp 4)) rfl ?_); refine load_numsW rfl 25 (.tmp 4) rfl (w.heap.size) rfl hk2.1 und25 inf25 ?_)
        | ((with_reducible refine at_op (.load 25 (.tmp 5)) rfl ?_); refine load_numsW rfl 25 (.tmp 5) rfl (w.heap.size+1) rfl hk2.2.1 und25 inf25 ?_)
        | ((with_reducible refine at_op (.load 25 (.tmp 6)) rfl ?_); refine load_numsW rfl 25 (.tmp 6) rfl (w.heap.size+1+1) rfl hk2.2.2.1 und25 inf25 ?_))
    refine wp_region_class (KC3 w A B C) (by kernel_rfl) (by kernel_rfl) hk2.drew ?_
    repeat (first
      | (refine q_load 25 (.tmp 4) rfl rfl (w.heap.size) rfl (fun w' h => h.1) und25 inf25 ?_; simp only [Act.put, List.setIfInBounds_toArray, List.set_cons_zero, List.set_cons_succ])
      | (refine q_load 25 (.tmp 5) rfl rfl (w.heap.size+1) rfl (fun w' h => h.2.1) und25 inf25 ?_; simp only [Act.put, List.setIfInBounds_toArray, List.set_cons_zero, List.set_cons_succ])
      | (refine q_load 25 (.tmp 6) rfl rfl (w.heap.size+1+1) rfl (fun w' h => h.2.2.1) und25 inf25 ?_; simp only [Act.put, List.setIfInBounds_toArray, List.set_cons_zero, List.set_cons_succ])
      | (refine q_skip rfl ?_; simp only [Act.put, List.setIfInBounds_toArray, List.set_cons_zero, List.set_cons_succ])
      | (refine q_step rfl ?_; apply Exists.intro; refine ⟨fun w => by go_simp; rfl, ?_⟩; simp only [Act.put, List.setIfInBounds_toArray, List.set_cons_zero, List.set_cons_succ])
      | (refine q_callX rfl 11 ?_; apply Exists.intro; refine ⟨fun w => by go_simp; rfl, ?_⟩; refine ⟨_, fun w' h => (less_any _ _ (by first | exact HA.out | exact HB.out | exact HC.out) (by first | exact HA.out | exact HB.out | exact HC.out) w').mono (fun e w2 h2 => ⟨h2.1, h.step h2.2⟩), ?_⟩; simp only [Act.put, List.setIfInBounds_toArray, List.set_cons_zero, List.set_cons_succ])
      | (refine q_callX rfl 12 ?_; apply Exists.intro; refine ⟨fun w => by go_simp; rfl, ?_⟩; refine ⟨_, fun w' h => (rless_any _ _ w').mono (fun e w2 h2 => ⟨h2.1, h.step h2.2⟩), ?_⟩; simp only [Act.put, List.setIfInBounds_toArray, List.set_cons_zero, List.set_cons_succ])
      | (refine q_callX rfl 10 ?_; apply Exists.intro; refine ⟨fun w => by go_simp; rfl, ?_⟩; refine ⟨_, fun w' h => (word_any _ (by first | exact HA.out | exact HB.out | exact HC.out) _ m hm hnm w').mono (fun e w2 h2 => ⟨h2.1, h.step h2.2⟩), ?_⟩; simp only [Act.put, List.setIfInBounds_toArray, List.set_cons_zero, List.set_cons_succ])
      | (refine q_callX rfl 13 ?_; apply Exists.intro; refine ⟨fun w => by go_simp; rfl, ?_⟩; refine ⟨_, fun w' h => (rword_any _ (by first | exact HA.out | exact HB.out | exact HC.out) _ hn1 hn2 m hm hnm w').mono (fun e w2 h2 => ⟨h2.1, h.step h2.2⟩), ?_⟩; simp only [Act.put, List.setIfInBounds_toArray, List.set_cons_zero, List.set_cons_succ])
      | (refine q_callX rfl 7 ?_; apply Exists.intro; refine ⟨fun w => by go_simp; rfl, ?_⟩; refine ⟨_, fun w' h => (HAW.out w' h.2.2.2).mono (fun e w2 h2 => ⟨h2.1, h.step h2.2⟩), ?_⟩; simp only [Act.put, List.setIfInBounds_toArray, List.set_cons_zero, List.set_cons_succ])
      | (refine q_nil ?_))
    intro w3 hk3
    go_wp2_with fail
    go_ret
    refine ⟨?_, hk3.2.2.2⟩
    rw [HS.out, hab]
    simp
  | true =>
    cases hbc : lessF B C 32 0 with
    | false =>
      go_wp2_with (first
        | ((with_reducible refine at_op (.load 25 (.tmp 4)) rfl ?_); refine load_numsW rfl 25 (.tmp 4) rfl (w.heap.size) rfl hk1.1 und25 inf25 ?_)
        | ((with_reducible refine at_op (.load 25 (.tmp 5)) rfl ?_); refine load_numsW rfl 25 (.tmp 5) rfl (w.heap.size+1) rfl hk1.2.1 und25 inf25 ?_)
        | ((with_reducible refine at_op (.load 25 (.tmp 6)) rfl ?_); refine load_numsW rfl 25 (.tmp 6) rfl (w.heap.size+1+1) rfl hk1.2.2.1 und25 inf25 ?_))
      refine (less_any A B HA.out HB.out _).mono ?_
      rw [hab]
      rintro e w2 ⟨rfl, hb2⟩
      have hk2 := hk1.step hb2
      go_wp2_with (first
        | ((with_reducible refine at_op (.load 25 (.tmp 4)) rfl ?_); refine load_numsW rfl 25 (.tmp 4) rfl (w.heap.size) rfl hk2.1 und25 inf25 ?_)
        | ((with_reducible refine at_op (.load 25 (.tmp 5)) rfl ?_); refine load_numsW rfl 25 (.tmp 5) rfl (w.heap.size+1) rfl hk2.2.1 und25 inf25 ?_)
        | ((with_reducible refine at_op (.load 25 (.tmp 6)) rfl ?_); refine load_numsW rfl 25 (.tmp 6) rfl (w.heap.size+1+1) rfl hk2.2.2.1 und25 inf25 ?_))
      refine (less_any B C HB.out HC.out _).mono ?_
      rw [hbc]
      rintro e w3 ⟨rfl, hb3⟩
      have hk3 := hk2.step hb3
      go_wp2_with (first
        | ((with_reducible refine at_op (.load 25 (.tmp 4)) rfl ?_); refine load_numsW rfl 25 (.tmp 4) rfl (w.heap.size) rfl hk3.1 und25 inf25 ?_)
        | ((with_reducible refine at_op (.load 25 (.tmp 5)) rfl ?_); refine load_numsW rfl 25 (.tmp 5) rfl (w.heap.size+1) rfl hk3.2.1 und25 inf25 ?_)
        | ((with_reducible refine at_op (.load 25 (.tmp 6)) rfl ?_); refine load_numsW rfl 25 (.tmp 6) rfl (w.heap.size+1+1) rfl hk3.2.2.1 und25 inf25 ?_))
      refine wp_region_class (KC3 w A B C) (by kernel_rfl) (by kernel_rfl) hk3.drew ?_
      repeat (first
        | (refine q_load 25 (.tmp 4) rfl rfl (w.heap.size) rfl (fun w' h => h.1) und25 inf25 ?_; simp only [Act.put, List.setIfInBounds_toArray, List.set_cons_zero, List.set_cons_succ])
        | (refine q_load 25 (.tmp 5) rfl rfl (w.heap.size+1) rfl (fun w' h => h.2.1) und25 inf25 ?_; simp only [Act.put, List.setIfInBounds_toArray, List.set_cons_zero, List.set_cons_succ])
        | (refine q_load 25 (.tmp 6) rfl rfl (w.heap.size+1+1) rfl (fun w' h => h.2.2.1) und25 inf25 ?_; simp only [Act.put, List.setIfInBounds_toArray, List.set_cons_zero, List.set_cons_succ])
        | (refine q_skip rfl ?_; simp only [Act.put, List.setIfInBounds_toArray, List.set_cons_zero, List.set_cons_succ])
        | (refine q_step rfl ?_; apply Exists.intro; refine ⟨fun w => by go_simp; rfl, ?_⟩; simp only [Act.put, List.setIfInBounds_toArray, List.set_cons_zero, List.set_cons_succ])
        | (refine q_callX rfl 11 ?_; apply Exists.intro; refine ⟨fun w => by go_simp; rfl, ?_⟩; refine ⟨_, fun w' h => (less_any _ _ (by first | exact HA.out | exact HB.out | exact HC.out) (by first | exact HA.out | exact HB.out | exact HC.out) w').mono (fun e w2 h2 => ⟨h2.1, h.step h2.2⟩), ?_⟩; simp only [Act.put, List.setIfInBounds_toArray, List.set_cons_zero, List.set_cons_succ])
        | (refine q_callX rfl 12 ?_; apply Exists.intro; refine ⟨fun w => by go_simp; rfl, ?_⟩; refine ⟨_, fun w' h => (rless_any _ _ w').mono (fun e w2 h2 => ⟨h2.1, h.step h2.2⟩), ?_⟩; simp only [Act.put, List.setIfInBounds_toArray, List.set_cons_zero, List.set_cons_succ])
        | (refine q_callX rfl 10 ?_; apply Exists.intro; refine ⟨fun w => by go_simp; rfl, ?_⟩; refine ⟨_, fun w' h => (word_any _ (by first | exact HA.out | exact HB.out | exact HC.out) _ m hm hnm w').mono (fun e w2 h2 => ⟨h2.1, h.step h2.2⟩), ?_⟩; simp only [Act.put, List.setIfInBounds_toArray, List.set_cons_zero, List.set_cons_succ])
        | (refine q_callX rfl 13 ?_; apply Exists.intro; refine ⟨fun w => by go_simp; rfl, ?_⟩; refine ⟨_, fun w' h => (rword_any _ (by first | exact HA.out | exact HB.out | exact HC.out) _ hn1 hn2 m hm hnm w').mono (fun e w2 h2 => ⟨h2.1, h.step h2.2⟩), ?_⟩; simp only [Act.put, List.setIfInBounds_toArray, List.set_cons_zero, List.set_cons_succ])
        | (refine q_callX rfl 7 ?_; apply Exists.intro; refine ⟨fun w => by go_simp; rfl, ?_⟩; refine ⟨_, fun w' h => (HAW.out w' h.2.2.2).mono (fun e w2 h2 => ⟨h2.1, h.step h2.2⟩), ?_⟩; simp only [Act.put, List.setIfInBounds_toArray, List.set_cons_zero, List.set_cons_succ])
        | (refine q_nil ?_))
      intro w4 hk4
      go_wp2_with fail
      go_ret
      refine ⟨?_, hk4.2.2.2⟩
      rw [HS.out, hab]
      simp
    | true =>
      have hac := lessF_trans A B C 32 0 hab hbc
      go_wp2_with (first
        | ((with_reducible refine at_op (.load 25 (.tmp 4)) rfl ?_); refine load_numsW rfl 25 (.tmp 4) rfl (w.heap.size) rfl hk1.1 und25 inf25 ?_)
        | ((with_reducible refine at_op (.load 25 (.tmp 5)) rfl ?_); refine load_numsW rfl 25 (.tmp 5) rfl (w.heap.size+1) rfl hk1.2.1 und25 inf25 ?_)
        | ((with_reducible refine at_op (.load 25 (.tmp 6)) rfl ?_); refine load_numsW rfl 25 (.tmp 6) rfl (w.heap.size+1+1) rfl hk1.2.2.1 und25 inf25 ?_))
      refine (less_any A B HA.out HB.out _).mono ?_
      rw [hab]
      rintro e w2 ⟨rfl, hb2⟩
      have hk2 := hk1.step hb2
      go_wp2_with (first
        | ((with_reducible refine at_op (.load 25 (.tmp 4)) rfl ?_); refine load_numsW rfl 25 (.tmp 4) rfl (w.heap.size) rfl hk2.1 und25 inf25 ?_)
        | ((with_reducible refine at_op (.load 25 (.tmp 5)) rfl ?_); refine load_numsW rfl 25 (.tmp 5) rfl (w.heap.size+1) rfl hk2.2.1 und25 inf25 ?_)
        | ((with_reducible refine at_op (.load 25 (.tmp 6)) rfl ?_); refine load_numsW rfl 25 (.tmp 6) rfl (w.heap.size+1+1) rfl hk2.2.2.1 und25 inf25 ?_))
      refine (less_any B C HB.out HC.out _).mono ?_
      rw [hbc]
      rintro e w3 ⟨rfl, hb3⟩
      have hk3 := hk2.step hb3
      go_wp2_with (first
        | ((with_reducible refine at_op (.load 25 (.tmp 4)) rfl ?_); refine load_numsW rfl 25 (.tmp 4) rfl (w.heap.size) rfl hk3.1 und25 inf25 ?_)
        | ((with_reducible refine at_op (.load 25 (.tmp 5)) rfl ?_); refine load_numsW rfl 25 (.tmp 5) rfl (w.heap.size+1) rfl hk3.2.1 und25 inf25 ?_)
        | ((with_reducible refine at_op (.load 25 (.tmp 6)) rfl ?_); refine load_numsW rfl 25 (.tmp 6) rfl (w.heap.size+1+1) rfl hk3.2.2.1 und25 inf25 ?_))
      refine (less_any A C HA.out HC.out _).mono ?_
      rw [hac]
      rintro e w4 ⟨rfl, hb4⟩
      have hk4 := hk3.step hb4
      go_wp2_with (first
        | ((with_reducible refine at_op (.load 25 (.tmp 4)) rfl ?_); refine load_numsW rfl 25 (.tmp 4) rfl (w.heap.size) rfl hk4.1 und25 inf25 ?_)
        | ((with_reducible refine at_op (.load 25 (.tmp 5)) rfl ?_); refine load_numsW rfl 25 (.tmp 5) rfl (w.heap.size+1) rfl hk4.2.1 und25 inf25 ?_)
        | ((with_reducible refine at_op (.load 25 (.tmp 6)) rfl ?_); refine load_numsW rfl 25 (.tmp 6) rfl (w.heap.size+1+1) rfl hk4.2.2.1 und25 inf25 ?_))
      refine wp_region_class (KC3 w A B C) (by kernel_rfl) (by kernel_rfl) hk4.drew ?_
      repeat (first
        | (refine q_load 25 (.tmp 4) rfl rfl (w.heap.size) rfl (fun w' h => h.1) und25 inf25 ?_; simp only [Act.put, List.setIfInBounds_toArray, List.set_cons_zero, List.set_cons_succ])
        | (refine q_load 25 (.tmp 5) rfl rfl (w.heap.size+1) rfl (fun w' h => h.2.1) und25 inf25 ?_; simp only [Act.put, List.setIfInBounds_toArray, List.set_cons_zero, List.set_cons_succ])
        | (refine q_load 25 (.tmp 6) rfl rfl (w.heap.size+1+1) rfl (fun w' h => h.2.2.1) und25 inf25 ?_; simp only [Act.put, List.setIfInBounds_toArray, List.set_cons_zero, List.set_cons_succ])
        | (refine q_skip rfl ?_; simp only [Act.put, List.setIfInBounds_toArray, List.set_cons_zero, List.set_cons_succ])
        | (refine q_step rfl ?_; apply Exists.intro; refine ⟨fun w => by go_simp; rfl, ?_⟩; simp only [Act.put, List.setIfInBounds_toArray, List.set_cons_zero, List.set_cons_succ])
        | (refine q_callX rfl 11 ?_; apply Exists.intro; refine ⟨fun w => by go_simp; rfl, ?_⟩; refine ⟨_, fun w' h => (less_any _ _ (by first | exact HA.out | exact HB.out | exact HC.out) (by first | exact HA.out | exact HB.out | exact HC.out) w').mono (fun e w2 h2 => ⟨h2.1, h.step h2.2⟩), ?_⟩; simp only [Act.put, List.setIfInBounds_toArray, List.set_cons_zero, List.set_cons_succ])
        | (refine q_callX rfl 12 ?_; apply Exists.intro; refine ⟨fun w => by go_simp; rfl, ?_⟩; refine ⟨_, fun w' h => (rless_any _ _ w').mono (fun e w2 h2 => ⟨h2.1, h.step h2.2⟩), ?_⟩; simp only [Act.put, List.setIfInBounds_toArray, List.set_cons_zero, List.set_cons_succ])
        | (refine q_callX rfl 10 ?_; apply Exists.intro; refine ⟨fun w => by go_simp; rfl, ?_⟩; refine ⟨_, fun w' h => (word_any _ (by first | exact HA.out | exact HB.out | exact HC.out) _ m hm hnm w').mono (fun e w2 h2 => ⟨h2.1, h.step h2.2⟩), ?_⟩; simp only [Act.put, List.setIfInBounds_toArray, List.set_cons_zero, List.set_cons_succ])
        | (refine q_callX rfl 13 ?_; apply Exists.intro; refine ⟨fun w => by go_simp; rfl, ?_⟩; refine ⟨_, fun w' h => (rword_any _ (by first | exact HA.out | exact HB.out | exact HC.out) _ hn1 hn2 m hm hnm w').mono (fun e w2 h2 => ⟨h2.1, h.step h2.2⟩), ?_⟩; simp only [Act.put, List.setIfInBounds_toArray, List.set_cons_zero, List.set_cons_succ])
        | (refine q_callX rfl 7 ?_; apply Exists.intro; refine ⟨fun w => by go_simp; rfl, ?_⟩; refine ⟨_, fun w' h => (HAW.out w' h.2.2.2).mono (fun e w2 h2 => ⟨h2.1, h.step h2.2⟩), ?_⟩; simp only [Act.put, List.setIfInBounds_toArray, List.set_cons_zero, List.set_cons_succ])
        | (refine q_nil ?_))
      intro w5 hk5
      go_wp2_with fail
      go_ret
      refine ⟨?_, hk5.2.2.2⟩
      rw [HS.out, hab]
      simp
end Go.Proofs.YtoijdiokomineaaDoor
