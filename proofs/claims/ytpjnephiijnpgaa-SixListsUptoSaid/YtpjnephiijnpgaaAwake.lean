/-
  The walk of silolaw01.awake: the document's example.
-/
import Derived.Test.YtpjnephiijnpgaaTexts
namespace Go.Proofs.Ytpjnephiijnpgaa
open Go.RowKit
set_option linter.unusedVariables false

theorem tops2 : tops 2 = 0 := tops_small 2 (by decide)
theorem tops64 : tops 64 = 1 := by rw [tops_big 64 (by decide), tops_small _ (by decide)]
theorem g64 (m : Int) : grp 64 m = [1, m] := by unfold grp; rw [tops64]; simp
theorem g2 (m : Int) : grp 2 m = [m + 2] := by unfold grp; rw [tops2]; simp
def ex0 : ByteArray := { data := #[1, 64, 1, 128, 66, 97, 98] }
def ex1 : ByteArray := { data := #[1, 128, 66, 97, 98] }
def ex2 : ByteArray := { data := #[66, 97, 98] }
def exab : ByteArray := { data := #[97, 98] }
theorem cut01 : ex0.extract 2 ex0.size = ex1 := rfl
theorem cut12 : ex1.extract 2 ex1.size = ex2 := rfl
theorem n0 : nmb (bl ex0) 0 0 = (64, false, ((2 : Nat) : Int), 0) := rfl
theorem n1 : nmb (bl ex1) 0 0 = (64, true, ((2 : Nat) : Int), 0) := rfl
theorem n2 : nmb (bl ex2) 0 0 = (((2 : Nat) : Int), false, ((1 : Nat) : Int), 0) := rfl
theorem exL : ([] ++ grp 64 64 ++ grp 64 128) ++ (grp exab.size 64 ++ bl exab) = [1, 64, 1, 128, 66, 97, 98] := by
  rw [show exab.size = 2 from rfl, g64, g64, g2]; rfl
theorem cut23 : (ex2.extract 1 ex2.size).extract 0 2 = exab := rfl
def exN : ByteArray := { data := #[] }
theorem cut3 : (ex2.extract 1 ex2.size).extract 2 (ex2.size - 1) = exN := rfl
theorem ex0L : ex0.toList = [1, 64, 1, 128, 66, 97, 98] := by rw [ByteArray.toList_eq]; rfl
theorem exabL : exab.toList = [97, 98] := by rw [ByteArray.toList_eq]; rfl
theorem exNL : (exN.toList == []) = true := by rw [ByteArray.toList_eq]; rfl
theorem exS : strOfNums [1, 64, 1, 128, 66, 97, 98] = ex0 := rfl

set_option maxRecDepth 100000 in
theorem awake_any (w : World) : Calls Try.prog 15 #[] w fun e w' => e = .returned (.bool true) ∧ Below w.heap.size w w' := by
  go_enter Try.func15, Try.ntmps15
  go_wp2_with (go_at_call 8; refine (new_any w).mono ?_; rintro e w1 ⟨rfl, hw1, hb1, hs1⟩)
  refine (count_any hw1 64 (by decide) (by decide)).mono ?_
  rintro e w2 ⟨rfl, hw2, hb2⟩
  go_wp2_with fail
  refine (whole_any hw2 (-65) (by decide) (by decide) (by rw [g64]; decide)).mono ?_
  rintro e w3 ⟨rfl, hw3, hb3⟩
  rw [if_pos (by decide), show (-((-65 : Int) + 1)).toNat = 64 from rfl] at hw3
  go_wp2_with fail
  refine (text_any hw3 exab (by rw [g64, g64]; decide)).mono ?_
  rintro e w4 ⟨rfl, hw4, hb4⟩
  rw [exL] at hw4
  go_wp2_with fail
  refine (bytes_any hw4).mono ?_
  rintro e w5 ⟨rfl, rfl⟩
  rw [exS]
  go_wp2_with fail
  refine (over_any ex0 w4).mono ?_
  rintro e w5 ⟨rfl, hr5, hb5, hs5⟩
  have hw5 := hw4.below hb5
  have hl4 := hw4.lt
  go_wp2_with fail
  refine (rcount_ok hr5 (by decide) 64 2 n0).mono ?_
  rintro e w6 ⟨rfl, rfl⟩
  rw [cut01]
  have hr6 := hr5.set ex1
  have ho6 := Onl.set w5 w4.heap.size (.string ex1)
  obtain ⟨W6, hW6⟩ : ∃ W, w5.setCell ⟨w4.heap.size, 0, none⟩ (.string ex1) = W := ⟨_, rfl⟩
  rw [hW6] at hr6 ho6 ⊢
  clear hW6
  go_wp2_with fail
  refine (rwhole_ok hr6 (by decide) 64 true 2 n1).mono ?_
  rintro e w7 ⟨rfl, rfl⟩
  rw [cut12]
  have hr7 := hr6.set ex2
  have ho7 := ho6.trans (Onl.set W6 w4.heap.size (.string ex2))
  obtain ⟨W7, hW7⟩ : ∃ W, W6.setCell ⟨w4.heap.size, 0, none⟩ (.string ex2) = W := ⟨_, rfl⟩
  rw [hW7] at hr7 ho7 ⊢
  clear hW7
  go_wp2_with fail
  refine (rtext_ok hr7 (by decide) 2 1 n2 (by decide)).mono ?_
  rintro e w8 ⟨rfl, hr8, ho8⟩
  rw [cut3] at hr8
  rw [cut23]
  have ho9 := ho7.trans ho8
  have hb8 := ho9.below hb5 (Nat.le_refl _)
  have hw8 := hw4.below hb8
  go_wp2_with fail
  refine (bytes_any hw8).mono ?_
  rintro e w9 ⟨rfl, rfl⟩
  rw [exS]
  have q0 := ex0L
  have q1 := exabL
  go_wp2_with fail
  refine (end_any hr8).mono ?_
  rintro e w9 ⟨rfl, rfl⟩
  rw [exNL]
  go_wp2_with fail
  go_ret
  refine ⟨rfl, ?_⟩
  have s4 := hb4.size
  exact ((hb1.trans (hb2.trans (hb3.trans hb4))).trans (hb8.mono (by omega)))
end Go.Proofs.Ytpjnephiijnpgaa
