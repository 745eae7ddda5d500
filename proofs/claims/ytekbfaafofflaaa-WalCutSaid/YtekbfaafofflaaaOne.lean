/-
  The walk of silolaw01.SixOne.
-/
import Derived.Test.YtekbfaafofflaaaForm
namespace Go.Proofs.Ytekbfaafofflaaa
open Go.RowKit
set_option linter.unusedVariables false

theorem bl_text (s : ByteArray) : strOfNums (bl s) = s := by
  apply ByteArray.ext
  simp [strOfNums, bl]
  have hid : ((fun n : Int => UInt8.ofNat n.toNat) ∘ fun b : UInt8 => (b.toNat : Int)) = id := by
    funext b; simp
  rw [hid]; simp
theorem strOfNums_append (a b : List Int) : strOfNums a ++ strOfNums b = strOfNums (a ++ b) := by
  apply ByteArray.ext
  simp [strOfNums]
theorem bl_extract (s : ByteArray) (k m : Nat) : bl (s.extract k m) = ((bl s).drop k).take (m - k) := by
  unfold bl
  rw [Lib.extract_data]
  simp
theorem cut_join (s : ByteArray) (k : Nat) (hk : k ≤ s.size) : strOfNums ((bl s).take k) ++ s.extract k s.size = s := by
  have e : s.extract k s.size = strOfNums ((bl s).drop k) := by
    rw [← bl_text (s.extract k s.size), bl_extract, List.take_of_length_le (by rw [List.length_drop, bl_length]; exact Nat.le_refl _)]
  rw [e, strOfNums_append, List.take_append_drop, bl_text]

theorem cut_two (s : ByteArray) (k : Nat) (hk : k ≤ s.size) : s.extract 0 k ++ s.extract k s.size = s := by
  have e : s.extract 0 k = strOfNums ((bl s).take k) := by
    rw [← bl_text (s.extract 0 k), bl_extract]; simp
  rw [e, cut_join s k hk]
theorem nmb_read (t : ByteArray) (n size : Int) (bb : Bool) (h : nmb (bl t) 0 0 = (n, bb, size, 0)) :
    ∃ N k : Nat, n = (N : Int) ∧ size = (k : Int) ∧ N < 9223372036854775808 ∧ 0 < k ∧ k ≤ t.size ∧ grp N (cond bb 128 64) = (bl t).take k := by
  have h1 := nmb_bound _ (bl_u8 t) _ _ (Int.le_refl 0) _ _ _ _ h
  have h2 := nmb_size _ _ _ _ _ _ h
  have h3 := nmb_form (bl t) (bl_u8 t) 0 0 (by simp) n size bb h
  rw [bl_length] at h2
  obtain ⟨N, rfl⟩ := Int.eq_ofNat_of_zero_le h1.1
  obtain ⟨k, rfl⟩ := Int.eq_ofNat_of_zero_le (show 0 ≤ size by omega)
  refine ⟨N, k, rfl, rfl, by omega, by omega, by omega, ?_⟩
  have := h3.1
  rw [dig_zero] at this
  simpa using this.symm

end Go.Proofs.Ytekbfaafofflaaa
