/-
  What Split tells of the frames that are cut off at k, and of these with anything behind k. Plain facts.
-/
import Derived.Test.YtekbfaafofflaaaCutp
namespace Go.Proofs.Ytekbfaafofflaaa
open Go.RowKit
set_option linter.unusedVariables false

theorem upto_split (F : Nat → List Int) (i m : Nat) (h : m ≤ i) : upto F i = upto F m ++ fromOn F i m := by
  induction m with
  | zero => rw [fromOn_all]; rfl
  | succ j ih => rw [ih (by omega), fromOn_step F i j (by omega), upto_succ, List.append_assoc]
theorem cut_take (F : Nat → List Int) (i m k : Nat) (h : m ≤ i) (hk : (upto F m).length ≤ k) : (upto F i).take k = upto F m ++ (fromOn F i m).take (k - (upto F m).length) := by
  rw [upto_split F i m h, List.take_append, List.take_of_length_le hk]
theorem cut_sp (T : Nat → ByteArray) (F : Nat → List Int) (hF : ∀ j, F j = FT (T j)) (i m k : Nat) (hm : m ≤ i) (hT : ∀ j, j < i → (T j).size ≤ 1048576) (hk : (upto F m).length ≤ k) (hx : m < i → k < (upto F (m + 1)).length) (S : ByteArray) (hS : bl S = (upto F i).take k) :
    sp S.size S = ((List.range m).map T, (upto F m).length) := by
  obtain rfl : F = fun j => FT (T j) := funext hF
  rw [cut_take _ i m k hm hk] at hS
  have h1 : bl S = fromOn (fun j => FT (T j)) m 0 ++ (fromOn (fun j => FT (T j)) i m).take (k - (upto (fun j => FT (T j)) m).length) := by rw [fromOn_all]; exact hS
  obtain ⟨n2, S2, h2, h3, h4⟩ := sp_pre T m (fun j hj => hT j (by omega)) _ m 0 rfl S.size S h1 (Nat.le_refl _)
  have h5 : hd S2 = none := by
    by_cases hmi : m < i
    · have hx := hx hmi
      rw [upto_succ, List.length_append] at hx
      have hbeta : ((fun j => FT (T j)) m).length = (FT (T m)).length := rfl
      refine hd_cut S2 (T m) (hT m hmi) (k - (upto (fun j => FT (T j)) m).length) (by omega) ?_
      rw [h2, fromOn_step _ i m hmi, List.take_append_of_le_length (by omega)]
    · obtain rfl : m = i := by omega
      rw [fromOn_end] at h2
      exact hd_nil S2 (by rw [h2]; simp)
  rw [h4, sp_none _ _ h5, fromOn_all, List.range_eq_range']
  simp
theorem turned_sp (T : Nat → ByteArray) (F : Nat → List Int) (hF : ∀ j, F j = FT (T j)) (i m k : Nat) (hm : m ≤ i) (hT : ∀ j, j < i → (T j).size ≤ 1048576) (hk : (upto F m).length ≤ k) (S : ByteArray) (R : List Int) (hS : bl S = (upto F i).take k ++ R) :
    ∃ X n, sp S.size S = ((List.range m).map T ++ X, n) := by
  obtain rfl : F = fun j => FT (T j) := funext hF
  rw [cut_take _ i m k hm hk, List.append_assoc] at hS
  have h1 : bl S = fromOn (fun j => FT (T j)) m 0 ++ ((fromOn (fun j => FT (T j)) i m).take (k - (upto (fun j => FT (T j)) m).length) ++ R) := by rw [fromOn_all]; exact hS
  obtain ⟨n2, S2, h2, h3, h4⟩ := sp_pre T m (fun j hj => hT j (by omega)) _ m 0 rfl S.size S h1 (Nat.le_refl _)
  exact ⟨_, _, by rw [h4, List.range_eq_range']⟩
theorem sp_cnt (n : Nat) (s : ByteArray) : (sp n s).1.length ≤ n := by
  induction n generalizing s with
  | zero => exact Nat.le_refl _
  | succ k ih =>
    unfold sp
    split
    · exact Nat.zero_le _
    · simp only [List.length_cons]; have := ih (s.extract (by assumption) s.size); omega
end Go.Proofs.Ytekbfaafofflaaa
