/-
  One form for each number: what a number's reader goes over is what the writer writes; and what the writer writes is gone over. Plain Lean, no program.
-/
import Derived.Test.YtekbfaafofflaaaTexts
namespace Go.Proofs.Ytekbfaafofflaaa
open Go.RowKit
set_option linter.unusedVariables false

/-- A number's digits of six bits, without zeros ahead. -/
def dig (x : Nat) : List Int := if h : x = 0 then [] else dig (x / 64) ++ [((x % 64 : Nat) : Int)]
termination_by x
decreasing_by omega
theorem dig_zero : dig 0 = [] := by unfold dig; rw [dif_pos rfl]
theorem dig_pos (x : Nat) (h : x ≠ 0) : dig x = dig (x / 64) ++ [((x % 64 : Nat) : Int)] := by
  conv => lhs; unfold dig
  rw [dif_neg h]
theorem his_dig (x : Nat) : ((List.range (tops x)).map fun j => ((x / 64 ^ (tops x - j) % 64 : Nat) : Int)) = dig (x / 64) := by
  induction x using Nat.strongRecOn with
  | _ x ih =>
    by_cases h : x < 64
    · rw [tops_small x h, show x / 64 = 0 by omega, dig_zero]; rfl
    · rw [tops_big x h, List.range_succ, List.map_append, dig_pos (x / 64) (by omega), ← ih (x / 64) (by omega)]
      congr 1
      · refine List.map_congr_left fun j hj => ?_
        have hj : j < tops (x / 64) := by simpa using hj
        rw [show tops (x / 64) + 1 - j = (tops (x / 64) - j) + 1 by omega, Nat.pow_succ, Nat.mul_comm, ← Nat.div_div_eq_div_mul]
      · simp
theorem grp_dig (x : Nat) (m : Int) : grp x m = dig (x / 64) ++ [m + ((x % 64 : Nat) : Int)] := by
  unfold grp; rw [his_dig]

/-- What is gone over is the number's form. -/
theorem nmb_form (l : List Int) (hl : ∀ c ∈ l, 0 ≤ c ∧ c < 256) (i x : Nat) (hz : i = 0 ↔ x = 0) (n size : Int) (b : Bool) (h : nmb l i (x : Int) = (n, b, size, 0)) :
    dig x ++ l.take (size - i).toNat = grp n.toNat (cond b 128 64) ∧ (i : Int) < size := by
  induction l generalizing i x with
  | nil => simp [nmb] at h
  | cons c l ih =>
    obtain ⟨d, rfl⟩ := Int.eq_ofNat_of_zero_le (hl c (by simp)).1
    have hd := (hl (d : Int) (by simp)).2
    unfold nmb at h
    split at h
    · simp at h
    · rename_i hgood
      split at h
      · rename_i h63
        simp only [Prod.mk.injEq] at h
        obtain ⟨rfl, rfl, rfl, _⟩ := h
        refine ⟨?_, by omega⟩
        have e1 : ((x : Int) * 64 + (d : Int) % 64).toNat = x * 64 + d % 64 := by omega
        have e2 : ((i : Int) + 1 - (i : Int)).toNat = 1 := by omega
        rw [e1, e2, grp_dig, show (x * 64 + d % 64) / 64 = x by omega, show (x * 64 + d % 64) % 64 = d % 64 by omega]
        simp only [List.take_succ_cons, List.take_zero]
        congr 2
        by_cases h127 : 127 < (d : Int)
        · rw [decide_eq_true h127]; show (d : Int) = 128 + _; omega
        · rw [decide_eq_false h127]; show (d : Int) = 64 + _; omega
      · rename_i h63
        have hx' : (x : Int) * 64 + (d : Int) % 64 = ((x * 64 + d : Nat) : Int) := by omega
        rw [hx'] at h
        have hne : x * 64 + d ≠ 0 := by omega
        have R := ih (fun c hc => hl c (by simp [hc])) (i + 1) (x * 64 + d) (by omega) h
        refine ⟨?_, by omega⟩
        rw [dig_pos _ hne, show (x * 64 + d) / 64 = x by omega, show (x * 64 + d) % 64 = d by omega] at R
        rw [← R.1, show (size - (i : Int)).toNat = (size - ((i + 1 : Nat) : Int)).toNat + 1 by omega, List.take_succ_cons, List.append_assoc]
        rfl
end Go.Proofs.Ytekbfaafofflaaa
