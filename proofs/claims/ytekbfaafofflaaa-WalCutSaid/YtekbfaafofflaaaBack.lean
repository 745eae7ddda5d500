/-
  The walk of silolaw01.SixBack.
-/
import Derived.Test.YtekbfaafofflaaaFlat
namespace Go.Proofs.Ytekbfaafofflaaa
open Go.RowKit
set_option linter.unusedVariables false

theorem w_text {w : World} {p : Nat} {L : List Int} (h : Wrt w p L) (s : ByteArray) (hl : L.length + 11 + s.size < 140737488355328) :
    Calls Try.prog 11 #[.pointer (some ⟨p, 0, none⟩), .string s] w fun e w' => e = .returned (.int .i64 0) ∧ Wrt w' p (L ++ tx s) ∧ Below p w w' := text_any h s hl

/-- The first n of them, one behind the other; those from i on. -/
def upto (f : Nat → List Int) (n : Nat) : List Int := (List.range n).flatMap f
def fromOn (f : Nat → List Int) (n i : Nat) : List Int := (List.range' i (n - i)).flatMap f
theorem upto_zero (f : Nat → List Int) : upto f 0 = [] := rfl
theorem upto_succ (f : Nat → List Int) (n : Nat) : upto f (n + 1) = upto f n ++ f n := by unfold upto; simp [List.range_succ]
theorem fromOn_all (f : Nat → List Int) (n : Nat) : fromOn f n 0 = upto f n := by unfold fromOn upto; rw [List.range_eq_range']; rfl
theorem fromOn_step (f : Nat → List Int) (n i : Nat) (h : i < n) : fromOn f n i = f i ++ fromOn f n (i + 1) := by
  unfold fromOn
  rw [show n - i = (n - (i + 1)) + 1 by omega, List.range'_succ]
  rfl
theorem fromOn_end (f : Nat → List Int) (n : Nat) : fromOn f n n = [] := by unfold fromOn; simp
theorem upto_len (f : Nat → List Int) (n m : Nat) (h : ∀ i, i < n → (f i).length ≤ m) : (upto f n).length ≤ n * m := by
  induction n with
  | zero => simp [upto]
  | succ k ih =>
    rw [upto_succ, List.length_append, Nat.succ_mul]
    have := ih (fun i hi => h i (by omega))
    have := h k (by omega)
    omega
theorem upto_mono (f : Nat → List Int) (n i : Nat) (h : i ≤ n) : (upto f i).length ≤ (upto f n).length := by
  induction n with
  | zero => rw [Nat.le_zero.1 h]; exact Nat.le_refl _
  | succ k ih =>
    by_cases e : i = k + 1
    · subst e; exact Nat.le_refl _
    · rw [upto_succ, List.length_append]; have := ih (by omega); omega
theorem upto_u8 (f : Nat → List Int) (n : Nat) (h : ∀ i, i < n → ∀ c ∈ f i, 0 ≤ c ∧ c < 256) : ∀ c ∈ upto f n, 0 ≤ c ∧ c < 256 := by
  intro c hc
  unfold upto at hc
  obtain ⟨i, hi, hc⟩ := List.mem_flatMap.1 hc
  exact h i (by simpa using hi) c hc
theorem fromOn_len (f : Nat → List Int) (n i : Nat) (h : i ≤ n) : (upto f i).length + (fromOn f n i).length = (upto f n).length := by
  rw [← fromOn_all f n]
  have : ∀ k, k ≤ n → (upto f k) ++ (fromOn f n k) = fromOn f n 0 := by
    intro k
    induction k with
    | zero => intro _; rfl
    | succ j ih => intro hj; rw [← ih (by omega), fromOn_step f n j (by omega), upto_succ, List.append_assoc]
  rw [← this i h, List.length_append]

/-- A list of numbers, of texts, as an argument. -/
structure IntArg (w : World) (ao : Option Addr) (b off len : Nat) (K : Nat → Int) : Prop where
  at_ : 0 < len → ao = some ⟨b, off, none⟩ ∧ b < w.heap.size
  cell : ∀ i, i < len → w.cell? ⟨b, off + i, none⟩ = some (.int .i64 (K i))
  lo : ∀ i, i < len → -9223372036854775808 ≤ K i ∧ K i ≤ 9223372036854775807
structure TextArg (w : World) (ao : Option Addr) (b off len : Nat) (T : Nat → ByteArray) : Prop where
  at_ : 0 < len → ao = some ⟨b, off, none⟩ ∧ b < w.heap.size
  cell : ∀ i, i < len → w.cell? ⟨b, off + i, none⟩ = some (.string (T i))

end Go.Proofs.Ytekbfaafofflaaa
