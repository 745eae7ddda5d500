/-
  Two arrays of numbers held against each other; a whole array as a range of cells; what calls leave of such ranges.
-/
import Derived.Test.YtoijdiokomineaaDoorWord
import Derived.Deep.RegionHeld3
namespace Go.Proofs.YtoijdiokomineaaDoor
open Go.RowKit
set_option linter.unusedVariables false

/-- Are n numbers alike from i on? -/
def sameF (A B : Nat → Int) : Nat → Nat → Bool
  | 0, _ => true
  | n + 1, i => if A i = B i then sameF A B n (i + 1) else false

theorem sameF_iff (A B : Nat → Int) (n i : Nat) : sameF A B n i = true ↔ ∀ j, i ≤ j → j < i + n → A j = B j := by
  induction n generalizing i with
  | zero => simp [sameF]; intro j h1 h2; omega
  | succ n ih =>
    unfold sameF
    by_cases e : A i = B i
    · rw [if_pos e, ih (i+1)]
      constructor
      · intro h j h1 h2
        by_cases e2 : j = i
        · subst e2; exact e
        · exact h j (by omega) (by omega)
      · intro h j h1 h2; exact h j (by omega) (by omega)
    · rw [if_neg e]
      constructor
      · intro h; cases h
      · intro h; exact absurd (h i (Nat.le_refl _) (by omega)) e

theorem run_part_nums {P : Program} (e : TypeId) (n : Nat) (k : IntKind) (f : Nat → Int) (i : Nat) (hi : i < n) (he : P.underlying e = some (.int k)) (w : World) :
    (Go.part e (nums k f n) i).run P w = .ok (.int k (f i)) w := by
  have hg := nums_get k f n i hi
  simp [Go.part, isAgg, run_underlying he, hg]

theorem run_equalIn_nums' {P : Program} (d : Nat) (t e : TypeId) (n : Nat) (k : IntKind) (f g : Nat → Int) (h : P.underlying t = some (.array n e)) (he : P.underlying e = some (.int k))
    (hs : (P.info? e).map (·.size) = some 1) (hint : ∀ (a b : Int) (w : World), (Op.equalIn d e (.int k a) (.int k b)).run P w = .ok (a == b) w) (w : World) :
    (Op.equalIn (d + 1) t (.agg (nums k f n)) (.agg (nums k g n))).run P w = .ok (sameF f g n 0) w := by
  have hz : (sizeOf e).run P w = .ok 1 w := by
    cases hq : P.info? e with
    | none => simp [hq] at hs
    | some x =>
      have : x.size = 1 := by simpa [hq] using hs
      simp [sizeOf, typeInfo, hq, this]
  have key : ∀ m i, i + m = n → (do
      let r ← forIn (List.range' i m) ((none, ()) : Option Bool × Unit) (fun i _ => do
        let a ← Go.part e (nums k f n) (i * 1)
        let b ← Go.part e (nums k g n) (i * 1)
        let c ← Op.equalIn d e a b
        if (!c) = true then pure (ForInStep.done (some false, ())) else pure (ForInStep.yield (none, ())) : Nat → Option Bool × Unit → Sem (ForInStep (Option Bool × Unit)))
      match r.fst with
      | some x => pure x
      | none => pure true : Sem Bool).run P w = .ok (sameF f g m i) w := by
    intro m
    induction m with
    | zero => intro i hi; simp [sameF]
    | succ m ih =>
      intro i hi
      have ih' := ih (i + 1) (by omega)
      simp only [List.range'_succ, List.forIn_cons, Sem.run_bind, Nat.mul_one, run_part_nums e n k f i (by omega) he, run_part_nums e n k g i (by omega) he, Result.andThen_ok, hint]
      unfold sameF
      by_cases hfg : f i = g i
      · simp only [hfg, beq_self_eq_true, Bool.not_true, Bool.false_eq_true, if_false, Sem.run_pure, Result.andThen_ok, if_true]
        simpa only [Sem.run_bind, Nat.mul_one] using ih'
      · have : (f i == g i) = false := by rw [beq_eq_false_iff_ne]; exact hfg
        simp [this, hfg]
  have := key n 0 (by omega)
  simp only [Op.equalIn, Sem.run_bind, run_underlying h, Result.andThen_ok, hz, Std.Legacy.Range.forIn_eq_forIn_range', Std.Legacy.Range.size, Nat.sub_zero, Nat.add_sub_cancel, Nat.div_one]
  simp only [Sem.run_bind] at this
  refine Eq.trans ?_ this
  congr 1
  funext a w'
  obtain ⟨_ | x, u⟩ := a <;> rfl

theorem run_eql_nums {P : Program} (t e : TypeId) (n : Nat) (k : IntKind) (f g : Nat → Int) (h : P.underlying t = some (.array n e)) (he : P.underlying e = some (.int k))
    (hs : (P.info? e).map (·.size) = some 1) (w : World) :
    (binOp .eql t (.agg (nums k f n)) (.agg (nums k g n))).run P w = .ok (.bool (sameF f g n 0)) w := by
  rw [run_eql_struct, run_equalIn_nums' 9999 t e n k f g h he hs (fun a b w => run_equalIn_int w 9998 e k k a b he) w]
  rfl
/-- The cells of a row of numbers, as a list. -/
def numsL (k : IntKind) (f : Nat → Int) (n : Nat) : List Value := (List.range n).map fun j => Value.int k (f j)
theorem numsL_toArray (k : IntKind) (f : Nat → Int) (n : Nat) : (numsL k f n).toArray = nums k f n := rfl
theorem range_nums {w : World} {b t n : Nat} {fr : Nat × Nat} {k : IntKind} {f : Nat → Int} (h : w.heap[b]? = some (.cells (nums k f n) t fr)) : w.rangeAt b 0 (numsL k f n) := by
  intro j v hv
  have hj : j < n := by
    have := (List.getElem?_eq_some_iff.1 hv).1
    simpa [numsL] using this
  rw [Nat.zero_add, nums_cell h j hj, ← hv]
  simp [numsL, hj]
theorem range_below {w w1 : World} {b o : Nat} {cs : List Value} (h : w.rangeAt b o cs) (hb : Below w.heap.size w w1) : w1.rangeAt b o cs := fun j v hv => by
  rw [hb.cell (p := ⟨b, o + j, none⟩) (World.block_lt_of_cell? w _ (h j v hv))]
  exact h j v hv
theorem inf25L (K : Nat → Int) : (Tryd.prog.info? 25).map (·.size) = some (numsL .u8 K 32).length := by
  rw [show (numsL .u8 K 32).length = 32 by simp [numsL]]; exact inf25

end Go.Proofs.YtoijdiokomineaaDoor
