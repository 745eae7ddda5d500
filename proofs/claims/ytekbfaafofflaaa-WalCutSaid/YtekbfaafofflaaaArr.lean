/-
  Arrays of numbers as the model's cells hold them: 'nums k f n' is a row of n numbers f 0, .., f (n-1) of the kind k. Plain facts, no program.
-/
import Derived.WalkKit
import Derived.Laws.Rows
import Derived.Deep.QuietTactic
namespace Go.Proofs.Ytekbfaafofflaaa
open Go.RowKit
set_option linter.unusedVariables false

def nums (k : IntKind) (f : Nat → Int) (n : Nat) : Array Value := ((List.range n).map fun j => Value.int k (f j)).toArray

theorem nums_size (k : IntKind) (f : Nat → Int) (n : Nat) : (nums k f n).size = n := by simp [nums]

theorem nums_get (k : IntKind) (f : Nat → Int) (n j : Nat) (h : j < n) : (nums k f n)[j]? = some (Value.int k (f j)) := by
  simp [nums, h]

theorem nums_congr (k : IntKind) (f g : Nat → Int) (n : Nat) (h : ∀ j, j < n → f j = g j) : nums k f n = nums k g n := by
  unfold nums
  congr 1
  refine List.map_congr_left fun j hj => ?_
  rw [h j (by simpa using hj)]

theorem nums_set (k : IntKind) (f : Nat → Int) (n i : Nat) (v : Int) : (nums k f n).setIfInBounds i (.int k v) = nums k (fun j => if j = i then v else f j) n := by
  apply Array.ext
  · simp [nums_size]
  · intro j h1 h2
    have hj : j < n := by simpa [nums_size] using h2
    have e1 := nums_get k (fun j => if j = i then v else f j) n j hj
    have e0 := nums_get k f n j hj
    rw [Array.getElem?_eq_getElem h2] at e1
    rw [Array.getElem?_eq_getElem (by rw [nums_size]; exact hj)] at e0
    rw [Array.getElem_setIfInBounds (by rw [nums_size]; exact hj)]
    simp only [Option.some.injEq] at e0 e1
    rw [e0, e1]
    by_cases h : i = j
    · simp [h]
    · simp [h, Ne.symm h]

theorem nums_one (k : IntKind) (f : Nat → Int) (n : Nat) : (nums k f n).all (·.oneCell') = true := by
  rw [Array.all_eq_true]
  intro i hi
  have hj : i < n := by simpa [nums_size] using hi
  have e0 := nums_get k f n i hj
  rw [Array.getElem?_eq_getElem hi] at e0
  simp only [Option.some.injEq] at e0
  rw [e0]; rfl

theorem nums_cell {w : World} {b t n : Nat} {fr : Nat × Nat} {k : IntKind} {f : Nat → Int} (h : w.heap[b]? = some (.cells (nums k f n) t fr)) (j : Nat) (hj : j < n) :
    w.cell? ⟨b, j, none⟩ = some (.int k (f j)) := by
  rw [cell_of_row w b j _ t fr h, nums_get k f n j hj]

/-- A store into such a row. -/
theorem nums_store {w : World} {b t n : Nat} {k : IntKind} {f : Nat → Int} (h : w.heap[b]? = some (.cells (nums k f n) t (0, 0))) (i : Nat) (v : Int) :
    (w.setCell ⟨b, i, none⟩ (.int k v)).heap[b]? = some (.cells (nums k (fun j => if j = i then v else f j) n) t (0, 0)) := by
  rw [heap_setCell_same w b i _ t _ h, nums_set]

/-- The operation that stands next: a guard for an arm. -/
theorem at_op {P : Program} {ops : Array Oper} {rest : List Oper} {o : Oper} {a : Act} {w : World} {Q : Exit → Act → World → Prop} (X : Op) (_ : o.op = X) (h : wpList P ops Q (o :: rest) a w) : wpList P ops Q (o :: rest) a w := h
/-- A whole array of numbers is read out of a variable. -/
theorem load_nums {P : Program} {ops : Array Oper} {rest : List Oper} {o : Oper} {a : Act} {w : World} {Q : Exit → Act → World → Prop} (hgd : o.guard = none) (ty : TypeId) (x : Operand) (ho : o.op = .load ty x)
    (g : Nat) (hx : a.eval x = .pointer (some ⟨g, 0, none⟩)) {t : TypeId} {k : IntKind} {f : Nat → Int} {n : Nat} {fr : Nat × Nat} (hg : w.heap[g]? = some (.cells (nums k f n) t fr))
    {e : TypeId} (hu : P.underlying ty = some (.array n e)) (hi : (P.info? ty).map (·.size) = some n)
    (h : wpList P ops Q rest (a.put o.dst (.agg (nums k f n))) w) : wpList P ops Q (o :: rest) a w :=
  wpList_load_row hgd ty x ho g hx t _ fr _ hg hu rfl (by rw [nums_size]; exact hi) h
/-- A whole array of numbers is written into a variable that holds one. -/
theorem store_nums {P : Program} {ops : Array Oper} {rest : List Oper} {o : Oper} {a : Act} {w : World} {Q : Exit → Act → World → Prop} (hgd : o.guard = none) (ty : TypeId) (x y : Operand) (ho : o.op = .store ty x y)
    (g : Nat) {k k' : IntKind} {f f' : Nat → Int} {n : Nat} (hx : a.eval x = .pointer (some ⟨g, 0, none⟩)) (hy : a.eval y = .agg (nums k f n))
    {t : TypeId} (hg : w.heap[g]? = some (.cells (nums k' f' n) t (0, 0))) (hi : (P.info? ty).map (·.size) = some n)
    (h : wpList P ops Q rest (a.put o.dst undef) (w.setRow g (nums k f n))) : wpList P ops Q (o :: rest) a w :=
  wpList_store_row hgd ty x y ho g _ hx hy t _ hg (by rw [nums_size]; exact hi) (by rw [nums_size, nums_size]) (nums_one _ _ _) h

/-- An element of an array of numbers that is held by value. -/
theorem run_index_nums {P : Program} (t e : TypeId) (n : Nat) (k : IntKind) (f : Nat → Int) (ik : IntKind) (i : Nat) (hi : i < n) (h : P.underlying t = some (.array n e)) (he : P.underlying e = some (.int k))
    (hs : (P.info? e).map (·.size) = some 1) (w : World) :
    (Instr.index t (.agg (nums k f n)) (.int ik (i : Int))).run P w = .ok (.int k (f i)) w := by
  have hn : (0 : Int) ≤ (i : Int) ∧ (i : Int) < (n : Int) := by omega
  have hg := nums_get k f n i hi
  cases hq : P.info? e with
  | none => simp [hq] at hs
  | some d =>
    have hd : d.size = 1 := by simpa [hq] using hs
    simp [Instr.index, run_underlying h, run_underlying he, asIntOf, hi, go_sem, part, isAgg, sizeOf, typeInfo, hq, hd, hg]

theorem quiet_add_left {P : Program} {f : FuncId} {args : Array Value} {w : World} {a n : Nat} {v : Value}
    (h : Calls P f args (w.drewN (a + n)) fun e w' => e = .returned v ∧ w.drewN (a + n) = w') :
    Calls P f args (w.drewN (a + n)) fun e w'' => e = .returned v ∧ ∃ m, w'' = w.drewN (a + m) :=
  h.mono fun _ _ ⟨he, hm⟩ => ⟨he, n, hm.symm⟩
theorem quiet_left {P : Program} {f : FuncId} {args : Array Value} {w : World} {n : Nat} {v : Value}
    (h : Calls P f args (w.drewN n) fun e w' => e = .returned v ∧ w.drewN n = w') : Calls P f args (w.drewN n) fun e w'' => e = .returned v ∧ ∃ m, w'' = w.drewN m :=
  h.mono fun _ _ ⟨he, hm⟩ => ⟨he, n, hm.symm⟩
theorem below_drewN {B : Nat} {a w : World} (h : Below B a w) (n : Nat) : Below B a (w.drewN n) := ⟨h.os, h.tape, h.output, h.size, h.block⟩

end Go.Proofs.Ytekbfaafofflaaa
