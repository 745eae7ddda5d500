/-
  Regions that draw their order, in a class of worlds: steps of the lexical walk (Derived/Deep/Quiet.lean): an operation that leaves the world, a whole array's load, a call that leaves a world of the class.
-/
import Derived.Test.YtekbfaafofflaaaBack
import Derived.Deep.Quiet
namespace Go.Proofs.Ytekbfaafofflaaa
open Go.RowKit
set_option linter.unusedVariables false

/-- 'wpQuiet', behind a name that nothing unfolds: else a look at the goal walks the whole region. -/
def QW (P : Program) (ops : Array Oper) (C : World → Prop) (Q : Act → Prop) (l : List Oper) (a : Act) : Prop := wpQuiet P ops C Q l a

section
variable {P : Program} {ops : Array Oper} {C : World → Prop} {Q : Act → Prop} {a : Act} {o : Oper} {rest : List Oper}

theorem q_skip (hw : Region.wanted o (yielded ops a.tmps) = false) (h : QW P ops C Q rest (a.put o.dst undef)) : QW P ops C Q (o :: rest) a := by
  unfold QW wpQuiet
  rw [if_neg (by rw [hw]; simp)]
  exact h
theorem q_run (hw : Region.wanted o (yielded ops a.tmps) = true) {v : Value} (h1 : ∀ w, (execOp a.eval o).run P w = .ok (.value v) w) (h : QW P ops C Q rest (a.put o.dst v)) : QW P ops C Q (o :: rest) a := by
  unfold QW wpQuiet
  rw [if_pos hw]
  refine ⟨v, fun w _ => ?_, h⟩
  unfold Oper.quietAt
  rw [h1 w]
  exact ⟨rfl, rfl⟩
theorem q_runC (hw : Region.wanted o (yielded ops a.tmps) = true) {v : Value} (h1 : ∀ w, C w → (execOp a.eval o).run P w = .ok (.value v) w) (h : QW P ops C Q rest (a.put o.dst v)) : QW P ops C Q (o :: rest) a := by
  unfold QW wpQuiet
  rw [if_pos hw]
  refine ⟨v, fun w hc => ?_, h⟩
  unfold Oper.quietAt
  rw [h1 w hc]
  exact ⟨rfl, rfl⟩
theorem q_step (hw : Region.wanted o (yielded ops a.tmps) = true) (h : ∃ v, (∀ w, (execOp a.eval o).run P w = .ok (.value v) w) ∧ QW P ops C Q rest (a.put o.dst v)) : QW P ops C Q (o :: rest) a := by
  obtain ⟨v, h1, h2⟩ := h
  exact q_run hw h1 h2
theorem q_call (hw : Region.wanted o (yielded ops a.tmps) = true) (f : FuncId) {args : Array Value} (h0 : ∀ w, (execOp a.eval o).run P w = .ok (.enter f args) w) {v : Value}
    (h1 : ∀ w, C w → Calls P f args w (fun e w'' => e = .returned v ∧ C w'')) (h : QW P ops C Q rest (a.put o.dst v)) : QW P ops C Q (o :: rest) a := by
  unfold QW wpQuiet
  rw [if_pos hw]
  refine ⟨v, fun w hc => ?_, h⟩
  unfold Oper.quietAt
  rw [h0 w]
  exact ⟨rfl, h1 w hc⟩
theorem q_enter (hw : Region.wanted o (yielded ops a.tmps) = true) (f : FuncId) (args : Array Value) (h0 : ∀ w, (execOp a.eval o).run P w = .ok (.enter f args) w) (v : Value)
    (h1 : ∀ w, C w → Calls P f args w (fun e w'' => e = .returned v ∧ C w'')) (h : QW P ops C Q rest (a.put o.dst v)) : QW P ops C Q (o :: rest) a := q_call hw f h0 h1 h
theorem q_callX (hw : Region.wanted o (yielded ops a.tmps) = true) (f : FuncId) (h : ∃ args, (∀ w, (execOp a.eval o).run P w = .ok (.enter f args) w) ∧ ∃ v, (∀ w, C w → Calls P f args w (fun e w'' => e = .returned v ∧ C w'')) ∧ QW P ops C Q rest (a.put o.dst v)) :
    QW P ops C Q (o :: rest) a := by
  obtain ⟨args, h0, v, h1, h2⟩ := h
  exact q_call hw f h0 h1 h2
theorem q_nil (h : Q a) : QW P ops C Q [] a := h
/-- The region, in a class that a draw does not leave. -/
theorem wp_region_class (C : World → Prop) {id : Nat} {Q : Exit → Act → World → Prop} {a : Act} {w : World} {l : List Oper} (hm : P.follows .mixedOrders = true) (hB : Region.lexB .any l.toArray = true) (hC : C w.drew)
    (h : QW P l.toArray C (fun a' => ∀ w', C w' → Q .normal a' w') l a) : (Code.region id l.toArray true).wp P Q a w :=
  wp_region_quiet hm hB hC (by simpa [QW] using h)
end
attribute [irreducible] QW

end Go.Proofs.Ytekbfaafofflaaa
