/-
  A region that draws its order, walked by hand: what yields in every world of a class is taken first; a call or an alloc is carried out where it alone may come up (laws over Derived/OrdersHeld.lean).
-/
import Derived.Test.YtoijdiokomineaaDoorClass
import Derived.OrdersHeld
namespace Go.Proofs.YtoijdiokomineaaDoor
open Go.RowKit
set_option linter.unusedVariables false

/-- 'wpAnyH', behind a name that nothing unfolds. -/
def AW (P : Program) (ops : Array Oper) (Q : Exit → Act → World → Prop) (S : World → Prop) (fuel : Nat) (listed : Array Bool) (a : Act) (w : World) : Prop := wpAnyH P .any ops Q S fuel listed a w

section
variable {P : Program} {l : List Oper} {ops : Array Oper} {Q : Exit → Act → World → Prop} {S : World → Prop} {fuel : Nat} {listed : Array Bool} {a : Act} {w : World}
theorem aw_begin {id : Nat} (S : World → Prop) (n : Nat) (hn : l.toArray.size = n) (hm : P.follows .mixedOrders = true) (h : AW P l.toArray Q S n (Array.replicate n false) a w.drew) : (Code.region id l.toArray true).wp P Q a w := by
  subst hn
  exact wp_region_held (S := S) hm h
theorem aw_take (i : Nat) {oi : Oper} {v : Value} (hS : S w) (hi : l[i]? = some oi) (hs : Region.noSelect l.toArray = true) (hf : Region.free .any l.toArray listed i = true) (hr : (Region.ready .any l.toArray listed).contains i = true)
    (hQ : ∀ c a w, Q (.panic c) (a.put oi.dst v) w → Q (.panic c) a w) (hy : YieldsIf P l.toArray S oi v a)
    (h : AW P l.toArray Q S fuel (listed.setIfInBounds i true) (a.put oi.dst v) w) : AW P l.toArray Q S (fuel + 1) listed a w :=
  wpAnyH_take (by rw [List.getElem?_toArray]; exact hi) hs hf hr hQ hy hS h
theorem y_skip {o : Oper} (hw : Region.wanted o (yielded ops a.tmps) = false) : YieldsIf P ops S o undef a := Or.inr ⟨hw, rfl⟩
theorem y_run {o : Oper} {v : Value} (hw : Region.wanted o (yielded ops a.tmps) = true) (h : ∀ w, S w → (execOp a.eval o).run P w = .ok (.value v) w) : YieldsIf P ops S o v a := Or.inl ⟨hw, h⟩
theorem y_load {o : Oper} (hw : Region.wanted o (yielded ops a.tmps) = true) (ty : TypeId) (x : Operand) (ho : o.op = .load ty x) (g : Nat) (hx : a.eval x = .pointer (some ⟨g, 0, none⟩))
    {k : IntKind} {f : Nat → Int} {n : Nat} (hC : ∀ w, S w → w.rangeAt g 0 (numsL k f n)) {e : TypeId} (hu : P.underlying ty = some (.array n e)) (hi : (P.info? ty).map (·.size) = some n) : YieldsIf P ops S o (.agg (nums k f n)) a := by
  refine y_run hw fun w hc => ?_
  have hl := run_loadVar_mid (P := P) w g 0 ty (numsL k f n) _ (hC w hc) hu rfl (by rw [hi]; simp [numsL])
  unfold execOp
  simp only [ho, hx, Instr.loadAt, Instr.sureAddr, Sem.run_bind, Sem.run_pure, Result.andThen_ok, hl, numsL_toArray]
theorem aw_call (i : Nat) {o : Oper} (hr : Region.ready .any l.toArray listed = [i]) (hi : l[i]? = some o) (hw : Region.wanted o (yielded l.toArray a.tmps) = true) (f : FuncId) {args : Array Value} (h0 : (execOp a.eval o).run P w = .ok (.enter f args) w) {v : Value} {C : World → Prop}
    (hc : Calls P f args w (fun e w' => e = .returned v ∧ C w')) (h : ∀ w', C w' → S w' ∧ AW P l.toArray Q S fuel (listed.setIfInBounds i true) (a.put o.dst v) w') : AW P l.toArray Q S (fuel + 1) listed a w := by
  refine wpAnyH_all hr (by simp) fun j hj => ?_
  obtain rfl := List.mem_singleton.1 hj
  unfold wpOp
  rw [List.getElem?_toArray, hi]
  show if Region.wanted o (yielded l.toArray a.tmps) = true then _ else _
  rw [if_pos hw]
  left
  unfold Oper.wp
  rw [h0, Oper.upon_enter]
  refine hc.mono ?_
  rintro e w' ⟨rfl, hC⟩
  exact h w' hC
theorem aw_run (i : Nat) {o : Oper} (hr : Region.ready .any l.toArray listed = [i]) (hi : l[i]? = some o) (hw : Region.wanted o (yielded l.toArray a.tmps) = true) {v : Value} {w' : World} (h0 : (execOp a.eval o).run P w = .ok (.value v) w')
    (h : S w' ∧ AW P l.toArray Q S fuel (listed.setIfInBounds i true) (a.put o.dst v) w') : AW P l.toArray Q S (fuel + 1) listed a w := by
  refine wpAnyH_all hr (by simp) fun j hj => ?_
  obtain rfl := List.mem_singleton.1 hj
  unfold wpOp
  rw [List.getElem?_toArray, hi]
  show if Region.wanted o (yielded l.toArray a.tmps) = true then _ else _
  rw [if_pos hw]
  left
  unfold Oper.wp
  rw [h0, Oper.upon_value]
  exact h
theorem aw_done (hr : Region.ready .any ops listed = []) (h : Q .normal a w) : AW P ops Q S fuel listed a w := wpAnyH_done hr h fuel
end
attribute [irreducible] AW
end Go.Proofs.YtoijdiokomineaaDoor
