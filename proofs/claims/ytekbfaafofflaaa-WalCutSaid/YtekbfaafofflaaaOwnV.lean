/-
  A slice of one-cell values that the call itself gathers: what it holds, what an append of one leaves. Plain laws over the kit's own; no program.
-/
import Derived.Test.YtekbfaafofflaaaOwn
namespace Go.Proofs.Ytekbfaafofflaaa
open Go.RowKit
set_option linter.unusedVariables false

/-- The slice with this address and this capacity holds the values L, in a block of its own. -/
def OwnV (w : World) (B : Nat) (e : TypeId) (ao : Option Addr) (cap : Nat) (L : List Value) : Prop :=
  w.ownsRow B e 1 (.slice ao L.length cap) L.length L
theorem OwnV.nil (w : World) (B : Nat) (e : TypeId) : OwnV w B e none 0 [] := World.ownsRow_nil w B e 1
theorem OwnV.alloc {w : World} {B : Nat} {e : TypeId} {ao : Option Addr} {cap : Nat} {L : List Value} (h : OwnV w B e ao cap L) (o : Obj) : OwnV (w.alloc o) B e ao cap L := World.ownsRow.alloc h o
theorem OwnV.drewN {w : World} {B : Nat} {e : TypeId} {ao : Option Addr} {cap : Nat} {L : List Value} (h : OwnV w B e ao cap L) (n : Nat) : OwnV (w.drewN n) B e ao cap L := h
theorem OwnV.above {w : World} {B : Nat} {e : TypeId} {ao : Option Addr} {cap : Nat} {L : List Value} (h : OwnV w B e ao cap L) : ∀ b, ownB ao = some b → B ≤ b := fun b hb =>
  (World.ownsRow.lt h b (by rw [own_ownB]; exact hb)).1
theorem OwnV.headAt {w : World} {B : Nat} {e : TypeId} {ao : Option Addr} {cap : Nat} {L : List Value} (h : OwnV w B e ao cap L) (hL : 0 < L.length) : ∃ g, ao = some ⟨g, 0, none⟩ ∧ B ≤ g ∧ g < w.heap.size := by
  obtain ⟨g, c, e⟩ := Joins.ownsRow_form h hL
  simp only [Value.slice.injEq] at e
  obtain ⟨rfl, _, rfl⟩ := e
  have := World.ownsRow.lt h g rfl
  exact ⟨g, rfl, this.1, this.2⟩
theorem OwnV.cell {w : World} {B : Nat} {e : TypeId} {g : Nat} {cap : Nat} {L : List Value} (h : OwnV w B e (some ⟨g, 0, none⟩) cap L) (j : Nat) (v : Value) (hj : L[j]? = some v) : w.cell? ⟨g, j, none⟩ = some v := by
  have := World.ownsRow.cells h (g := g) rfl j v hj
  rwa [Addr.add_lit, Nat.zero_add] at this
theorem OwnV.below {w w' : World} {B : Nat} {e : TypeId} {ao : Option Addr} {cap : Nat} {L : List Value} (h : OwnV w B e ao cap L) (hb : Below w.heap.size w w') : OwnV w' B e ao cap L := by
  refine World.ownsRow.kept (row := none) h ⟨hb.os, hb.tape, hb.output, hb.size, fun k hk _ => hb.block k hk⟩ ?_
  cases hv : (Value.slice ao L.length cap).ownBlock <;> simp
theorem below_ownV {B0 B : Nat} {w0 w w' : World} {e : TypeId} {ao : Option Addr} {cap : Nat} {L : List Value} (hb : Below B0 w0 w) (h : OwnV w B e ao cap L) (hg : w.grownBy w' (ownB ao)) (hB : B0 ≤ B) (hw : B0 ≤ w.heap.size) : Below B0 w0 w' :=
  hb.grown hg hw fun b e => Nat.le_trans hB (h.above b e)

section
variable {P : Program}
theorem run_ownV_append1 (w : World) (t e ty : TypeId) (z : Value) (bytes : Nat) (ht : P.underlying t = some (.slice e)) (hi : (P.info? e).map (fun i => (i.zero, i.size, i.bytes)) = some (some z, 1, bytes)) (hz : z.cells.size = 1) (hby : 1 ≤ bytes)
    {B : Nat} {ao : Option Addr} {cap : Nat} {L : List Value} (hown : OwnV w B e ao cap L) (g c : Nat) (x : Value) (hx1 : x.oneCell' = true) (hc : w.cell? ⟨g, 0, none⟩ = some x) (hl : (L.length + 1) * bytes ≤ 140737488355328) (hB : B ≤ w.heap.size) :
    ∃ ao' cap' w', (Builtin.append_ #[t, t] ty #[.slice ao L.length cap, .slice (some ⟨g, 0, none⟩) 1 c]).run P w = .ok (.slice ao' (L.length + 1) cap') w' ∧ OwnV w' B e ao' cap' (L ++ [x]) ∧ w.grownBy w' (ownB ao) := by
  obtain ⟨i, h0, h1, h2, h3⟩ := info_parts hi
  obtain ⟨v', w', hr, ho, hg, _⟩ := run_append_own (P := P) w B t ty e i z 1 bytes ht h0 h1 h2 h3 hz (by decide) (.slice ao L.length cap) L.length L hown ⟨g, 0, none⟩ 1 c [x] rfl
    (fun j u hj => by
      match j, hj with
      | 0, hj => simp at hj; subst hj; rw [Addr.add_lit]; exact hc) (fun u hu => by simp at hu; subst hu; exact hx1) (by
      have : (L.length + 1) * 1 ≤ (L.length + 1) * bytes := Nat.mul_le_mul_left _ hby
      unfold maxLen; omega)
    hl hB
  obtain ⟨g', cap', rfl⟩ := Joins.ownsRow_form ho (by omega)
  refine ⟨_, _, _, hr, ?_, by rw [← own_ownB]; exact hg⟩
  unfold OwnV
  rw [List.length_append]
  exact ho
theorem wpList_ownV_append1 {ops : Array Oper} {rest : List Oper} {o : Oper} {a : Act} {w : World} {Q : Exit → Act → World → Prop} (hgd : o.guard = none) (s x : Operand) (t : TypeId)
    (ho : o.op = .call { callee := .builtin .append, args := #[s, x], argTypes := #[t, t] }) (e : TypeId) (z : Value) (bytes : Nat) (ht : P.underlying t = some (.slice e)) (hi : (P.info? e).map (fun i => (i.zero, i.size, i.bytes)) = some (some z, 1, bytes)) (hz : z.cells.size = 1) (hby : 1 ≤ bytes)
    {B : Nat} {ao : Option Addr} {n cap : Nat} {L : List Value} (hown : OwnV w B e ao cap L) (hs : a.eval s = .slice ao n cap) (hn : n = L.length) (g c : Nat) (y : Value) (hy1 : y.oneCell' = true) (hx : a.eval x = .slice (some ⟨g, 0, none⟩) 1 c) (hc : w.cell? ⟨g, 0, none⟩ = some y) (hl : (L.length + 1) * bytes ≤ 140737488355328) (hB : B ≤ w.heap.size)
    (h : ∀ ao' cap' w', OwnV w' B e ao' cap' (L ++ [y]) → w.grownBy w' (ownB ao) → wpList P ops Q rest (a.put o.dst (.slice ao' (n + 1) cap')) w') : wpList P ops Q (o :: rest) a w := by
  subst hn
  refine wpList_plain hgd fun K hK => ?_
  obtain ⟨ao', cap', w', hr, h2, h3⟩ := run_ownV_append1 (P := P) w t e o.type z bytes ht hi hz hby hown g c y hy1 hc hl hB
  unfold Oper.wp execOp
  simp only [ho, resolve, invoke, builtin, Sem.run_bind, Sem.run_pure, Result.andThen_ok, List.map_toArray, List.map_cons, List.map_nil, hs, hx, hr]
  exact hK _ _ (h ao' cap' w' h2 h3)
end
end Go.Proofs.Ytekbfaafofflaaa
