/-
  A slice of pieces (structs of four cells) that the call itself gathers.
-/
import Derived.Test.YtkfjkipffklblaaPatch
namespace Go.Proofs.Ytkfjkipffklblaa
open Go.RowKit
set_option linter.unusedVariables false

def Q.cells (q : Q) : List Value := [.bool q.cp, .int .i64 q.at_, .string q.tx, .int .i64 q.ln]
def OwnQ (w : World) (B : Nat) (ao : Option Addr) (cap : Nat) (L : List Q) : Prop := w.ownsRow B 26 4 (.slice ao L.length cap) L.length (L.flatMap Q.cells)
theorem info26 : (Try.prog.info? 26).map (fun i => (i.zero, i.size, i.bytes)) = some (some (.agg #[.bool false, .int .i64 0, .string { data := #[] }, .int .i64 0]), 4, 40) := by kernel_rfl
theorem und23 : Try.prog.underlying 23 = some (.slice 26) := by kernel_rfl
theorem OwnQ.nil (w : World) (B : Nat) : OwnQ w B none 0 [] := World.ownsRow_nil w B 26 4
theorem OwnQ.alloc {w : World} {B : Nat} {ao : Option Addr} {cap : Nat} {L : List Q} (h : OwnQ w B ao cap L) (o : Obj) : OwnQ (w.alloc o) B ao cap L := World.ownsRow.alloc h o
theorem OwnQ.above {w : World} {B : Nat} {ao : Option Addr} {cap : Nat} {L : List Q} (h : OwnQ w B ao cap L) : ∀ b, ownB ao = some b → B ≤ b := fun b hb =>
  (World.ownsRow.lt h b (by rw [own_ownB]; exact hb)).1
theorem OwnQ.below {w w' : World} {B : Nat} {ao : Option Addr} {cap : Nat} {L : List Q} (h : OwnQ w B ao cap L) (hb : Below w.heap.size w w') : OwnQ w' B ao cap L := by
  refine World.ownsRow.kept (row := none) h ⟨hb.os, hb.tape, hb.output, hb.size, fun k hk _ => hb.block k hk⟩ ?_
  cases hv : (Value.slice ao L.length cap).ownBlock <;> simp
theorem below_ownQ {B0 B : Nat} {w0 w w' : World} {ao : Option Addr} {cap : Nat} {L : List Q} (hb : Below B0 w0 w) (h : OwnQ w B ao cap L) (hg : w.grownBy w' (ownB ao)) (hB : B0 ≤ B) (hw : B0 ≤ w.heap.size) : Below B0 w0 w' :=
  hb.grown hg hw fun b e => Nat.le_trans hB (h.above b e)
theorem cells_get (L : List Q) (i f : Nat) (hi : i < L.length) (hf : f < 4) : (L.flatMap Q.cells)[i * 4 + f]? = (L[i]'hi).cells[f]? := by
  induction L generalizing i with
  | nil => simp at hi
  | cons q L ih =>
    rw [List.flatMap_cons]
    cases i with
    | zero =>
      rw [List.getElem?_append_left (by show 0 * 4 + f < 4; omega)]
      simp
    | succ k =>
      rw [List.getElem?_append_right (by show 4 ≤ (k + 1) * 4 + f; omega)]
      rw [show (k + 1) * 4 + f - q.cells.length = k * 4 + f by show (k + 1) * 4 + f - 4 = _; omega, ih k (by simpa using hi)]
      rfl
theorem OwnQ.arg {w : World} {B : Nat} {ao : Option Addr} {cap : Nat} {L : List Q} (h : OwnQ w B ao cap L) (d : Q) : ∃ b, QArg w ao b 0 L.length (fun i => L.getD i d) := by
  by_cases hz : 0 < L.length
  · obtain ⟨g, c, e⟩ := Joins.ownsRow_form h hz
    simp only [Value.slice.injEq] at e
    obtain ⟨rfl, _, rfl⟩ := e
    have hlt := World.ownsRow.lt h g rfl
    have key : ∀ i, i < L.length → ∀ f, f < 4 → ∀ v, (L.getD i d).cells[f]? = some v → w.cell? ⟨g, i * 4 + f, none⟩ = some v := by
      intro i hi f hf v hv
      have := World.ownsRow.cells h (g := g) rfl (i * 4 + f) v (by rw [cells_get L i f hi hf, ← hv, List.getD_eq_getElem?_getD, List.getElem?_eq_getElem hi]; rfl)
      rwa [Addr.add_lit, Nat.zero_add] at this
    exact ⟨g, fun _ => ⟨rfl, hlt.2⟩, fun i hi => by rw [Nat.zero_add]; exact key i hi 0 (by decide) _ rfl, fun i hi => by rw [Nat.zero_add]; exact key i hi 1 (by decide) _ rfl, fun i hi => by rw [Nat.zero_add]; exact key i hi 2 (by decide) _ rfl, fun i hi => by rw [Nat.zero_add]; exact key i hi 3 (by decide) _ rfl⟩
  · exact ⟨0, fun h => absurd h hz, fun i hi => absurd hi (by omega), fun i hi => absurd hi (by omega), fun i hi => absurd hi (by omega), fun i hi => absurd hi (by omega)⟩

theorem wpList_ownQ_append1 {ops : Array Oper} {rest : List Oper} {o : Oper} {a : Act} {w : World} {K : Exit → Act → World → Prop} (hgd : o.guard = none) (s x : Operand)
    (ho : o.op = .call { callee := .builtin .append, args := #[s, x], argTypes := #[23, 23] })
    {B : Nat} {ao : Option Addr} {n cap : Nat} {L : List Q} (hown : OwnQ w B ao cap L) (hs : a.eval s = .slice ao n cap) (hn : n = L.length) (g c : Nat) (q : Q) (hx : a.eval x = .slice (some ⟨g, 0, none⟩) 1 c)
    (hc : ∀ f v, q.cells[f]? = some v → w.cell? ⟨g, f, none⟩ = some v) (hl : L.length ≤ 1048576) (hB : B ≤ w.heap.size)
    (h : ∀ ao' cap' w', OwnQ w' B ao' cap' (L ++ [q]) → w.grownBy w' (ownB ao) → wpList Try.prog ops K rest (a.put o.dst (.slice ao' (n + 1) cap')) w') : wpList Try.prog ops K (o :: rest) a w := by
  subst hn
  obtain ⟨i, h0, h1, h2, h3⟩ := info_parts info26
  refine wpList_append_own w hgd s x 23 ho B 26 i _ 4 40 und23 h0 h1 h2 h3 rfl (by decide) _ L.length _ hs hown ⟨g, 0, none⟩ 1 c q.cells hx rfl (fun j u hj => ?_) (fun u hu => ?_) (by unfold maxLen; omega) (by omega) hB ?_
  · rw [Addr.add_lit, Nat.zero_add]; exact hc j u hj
  · simp [Q.cells] at hu
    rcases hu with rfl | rfl | rfl | rfl <;> rfl
  · intro v' w' hown' hg _
    obtain ⟨g', cap', rfl⟩ := Joins.ownsRow_form hown' (by omega)
    refine h _ _ w' ?_ (by rw [← own_ownB]; exact hg)
    unfold OwnQ
    rw [List.length_append, List.flatMap_append]
    simpa using hown'
end Go.Proofs.Ytkfjkipffklblaa
