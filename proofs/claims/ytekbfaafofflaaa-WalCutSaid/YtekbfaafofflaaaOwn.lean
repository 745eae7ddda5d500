/-
  A slice of numbers that the call itself gathers: what it holds, what an append leaves. Plain laws over the kit's own; no program.
-/
import Derived.Test.YtekbfaafofflaaaArr
import Derived.Laws.AppendOwn
import Derived.OwnWalk
import Derived.Lib.SmallJoins
import Derived.Lib.AppendStr
namespace Go.Proofs.Ytekbfaafofflaaa
open Go.RowKit
set_option linter.unusedVariables false

/-- The slice with this address and this capacity holds the numbers L, in a block of its own. -/
def Own (w : World) (B : Nat) (e : TypeId) (k : IntKind) (ao : Option Addr) (cap : Nat) (L : List Int) : Prop :=
  w.ownsRow B e 1 (.slice ao L.length cap) L.length (L.map (Value.int k))
def ownB (ao : Option Addr) : Option Nat := ao.map (·.block)
theorem own_ownB (ao : Option Addr) (n cap : Nat) : (Value.slice ao n cap).ownBlock = ownB ao := by cases ao <;> rfl

theorem Own.nil (w : World) (B : Nat) (e : TypeId) (k : IntKind) : Own w B e k none 0 [] := World.ownsRow_nil w B e 1
theorem Own.alloc {w : World} {B : Nat} {e : TypeId} {k : IntKind} {ao : Option Addr} {cap : Nat} {L : List Int} (h : Own w B e k ao cap L) (o : Obj) : Own (w.alloc o) B e k ao cap L := World.ownsRow.alloc h o
theorem Own.drew {w : World} {B : Nat} {e : TypeId} {k : IntKind} {ao : Option Addr} {cap : Nat} {L : List Int} (h : Own w B e k ao cap L) : Own w.drew B e k ao cap L := h
theorem Own.drewN {w : World} {B : Nat} {e : TypeId} {k : IntKind} {ao : Option Addr} {cap : Nat} {L : List Int} (h : Own w B e k ao cap L) (n : Nat) : Own (w.drewN n) B e k ao cap L := h
theorem Own.base {w : World} {B B' : Nat} {e : TypeId} {k : IntKind} {ao : Option Addr} {cap : Nat} {L : List Int} (h : Own w B e k ao cap L) (hB : B' ≤ B) : Own w B' e k ao cap L := Joins.ownsRow_le h hB
theorem Own.above {w : World} {B : Nat} {e : TypeId} {k : IntKind} {ao : Option Addr} {cap : Nat} {L : List Int} (h : Own w B e k ao cap L) : ∀ b, ownB ao = some b → B ≤ b := fun b hb =>
  (World.ownsRow.lt h b (by rw [own_ownB]; exact hb)).1
theorem Own.headAt {w : World} {B : Nat} {e : TypeId} {k : IntKind} {ao : Option Addr} {cap : Nat} {L : List Int} (h : Own w B e k ao cap L) (hL : 0 < L.length) : ∃ g, ao = some ⟨g, 0, none⟩ ∧ B ≤ g ∧ g < w.heap.size := by
  obtain ⟨g, c, e⟩ := Joins.ownsRow_form h hL
  simp only [Value.slice.injEq] at e
  obtain ⟨rfl, _, rfl⟩ := e
  have := World.ownsRow.lt h g rfl
  exact ⟨g, rfl, this.1, this.2⟩
theorem Own.cell {w : World} {B : Nat} {e : TypeId} {k : IntKind} {g : Nat} {cap : Nat} {L : List Int} (h : Own w B e k (some ⟨g, 0, none⟩) cap L) (j : Nat) (hj : j < L.length) : w.cell? ⟨g, j, none⟩ = some (.int k (L.getD j 0)) := by
  have := World.ownsRow.cells h (g := g) rfl j (.int k (L.getD j 0)) (by
    rw [List.getElem?_map, List.getElem?_eq_getElem hj, List.getD_eq_getElem?_getD, List.getElem?_eq_getElem hj]; rfl)
  rwa [Addr.add_lit, Nat.zero_add] at this
/-- Under what is laid behind, or left alone. -/
theorem Own.below {w w' : World} {B : Nat} {e : TypeId} {k : IntKind} {ao : Option Addr} {cap : Nat} {L : List Int} (h : Own w B e k ao cap L) (hb : Below w.heap.size w w') : Own w' B e k ao cap L := by
  refine World.ownsRow.kept (row := none) h ⟨hb.os, hb.tape, hb.output, hb.size, fun k hk _ => hb.block k hk⟩ ?_
  cases hv : (Value.slice ao L.length cap).ownBlock <;> simp
theorem below_own {B0 B : Nat} {w0 w w' : World} {e : TypeId} {k : IntKind} {ao : Option Addr} {cap : Nat} {L : List Int} (hb : Below B0 w0 w) (h : Own w B e k ao cap L) (hg : w.grownBy w' (ownB ao)) (hB : B0 ≤ B) (hw : B0 ≤ w.heap.size) : Below B0 w0 w' :=
  hb.grown hg hw fun b e => Nat.le_trans hB (h.above b e)

section
variable {P : Program}
/-- append(s, x). -/
theorem run_own_append1 (w : World) (t e ty : TypeId) (k : IntKind) (bytes : Nat) (ht : P.underlying t = some (.slice e)) (hi : (P.info? e).map (fun i => (i.zero, i.size, i.bytes)) = some (some (.int k 0), 1, bytes)) (hby : 1 ≤ bytes)
    {B : Nat} {ao : Option Addr} {cap : Nat} {L : List Int} (hown : Own w B e k ao cap L) (g c : Nat) (x : Int) (hc : w.cell? ⟨g, 0, none⟩ = some (.int k x)) (hl : (L.length + 1) * bytes ≤ 140737488355328) (hB : B ≤ w.heap.size) :
    ∃ ao' cap' w', (Builtin.append_ #[t, t] ty #[.slice ao L.length cap, .slice (some ⟨g, 0, none⟩) 1 c]).run P w = .ok (.slice ao' (L.length + 1) cap') w' ∧ Own w' B e k ao' cap' (L ++ [x]) ∧ w.grownBy w' (ownB ao) := by
  obtain ⟨i, h0, h1, h2, h3⟩ := info_parts hi
  obtain ⟨v', w', hr, ho, hg, _⟩ := run_append_own (P := P) w B t ty e i (.int k 0) 1 bytes ht h0 h1 h2 h3 rfl (by decide) (.slice ao L.length cap) L.length (L.map (Value.int k)) hown ⟨g, 0, none⟩ 1 c [.int k x] rfl
    (fun j u hj => by
      match j, hj with
      | 0, hj => simp at hj; subst hj; rw [Addr.add_lit]; exact hc) (fun u hu => by simp at hu; subst hu; rfl) (by
      have : (L.length + 1) * 1 ≤ (L.length + 1) * bytes := Nat.mul_le_mul_left _ hby
      unfold maxLen; omega)
    hl hB
  obtain ⟨g', cap', rfl⟩ := Joins.ownsRow_form ho (by omega)
  refine ⟨_, _, _, hr, ?_, by rw [← own_ownB]; exact hg⟩
  unfold Own
  rw [List.map_append, List.length_append]
  exact ho
theorem wpList_own_append1 {ops : Array Oper} {rest : List Oper} {o : Oper} {a : Act} {w : World} {Q : Exit → Act → World → Prop} (hgd : o.guard = none) (s x : Operand) (t : TypeId)
    (ho : o.op = .call { callee := .builtin .append, args := #[s, x], argTypes := #[t, t] }) (e : TypeId) (k : IntKind) (bytes : Nat) (ht : P.underlying t = some (.slice e)) (hi : (P.info? e).map (fun i => (i.zero, i.size, i.bytes)) = some (some (.int k 0), 1, bytes)) (hby : 1 ≤ bytes)
    {B : Nat} {ao : Option Addr} {n cap : Nat} {L : List Int} (hown : Own w B e k ao cap L) (hs : a.eval s = .slice ao n cap) (hn : n = L.length) (g c : Nat) (y : Int) (hx : a.eval x = .slice (some ⟨g, 0, none⟩) 1 c) (hc : w.cell? ⟨g, 0, none⟩ = some (.int k y)) (hl : (L.length + 1) * bytes ≤ 140737488355328) (hB : B ≤ w.heap.size)
    (h : ∀ ao' cap' w', Own w' B e k ao' cap' (L ++ [y]) → w.grownBy w' (ownB ao) → wpList P ops Q rest (a.put o.dst (.slice ao' (n + 1) cap')) w') : wpList P ops Q (o :: rest) a w := by
  subst hn
  refine wpList_plain hgd fun K hK => ?_
  obtain ⟨ao', cap', w', hr, h2, h3⟩ := run_own_append1 (P := P) w t e o.type k bytes ht hi hby hown g c y hc hl hB
  unfold Oper.wp execOp
  simp only [ho, resolve, invoke, builtin, Sem.run_bind, Sem.run_pure, Result.andThen_ok, List.map_toArray, List.map_cons, List.map_nil, hs, hx, hr]
  exact hK _ _ (h ao' cap' w' h2 h3)
/-- .. as a step of a region that draws. -/
theorem step_own_append1 {ops : Array Oper} {o : Oper} {a : Act} {w : World} {K : Act → World → Prop} {Q : Exit → Act → World → Prop} {E : Prop} (hg : o.guard = none) (s x : Operand) (t : TypeId)
    (ho : o.op = .call { callee := .builtin .append, args := #[s, x], argTypes := #[t, t] }) (e : TypeId) (k : IntKind) (bytes : Nat) (ht : P.underlying t = some (.slice e)) (hi : (P.info? e).map (fun i => (i.zero, i.size, i.bytes)) = some (some (.int k 0), 1, bytes)) (hby : 1 ≤ bytes)
    {B : Nat} {ao : Option Addr} {n cap : Nat} {L : List Int} (hown : Own w B e k ao cap L) (hs : a.eval s = .slice ao n cap) (hn : n = L.length) (g c : Nat) (y : Int) (hx : a.eval x = .slice (some ⟨g, 0, none⟩) 1 c) (hc : w.cell? ⟨g, 0, none⟩ = some (.int k y)) (hl : (L.length + 1) * bytes ≤ 140737488355328) (hB : B ≤ w.heap.size)
    (h : ∀ ao' cap' w', Own w' B e k ao' cap' (L ++ [y]) → w.grownBy w' (ownB ao) → K (a.put o.dst (.slice ao' (n + 1) cap')) w') :
    if Region.wanted o (yielded ops a.tmps) = true then Oper.wp P o a w K Q else E := by
  subst hn
  have hw : Region.wanted o (yielded ops a.tmps) = true := by simp [Region.wanted, hg]
  rw [if_pos hw]
  obtain ⟨ao', cap', w', hr, h2, h3⟩ := run_own_append1 (P := P) w t e o.type k bytes ht hi hby hown g c y hc hl hB
  unfold Oper.wp execOp
  simp only [ho, resolve, invoke, builtin, Sem.run_bind, Sem.run_pure, Result.andThen_ok, List.map_toArray, List.map_cons, List.map_nil, hs, hx, hr]
  exact h ao' cap' w' h2 h3
/-- append(s, text...). -/
theorem wpList_own_text {ops : Array Oper} {rest : List Oper} {o : Oper} {a : Act} {w : World} {Q : Exit → Act → World → Prop} (hgd : o.guard = none) (s x : Operand) (t u : TypeId)
    (ho : o.op = .call { callee := .builtin .append, args := #[s, x], argTypes := #[t, u] }) (e : TypeId) (ht : P.underlying t = some (.slice e)) (hu : P.underlying u = some .string) (hi : (P.info? e).map (fun i => (i.zero, i.size, i.bytes)) = some (some (.int .u8 0), 1, 1))
    {B : Nat} {ao : Option Addr} {n cap : Nat} {L : List Int} (hown : Own w B e .u8 ao cap L) (hs : a.eval s = .slice ao n cap) (hn : n = L.length) (tx : ByteArray) (hx : a.eval x = .string tx) (hl : L.length + tx.size < 140737488355328) (hB : B ≤ w.heap.size)
    (h : ∀ ao' cap' w', Own w' B e .u8 ao' cap' (L ++ tx.data.toList.map fun b => (b.toNat : Int)) → w.grownBy w' (ownB ao) → wpList P ops Q rest (a.put o.dst (.slice ao' (n + tx.size) cap')) w') : wpList P ops Q (o :: rest) a w := by
  subst hn
  obtain ⟨i, h0, h1, h2, h3⟩ := info_parts hi
  refine Lib.wpList_append_own_string w hgd s x t u ho B e i ht hu h0 h1 h2 h3 (.slice ao L.length cap) L.length (L.map (Value.int .u8)) hs hown tx hx (by unfold maxLen; omega) (by omega) hB ?_
  intro v' w' ho' hg' _
  have key : ∃ ao' cap', v' = .slice ao' (L.length + tx.size) cap' := by
    rcases Joins.ownsRow_forms ho' with ⟨hv, hz⟩ | ⟨g, cap', hv⟩
    · exact ⟨none, 0, by rw [hv, hz]⟩
    · exact ⟨_, _, hv⟩
  obtain ⟨ao', cap', rfl⟩ := key
  refine h ao' cap' w' ?_ (by rw [← own_ownB]; exact hg')
  unfold Own
  rw [List.map_append, List.length_append]
  have e1 : (tx.data.toList.map fun b => (b.toNat : Int)).length = tx.size := by simp
  have e2 : (tx.data.toList.map fun b => (b.toNat : Int)).map (Value.int IntKind.u8) = Lib.strCells tx := by simp [Lib.strCells]
  rw [e1, e2]
  exact ho'
end
end Go.Proofs.Ytekbfaafofflaaa
