/-
  The walks of six.Reader.Text and Reader.End; what a reader's call leaves alone.
-/
import Derived.Test.YtkfjkipffklblaaReads
namespace Go.Proofs.Ytkfjkipffklblaa
open Go.RowKit
set_option linter.unusedVariables false

/-- Nothing but block p has turned. -/
structure Onl (w w' : World) (p : Nat) : Prop where
  os : w'.os = w.os
  tape : w'.tape = w.tape
  output : w'.output = w.output
  size : w'.heap.size = w.heap.size
  block : ∀ k, k ≠ p → w'.heap[k]? = w.heap[k]?
theorem Onl.refl (w : World) (p : Nat) : Onl w w p := ⟨rfl, rfl, rfl, rfl, fun _ _ => rfl⟩
theorem Onl.trans {a b c : World} {p : Nat} (h : Onl a b p) (k : Onl b c p) : Onl a c p := ⟨k.os.trans h.os, k.tape.trans h.tape, k.output.trans h.output, k.size.trans h.size, fun i hi => (k.block i hi).trans (h.block i hi)⟩
theorem Onl.set (w : World) (p : Nat) (v : Value) : Onl w (w.setCell ⟨p, 0, none⟩ v) p := ⟨rfl, rfl, rfl, by simp, fun k hk => heap_setCell_other _ _ _ _ hk⟩
theorem Onl.below {a w w' : World} {p B : Nat} (h : Onl w w' p) (hb : Below B a w) (hp : B ≤ p) : Below B a w' :=
  hb.trans ⟨h.os, h.tape, h.output, by rw [h.size]; exact Nat.le_refl _, fun k hk => h.block k (by omega)⟩
theorem Own.onl {w w' : World} {p B : Nat} {e : TypeId} {k : IntKind} {ao : Option Addr} {cap : Nat} {L : List Int} (h : Own w B e k ao cap L) (ho : Onl w w' p) (hp : p < B) : Own w' B e k ao cap L := by
  refine World.ownsRow.kept (row := some p) h ⟨ho.os, ho.tape, ho.output, by rw [ho.size]; exact Nat.le_refl _, fun k hk hne => ho.block k (fun e => hne (by rw [e]))⟩ ?_
  rw [own_ownB]
  cases hv : ownB ao with
  | none => exact Or.inl rfl
  | some b => right; have := h.above b hv; intro e; cases e; omega
theorem Wrt.onl {w w' : World} {p q : Nat} {L : List Int} (h : Wrt w q L) (ho : Onl w w' p) (hp : p < q) : Wrt w' q L := by
  obtain ⟨ao, cap, h1, h2⟩ := h
  exact ⟨ao, cap, (ho.block q (by omega)).trans h1, h2.onl ho (by omega)⟩
theorem Rdr.set {w : World} {p : Nat} {s : ByteArray} (h : Rdr w p s) (t : ByteArray) : Rdr (w.setCell ⟨p, 0, none⟩ (.string t)) p t := (h.put t).1

set_option maxRecDepth 100000 in
theorem end_any {w : World} {p : Nat} {s : ByteArray} (h : Rdr w p s) : Calls Try.prog 14 #[.pointer (some ⟨p, 0, none⟩)] w fun e w' => e = .returned (.int .i64 (cond (s.toList == []) 0 5)) ∧ w = w' := by
  have hc := h.cell
  clear h
  cases hb : (s.toList == []) with
  | true =>
    go_enter Try.func14, Try.ntmps14
    go_wp2_with fail
    go_ret
    exact ⟨rfl, rfl⟩
  | false =>
    go_enter Try.func14, Try.ntmps14
    go_wp2_with fail
    go_ret
    exact ⟨rfl, rfl⟩

end Go.Proofs.Ytkfjkipffklblaa
