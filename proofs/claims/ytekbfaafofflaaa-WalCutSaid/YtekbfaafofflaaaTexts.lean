/-
  The walks of six.Reader.Text and Reader.End; what a reader's call leaves alone.
-/
import Derived.Test.YtekbfaafofflaaaReads
namespace Go.Proofs.Ytekbfaafofflaaa
open Go.RowKit
set_option linter.unusedVariables false

/-- Nothing but block p has turned. -/
structure Onl (w w' : World) (p : Nat) : Prop where
  os : w'.os = w.os
  tape : w'.tape = w.tape
  output : w'.output = w.output
  size : w'.heap.size = w.heap.size
  block : ∀ k, k ≠ p → w'.heap[k]? = w.heap[k]?
theorem Onl.refl (w : World) (p : Nat) : Onl w w p := ⟨rfl, rfl, rfl, rfl, fun _ _ => rfl⟩
theorem Onl.trans {a b c : World} {p : Nat} (h : Onl a b p) (k : Onl b c p) : Onl a c p := ⟨k.os.trans h.os, k.tape.trans h.tape, k.output.trans h.output, k.size.trans h.size, fun i hi => (k.block i hi).trans (h.block i hi)⟩
theorem Onl.set (w : World) (p : Nat) (v : Value) : Onl w (w.setCell ⟨p, 0, none⟩ v) p := ⟨rfl, rfl, rfl, by simp, fun k hk => heap_setCell_other _ _ _ _ hk⟩
theorem Onl.below {a w w' : World} {p B : Nat} (h : Onl w w' p) (hb : Below B a w) (hp : B ≤ p) : Below B a w' :=
  hb.trans ⟨h.os, h.tape, h.output, by rw [h.size]; exact Nat.le_refl _, fun k hk => h.block k (by omega)⟩
theorem Own.onl {w w' : World} {p B : Nat} {e : TypeId} {k : IntKind} {ao : Option Addr} {cap : Nat} {L : List Int} (h : Own w B e k ao cap L) (ho : Onl w w' p) (hp : p < B) : Own w' B e k ao cap L := by
  refine World.ownsRow.kept (row := some p) h ⟨ho.os, ho.tape, ho.output, by rw [ho.size]; exact Nat.le_refl _, fun k hk hne => ho.block k (fun e => hne (by rw [e]))⟩ ?_
  rw [own_ownB]
  cases hv : ownB ao with
  | none => exact Or.inl rfl
  | some b => right; have := h.above b hv; intro e; cases e; omega
theorem Wrt.onl {w w' : World} {p q : Nat} {L : List Int} (h : Wrt w q L) (ho : Onl w w' p) (hp : p < q) : Wrt w' q L := by
  obtain ⟨ao, cap, h1, h2⟩ := h
  exact ⟨ao, cap, (ho.block q (by omega)).trans h1, h2.onl ho (by omega)⟩
theorem Rdr.set {w : World} {p : Nat} {s : ByteArray} (h : Rdr w p s) (t : ByteArray) : Rdr (w.setCell ⟨p, 0, none⟩ (.string t)) p t := (h.put t).1

set_option maxRecDepth 100000 in
theorem rtext_ok {w : World} {p : Nat} {s : ByteArray} (h : Rdr w p s) (hs : s.size ≤ 9223372036854775807) (n k : Nat) (hr : nmb (bl s) 0 0 = ((n : Int), false, (k : Int), 0)) (hn : k + n ≤ s.size) :
    Calls Try.prog 16 #[.pointer (some ⟨p, 0, none⟩)] w fun e w' => e = .returned (.tuple #[.string ((s.extract k s.size).extract 0 n), .int .i64 0]) ∧ Rdr w' p ((s.extract k s.size).extract n (s.size - k)) ∧ Onl w w' p := by
  have hc := h.cell
  have H := Lib.hid h
  have hsz : (s.extract k s.size).size = s.size - k := by rw [ByteArray.size_extract]; omega
  have CT := Lib.hid (rcount_ok h hs n k hr)
  have RW := Lib.hid (rraw_ok (h.set (s.extract k s.size)) n (by rw [hsz]; omega))
  clear h hr hsz
  go_enter Try.func16, Try.ntmps16
  go_wp2_with (first
    | (go_at_call 20; refine CT.out.mono ?_; rintro e w1 ⟨rfl, rfl⟩)
    | (go_at_call 17; refine RW.out.mono ?_; rintro e w2 ⟨rfl, rfl⟩))
  go_ret2
  exact ⟨rfl, (H.out.set _).set _, (Onl.set _ _ _).trans (Onl.set _ _ _)⟩
set_option maxRecDepth 100000 in
theorem rtext_short {w : World} {p : Nat} {s : ByteArray} (h : Rdr w p s) (hs : s.size ≤ 9223372036854775807) (n k : Nat) (hr : nmb (bl s) 0 0 = ((n : Int), false, (k : Int), 0)) (hn : s.size < k + n) :
    Calls Try.prog 16 #[.pointer (some ⟨p, 0, none⟩)] w fun e w' => e = .returned (.tuple #[.string { data := #[] }, .int .i64 2]) ∧ Rdr w' p s ∧ Onl w w' p := by
  have hc := h.cell
  have H := Lib.hid h
  have hk := (nmb_size _ _ _ _ _ _ hr).2
  rw [bl_length] at hk
  have hsz : (s.extract k s.size).size = s.size - k := by rw [ByteArray.size_extract]; omega
  have h1 := h.set (s.extract k s.size)
  have hc1 := h1.cell
  have hf1 := h1.thaw
  have CT := Lib.hid (rcount_ok h hs n k hr)
  have RW := Lib.hid (rraw_short h1 (n : Int) (by rw [hsz]; omega))
  clear h hr hsz h1 hk
  go_enter Try.func16, Try.ntmps16
  go_wp2_with (first
    | (go_at_call 20; refine CT.out.mono ?_; rintro e w1 ⟨rfl, rfl⟩)
    | (go_at_call 17; refine RW.out.mono ?_; rintro e w2 ⟨rfl, rfl⟩))
  go_ret2
  exact ⟨rfl, (H.out.set _).set _, (Onl.set _ _ _).trans (Onl.set _ _ _)⟩
set_option maxRecDepth 100000 in
theorem rtext_bad {w : World} {p : Nat} {s : ByteArray} (h : Rdr w p s) (hs : s.size ≤ 9223372036854775807) (e0 : Int) (he : e0 = 2 ∨ e0 = 3) (hr : Calls Try.prog 20 #[.pointer (some ⟨p, 0, none⟩)] w fun e w' => e = .returned (.tuple #[.int .i64 0, .int .i64 e0]) ∧ w = w') :
    Calls Try.prog 16 #[.pointer (some ⟨p, 0, none⟩)] w fun e w' => e = .returned (.tuple #[.string { data := #[] }, .int .i64 e0]) ∧ w = w' := by
  have hc := h.cell
  have CT := Lib.hid hr
  clear h hr
  rcases he with rfl | rfl
  all_goals
    go_enter Try.func16, Try.ntmps16
    go_wp2_with (go_at_call 20; refine CT.out.mono ?_; rintro e w1 ⟨rfl, rfl⟩)
    go_ret2
    exact ⟨rfl, rfl⟩
end Go.Proofs.Ytekbfaafofflaaa
