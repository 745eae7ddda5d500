/-
  Lists of numbers and of texts as arguments: what the walks ask of them, and what their bulk bounds.
-/
import Derived.Test.YtpjnephiijnpgaaRow
import Derived.Test.YtpjnephiijnpgaaBack
import Derived.Test.YtpjnephiijnpgaaBulk
import Derived.ChangeMaps5
import Derived.SizedLaws
import Derived.Lib.LaidTab
import Derived.Deep.Strs
namespace Go.Proofs.Ytpjnephiijnpgaa
open Go.ChangeShapes Go.WideShapes Go.ChangeAt Go.RowKit
set_option linter.unusedVariables false
namespace Seat
theorem own : ownKnob Try.prog.godebug = none := by kernel_rfl
theorem laidOut : laidOutB Try.prog = true := by kernel_rfl
theorem und4 : Try.prog.underlying 4 = some .bool := by kernel_rfl
theorem und9 : Try.prog.underlying 9 = some .string := by kernel_rfl
theorem und5 : Try.prog.underlying 5 = some (.int .u8) := by kernel_rfl
theorem und3 : Try.prog.underlying 3 = some (.int .i64) := by kernel_rfl
theorem und22 : Try.prog.underlying 22 = some (.slice 3) := by kernel_rfl
theorem und23 : Try.prog.underlying 23 = some (.slice 9) := by kernel_rfl
theorem cells5 : Try.prog.cellsOf 5 = 1 := by kernel_rfl
theorem cells3 : Try.prog.cellsOf 3 = 1 := by kernel_rfl
theorem cells9 : Try.prog.cellsOf 9 = 1 := by kernel_rfl
theorem tsize : 60 < Try.prog.types.size := of_decide_eq_true (by kernel_rfl)
theorem ok9 : Try.prog.readableRec 9 = true ∧ 9 < Try.prog.types.size := ⟨by kernel_rfl, Nat.lt_trans (by decide) tsize⟩
theorem ok3 : Try.prog.readableRec 3 = true ∧ 3 < Try.prog.types.size := ⟨by kernel_rfl, Nat.lt_trans (by decide) tsize⟩
theorem ok22 : Try.prog.readableRec 22 = true ∧ 22 < Try.prog.types.size := ⟨by kernel_rfl, Nat.lt_trans (by decide) tsize⟩
theorem ok23 : Try.prog.readableRec 23 = true ∧ 23 < Try.prog.types.size := ⟨by kernel_rfl, Nat.lt_trans (by decide) tsize⟩
end Seat

theorem open_ints_arg {H : Type} {enc : TypeId × Value → H} {W : World} {base : Nat} {spare : Nat → Bool} {held : Bool} {b0 : Nat} {v : Value} {d : DataW H} {p : List MemPlace} {t e : TypeId} (ht : Try.prog.underlying t = some (.slice e))
    (he : Try.prog.underlying e = some (.int .i64)) (hce : Try.prog.cellsOf e = 1) (hv : Value.okWide Try.prog W .any b0 t v) (h : DataW.Trod enc Try.prog W base spare held t v d p) :
    ∃ (ao : Option Addr) (b off len cap : Nat) (K : Nat → Int), v = .slice ao len cap ∧ IntArg W ao b off len K ∧ len ≤ Rows.uptoBulk d := by
  obtain ⟨ao, len, cap, rfl⟩ := okWide_slice ht hv
  obtain ⟨fuel, hf⟩ := h
  rcases Go.Deep.open_slice1 ht hce hf with ⟨hcs, hx⟩ | ⟨a, len', cap', m, n, V, D, Pl, hcs, _, hl, hm, hmm, hx, hcell⟩
  · simp [Value.cells] at hcs
    obtain ⟨rfl, rfl, rfl⟩ := hcs
    exact ⟨none, 0, 0, 0, 0, fun _ => 0, rfl, ⟨fun h => absurd h (by omega), fun i hi => absurd hi (by omega), fun i hi => absurd hi (by omega)⟩, by omega⟩
  · simp [Value.cells] at hcs
    obtain ⟨rfl, rfl, rfl⟩ := hcs
    have hlm : len ≤ m := by rw [hmm]; split <;> omega
    have hk : ∀ i, i < len → ∃ x : Int, V i = .int .i64 x ∧ (Lit.int .i64 x).wf = true := fun i hi => by
      obtain ⟨x, hx1, _, hw⟩ := DataW.trod_int he (hcell i (by omega)).2
      exact ⟨x, by simpa using hx1, hw⟩
    obtain ⟨K, hK⟩ := Go.Deep.choose_lt hk
    simp only [Prod.mk.injEq] at hx
    obtain ⟨rfl, _⟩ := hx
    have hbk : len ≤ Rows.uptoBulk (DataW.slice ((List.range len).map D) ((List.range (m - len)).map fun j => D (len + j))) := by
      have := bulks.slice_le ((List.range len).map D) ((List.range (m - len)).map fun j => D (len + j))
      simp at this; omega
    by_cases hz : len = 0
    · subst hz
      exact ⟨some a, 0, 0, 0, _, fun _ => 0, rfl, ⟨fun h => absurd h (by omega), fun i hi => absurd hi (by omega), fun i hi => absurd hi (by omega)⟩, by omega⟩
    · have g0 := (hcell 0 (by omega)).1
      obtain ⟨b, off, spot⟩ := a
      have hspot : spot = none := by simpa [Addr.add] using World.cell?_spot g0
      subst hspot
      refine ⟨_, b, off, len, _, K, rfl, ⟨fun _ => ⟨rfl, World.block_lt_of_cell? W _ g0⟩, fun i hi => ?_, fun i hi => ?_⟩, hbk⟩
      · rw [← add_plain, (hcell i (by omega)).1, (hK i hi).1]
      · have := (hK i hi).2
        simp [Lit.wf, IntKind.min, IntKind.max, IntKind.signed, IntKind.bits] at this
        omega

theorem tx_bulk {H : Type} (S : Nat → ByteArray) (n : Nat) (hs : ∀ i, i < n → (S i).size < 9223372036854775808) :
    (upto (fun j => tx (S j)) n).length ≤ 11 * Rows.uptoBulkAll (H := H) ((List.range n).map fun i => .lit (.string (S i).data.toList)) ∧
    ∀ i, i < n → (S i).size ≤ Rows.uptoBulkAll (H := H) ((List.range n).map fun i => .lit (.string (S i).data.toList)) := by
  induction n with
  | zero => exact ⟨by simp [upto], fun i hi => absurd hi (by omega)⟩
  | succ k ih =>
    have hsk := hs k (by omega)
    have ih := ih (fun i hi => hs i (by omega))
    have hbe : Rows.uptoBulkAll (H := H) [DataW.lit (.string (S k).data.toList)] = (S k).size + 1 := by
      simp [Rows.uptoBulkAll, Rows.uptoBulk]
    rw [List.range_succ, List.map_append, List.map_singleton, bulks.append, hbe, upto_succ, List.length_append]
    have hl := tx_len_le (S k) hsk
    refine ⟨by have := ih.1; show _ + (tx (S k)).length ≤ _; omega, fun i hi => ?_⟩
    by_cases e : i = k
    · subst e; omega
    · have := ih.2 i (by omega); omega

theorem open_texts_arg {H : Type} {enc : TypeId × Value → H} {W : World} {base : Nat} {spare : Nat → Bool} {held : Bool} {b0 : Nat} {v : Value} {d : DataW H} {p : List MemPlace} {t e : TypeId} (ht : Try.prog.underlying t = some (.slice e))
    (he : Try.prog.underlying e = some .string) (hce : Try.prog.cellsOf e = 1) (hv : Value.okWide Try.prog W .any b0 t v) (h : DataW.Trod enc Try.prog W base spare held t v d p) :
    ∃ (ao : Option Addr) (b off len cap : Nat) (T : Nat → ByteArray), v = .slice ao len cap ∧ TextArg W ao b off len T ∧ len ≤ Rows.uptoBulk d ∧ (upto (fun j => tx (T j)) len).length ≤ 11 * Rows.uptoBulk d ∧ (∀ i, i < len → (T i).size ≤ Rows.uptoBulk d) := by
  obtain ⟨ao, len, cap, rfl⟩ := okWide_slice ht hv
  obtain ⟨fuel, hf⟩ := h
  rcases Go.Deep.open_strs ht he hce hf with ⟨hcs, hx⟩ | ⟨a, len', cap', m, Sx, hcs, _, hl, hm, hmm, hx, hcell⟩
  · simp [Value.cells] at hcs
    obtain ⟨rfl, rfl, rfl⟩ := hcs
    exact ⟨none, 0, 0, 0, 0, fun _ => ⟨#[]⟩, rfl, ⟨fun h => absurd h (by omega), fun i hi => absurd hi (by omega)⟩, by omega, by simp [upto], fun i hi => absurd hi (by omega)⟩
  · simp [Value.cells] at hcs
    obtain ⟨rfl, rfl, rfl⟩ := hcs
    have hlm : len ≤ m := by rw [hmm]; split <;> omega
    simp only [Prod.mk.injEq] at hx
    obtain ⟨rfl, _⟩ := hx
    have hb1 := tx_bulk (H := H) Sx len (fun i hi => by have := (hcell i (by omega)).2; unfold maxLen at this; omega)
    have hb2 := bulks.slice_elems ((List.range len).map fun i => (DataW.lit (.string (Sx i).data.toList) : DataW H)) ((List.range (m - len)).map fun j => .lit (.string (Sx (len + j)).data.toList))
    have hb3 := bulks.slice_le ((List.range len).map fun i => (DataW.lit (.string (Sx i).data.toList) : DataW H)) ((List.range (m - len)).map fun j => .lit (.string (Sx (len + j)).data.toList))
    simp only [List.length_map, List.length_range] at hb3
    refine ⟨some a, a.block, a.off, len, _, Sx, rfl, ⟨fun hz => ?_, fun i hi => ?_⟩, by omega, by have := hb1.1; omega, fun i hi => by have := hb1.2 i hi; omega⟩
    · have g0 := (hcell 0 (by omega)).1
      obtain ⟨b, off, spot⟩ := a
      have hspot : spot = none := by simpa [Addr.add] using World.cell?_spot g0
      subst hspot
      exact ⟨rfl, World.block_lt_of_cell? W _ g0⟩
    · have g0 := (hcell 0 (by omega)).1
      have gi := (hcell i (by omega)).1
      obtain ⟨b, off, spot⟩ := a
      have hspot : spot = none := by simpa [Addr.add] using World.cell?_spot g0
      subst hspot
      rw [← add_plain]; exact gi
theorem small {H : Type} {l : List (DataW H)} (hk : Rows.uptoSmall H l = true) : Rows.uptoBulkAll l ≤ 1048576 := of_decide_eq_true hk
end Go.Proofs.Ytpjnephiijnpgaa
