/-
  Slices of bytes and lists of pieces as arguments: what the walks ask of them.
-/
import Derived.Test.YtkfjkipffklblaaRow
import Derived.Test.YtkfjkipffklblaaPieces
import Derived.ChangeMaps5
import Derived.SizedLaws
import Derived.Lib.LaidTab
import Derived.Deep.Strs
namespace Go.Proofs.Ytkfjkipffklblaa
open Go.ChangeShapes Go.WideShapes Go.ChangeAt Go.RowKit
set_option linter.unusedVariables false
namespace Seat
theorem own : ownKnob Try.prog.godebug = none := by kernel_rfl
theorem laidOut : laidOutB Try.prog = true := by kernel_rfl
theorem und4 : Try.prog.underlying 4 = some .bool := by kernel_rfl
theorem und9 : Try.prog.underlying 9 = some .string := by kernel_rfl
theorem und5 : Try.prog.underlying 5 = some (.int .u8) := by kernel_rfl
theorem und3 : Try.prog.underlying 3 = some (.int .i64) := by kernel_rfl
theorem cells5 : Try.prog.cellsOf 5 = 1 := by kernel_rfl
theorem cells3 : Try.prog.cellsOf 3 = 1 := by kernel_rfl
theorem cells4 : Try.prog.cellsOf 4 = 1 := by kernel_rfl
theorem cells9 : Try.prog.cellsOf 9 = 1 := by kernel_rfl
theorem cells26 : Try.prog.cellsOf 26 = 4 := by kernel_rfl
theorem tsize : 60 < Try.prog.types.size := of_decide_eq_true (by kernel_rfl)
theorem ok22 : Try.prog.readableRec 22 = true ∧ 22 < Try.prog.types.size := ⟨by kernel_rfl, Nat.lt_trans (by decide) tsize⟩
theorem ok23 : Try.prog.readableRec 23 = true ∧ 23 < Try.prog.types.size := ⟨by kernel_rfl, Nat.lt_trans (by decide) tsize⟩
end Seat

theorem open_bytes_arg {H : Type} {enc : TypeId × Value → H} {W : World} {base : Nat} {spare : Nat → Bool} {held : Bool} {b0 : Nat} {v : Value} {d : DataW H} {p : List MemPlace}
    (hv : Value.okWide Try.prog W .any b0 22 v) (h : DataW.Trod enc Try.prog W base spare held 22 v d p) :
    ∃ (ao : Option Addr) (b off len cap : Nat) (L : List Int), v = .slice ao len cap ∧ BytesArg W ao b off len cap L := by
  have ht := und38
  obtain ⟨ao, len, cap, rfl⟩ := okWide_slice ht hv
  obtain ⟨fuel, hf⟩ := h
  rcases Go.Deep.open_slice1 ht Seat.cells5 hf with ⟨hcs, hx⟩ | ⟨a, len', cap', m, n, V, D, Pl, hcs, _, hl, hm, hmm, hx, hcell⟩
  · simp [Value.cells] at hcs
    obtain ⟨rfl, rfl, rfl⟩ := hcs
    exact ⟨none, 0, 0, 0, 0, [], rfl, ⟨rfl, Nat.le_refl _, fun h => absurd h (by omega), fun i hi => absurd hi (by omega), fun c hc => by cases hc⟩⟩
  · simp [Value.cells] at hcs
    obtain ⟨rfl, rfl, rfl⟩ := hcs
    have hlm : len ≤ m := by rw [hmm]; split <;> omega
    have hk : ∀ i, i < len → ∃ x : Int, V i = .int .u8 x ∧ (Lit.int .u8 x).wf = true := fun i hi => by
      obtain ⟨x, hx1, _, hw⟩ := DataW.trod_int Seat.und5 (hcell i (by omega)).2
      exact ⟨x, by simpa using hx1, hw⟩
    obtain ⟨K, hK⟩ := Go.Deep.choose_lt hk
    have hKb : ∀ i, i < len → 0 ≤ K i ∧ K i < 256 := fun i hi => by
      have := (hK i hi).2
      simp [Lit.wf, IntKind.min, IntKind.max, IntKind.signed, IntKind.bits] at this
      omega
    have hbyte : ∀ c ∈ (List.range len).map K, 0 ≤ c ∧ c < 256 := fun c hc => by
      obtain ⟨i, hi, rfl⟩ := List.mem_map.1 hc
      exact hKb i (by simpa using hi)
    have hget : ∀ i, i < len → ((List.range len).map K).getD i 0 = K i := fun i hi => by
      rw [List.getD_eq_getElem?_getD, List.getElem?_map, List.getElem?_range hi]; rfl
    by_cases hz : len = 0
    · subst hz
      exact ⟨some a, 0, 0, 0, _, [], rfl, ⟨rfl, hl, fun h => absurd h (by omega), fun i hi => absurd hi (by omega), fun c hc => by cases hc⟩⟩
    · have g0 := (hcell 0 (by omega)).1
      obtain ⟨b, off, spot⟩ := a
      have hspot : spot = none := by simpa [Addr.add] using World.cell?_spot g0
      subst hspot
      refine ⟨_, b, off, len, _, (List.range len).map K, rfl, ⟨by simp, hl, fun _ => ⟨rfl, World.block_lt_of_cell? W _ g0⟩, fun i hi => ?_, hbyte⟩⟩
      rw [← add_plain, (hcell i (by omega)).1, (hK i hi).1, hget i hi]

instance : Inhabited Q := ⟨⟨false, 0, { data := #[] }, 0⟩⟩
theorem open_pieces_arg {H : Type} {enc : TypeId × Value → H} {W : World} {base : Nat} {spare : Nat → Bool} {held : Bool} {b0 : Nat} {v : Value} {d : DataW H} {p : List MemPlace}
    (hv : Value.okWide Try.prog W .any b0 23 v) (h : DataW.Trod enc Try.prog W base spare held 23 v d p) :
    ∃ (ao : Option Addr) (b off len cap : Nat) (q : Nat → Q), v = .slice ao len cap ∧ QArg W ao b off len q := by
  have ht := und23
  obtain ⟨ao, len, cap, rfl⟩ := okWide_slice ht hv
  obtain ⟨fuel, hf⟩ := h
  rcases Go.Deep.open_slice ht hf with ⟨hcs, hx⟩ | ⟨a, len', cap', m, n, D, Pl, hcs, _, hl, hm, hmm, hx, hcell⟩
  · simp [Value.cells] at hcs
    obtain ⟨rfl, rfl, rfl⟩ := hcs
    exact ⟨none, 0, 0, 0, 0, fun _ => ⟨false, 0, { data := #[] }, 0⟩, rfl, ⟨fun h => absurd h (by omega), fun i hi => absurd hi (by omega), fun i hi => absurd hi (by omega), fun i hi => absurd hi (by omega), fun i hi => absurd hi (by omega)⟩⟩
  · simp [Value.cells] at hcs
    obtain ⟨rfl, rfl, rfl⟩ := hcs
    have hlm : len ≤ m := by rw [hmm]; split <;> omega
    rw [Seat.cells26] at hcell
    have hk : ∀ i, i < len → ∃ q : Q, W.cell? (a.add (i * 4)) = some (.bool q.cp) ∧ W.cell? ((a.add (i * 4)).add 1) = some (.int .i64 q.at_) ∧ W.cell? ((a.add (i * 4)).add 2) = some (.string q.tx) ∧ W.cell? ((a.add (i * 4)).add 3) = some (.int .i64 q.ln) := fun i hi => by
      obtain ⟨cs, h1, h2⟩ := hcell i (by omega)
      obtain ⟨_, hlen, hc⟩ := World.cells?_some h1
      obtain ⟨y0, y1, y2, y3, n', _, _, k0, k1, k2, k3⟩ := Joins.trod_struct4 Try.underlying26 h2
      match cs, hlen with
      | [c0, c1, c2, c3], _ =>
        simp only [Seat.cells4, Seat.cells3, Seat.cells9] at k0 k1 k2 k3
        obtain ⟨x0, e0, _⟩ := DataW.trod_bool Seat.und4 k0
        obtain ⟨x1, e1, _⟩ := DataW.trod_int Seat.und3 k1
        obtain ⟨x2, e2, _⟩ := DataW.trod_string Seat.und9 k2
        obtain ⟨x3, e3, _⟩ := DataW.trod_int Seat.und3 k3
        simp at e0 e1 e2 e3
        subst e0 e1 e2 e3
        refine ⟨⟨x0, x1, x2, x3⟩, ?_, hc 1 (by decide), hc 2 (by decide), hc 3 (by decide)⟩
        have := hc 0 (by decide)
        simpa [Addr.add] using this
    obtain ⟨q, hq⟩ := Go.Deep.choose_lt hk
    by_cases hz : len = 0
    · subst hz
      exact ⟨some a, 0, 0, 0, _, q, rfl, ⟨fun h => absurd h (by omega), fun i hi => absurd hi (by omega), fun i hi => absurd hi (by omega), fun i hi => absurd hi (by omega), fun i hi => absurd hi (by omega)⟩⟩
    · have g0 := (hq 0 (by omega)).1
      obtain ⟨b, off, spot⟩ := a
      have hspot : spot = none := by simpa [Addr.add] using World.cell?_spot g0
      subst hspot
      refine ⟨_, b, off, len, _, q, rfl, ⟨fun _ => ⟨rfl, World.block_lt_of_cell? W _ g0⟩, fun i hi => ?_, fun i hi => ?_, fun i hi => ?_, fun i hi => ?_⟩⟩
      · rw [← add_plain]; exact (hq i hi).1
      · rw [← add_plain, ← add_plain]; exact (hq i hi).2.1
      · rw [← add_plain, ← add_plain]; exact (hq i hi).2.2.1
      · rw [← add_plain, ← add_plain]; exact (hq i hi).2.2.2
end Go.Proofs.Ytkfjkipffklblaa
