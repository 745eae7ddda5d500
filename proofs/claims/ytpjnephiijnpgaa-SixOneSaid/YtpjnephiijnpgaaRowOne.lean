/-
  silolaw01.SixOne answers true for any text and any kinds, and leaves what was there as it was: the row's statement.
-/
import Derived.Test.YtpjnephiijnpgaaRow
import Derived.Test.YtpjnephiijnpgaaOne
import Derived.ChangeMaps5
import Derived.SizedLaws
import Derived.Lib.LaidTab
namespace Go.Proofs.Ytpjnephiijnpgaa
open Go.ChangeShapes Go.WideShapes Go.ChangeAt Go.RowKit
set_option linter.unusedVariables false

theorem own : ownKnob Try.prog.godebug = none := by kernel_rfl
theorem laidOut : laidOutB Try.prog = true := by kernel_rfl
theorem und4 : Try.prog.underlying 4 = some .bool := by kernel_rfl
theorem und9 : Try.prog.underlying 9 = some .string := by kernel_rfl
theorem und5 : Try.prog.underlying 5 = some (.int .u8) := by kernel_rfl
theorem cells5 : Try.prog.cellsOf 5 = 1 := by kernel_rfl
theorem tsize : 80 < Try.prog.types.size := of_decide_eq_true (by kernel_rfl)
theorem ok9 : Try.prog.readableRec 9 = true ∧ 9 < Try.prog.types.size := ⟨by kernel_rfl, Nat.lt_trans (by decide) tsize⟩
theorem ok38 : Try.prog.readableRec 38 = true ∧ 38 < Try.prog.types.size := ⟨by kernel_rfl, Nat.lt_trans (by decide) tsize⟩

/-- A slice of numbers as an argument. -/
theorem open_nums {H : Type} {enc : TypeId × Value → H} {W : World} {base : Nat} {spare : Nat → Bool} {held : Bool} {b0 : Nat} {v : Value} {d : DataW H} {p : List MemPlace} {t e : TypeId} {k : IntKind} (ht : Try.prog.underlying t = some (.slice e))
    (he : Try.prog.underlying e = some (.int k)) (hce : Try.prog.cellsOf e = 1) (hv : Value.okWide Try.prog W .any b0 t v) (h : DataW.Trod enc Try.prog W base spare held t v d p) :
    ∃ (ao : Option Addr) (b off len cap : Nat) (K : Nat → Int), v = .slice ao len cap ∧ (0 < len → ao = some ⟨b, off, none⟩ ∧ b < W.heap.size) ∧ (∀ i, i < len → W.cell? ⟨b, off + i, none⟩ = some (.int k (K i))) ∧ (∀ i, i < len → (Lit.int k (K i)).wf = true) ∧ len ≤ 9223372036854775807 := by
  obtain ⟨ao, len, cap, rfl⟩ := okWide_slice ht hv
  obtain ⟨fuel, hf⟩ := h
  rcases Go.Deep.open_slice1 ht hce hf with ⟨hcs, hx⟩ | ⟨a, len', cap', m, n, V, D, Pl, hcs, _, hl, hm, hmm, hx, hcell⟩
  · simp [Value.cells] at hcs
    obtain ⟨rfl, rfl, rfl⟩ := hcs
    exact ⟨none, 0, 0, 0, 0, fun _ => 0, rfl, fun h => absurd h (by omega), fun i hi => absurd hi (by omega), fun i hi => absurd hi (by omega), by omega⟩
  · simp [Value.cells] at hcs
    obtain ⟨rfl, rfl, rfl⟩ := hcs
    have hlm : len ≤ m := by rw [hmm]; split <;> omega
    have hlen : len ≤ 9223372036854775807 := by unfold maxLen at hm; omega
    have hk : ∀ i, i < len → ∃ x : Int, V i = .int k x ∧ (Lit.int k x).wf = true := fun i hi => by
      obtain ⟨x, hx1, _, hw⟩ := DataW.trod_int he (hcell i (by omega)).2
      exact ⟨x, by simpa using hx1, hw⟩
    obtain ⟨K, hK⟩ := Go.Deep.choose_lt hk
    by_cases hz : len = 0
    · subst hz
      exact ⟨some a, 0, 0, 0, _, fun _ => 0, rfl, fun h => absurd h (by omega), fun i hi => absurd hi (by omega), fun i hi => absurd hi (by omega), by omega⟩
    · have g0 := (hcell 0 (by omega)).1
      obtain ⟨b, off, spot⟩ := a
      have hspot : spot = none := by simpa [Addr.add] using World.cell?_spot g0
      subst hspot
      refine ⟨_, b, off, len, _, K, rfl, fun _ => ⟨rfl, ?_⟩, fun i hi => ?_, fun i hi => (hK i hi).2, hlen⟩
      · exact World.block_lt_of_cell? W _ g0
      · rw [← add_plain, (hcell i (by omega)).1, (hK i hi).1]

namespace SixOne
theorem contract (H : Type) (enc : TypeId × Value → H) (W : World) (base : Nat) (args : Array Value) (ds gs : List (DataW H)) (before : List MemPlace)
    (hval : ∀ (j : Nat) t v, Try.f4.params[j]? = some t → args[j]? = some v → Value.okWide Try.prog W .any base t v)
    (hW : DataW.Whole enc Try.prog Try.f4.params.toList Rows.sixOneSpec.vars false W args.toList ds gs before)
    (hsz0 : (DataW.weightsEach Try.prog (Try.f4.params.toList ++ Rows.sixOneSpec.plain.varTypes Try.prog) (ds ++ gs)).all (· ≤ reachBytes) = true) :
    Calls Try.prog 4 args W fun e W' => ∃ v, e = .returned v ∧ Rows.sixOneSpec.post enc Try.prog Try.f4 false true false false W args v W' := by
  have hW' := hW
  obtain ⟨p, q, hA0, hV, rfl, hfz, hnd⟩ := hW
  have hA : DataW.TrodAll enc Try.prog W 0 (fun _ => true) true Try.f4.params.toList args.toList ds p := hA0
  rw [Try.params4] at hA hval hsz0
  obtain ⟨v0, vs0, d0, ds0, p0, q0, hargs, rfl, rfl, h0, r0⟩ := trodAll_cons hA
  obtain ⟨v1, vs1, d1, ds1, p1, q1, rfl, rfl, rfl, h1, r1⟩ := trodAll_cons r0
  obtain ⟨rfl, rfl, rfl⟩ := trodAll_nil r1
  obtain rfl : args = #[v0, v1] := by cases args; simp_all
  obtain ⟨s, rfl, rfl, rfl, hs⟩ := Go.ChangeMaps.open_string und9 (hval 0 9 v0 rfl rfl) h0
  obtain ⟨ao, b, off, len, cap, K, rfl, hao, hc, hK, hlen⟩ := open_nums und38 und5 cells5 (hval 1 38 v1 rfl rfl) h1
  have hsz := sized_string hsz0 (j := 0) (t := 9) (bytes := s.data.toList) rfl rfl
  have hs2 : s.size ≤ 140737488351232 := by
    have : s.data.toList.length = s.size := by rw [Array.length_toList]; rfl
    rw [this] at hsz
    simpa [reachBytes] using hsz
  refine (one_any s hs2 ao b off len cap K W hao hc (fun i hi => by have := hK i hi; simp [Lit.wf, IntKind.min, IntKind.max, IntKind.signed, IntKind.bits] at this; omega)).mono fun e W' ⟨he, hb⟩ => ⟨_, he, ?_⟩
  exact post_law laidOut hW' rfl hb (by rw [Try.params4]; intro t ht; simp at ht; rcases ht with rfl | rfl <;> first | exact ok9 | exact ok38) rfl (by kernel_rfl) und4

noncomputable def laidWorld (os : Os) : World := World.holding Try.prog os ⟨#[], #[], []⟩
theorem laid_met (os : Os) : laidMet Try.prog Rows.sixOneRow.laid ((laidWorld os).forCall (fun _ _ => 0) ⟨#[], #[.string ⟨#[]⟩, .slice none 0 0], []⟩).memory :=
  laidMet_of_run' 8 (by kernel_rfl) (by kernel_rfl)
theorem reads (os : Os) {H : Type} (enc : TypeId × Value → H) : ∃ places, DataW.whole enc Try.prog ((laidWorld os).forCall (fun _ _ => 0) ⟨#[], #[.string ⟨#[]⟩, .slice none 0 0], []⟩).memory Try.f4.params.toList Rows.sixOneSpec.vars false (#[.string ⟨#[]⟩, .slice none 0 0] : Array Value).toList 8 = some ([.lit (.string []), .nil], [], places) :=
  ⟨[], by kernel_rfl⟩

set_option maxRecDepth 100000 in
theorem lifted (os : Os) (started : os.Started) (H : Type) (enc : TypeId × Value → H) (F : Stop.Interp) :
    ReturnsInHanded {} Try.checked os 4 .any ((OpenSpec.ofChange Rows.sixOneSpec).preRow enc Try.prog Try.f4 Rows.sixOneRow.domain false Rows.sixOneRow.laid) (((OpenSpec.ofChange Rows.sixOneSpec).at F).post enc Try.prog Try.f4 false true false false) := by
  obtain ⟨places, hx⟩ := reads os enc
  refine returnsInHanded_of_row (C := Try.checked) (s := OpenSpec.ofChange Rows.sixOneSpec) own started (by kernel_rfl) Try.func4
    (witness_row_at (enc := enc) (C := Try.checked) false (laidWorld os) #[.string ⟨#[]⟩, .slice none 0 0] rfl (by kernel_rfl) (by kernel_rfl) (by kernel_rfl)
      (OpenSpec.preRow_of_cond 8 hx (by kernel_rfl) (fun k hk => by cases hk) (by kernel_rfl) (laid_met os))) ?_
  intro W base args ds gs before hval hW _ _ hsz hL _ _
  exact contract H enc W base args ds gs before hval hW hsz

/-- ████ THE STATEMENT ████ -/
theorem said : Rows.SixOneSaid :=
  OpenClaim.holds_of_cond 4 Try.f4 rfl rfl rfl rfl rfl rfl rfl ⟨rfl, rfl, rfl, rfl, rfl⟩ rfl rfl rfl rfl rfl (by kernel_rfl) Try.func4 (by kernel_rfl)
    (of_decide_eq_true (by kernel_rfl)) (by unfold Func.isWrapper; first | (rw [if_pos (by decide +kernel)]; kernel_rfl) | (rw [if_neg (by decide +kernel)]; exact ⟨rfl, rfl⟩))
    (fun os started H enc _ F => by rw [OpenClaim.pre_eq_preRow]; exact lifted os started H enc F)
end SixOne
end Go.Proofs.Ytpjnephiijnpgaa
