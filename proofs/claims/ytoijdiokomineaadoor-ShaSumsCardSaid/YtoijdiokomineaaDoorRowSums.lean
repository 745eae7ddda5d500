/-
  silolaw03.ShaSums answers true for any texts, and leaves what was there as it was: the row's statement and the card.
-/
import Derived.Test.YtoijdiokomineaaDoorRowOrders
import Derived.Test.YtoijdiokomineaaDoorSums
import Derived.Deep.Strs
namespace Go.Proofs.YtoijdiokomineaaDoor
open Go.ChangeShapes Go.WideShapes Go.ChangeAt Go.RowKit
set_option linter.unusedVariables false

theorem und22 : Tryd.prog.underlying 22 = some (.slice 9) := by kernel_rfl
theorem cells9 : Tryd.prog.cellsOf 9 = 1 := by kernel_rfl
theorem ok22 : Tryd.prog.readableRec 22 = true ∧ 22 < Tryd.prog.types.size := ⟨by kernel_rfl, Nat.lt_trans (by decide) tsize⟩
namespace ShaSums
theorem contract (H : Type) (enc : TypeId × Value → H) (W : World) (base : Nat) (args : Array Value) (ds gs : List (DataW H)) (before : List MemPlace)
    (hval : ∀ (j : Nat) t v, Tryd.f3.params[j]? = some t → args[j]? = some v → Value.okWide Tryd.prog W .any base t v)
    (hW : DataW.Whole enc Tryd.prog Tryd.f3.params.toList Rows.shaSumsSpec.vars false W args.toList ds gs before) (hL : laidMetH Tryd.prog Rows.shaSumsRow.laid W) :
    Calls Tryd.prog 3 args W fun e W' => ∃ v, e = .returned v ∧ Rows.shaSumsSpec.post enc Tryd.prog Tryd.f3 false true false false W args v W' := by
  obtain ⟨T, fz, hG⟩ := table hL
  have hW' := hW
  obtain ⟨p, q, hA0, hV, rfl, hfz, hnd⟩ := hW
  have hA : DataW.TrodAll enc Tryd.prog W 0 (fun _ => true) true Tryd.f3.params.toList args.toList ds p := hA0
  rw [Tryd.params3] at hA hval
  obtain ⟨v0, vs0, d0, ds0, p0, q0, hargs, rfl, rfl, h0, r0⟩ := trodAll_cons hA
  obtain ⟨rfl, rfl, rfl⟩ := trodAll_nil r0
  obtain rfl : args = #[v0] := by cases args; simp_all
  have hao : ∃ (ao : Option Addr) (b off len cap : Nat) (ss : Nat → ByteArray), v0 = .slice ao len cap ∧ (0 < len → ao = some ⟨b, off, none⟩ ∧ b < W.heap.size) ∧ (∀ i, i < len → W.cell? ⟨b, off + i, none⟩ = some (.string (ss i))) ∧ len ≤ 9223372036854775807 := by
    obtain ⟨ao, len, cap, rfl⟩ := okWide_slice und22 (hval 0 22 v0 rfl rfl)
    obtain ⟨fuel, hf⟩ := h0
    rcases Go.Deep.open_strs und22 und9 cells9 hf with ⟨hcs, hx⟩ | ⟨a, len', cap', m, Sx, hcs, _, hl, hm, hmm, hx, hcell⟩
    · simp [Value.cells] at hcs
      obtain ⟨rfl, rfl, rfl⟩ := hcs
      exact ⟨none, 0, 0, 0, 0, fun _ => ⟨#[]⟩, rfl, fun h => absurd h (by omega), fun i hi => absurd hi (by omega), by omega⟩
    · simp [Value.cells] at hcs
      obtain ⟨rfl, rfl, rfl⟩ := hcs
      simp only [if_true] at hmm
      subst hmm
      have hlen : len ≤ 9223372036854775807 := by unfold maxLen at hm; omega
      by_cases hz : len = 0
      · subst hz
        exact ⟨some a, 0, 0, 0, _, fun _ => ⟨#[]⟩, rfl, fun h => absurd h (by omega), fun i hi => absurd hi (by omega), by omega⟩
      · have g0 := (hcell 0 (by omega)).1
        obtain ⟨b, off, spot⟩ := a
        have hspot : spot = none := by simpa [Addr.add] using World.cell?_spot g0
        subst hspot
        refine ⟨_, b, off, len, _, Sx, rfl, fun _ => ⟨rfl, ?_⟩, fun i hi => ?_, hlen⟩
        · exact World.block_lt_of_cell? W _ g0
        · rw [← add_plain]; exact (hcell i (by omega)).1
  obtain ⟨ao, b, off, len, cap, ss, rfl, hao, hc, hlen⟩ := hao
  refine (sums_any ao b off len cap ss W T fz hG hao hc hlen (fun wx hb => awake_any wx T fz (table_later hG hb))).mono fun e W' ⟨he, hb⟩ => ⟨_, he, ?_⟩
  exact post_law laidOut hW' rfl hb (by rw [Tryd.params3]; intro t ht; simp at ht; subst ht; exact ok22) rfl (by kernel_rfl) und4

noncomputable def laidWorld (os : Os) : World :=
  { World.holding Tryd.prog os ⟨#[], #[], []⟩ with heap := (World.holding Tryd.prog os ⟨#[], #[], []⟩).heap.modify 0 fun
      | .cells _ t frozen => .cells (kl.map fun z => Value.int IntKind.u32 z).toArray t frozen
      | o => o }
theorem laid_met (os : Os) : laidMet Tryd.prog Rows.shaSumsRow.laid ((laidWorld os).forCall (fun _ _ => 0) ⟨#[], #[.slice none 0 0], []⟩).memory :=
  laidMet_of_run' 8 (by kernel_rfl) (by kernel_rfl)
theorem reads (os : Os) {H : Type} (enc : TypeId × Value → H) : ∃ places, DataW.whole enc Tryd.prog ((laidWorld os).forCall (fun _ _ => 0) ⟨#[], #[.slice none 0 0], []⟩).memory Tryd.f3.params.toList Rows.shaSumsSpec.vars false (#[.slice none 0 0] : Array Value).toList 8 = some ([.nil], [], places) :=
  ⟨[], by kernel_rfl⟩

set_option maxRecDepth 100000 in
theorem lifted (os : Os) (started : os.Started) (H : Type) (enc : TypeId × Value → H) (F : Stop.Interp) :
    ReturnsInHanded {} Tryd.checked os 3 .any ((OpenSpec.ofChange Rows.shaSumsSpec).preRow enc Tryd.prog Tryd.f3 Rows.shaSumsRow.domain false Rows.shaSumsRow.laid) (((OpenSpec.ofChange Rows.shaSumsSpec).at F).post enc Tryd.prog Tryd.f3 false true false false) := by
  obtain ⟨places, hx⟩ := reads os enc
  refine returnsInHanded_of_row (C := Tryd.checked) (s := OpenSpec.ofChange Rows.shaSumsSpec) own started (by kernel_rfl) Tryd.func3
    (witness_row_at (enc := enc) (C := Tryd.checked) false (laidWorld os) #[.slice none 0 0] rfl (by kernel_rfl) (by kernel_rfl) (by kernel_rfl)
      (OpenSpec.preRow_of_cond 8 hx (by kernel_rfl) (fun k hk => by cases hk) (by kernel_rfl) (laid_met os))) ?_
  intro W base args ds gs before hval hW _ _ hsz hL _ _
  exact contract H enc W base args ds gs before hval hW hL

theorem said : Rows.ShaSumsSaid :=
  OpenClaim.holds_of_cond 3 Tryd.f3 rfl rfl rfl rfl rfl rfl rfl ⟨rfl, rfl, rfl, rfl, rfl⟩ rfl rfl rfl rfl rfl (by kernel_rfl) Tryd.func3 (by kernel_rfl)
    (of_decide_eq_true (by kernel_rfl)) (by unfold Func.isWrapper; first | (rw [if_pos (by decide +kernel)]; kernel_rfl) | (rw [if_neg (by decide +kernel)]; exact ⟨rfl, rfl⟩))
    (fun os started H enc _ F => by rw [OpenClaim.pre_eq_preRow]; exact lifted os started H enc F)

theorem plain (f : FuncId) (fn : Func) (hf : Tryd.pinned.checked.prog.funcNamed "silo/silolaw03.ShaSums" = some f) (hfn : Tryd.pinned.checked.prog.funcs[f]? = some fn) :
    false = Tryd.pinned.checked.prog.looks [] ∧ ∀ (j : Nat) t, fn.params[j]? = some t → Tryd.pinned.checked.prog.wantsStandIn t = false := by
  obtain rfl : f = 3 := Option.some.inj ((show Tryd.prog.funcNamed "silo/silolaw03.ShaSums" = some 3 by kernel_rfl).symm.trans hf) |>.symm
  obtain rfl : fn = Tryd.f3 := (Option.some.inj (Tryd.func3.symm.trans hfn)).symm
  refine ⟨by kernel_rfl, fun j t ht => ?_⟩
  rw [Tryd.params3] at ht
  have hm := Array.mem_of_getElem? ht
  have h : t = 22 := by simpa using hm
  rcases h with rfl
  · exact (show Tryd.prog.wantsStandIn 22 = false by kernel_rfl)

/-- ████ THE CARD ████ -/
theorem card : Rows.ShaSumsCardSaid :=
  Claim7.holds_tied_plain_at .later [] _ _ _ _ said (fun _ h => by cases h) (by kernel_rfl) (fun _ h => by cases h) shaSums_row_tie rfl ⟨rfl, rfl⟩ (by kernel_rfl) rfl plain (by kernel_rfl)
end ShaSums
end Go.Proofs.YtoijdiokomineaaDoor
