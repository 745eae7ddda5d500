/-
  silolaw12.WalCut answers true for any records, any place of the cut and any bit, and leaves what was there as it was: the row's statement.
-/
import Derived.Test.YtekbfaafofflaaaRow
import Derived.Test.YtekbfaafofflaaaWcut1
import Derived.ChangeMaps5
import Derived.SizedLaws
import Derived.Lib.LaidTab
import Derived.Deep.Strs
namespace Go.Proofs.Ytekbfaafofflaaa
open Go.ChangeShapes Go.WideShapes Go.ChangeAt Go.RowKit
set_option linter.unusedVariables false
namespace Seat
theorem own : ownKnob Try.prog.godebug = none := by kernel_rfl
theorem laidOut : laidOutB Try.prog = true := by kernel_rfl
theorem und4 : Try.prog.underlying 4 = some .bool := by kernel_rfl
theorem und9 : Try.prog.underlying 9 = some .string := by kernel_rfl
theorem und5 : Try.prog.underlying 5 = some (.int .u8) := by kernel_rfl
theorem und3 : Try.prog.underlying 3 = some (.int .i64) := by kernel_rfl
theorem cells9 : Try.prog.cellsOf 9 = 1 := by kernel_rfl
theorem tsize : 40 < Try.prog.types.size := of_decide_eq_true (by kernel_rfl)
theorem ok22 : Try.prog.readableRec 22 = true ∧ 22 < Try.prog.types.size := ⟨by kernel_rfl, Nat.lt_trans (by decide) tsize⟩
theorem ok3 : Try.prog.readableRec 3 = true ∧ 3 < Try.prog.types.size := ⟨by kernel_rfl, Nat.lt_trans (by decide) tsize⟩
theorem ok5 : Try.prog.readableRec 5 = true ∧ 5 < Try.prog.types.size := ⟨by kernel_rfl, Nat.lt_trans (by decide) tsize⟩
end Seat
theorem open_texts_arg {H : Type} {enc : TypeId × Value → H} {W : World} {base : Nat} {spare : Nat → Bool} {held : Bool} {b0 : Nat} {v : Value} {d : DataW H} {p : List MemPlace}
    (hv : Value.okWide Try.prog W .any b0 22 v) (h : DataW.Trod enc Try.prog W base spare held 22 v d p) :
    ∃ (ao : Option Addr) (b off len cap : Nat) (T : Nat → ByteArray), v = .slice ao len cap ∧ TextArg W ao b off len T ∧ len ≤ cap ∧ (∀ i, i < len → (T i).size ≤ 9223372036854775807) := by
  obtain ⟨ao, len, cap, rfl⟩ := okWide_slice und22 hv
  obtain ⟨fuel, hf⟩ := h
  rcases Go.Deep.open_strs und22 Seat.und9 Seat.cells9 hf with ⟨hcs, hx⟩ | ⟨a, len', cap', m, Sx, hcs, _, hl, hm, hmm, hx, hcell⟩
  · simp [Value.cells] at hcs
    obtain ⟨rfl, rfl, rfl⟩ := hcs
    exact ⟨none, 0, 0, 0, 0, fun _ => ⟨#[]⟩, rfl, ⟨fun h => absurd h (by omega), fun i hi => absurd hi (by omega)⟩, by omega, fun i hi => absurd hi (by omega)⟩
  · simp [Value.cells] at hcs
    obtain ⟨rfl, rfl, rfl⟩ := hcs
    have hlm : len ≤ m := by rw [hmm]; split <;> omega
    refine ⟨some a, a.block, a.off, len, _, Sx, rfl, ⟨fun hz => ?_, fun i hi => ?_⟩, hl, fun i hi => by have := (hcell i (by omega)).2; unfold maxLen at this; omega⟩
    · have g0 := (hcell 0 (by omega)).1
      obtain ⟨b, off, spot⟩ := a
      have hspot : spot = none := by simpa [Addr.add] using World.cell?_spot g0
      subst hspot
      exact ⟨rfl, World.block_lt_of_cell? W _ g0⟩
    · have g0 := (hcell 0 (by omega)).1
      have gi := (hcell i (by omega)).1
      obtain ⟨b, off, spot⟩ := a
      have hspot : spot = none := by simpa [Addr.add] using World.cell?_spot g0
      subst hspot
      rw [← add_plain]; exact gi
namespace WalCut
theorem contract (H : Type) (enc : TypeId × Value → H) (W : World) (base : Nat) (args : Array Value) (ds gs : List (DataW H)) (before : List MemPlace)
    (hval : ∀ (j : Nat) t v, Try.f3.params[j]? = some t → args[j]? = some v → Value.okWide Try.prog W .any base t v)
    (hW : DataW.Whole enc Try.prog Try.f3.params.toList Rows.walCutSpec.vars false W args.toList ds gs before)
    (hsz0 : (DataW.weightsEach Try.prog (Try.f3.params.toList ++ Rows.walCutSpec.plain.varTypes Try.prog) (ds ++ gs)).all (· ≤ reachBytes) = true) :
    Calls Try.prog 3 args W fun e W' => ∃ v, e = .returned v ∧ Rows.walCutSpec.post enc Try.prog Try.f3 false true false false W args v W' := by
  have hW' := hW
  obtain ⟨p, q, hA0, hV, rfl, hfz, hnd⟩ := hW
  have hA : DataW.TrodAll enc Try.prog W 0 (fun _ => true) true Try.f3.params.toList args.toList ds p := hA0
  rw [Try.params3] at hA hval hsz0
  obtain ⟨v0, vs0, d0, ds0, p0, q0, hargs, rfl, rfl, h0, r0⟩ := trodAll_cons hA
  obtain ⟨v1, vs1, d1, ds1, p1, q1, rfl, rfl, rfl, h1, r1⟩ := trodAll_cons r0
  obtain ⟨v2, vs2, d2, ds2, p2, q2, rfl, rfl, rfl, h2, r2⟩ := trodAll_cons r1
  obtain ⟨rfl, rfl, rfl⟩ := trodAll_nil r2
  obtain rfl : args = #[v0, v1, v2] := by cases args; simp_all
  obtain ⟨ao0, b0, off0, len0, cap0, T, rfl, hT, hlc, hTs⟩ := open_texts_arg (hval 0 22 v0 rfl rfl) h0
  obtain ⟨at_, rfl, rfl, rfl, hn1⟩ := open_int Seat.und3 (hval 1 3 v1 rfl rfl) h1
  obtain ⟨bit, rfl, rfl, rfl, hn2⟩ := open_int Seat.und5 (hval 2 5 v2 rfl rfl) h2
  have hbit : 0 ≤ bit ∧ bit < 256 := by
    have := hn2
    simp [Lit.wf, IntKind.min, IntKind.max, IntKind.signed, IntKind.bits] at this
    omega
  refine (wcut_any W ao0 b0 off0 len0 cap0 T hT hTs hlc at_ bit hbit.1 hbit.2).mono fun e W' ⟨he, hb⟩ => ⟨_, he, ?_⟩
  exact post_law Seat.laidOut hW' rfl hb (by rw [Try.params3]; intro t ht; simp at ht; rcases ht with rfl | rfl | rfl <;> first | exact Seat.ok22 | exact Seat.ok3 | exact Seat.ok5) rfl (by kernel_rfl) Seat.und4

noncomputable def laidWorld (os : Os) : World := World.holding Try.prog os ⟨#[], #[], []⟩
theorem laid_met (os : Os) : laidMet Try.prog Rows.walCutRow.laid ((laidWorld os).forCall (fun _ _ => 0) ⟨#[], #[.slice none 0 0, .int .i64 0, .int .u8 0], []⟩).memory :=
  laidMet_of_run' 8 (by kernel_rfl) (by kernel_rfl)
theorem reads (os : Os) {H : Type} (enc : TypeId × Value → H) : ∃ places, DataW.whole enc Try.prog ((laidWorld os).forCall (fun _ _ => 0) ⟨#[], #[.slice none 0 0, .int .i64 0, .int .u8 0], []⟩).memory Try.f3.params.toList Rows.walCutSpec.vars false (#[.slice none 0 0, .int .i64 0, .int .u8 0] : Array Value).toList 8 = some ([.nil, .lit (.int .i64 0), .lit (.int .u8 0)], [], places) :=
  ⟨[], by kernel_rfl⟩

set_option maxRecDepth 100000 in
theorem lifted (os : Os) (started : os.Started) (H : Type) (enc : TypeId × Value → H) (F : Stop.Interp) :
    ReturnsInHanded {} Try.checked os 3 .any ((OpenSpec.ofChange Rows.walCutSpec).preRow enc Try.prog Try.f3 Rows.walCutRow.domain false Rows.walCutRow.laid) (((OpenSpec.ofChange Rows.walCutSpec).at F).post enc Try.prog Try.f3 false true false false) := by
  obtain ⟨places, hx⟩ := reads os enc
  refine returnsInHanded_of_row (C := Try.checked) (s := OpenSpec.ofChange Rows.walCutSpec) Seat.own started (by kernel_rfl) Try.func3
    (witness_row_at (enc := enc) (C := Try.checked) false (laidWorld os) #[.slice none 0 0, .int .i64 0, .int .u8 0] rfl (by kernel_rfl) (by kernel_rfl) (by kernel_rfl)
      (OpenSpec.preRow_of_cond 8 hx (by kernel_rfl) (fun k hk => by cases hk) (by kernel_rfl) (laid_met os))) ?_
  intro W base args ds gs before hval hW _ hcond hsz hL _ _
  exact contract H enc W base args ds gs before hval hW hsz

/-- ████ THE STATEMENT ████ -/
theorem said : Rows.WalCutSaid :=
  OpenClaim.holds_of_cond 3 Try.f3 rfl rfl rfl rfl rfl rfl rfl ⟨rfl, rfl, rfl, rfl, rfl⟩ rfl rfl rfl rfl rfl (by kernel_rfl) Try.func3 (by kernel_rfl)
    (of_decide_eq_true (by kernel_rfl)) (by unfold Func.isWrapper; first | (rw [if_pos (by decide +kernel)]; kernel_rfl) | (rw [if_neg (by decide +kernel)]; exact ⟨rfl, rfl⟩))
    (fun os started H enc _ F => by rw [OpenClaim.pre_eq_preRow]; exact lifted os started H enc F)
end WalCut
end Go.Proofs.Ytekbfaafofflaaa
