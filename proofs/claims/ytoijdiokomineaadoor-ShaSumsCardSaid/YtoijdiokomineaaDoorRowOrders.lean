/-
  silolaw03.ShaOrders answers true for any three keys and any number, and leaves what was there as it was: the row's statement and the card.
-/
import Derived.Test.YtoijdiokomineaaDoorRowWords
import Derived.Test.YtoijdiokomineaaDoorOrders
import Derived.ChangeMaps5
namespace Go.Proofs.YtoijdiokomineaaDoor
open Go.ChangeShapes Go.WideShapes Go.ChangeAt Go.RowKit
set_option linter.unusedVariables false

theorem und3 : Tryd.prog.underlying 3 = some (.int .i64) := by kernel_rfl
theorem ok3 : Tryd.prog.readableRec 3 = true ∧ 3 < Tryd.prog.types.size := ⟨by kernel_rfl, Nat.lt_trans (by decide) tsize⟩
theorem ok9 : Tryd.prog.readableRec 9 = true ∧ 9 < Tryd.prog.types.size := ⟨by kernel_rfl, Nat.lt_trans (by decide) tsize⟩
namespace ShaOrders
theorem contract (H : Type) (enc : TypeId × Value → H) (W : World) (base : Nat) (args : Array Value) (ds gs : List (DataW H)) (before : List MemPlace)
    (hval : ∀ (j : Nat) t v, Tryd.f5.params[j]? = some t → args[j]? = some v → Value.okWide Tryd.prog W .any base t v)
    (hW : DataW.Whole enc Tryd.prog Tryd.f5.params.toList Rows.shaOrdersSpec.vars false W args.toList ds gs before) (hL : laidMetH Tryd.prog Rows.shaOrdersRow.laid W) :
    Calls Tryd.prog 5 args W fun e W' => ∃ v, e = .returned v ∧ Rows.shaOrdersSpec.post enc Tryd.prog Tryd.f5 false true false false W args v W' := by
  obtain ⟨T, fz, hG⟩ := table hL
  have hW' := hW
  obtain ⟨p, q, hA0, hV, rfl, hfz, hnd⟩ := hW
  have hA : DataW.TrodAll enc Tryd.prog W 0 (fun _ => true) true Tryd.f5.params.toList args.toList ds p := hA0
  rw [Tryd.params5] at hA hval
  obtain ⟨v0, vs0, d0, ds0, p0, q0, hargs, rfl, rfl, h0, r0⟩ := trodAll_cons hA
  obtain ⟨v1, vs1, d1, ds1, p1, q1, rfl, rfl, rfl, h1, r1⟩ := trodAll_cons r0
  obtain ⟨v2, vs2, d2, ds2, p2, q2, rfl, rfl, rfl, h2, r2⟩ := trodAll_cons r1
  obtain ⟨v3, vs3, d3, ds3, p3, q3, rfl, rfl, rfl, h3, r3⟩ := trodAll_cons r2
  obtain ⟨rfl, rfl, rfl⟩ := trodAll_nil r3
  obtain rfl : args = #[v0, v1, v2, v3] := by cases args; simp_all
  obtain ⟨A, rfl, hAu⟩ := open_key (hval 0 25 v0 rfl rfl) h0
  obtain ⟨B, rfl, hBu⟩ := open_key (hval 1 25 v1 rfl rfl) h1
  obtain ⟨C, rfl, hCu⟩ := open_key (hval 2 25 v2 rfl rfl) h2
  obtain ⟨n, rfl, rfl, rfl, hwf⟩ := open_int und3 (hval 3 3 v3 rfl rfl) h3
  have hn : -9223372036854775808 ≤ n ∧ n ≤ 9223372036854775807 := by
    simpa [Lit.wf, IntKind.min, IntKind.max, IntKind.signed, IntKind.bits] using hwf
  refine (orders_any A B C hAu hBu hCu n hn.1 hn.2 W (fun wx hb => awake_any wx T fz (table_later hG hb))).mono fun e W' ⟨he, hb⟩ => ⟨_, he, ?_⟩
  exact post_law laidOut hW' rfl hb (by rw [Tryd.params5]; intro t ht; simp at ht; rcases ht with rfl | rfl <;> first | exact ok25 | exact ok3) rfl (by kernel_rfl) und4

noncomputable def laidWorld (os : Os) : World :=
  { World.holding Tryd.prog os ⟨#[], #[], []⟩ with heap := (World.holding Tryd.prog os ⟨#[], #[], []⟩).heap.modify 0 fun
      | .cells _ t frozen => .cells (kl.map fun z => Value.int IntKind.u32 z).toArray t frozen
      | o => o }
theorem laid_met (os : Os) : laidMet Tryd.prog Rows.shaOrdersRow.laid ((laidWorld os).forCall (fun _ _ => 0) ⟨#[], #[K0, K0, K0, .int .i64 0], []⟩).memory :=
  laidMet_of_run' 8 (by kernel_rfl) (by kernel_rfl)
theorem reads (os : Os) {H : Type} (enc : TypeId × Value → H) : ∃ places, DataW.whole enc Tryd.prog ((laidWorld os).forCall (fun _ _ => 0) ⟨#[], #[K0, K0, K0, .int .i64 0], []⟩).memory Tryd.f5.params.toList Rows.shaOrdersSpec.vars false (#[K0, K0, K0, .int .i64 0] : Array Value).toList 8 = some ([D0, D0, D0, .lit (.int .i64 0)], [], places) :=
  ⟨[], by kernel_rfl⟩

set_option maxRecDepth 100000 in
theorem lifted (os : Os) (started : os.Started) (H : Type) (enc : TypeId × Value → H) (F : Stop.Interp) :
    ReturnsInHanded {} Tryd.checked os 5 .any ((OpenSpec.ofChange Rows.shaOrdersSpec).preRow enc Tryd.prog Tryd.f5 Rows.shaOrdersRow.domain false Rows.shaOrdersRow.laid) (((OpenSpec.ofChange Rows.shaOrdersSpec).at F).post enc Tryd.prog Tryd.f5 false true false false) := by
  obtain ⟨places, hx⟩ := reads os enc
  refine returnsInHanded_of_row (C := Tryd.checked) (s := OpenSpec.ofChange Rows.shaOrdersSpec) own started (by kernel_rfl) Tryd.func5
    (witness_row_at (enc := enc) (C := Tryd.checked) false (laidWorld os) #[K0, K0, K0, .int .i64 0] rfl (by kernel_rfl) (by kernel_rfl) (by kernel_rfl)
      (OpenSpec.preRow_of_cond 8 hx (by kernel_rfl) (fun k hk => by cases hk) (by kernel_rfl) (laid_met os))) ?_
  intro W base args ds gs before hval hW _ _ hsz hL _ _
  exact contract H enc W base args ds gs before hval hW hL

theorem said : Rows.ShaOrdersSaid :=
  OpenClaim.holds_of_cond 5 Tryd.f5 rfl rfl rfl rfl rfl rfl rfl ⟨rfl, rfl, rfl, rfl, rfl⟩ rfl rfl rfl rfl rfl (by kernel_rfl) Tryd.func5 (by kernel_rfl)
    (of_decide_eq_true (by kernel_rfl)) (by unfold Func.isWrapper; first | (rw [if_pos (by decide +kernel)]; kernel_rfl) | (rw [if_neg (by decide +kernel)]; exact ⟨rfl, rfl⟩))
    (fun os started H enc _ F => by rw [OpenClaim.pre_eq_preRow]; exact lifted os started H enc F)

theorem plain (f : FuncId) (fn : Func) (hf : Tryd.pinned.checked.prog.funcNamed "silo/silolaw03.ShaOrders" = some f) (hfn : Tryd.pinned.checked.prog.funcs[f]? = some fn) :
    false = Tryd.pinned.checked.prog.looks [] ∧ ∀ (j : Nat) t, fn.params[j]? = some t → Tryd.pinned.checked.prog.wantsStandIn t = false := by
  obtain rfl : f = 5 := Option.some.inj ((show Tryd.prog.funcNamed "silo/silolaw03.ShaOrders" = some 5 by kernel_rfl).symm.trans hf) |>.symm
  obtain rfl : fn = Tryd.f5 := (Option.some.inj (Tryd.func5.symm.trans hfn)).symm
  refine ⟨by kernel_rfl, fun j t ht => ?_⟩
  rw [Tryd.params5] at ht
  have hm := Array.mem_of_getElem? ht
  have h : t = 25 ∨ t = 3 := by simpa using hm
  rcases h with rfl | rfl
  · exact (show Tryd.prog.wantsStandIn 25 = false by kernel_rfl)
  · exact (show Tryd.prog.wantsStandIn 3 = false by kernel_rfl)

/-- ████ THE CARD ████ -/
theorem card : Rows.ShaOrdersCardSaid :=
  Claim7.holds_tied_plain_at .later [] _ _ _ _ said (fun _ h => by cases h) (by kernel_rfl) (fun _ h => by cases h) shaOrders_row_tie rfl ⟨rfl, rfl⟩ (by kernel_rfl) rfl plain (by kernel_rfl)
end ShaOrders
end Go.Proofs.YtoijdiokomineaaDoor
