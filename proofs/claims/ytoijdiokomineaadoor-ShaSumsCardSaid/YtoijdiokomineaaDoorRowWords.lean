/-
  silolaw03.ShaWords answers true for any two keys, and leaves what was there as it was: the row's statement, and the card, in which the table of rounds is tied to the program's text.
-/
import Derived.Test.YtoijdiokomineaaDoorRow
import Derived.Test.YtoijdiokomineaaDoorWords
import Derived.Test.YtoijdiokomineaaDoorAwake
namespace Go.Proofs.YtoijdiokomineaaDoor
open Go.ChangeShapes Go.WideShapes Go.ChangeAt Go.RowKit
set_option linter.unusedVariables false

theorem own : ownKnob Tryd.prog.godebug = none := by kernel_rfl
theorem laidOut : laidOutB Tryd.prog = true := by kernel_rfl
theorem gTab : Tryd.prog.globalNamed "silo/sha.rounds" = some 0 := by kernel_rfl
theorem gTabType : (Tryd.prog.globals[0]?).map (·.type) = some 52 := by kernel_rfl
theorem und4 : Tryd.prog.underlying 4 = some .bool := by kernel_rfl
theorem cells52 : Tryd.prog.cellsOf 52 = 64 := by kernel_rfl
theorem cells29 : Tryd.prog.cellsOf 29 = 1 := by kernel_rfl
theorem cells25 : Tryd.prog.cellsOf 25 = 32 := by kernel_rfl
theorem cells5 : Tryd.prog.cellsOf 5 = 1 := by kernel_rfl

/-- A key as an argument: thirty-two bytes. -/
theorem open_key {H : Type} {enc : TypeId × Value → H} {w : World} {base : Nat} {spare : Nat → Bool} {held : Bool} {r : Reach} {b0 : Nat} {v : Value} {d : DataW H} {p : List MemPlace}
    (hv : Value.okWide Tryd.prog w r b0 25 v) (h : DataW.Trod enc Tryd.prog w base spare held 25 v d p) : ∃ K : Nat → Int, v = .agg (nums .u8 K 32) ∧ ∀ j, U8 (K j) := by
  simp only [Value.okWide, und25] at hv
  obtain ⟨cs, rfl, hsz, _⟩ := hv
  rw [cells25] at hsz
  obtain ⟨fuel, hf⟩ := h
  obtain ⟨xs, m, _, _, hl, hxs, hx⟩ := DataW.trod_array und25 hf
  rw [cells5] at hx
  have hc : ∀ i, i < 32 → ∃ n : Int, cs[i]? = some (.int .u8 n) ∧ U8 n := by
    intro i hi
    have hxi := hx i hi
    cases hq : xs[i]? with
    | none => rw [List.getElem?_eq_none_iff] at hq; omega
    | some x =>
      rw [hq] at hxi
      obtain ⟨n, hn, _, hw⟩ := DataW.trod_int und5 hxi
      have hii : i < cs.toList.length := by simp; omega
      refine ⟨n, ?_, ?_⟩
      · have e : ((Value.agg cs).cells.toList.drop (i * 1)).take 1 = [cs.toList[i]] := by
          show (cs.toList.drop (i * 1)).take 1 = _
          rw [Nat.mul_one, List.drop_eq_getElem_cons hii]
          rfl
        rw [e] at hn
        have : cs.toList[i] = Value.int IntKind.u8 n := by simpa using hn
        rw [← this]
        simp [Array.getElem?_eq_getElem (by omega : i < cs.size)]
      · have hw' := hw
        simp [Lit.wf, IntKind.min, IntKind.max, IntKind.signed, IntKind.bits] at hw'
        unfold U8; omega
  refine ⟨fun j => match cs[j]? with | some (.int _ n) => n | _ => 0, ?_, ?_⟩
  · congr 1
    apply Array.ext
    · rw [nums_size]; exact hsz
    · intro i h1 h2
      have hi : i < 32 := by omega
      obtain ⟨n, hn, _⟩ := hc i hi
      have e := nums_get .u8 (fun j => match cs[j]? with | some (.int _ n) => n | _ => 0) 32 i hi
      rw [Array.getElem?_eq_getElem h2] at e
      rw [Array.getElem?_eq_getElem h1] at hn
      simp only [Option.some.injEq] at e hn
      rw [e, Array.getElem?_eq_getElem h1, hn]
  · intro j
    by_cases hj : j < 32
    · obtain ⟨n, hn, hu⟩ := hc j hj
      simp only [hn]; exact hu
    · have : cs[j]? = none := by simp; omega
      simp only [this]; exact ⟨Int.le_refl _, show (0 : Int) < 256 by decide⟩

/-- WHAT THE ROW's LIST GIVES: the table of rounds. -/
theorem table {W : World} (h : laidMetH Tryd.prog [("silo/sha.rounds", Rows.laid_silo_sha_rounds)] W) : ∃ T fz, W.heap[0]? = some (.cells (nums .u32 kv 64) T fz) := by
  have ht : Lib.TabIs Tryd.prog W "silo/sha.rounds" .u32 kl := Lib.tabIs_of_head (rest := []) gTab gTabType und52 und29 cells29 cells52 h
  unfold Lib.TabIs World.var? at ht
  rw [gTab] at ht
  have e : (kl.map fun z => Value.int IntKind.u32 z).toArray = nums .u32 kv 64 := by rfl
  rw [e] at ht
  simp only [Option.bind_some] at ht
  split at ht
  · rename_i c t fz hh
    simp only [Option.some.injEq] at ht
    subst ht
    exact ⟨_, _, hh⟩
  · cases ht

/-- Where the table lies, it lies in every later world. -/
theorem table_later {W wx : World} {T : TypeId} {fz : Nat × Nat} (h : W.heap[0]? = some (.cells (nums .u32 kv 64) T fz)) (hb : Below W.heap.size W wx) : wx.heap[0]? = some (.cells (nums .u32 kv 64) T fz) :=
  (hb.block 0 (Array.getElem?_eq_some_iff.1 h).1).trans h

theorem readable25 : Tryd.prog.readableRec 25 = true := by kernel_rfl
theorem tsize : 60 < Tryd.prog.types.size := of_decide_eq_true (by kernel_rfl)
theorem ok25 : Tryd.prog.readableRec 25 = true ∧ 25 < Tryd.prog.types.size := ⟨readable25, Nat.lt_trans (by decide) tsize⟩
/-- A key of zeros, for the witness. -/
def K0 : Value := .agg (nums .u8 (fun _ => 0) 32)
def D0 {H : Type} : DataW H := .agg (List.replicate 32 (.lit (.int .u8 0)))

namespace ShaWords
theorem contract (H : Type) (enc : TypeId × Value → H) (W : World) (base : Nat) (args : Array Value) (ds gs : List (DataW H)) (before : List MemPlace)
    (hval : ∀ (j : Nat) t v, Tryd.f4.params[j]? = some t → args[j]? = some v → Value.okWide Tryd.prog W .any base t v)
    (hW : DataW.Whole enc Tryd.prog Tryd.f4.params.toList Rows.shaWordsSpec.vars false W args.toList ds gs before) (hL : laidMetH Tryd.prog Rows.shaWordsRow.laid W) :
    Calls Tryd.prog 4 args W fun e W' => ∃ v, e = .returned v ∧ Rows.shaWordsSpec.post enc Tryd.prog Tryd.f4 false true false false W args v W' := by
  obtain ⟨T, fz, hG⟩ := table hL
  have hW' := hW
  obtain ⟨p, q, hA0, hV, rfl, hfz, hnd⟩ := hW
  have hA : DataW.TrodAll enc Tryd.prog W 0 (fun _ => true) true Tryd.f4.params.toList args.toList ds p := hA0
  rw [Tryd.params4] at hA hval
  obtain ⟨v0, vs0, d0, ds0, p0, q0, hargs, rfl, rfl, h0, r0⟩ := trodAll_cons hA
  obtain ⟨v1, vs1, d1, ds1, p1, q1, rfl, rfl, rfl, h1, r1⟩ := trodAll_cons r0
  obtain ⟨rfl, rfl, rfl⟩ := trodAll_nil r1
  obtain rfl : args = #[v0, v1] := by cases args; simp_all
  obtain ⟨A, rfl, hAu⟩ := open_key (hval 0 25 v0 rfl rfl) h0
  obtain ⟨B, rfl, hBu⟩ := open_key (hval 1 25 v1 rfl rfl) h1
  refine (words_any A B hAu hBu W (fun wx hb => awake_any wx T fz (table_later hG hb))).mono fun e W' ⟨he, hb⟩ => ⟨_, he, ?_⟩
  exact post_law laidOut hW' rfl hb (by rw [Tryd.params4]; intro t ht; simp at ht; subst ht; exact ok25) rfl (by kernel_rfl) und4

noncomputable def laidWorld (os : Os) : World :=
  { World.holding Tryd.prog os ⟨#[], #[], []⟩ with heap := (World.holding Tryd.prog os ⟨#[], #[], []⟩).heap.modify 0 fun
      | .cells _ t frozen => .cells (kl.map fun z => Value.int IntKind.u32 z).toArray t frozen
      | o => o }
theorem laid_met (os : Os) : laidMet Tryd.prog Rows.shaWordsRow.laid ((laidWorld os).forCall (fun _ _ => 0) ⟨#[], #[K0, K0], []⟩).memory :=
  laidMet_of_run' 8 (by kernel_rfl) (by kernel_rfl)
theorem reads (os : Os) {H : Type} (enc : TypeId × Value → H) : ∃ places, DataW.whole enc Tryd.prog ((laidWorld os).forCall (fun _ _ => 0) ⟨#[], #[K0, K0], []⟩).memory Tryd.f4.params.toList Rows.shaWordsSpec.vars false (#[K0, K0] : Array Value).toList 8 = some ([D0, D0], [], places) :=
  ⟨[], by kernel_rfl⟩

set_option maxRecDepth 100000 in
theorem lifted (os : Os) (started : os.Started) (H : Type) (enc : TypeId × Value → H) (F : Stop.Interp) :
    ReturnsInHanded {} Tryd.checked os 4 .any ((OpenSpec.ofChange Rows.shaWordsSpec).preRow enc Tryd.prog Tryd.f4 Rows.shaWordsRow.domain false Rows.shaWordsRow.laid) (((OpenSpec.ofChange Rows.shaWordsSpec).at F).post enc Tryd.prog Tryd.f4 false true false false) := by
  obtain ⟨places, hx⟩ := reads os enc
  refine returnsInHanded_of_row (C := Tryd.checked) (s := OpenSpec.ofChange Rows.shaWordsSpec) own started (by kernel_rfl) Tryd.func4
    (witness_row_at (enc := enc) (C := Tryd.checked) false (laidWorld os) #[K0, K0] rfl (by kernel_rfl) (by kernel_rfl) (by kernel_rfl)
      (OpenSpec.preRow_of_cond 8 hx (by kernel_rfl) (fun k hk => by cases hk) (by kernel_rfl) (laid_met os))) ?_
  intro W base args ds gs before hval hW _ _ hsz hL _ _
  exact contract H enc W base args ds gs before hval hW hL

theorem said : Rows.ShaWordsSaid :=
  OpenClaim.holds_of_cond 4 Tryd.f4 rfl rfl rfl rfl rfl rfl rfl ⟨rfl, rfl, rfl, rfl, rfl⟩ rfl rfl rfl rfl rfl (by kernel_rfl) Tryd.func4 (by kernel_rfl)
    (of_decide_eq_true (by kernel_rfl)) (by unfold Func.isWrapper; first | (rw [if_pos (by decide +kernel)]; kernel_rfl) | (rw [if_neg (by decide +kernel)]; exact ⟨rfl, rfl⟩))
    (fun os started H enc _ F => by rw [OpenClaim.pre_eq_preRow]; exact lifted os started H enc F)

theorem plain (f : FuncId) (fn : Func) (hf : Tryd.pinned.checked.prog.funcNamed "silo/silolaw03.ShaWords" = some f) (hfn : Tryd.pinned.checked.prog.funcs[f]? = some fn) :
    false = Tryd.pinned.checked.prog.looks [] ∧ ∀ (j : Nat) t, fn.params[j]? = some t → Tryd.pinned.checked.prog.wantsStandIn t = false := by
  obtain rfl : f = 4 := Option.some.inj ((show Tryd.prog.funcNamed "silo/silolaw03.ShaWords" = some 4 by kernel_rfl).symm.trans hf) |>.symm
  obtain rfl : fn = Tryd.f4 := (Option.some.inj (Tryd.func4.symm.trans hfn)).symm
  refine ⟨by kernel_rfl, fun j t ht => ?_⟩
  rw [Tryd.params4] at ht
  have hm := Array.mem_of_getElem? ht
  have h : t = 25 := by simpa using hm
  rcases h with rfl
  · exact (show Tryd.prog.wantsStandIn 25 = false by kernel_rfl)

/-- ████ THE CARD ████ -/
theorem card : Rows.ShaWordsCardSaid :=
  Claim7.holds_tied_plain_at .later [] _ _ _ _ said (fun _ h => by cases h) (by kernel_rfl) (fun _ h => by cases h) shaWords_row_tie rfl ⟨rfl, rfl⟩ (by kernel_rfl) rfl plain (by kernel_rfl)
end ShaWords
end Go.Proofs.YtoijdiokomineaaDoor
