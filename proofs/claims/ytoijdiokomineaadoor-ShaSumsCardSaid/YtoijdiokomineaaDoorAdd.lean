/-
  The walk of sha.Sum's closure: a byte is added to the block; a full block is mixed in.
-/
import Derived.Test.YtoijdiokomineaaDoorMixed
namespace Go.Proofs.YtoijdiokomineaaDoor
open Go.RowKit
set_option linter.unusedVariables false

structure SumW (w wr : World) (s : Str) : Prop where
  hk : ∃ f, wr.heap[w.heap.size]? = some (.cells (nums .u8 f 32) 25 (0,0))
  hh : wr.heap[w.heap.size+1]? = some (.cells (nums .u32 s.h 8) 44 (0,0))
  hb : wr.heap[w.heap.size+1+1]? = some (.cells (nums .u8 s.b 64) 45 (0,0))
  hn : wr.heap[w.heap.size+1+1+1]? = some (.cells (nums .i64 (fun _ => (s.n : Int)) 1) 3 (0,0))
  sz : w.heap.size+1+1+1+1 ≤ wr.heap.size
  below : Below w.heap.size w wr
  ok : s.Ok

/-- What is there behind the store of the byte and the raising of the count. -/
structure SumX (w wr : World) (s : Str) (c : Int) : Prop where
  hk : ∃ f, wr.heap[w.heap.size]? = some (.cells (nums .u8 f 32) 25 (0,0))
  hh : wr.heap[w.heap.size+1]? = some (.cells (nums .u32 s.h 8) 44 (0,0))
  hb : wr.heap[w.heap.size+1+1]? = some (.cells (nums .u8 (s.next c) 64) 45 (0,0))
  hn : wr.heap[w.heap.size+1+1+1]? = some (.cells (nums .i64 (fun _ => ((s.n + 1 : Nat) : Int)) 1) 3 (0,0))
  sz : w.heap.size+1+1+1+1 ≤ wr.heap.size
  below : Below w.heap.size w wr
theorem SumW.step {w wr : World} {s : Str} (h : SumW w wr s) {c : Int} (hc : U8 c) :
    SumX w ((wr.setCell ⟨w.heap.size+1+1, s.n, none⟩ (.int .u8 c)).setCell ⟨w.heap.size+1+1+1, 0, none⟩ (.int .i64 (↑s.n + 1))) s c := by
  refine ⟨?_, ?_, ?_, ?_, ?_, ?_⟩
  · obtain ⟨f, hf⟩ := h.hk
    exact ⟨f, by rw [heap_setCell_other _ _ _ _ (by simp <;> omega), heap_setCell_other _ _ _ _ (by simp <;> omega)]; exact hf⟩
  · rw [heap_setCell_other _ _ _ _ (by simp), heap_setCell_other _ _ _ _ (by simp)]; exact h.hh
  · rw [heap_setCell_other _ _ _ _ (by simp)]; exact nums_store h.hb _ _
  · have h1 : (wr.setCell ⟨w.heap.size+1+1, s.n, none⟩ (.int .u8 c)).heap[w.heap.size+1+1+1]? = some (.cells (nums .i64 (fun _ => (s.n : Int)) 1) 3 (0,0)) := by
      rw [heap_setCell_other _ _ _ _ (by simp)]; exact h.hn
    rw [nums_store h1 0 _]
    rw [nums_congr .i64 _ (fun _ => ((s.n + 1 : Nat) : Int)) 1 (fun j hj => by rw [if_pos (by omega)]; omega)]
  · simpa using h.sz
  · exact (h.below.setCell (by simp <;> omega) _).setCell (by simp <;> omega) _

theorem SumX.later {w wr w1 : World} {s : Str} {c : Int} (h : SumX w wr s c) (hb : Below wr.heap.size wr w1) : SumX w w1 s c := by
  have sz := h.sz
  refine ⟨?_, (hb.block _ (by omega)).trans h.hh, (hb.block _ (by omega)).trans h.hb, (hb.block _ (by omega)).trans h.hn, by have := hb.size; omega, h.below.trans (hb.mono (by omega))⟩
  obtain ⟨f, hf⟩ := h.hk
  exact ⟨f, (hb.block _ (by omega)).trans hf⟩
theorem und45 : Tryd.prog.underlying 45 = some (.array 64 5) := by kernel_rfl
theorem inf45 : (Tryd.prog.info? 45).map (·.size) = some 64 := by kernel_rfl

set_option maxRecDepth 100000 in
set_option maxHeartbeats 800000 in
theorem add_any (s : Str) (c : Int) (hc : U8 c) (w wr : World) (T : TypeId) (fz : Nat × Nat) (hG : w.heap[0]? = some (.cells (nums .u32 kv 64) T fz)) (hS : SumW w wr s) :
    Calls Tryd.prog 21 #[.int .u8 c, .pointer (some ⟨w.heap.size+1+1, 0, none⟩), .pointer (some ⟨w.heap.size+1+1+1, 0, none⟩), .pointer (some ⟨w.heap.size+1, 0, none⟩)] wr
      fun e w' => e = .returned (.tuple #[]) ∧ SumW w w' (s.add c) := by
  have hpos : 0 < w.heap.size := (Array.getElem?_eq_some_iff.1 hG).1
  have HG := Lib.hid hG; clear hG
  have cn := nums_cell hS.hn 0 (by omega)
  have cb := nums_cell hS.hb s.n hS.ok.n
  have fn := frozen_of_row _ _ 0 _ _ hS.hn
  have fb := frozen_of_row _ _ s.n _ _ hS.hb
  have hn := hS.ok.n
  have X := SumW.step hS hc
  by_cases h64 : s.n + 1 = 64
  · have hlo : 63 ≤ s.n := by omega
    have H64 := Lib.hid h64; clear h64
    have x0 : ((wr.setCell ⟨w.heap.size+1+1, s.n, none⟩ (.int .u8 c)).setCell ⟨w.heap.size+1+1+1, 0, none⟩ (.int .i64 (↑s.n + 1))).heap[0]? = some (.cells (nums .u32 kv 64) T fz) := (X.below.block 0 hpos).trans HG.out
    have hB : ∀ j, 0 ≤ s.next c j ∧ s.next c j < 256 := fun j => by unfold Str.next; split <;> first | exact hc | exact hS.ok.b j
    have HB := Lib.hid hB; clear hB
    have HX0 := Lib.hid x0; clear x0
    have HX := Lib.hid X; clear X
    have HS := Lib.hid hS; clear hS
    go_enter Tryd.func21, Tryd.ntmps21
    go_wp2_with (first
      | ((with_reducible refine at_op (.load 44 (.tmp 3)) rfl ?_); go_must (refine load_nums rfl 44 (.tmp 3) rfl (w.heap.size+1) rfl HX.out.hh und44 inf44 ?_))
      | ((with_reducible refine at_op (.load 45 (.tmp 1)) rfl ?_); go_must (refine load_nums rfl 45 (.tmp 1) rfl (w.heap.size+1+1) rfl HX.out.hb und45 inf45 ?_)))
    refine (mixed_any _ _ HB.out HS.out.ok.h _ _ _ HX0.out).mono ?_
    rintro e w1 ⟨rfl, hb1⟩
    have Y := HX.out.later hb1
    have hh1 := Y.hh
    have cn1 : ∀ cs, (w1.setRow (w.heap.size+1) cs).cell? ⟨w.heap.size+1+1+1, 0, none⟩ = some (.int .i64 ((s.n + 1 : Nat) : Int)) := fun cs => by
      rw [cell_setRow_other _ _ _ _ (by simp <;> omega)]; exact nums_cell Y.hn 0 (by omega)
    have fn1 : ∀ cs, (w1.setRow (w.heap.size+1) cs).frozen? ⟨w.heap.size+1+1+1, 0, none⟩ = false := fun cs => by
      exact frozen_of_row _ _ _ _ _ ((setRow_other _ _ _ _ (by omega)).trans Y.hn)
    have HY := Lib.hid Y
    clear cn cb fn fb Y
    go_wp2_with ((with_reducible refine at_op (.store 44 (.tmp 3) (.tmp 14)) rfl ?_); go_must (refine store_nums rfl 44 (.tmp 3) (.tmp 14) rfl (w.heap.size+1) rfl rfl hh1 inf44 ?_))
    refine bodyPost_end (results_none rfl _ _ _) rfl ⟨rfl, ?_⟩
    have e : s.add c = ⟨comp s.h (s.next c), s.next c, 0⟩ := by unfold Str.add; rw [if_pos H64.out]
    rw [e]
    have Y := HY.out
    refine ⟨?_, ?_, ?_, ?_, ?_, ?_, by rw [← e]; exact HS.out.ok.add hc⟩
    · obtain ⟨f, hf⟩ := Y.hk
      exact ⟨f, by rw [heap_setCell_other _ _ _ _ (by simp <;> omega), setRow_other _ _ _ _ (by omega)]; exact hf⟩
    · rw [heap_setCell_other _ _ _ _ (by simp)]; exact setRow_heap _ _ _ _ _ _ hh1
    · rw [heap_setCell_other _ _ _ _ (by simp), setRow_other _ _ _ _ (by omega)]; exact Y.hb
    · have h1 : (w1.setRow (w.heap.size+1) (nums .u32 (comp s.h (s.next c)) 8)).heap[w.heap.size+1+1+1]? = some (.cells (nums .i64 (fun _ => ((s.n + 1 : Nat) : Int)) 1) 3 (0,0)) := by
        rw [setRow_other _ _ _ _ (by omega)]; exact Y.hn
      rw [nums_store h1 0 _]
      rw [nums_congr .i64 _ (fun _ => ((0 : Nat) : Int)) 1 (fun j hj => by rw [if_pos (by omega)]; rfl)]
    · have := Y.sz; simpa using this
    · exact (below_setRow' Y.below _ (by omega) _).setCell (by simp <;> omega) _
  · have HX := Lib.hid X; clear X
    go_enter Tryd.func21, Tryd.ntmps21
    go_wp2_with fail
    refine bodyPost_end (results_none rfl _ _ _) rfl ⟨rfl, ?_⟩
    have e : s.add c = ⟨s.h, s.next c, s.n + 1⟩ := by unfold Str.add; rw [if_neg h64]
    rw [e]
    have X := HX.out
    exact ⟨X.hk, X.hh, X.hb, X.hn, X.sz, X.below, by rw [← e]; exact hS.ok.add hc⟩
end Go.Proofs.YtoijdiokomineaaDoor
