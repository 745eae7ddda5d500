/-
  The walk of silolaw03.ShaSums.
-/
import Derived.Test.YtoijdiokomineaaDoorRefSum
import Derived.Test.YtoijdiokomineaaDoorAny
import Derived.Test.YtoijdiokomineaaDoorDigits
namespace Go.Proofs.YtoijdiokomineaaDoor
open Go.RowKit
set_option linter.unusedVariables false
set_option linter.unusedSimpArgs false

/-- The first i texts, one behind the other. -/
def catS (ss : Nat → ByteArray) : Nat → ByteArray
  | 0 => { data := #[] }
  | i + 1 => catS ss i ++ ss i
theorem bl_append (a b : ByteArray) : bl (a ++ b) = bl a ++ bl b := by unfold bl; simp
theorem bl_catS (ss : Nat → ByteArray) (i : Nat) : bl (catS ss i) = pre ss i := by
  induction i with
  | zero => rfl
  | succ i ih => show bl (catS ss i ++ ss i) = pre ss i ++ bl (ss i); rw [bl_append, ih]

/-- The two things that the law's last line reads. -/
def SC (w : World) (kb b off len : Nat) (ss : Nat → ByteArray) (K : Nat → Int) (w' : World) : Prop :=
  w'.rangeAt kb 0 (numsL .u8 K 32) ∧ Below w.heap.size w w'
theorem SC.step {w : World} {kb b off len : Nat} {ss : Nat → ByteArray} {K : Nat → Int} {w1 w2 : World} (h : SC w kb b off len ss K w1) (hb : Below w1.heap.size w1 w2) : SC w kb b off len ss K w2 :=
  ⟨range_below h.1 hb, h.2.trans (hb.mono h.2.size)⟩

set_option maxRecDepth 100000 in
set_option maxHeartbeats 1000000 in
theorem sums_any (ao : Option Addr) (b off len cap : Nat) (ss : Nat → ByteArray) (w : World) (T : TypeId) (fz : Nat × Nat) (hG : w.heap[0]? = some (.cells (nums .u32 kv 64) T fz))
    (hao : 0 < len → ao = some ⟨b, off, none⟩ ∧ b < w.heap.size) (hc : ∀ i, i < len → w.cell? ⟨b, off + i, none⟩ = some (.string (ss i))) (hlen : len ≤ 9223372036854775807)
    (haw : ∀ wx : World, Below w.heap.size w wx → Calls Tryd.prog 7 #[] wx fun e w' => e = .returned (.bool true) ∧ Below wx.heap.size wx w') :
    Calls Tryd.prog 3 #[.slice ao len cap] w fun e w' => e = .returned (.bool true) ∧ Below w.heap.size w w' := by
  have HAO := Lib.hid hao; clear hao
  have HC := Lib.hid hc; clear hc
  have HG := Lib.hid hG; clear hG
  have HAW := Lib.hid haw; clear haw
  go_enter Tryd.func3, Tryd.ntmps3
  go_wp2_with fail
  go_loopg [3, 4] len (fun g x v wr => ∃ i : Nat, i + g = len ∧ v = .int .i64 i ∧ x = .string (catS ss i) ∧ (catS ss i).size ≤ 40000 ∧ w = wr)
  case atStart => exact ⟨0, by omega, rfl, rfl, Nat.zero_le _, rfl⟩
  case round =>
    obtain ⟨i, hi, rfl, rfl, hsz, rfl⟩ := hrel
    by_cases hlt : i < len
    · obtain ⟨rfl, hb⟩ := HAO.out (by omega)
      have ci := HC.out i hlt
      have hcat : catS ss (i + 1) = catS ss i ++ ss i := rfl
      have HCAT := Lib.hid hcat; clear hcat
      obtain ⟨s, hs⟩ : ∃ s, ss i = s := ⟨_, rfl⟩
      obtain ⟨A, hA⟩ : ∃ A, catS ss i = A := ⟨_, rfl⟩
      rw [hs] at ci HCAT
      rw [hA] at hsz HCAT ⊢
      clear hs hA
      by_cases h1 : 20000 < s.size
      · have h1' : (20000 : Int) < (s.size : Int) := by omega
        go_wp2_with fail
        refine (HAW.out _ (Below.refl _ _)).mono ?_
        rintro e w1 ⟨rfl, hb1⟩
        go_wp2_with fail
        go_ret
        exact ⟨rfl, hb1⟩
      · have h1' : ¬ ((20000 : Int) < (s.size : Int)) := by omega
        by_cases h2 : 20000 < A.size
        · have h2' : (20000 : Int) < (A.size : Int) := by omega
          go_wp2_with fail
          refine (HAW.out _ (Below.refl _ _)).mono ?_
          rintro e w1 ⟨rfl, hb1⟩
          go_wp2_with fail
          go_ret
          exact ⟨rfl, hb1⟩
        · have h2' : ¬ ((20000 : Int) < (A.size : Int)) := by omega
          have hsum : (A ++ s).size ≤ 40000 := by rw [ByteArray.size_append]; omega
          have hno : ¬ (9223372036854775807 < A.size + s.size) := by omega
          have HSUM := Lib.hid hsum; clear hsum
          go_wp2_with fail
          go_roundg (len - (i+1))
          case measure => omega
          case rel => exact ⟨i+1, by omega, by go_num, by rw [HCAT.out], by rw [HCAT.out]; exact HSUM.out, rfl⟩
    · obtain rfl : i = len := by omega
      have hbl := bl_catS ss i
      have hlp : (pre ss i).length ≤ 40000 := by rw [← hbl, bl_length]; exact hsz
      have hpre1 : pre (fun _ => catS ss i) 1 = pre ss i := by show [] ++ bl (catS ss i) = _; rw [hbl]; rfl
      have HPRE := Lib.hid hpre1; clear hpre1
      have HBL := Lib.hid hbl; clear hbl
      obtain ⟨A, hA⟩ : ∃ A, catS ss i = A := ⟨_, rfl⟩
      rw [hA] at hsz HPRE HBL ⊢
      clear hA
      obtain ⟨L, hL⟩ : ∃ L, pre ss i = L := ⟨_, rfl⟩
      have hsumA : ∀ wx : World, Below w.heap.size w wx → Calls Tryd.prog 9 #[.slice ao i cap] wx fun e w' => e = .returned (.agg (nums .u8 (shaKey L) 32)) ∧ Below wx.heap.size wx w' := fun wx hbx => by
        rw [← hL]
        exact sum_any ao b off i cap ss wx T fz ((hbx.block 0 (Array.getElem?_eq_some_iff.1 HG.out).1).trans HG.out) (fun h => ⟨(HAO.out h).1, Nat.lt_of_lt_of_le (HAO.out h).2 hbx.size⟩)
          (fun j hj => (hbx.cell (p := ⟨b, off + j, none⟩) (HAO.out (by omega)).2).trans (HC.out j hj)) hlen (by omega)
      have hsumB : ∀ wx : World, Below w.heap.size w wx → Calls Tryd.prog 9 #[.slice (some ⟨wx.heap.size, 0, none⟩) 1 1] (wx.alloc (.cells #[.string A] 9)) fun e w' => e = .returned (.agg (nums .u8 (shaKey L) 32)) ∧ Below wx.heap.size wx w' := fun wx hbx => by
        have h0 := (hbx.block 0 (Array.getElem?_eq_some_iff.1 HG.out).1).trans HG.out
        have hpos : 0 < wx.heap.size := (Array.getElem?_eq_some_iff.1 h0).1
        refine (sum_any (some ⟨wx.heap.size, 0, none⟩) wx.heap.size 0 1 1 (fun _ => A) (wx.alloc (.cells #[.string A] 9)) T fz ((heap_old _ _ _ hpos).trans h0) (fun _ => ⟨rfl, by simp⟩)
          (fun j hj => by obtain rfl : j = 0 := by omega
                          rw [cell_of_row _ _ _ _ _ _ (heap_new wx _)]; rfl) (by decide) (by rw [HPRE.out]; omega)).mono ?_
        rw [HPRE.out, hL]
        rintro e w' ⟨he, hb'⟩
        exact ⟨he, ((Below.refl _ _).alloc (Nat.le_refl _) _).trans (hb'.mono (by simp))⟩
      have hrs : ∀ wx, Calls Tryd.prog 8 #[.string A] wx fun e w' => e = .returned (.agg (nums .u8 (shaKey L) 32)) ∧ Below wx.heap.size wx w' := fun wx => by
        have := rsum_any A (by omega) wx
        rw [HBL.out, hL] at this
        exact this
      have HSA := Lib.hid hsumA; have HSB := Lib.hid hsumB; have HRS := Lib.hid hrs
      clear hsumA hsumB hrs hL HPRE HBL
      obtain ⟨K, hK⟩ : ∃ K, shaKey L = K := ⟨_, rfl⟩
      rw [hK] at HSA HSB HRS
      clear hK
      have heq := run_eql_nums (P := Tryd.prog) 25 5 32 .u8 K K und25 und5 inf5
      rw [sameF_self] at heq
      go_wp2_with fail
      refine (HRS.out _).mono ?_
      rintro e w1 ⟨rfl, hb1⟩
      have lb1 := layK_below w1 K
      have lr1 := layK_range w1 K
      have hc1 := hb1.trans (lb1.mono hb1.size)
      go_wp2_with (first
        | ((with_reducible refine at_op (.store 25 (.tmp 5) (.tmp 31)) rfl ?_); go_must (refine store_nums rfl 25 (.tmp 5) (.tmp 31) rfl w1.heap.size rfl rfl ((heap_new _ _).trans (congrArg (fun z => some (Obj.cells z 25 (0,0))) Z32)) inf25 ?_)))
      rw [Z32]
      show (Code.region _ _ _).wp _ _ _ (layK w1 K)
      obtain ⟨kb, hkb⟩ : ∃ kb, w1.heap.size = kb := ⟨_, rfl⟩
      obtain ⟨W, hW⟩ : ∃ W, layK w1 K = W := ⟨_, rfl⟩
      rw [hW] at lr1 hc1 ⊢
      rw [hkb] at lr1 ⊢
      have hS : SC w kb b off i ss K W.drew := ⟨lr1, hc1.drew⟩
      clear lb1 lr1 hb1 hW hkb hc1
      refine aw_begin (SC w kb b off i ss K) 15 rfl (by kernel_rfl) ?_
      refine aw_call 0 (by kernel_rfl) rfl rfl 7 (by first | (go_simp; done) | (go_simp; rfl)) (HAW.out _ hS.2) ?_
      intro w2 hb2
      have hS2 := hS.step hb2
      refine ⟨hS2, ?_⟩
      simp only [Act.put, List.setIfInBounds_toArray, List.set_cons_zero, List.set_cons_succ]
      refine aw_take 1 hS2 rfl (by kernel_rfl) (by kernel_rfl) (by kernel_rfl) (fun _ _ _ h => h) (y_run rfl fun w' hw' => by go_simp; rfl) ?_
      simp only [Act.put, List.setIfInBounds_toArray, List.set_cons_zero, List.set_cons_succ]
      refine aw_take 2 hS2 rfl (by kernel_rfl) (by kernel_rfl) (by kernel_rfl) (fun _ _ _ h => h) (y_run rfl fun w' hw' => by go_simp; rfl) ?_
      simp only [Act.put, List.setIfInBounds_toArray, List.set_cons_zero, List.set_cons_succ]
      refine aw_take 4 hS2 rfl (by kernel_rfl) (by kernel_rfl) (by kernel_rfl) (fun _ _ _ h => h) (y_load rfl 25 (.tmp 5) rfl kb rfl (fun w' h => h.1) und25 inf25) ?_
      simp only [Act.put, List.setIfInBounds_toArray, List.set_cons_zero, List.set_cons_succ]
      refine aw_call 3 (by kernel_rfl) rfl rfl 9 (by first | (go_simp; done) | (go_simp; rfl)) (HSA.out _ hS2.2) ?_
      intro w3 hb3
      have hS3 := hS2.step hb3
      refine ⟨hS3, ?_⟩
      simp only [Act.put, List.setIfInBounds_toArray, List.set_cons_zero, List.set_cons_succ]
      refine aw_take 5 hS3 rfl (by kernel_rfl) (by kernel_rfl) (by kernel_rfl) (fun _ _ _ h => h) (y_run rfl fun w' hw' => by go_simp; rfl) ?_
      simp only [Act.put, List.setIfInBounds_toArray, List.set_cons_zero, List.set_cons_succ]
      refine aw_take 6 hS3 rfl (by kernel_rfl) (by kernel_rfl) (by kernel_rfl) (fun _ _ _ h => h) (y_run rfl fun w' hw' => by go_simp; rfl) ?_
      simp only [Act.put, List.setIfInBounds_toArray, List.set_cons_zero, List.set_cons_succ]
      refine aw_take 7 hS3 rfl (by kernel_rfl) (by kernel_rfl) (by kernel_rfl) (fun _ _ _ h => h) (y_run rfl fun w' hw' => by go_simp; rfl) ?_
      simp only [Act.put, List.setIfInBounds_toArray, List.set_cons_zero, List.set_cons_succ]
      refine aw_take 8 hS3 rfl (by kernel_rfl) (by kernel_rfl) (by kernel_rfl) (fun _ _ _ h => h) (y_run rfl fun w' hw' => by go_simp; rfl) ?_
      simp only [Act.put, List.setIfInBounds_toArray, List.set_cons_zero, List.set_cons_succ]
      refine aw_take 11 hS3 rfl (by kernel_rfl) (by kernel_rfl) (by kernel_rfl) (fun _ _ _ h => h) (y_load rfl 25 (.tmp 5) rfl kb rfl (fun w' h => h.1) und25 inf25) ?_
      simp only [Act.put, List.setIfInBounds_toArray, List.set_cons_zero, List.set_cons_succ]
      refine aw_run 9 (v := .slice (some ⟨w3.heap.size, 0, none⟩) 1 1) (w' := w3.alloc (.cells #[.string A] 9)) (by kernel_rfl) rfl rfl (by first | (go_simp; done) | (go_simp; rfl)) ?_
      refine ⟨hS3.step ((Below.refl _ _).alloc (Nat.le_refl _) _), ?_⟩
      simp only [Act.put, List.setIfInBounds_toArray, List.set_cons_zero, List.set_cons_succ]
      refine aw_call 10 (by kernel_rfl) rfl rfl 9 (by first | (go_simp; done) | (go_simp; rfl)) (HSB.out w3 hS3.2) ?_
      intro w4 hb4
      have hS4 := hS3.step hb4
      refine ⟨hS4, ?_⟩
      simp only [Act.put, List.setIfInBounds_toArray, List.set_cons_zero, List.set_cons_succ]
      refine aw_take 12 hS4 rfl (by kernel_rfl) (by kernel_rfl) (by kernel_rfl) (fun _ _ _ h => h) (y_run rfl fun w' hw' => by go_simp; rfl) ?_
      simp only [Act.put, List.setIfInBounds_toArray, List.set_cons_zero, List.set_cons_succ]
      refine aw_take 13 hS4 rfl (by kernel_rfl) (by kernel_rfl) (by kernel_rfl) (fun _ _ _ h => h) (y_run rfl fun w' hw' => by go_simp; rfl) ?_
      simp only [Act.put, List.setIfInBounds_toArray, List.set_cons_zero, List.set_cons_succ]
      refine aw_take 14 hS4 rfl (by kernel_rfl) (by kernel_rfl) (by kernel_rfl) (fun _ _ _ h => h) (y_run rfl fun w' hw' => by go_simp; rfl) ?_
      simp only [Act.put, List.setIfInBounds_toArray, List.set_cons_zero, List.set_cons_succ]
      refine aw_done (by kernel_rfl) ?_
      go_wp2_with fail
      go_ret
      exact ⟨rfl, hS4.2⟩
end Go.Proofs.YtoijdiokomineaaDoor
