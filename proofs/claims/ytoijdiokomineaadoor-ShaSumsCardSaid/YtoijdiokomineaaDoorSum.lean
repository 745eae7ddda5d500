/-
  The walk of sha.Sum: the key of the texts, one behind the other; of memory nothing is turned that was there.
-/
import Derived.Test.YtoijdiokomineaaDoorAdd
import Derived.Test.YtoijdiokomineaaDoorStr
namespace Go.Proofs.YtoijdiokomineaaDoor
open Go.RowKit
set_option linter.unusedVariables false

theorem sum_start (w : World) : SumW w
    (((((w.alloc (.cells (nums .u8 (fun _ => 0) 32) 25)).alloc (.cells (nums .u32 hstart 8) 44)).alloc (.cells (nums .u8 (fun _ => 0) 64) 45)).alloc (.cells (nums .i64 (fun _ => 0) 1) 3))) sstart := by
  refine ⟨⟨fun _ => 0, ?_⟩, ?_, ?_, ?_, by simp, ((((Below.refl _ _).alloc (Nat.le_refl _) _).alloc (by simp) _).alloc (by simp <;> omega) _).alloc (by simp <;> omega) _, sstart_ok⟩
  · rw [heap_old _ _ _ (by simp <;> omega), heap_old _ _ _ (by simp <;> omega), heap_old _ _ _ (by simp <;> omega), heap_new]
  · rw [heap_old _ _ _ (by simp <;> omega), heap_old _ _ _ (by simp <;> omega), heap_new' _ _ _ (by simp)]; rfl
  · rw [heap_old _ _ _ (by simp <;> omega), heap_new' _ _ _ (by simp)]; rfl
  · rw [heap_new' _ _ _ (by simp)]; rfl

theorem len8_succ (n m : Nat) : len8 n (m + 1) = len8 n m ++ [(n : Int) * 8 / 2 ^ (56 - 8 * m) % 256] := by
  unfold len8
  rw [List.range_succ, List.map_append]
  simp

theorem keyOf_at (h : Nat → Int) (i k : Nat) (hk : k < 4) : keyOf h (4 * i + k) = h i / 2 ^ (24 - 8 * k) % 256 := by
  unfold keyOf
  rw [show (4 * i + k) / 4 = i by omega, show (4 * i + k) % 4 = k by omega]
  simp
theorem und25 : Tryd.prog.underlying 25 = some (.array 32 5) := by kernel_rfl
theorem inf25 : (Tryd.prog.info? 25).map (·.size) = some 32 := by kernel_rfl

structure KeyW (w wr : World) (M : Nat) (V : Nat → Int) : Prop where
  hk : ∃ f, wr.heap[w.heap.size]? = some (.cells (nums .u8 f 32) 25 (0,0))
  hm : wr.heap[M]? = some (.cells (nums .u8 V 32) 25 (0,0))
  ge : w.heap.size + 1 ≤ M
  below : Below w.heap.size w wr
theorem KeyW.congr {w wr : World} {M : Nat} {V V' : Nat → Int} (h : KeyW w wr M V) (e : ∀ j, j < 32 → V j = V' j) : KeyW w wr M V' :=
  ⟨h.hk, by rw [← nums_congr _ _ _ _ e]; exact h.hm, h.ge, h.below⟩
theorem KeyW.store {w wr : World} {M : Nat} {V : Nat → Int} (h : KeyW w wr M V) (i : Nat) (v : Int) : KeyW w (wr.setCell ⟨M, i, none⟩ (.int .u8 v)) M (fun j => if j = i then v else V j) := by
  have g := h.ge
  refine ⟨?_, nums_store h.hm i v, g, h.below.setCell (by simp <;> omega) _⟩
  obtain ⟨f, hf⟩ := h.hk
  exact ⟨f, by rw [heap_setCell_other _ _ _ _ (by simp <;> omega)]; exact hf⟩
theorem key_start {w wr : World} {s : Str} (h : SumW w wr s) : KeyW w (wr.alloc (.cells (nums .u8 (fun _ => 0) 32) 25)) wr.heap.size (fun _ => 0) := by
  have sz := h.sz
  refine ⟨?_, heap_new _ _, by omega, h.below.alloc (by omega) _⟩
  obtain ⟨f, hf⟩ := h.hk
  exact ⟨f, by rw [heap_old _ _ _ (by omega)]; exact hf⟩

set_option maxRecDepth 100000 in
set_option maxHeartbeats 1600000 in
theorem sum_any (ao : Option Addr) (b off len cap : Nat) (ss : Nat → ByteArray) (w : World) (T : TypeId) (fz : Nat × Nat) (hG : w.heap[0]? = some (.cells (nums .u32 kv 64) T fz))
    (hao : 0 < len → ao = some ⟨b, off, none⟩ ∧ b < w.heap.size) (hc : ∀ i, i < len → w.cell? ⟨b, off + i, none⟩ = some (.string (ss i))) (hlen : len ≤ 9223372036854775807) (htot : (pre ss len).length ≤ 1099511627776) :
    Calls Tryd.prog 9 #[.slice ao len cap] w fun e w' => e = .returned (.agg (nums .u8 (shaKey (pre ss len)) 32)) ∧ Below w.heap.size w w' := by
  have HAO := Lib.hid hao; clear hao
  have HG := Lib.hid hG; clear hG
  have HC := Lib.hid hc; clear hc
  go_enter Tryd.func9, Tryd.ntmps9
  go_wp2_with fail
  go_loopg [6, 20] len (fun g z v wr => ∃ i : Nat, i + g = len ∧ v = .int .i64 i ∧ z = .int .u64 ((pre ss i).length : Nat) ∧ SumW w wr (addAll sstart (pre ss i)))
  case atStart => exact ⟨0, by omega, rfl, rfl, sum_start w⟩
  case round =>
    obtain ⟨i, hi, rfl, rfl, hS⟩ := hrel
    by_cases hlt : i < len
    · obtain ⟨rfl, hb⟩ := HAO.out (by omega)
      have ci := (hS.below.cell (p := ⟨b, off + i, none⟩) hb).trans (HC.out i hlt)
      have t1 := pre_mono ss (i+1) len hlt
      have t2 : (pre ss (i+1)).length = (pre ss i).length + (ss i).size := by show (pre ss i ++ bl (ss i)).length = _; rw [List.length_append, bl_length]
      have t3 : (pre ss i).length + (ss i).size ≤ 1099511627776 := by omega
      have HT2 := Lib.hid t2; clear t2 t1
      obtain ⟨s, hs⟩ : ∃ s, s = ss i := ⟨_, rfl⟩
      rw [← hs] at ci t3
      have HSs := Lib.hid hs; clear hs
      go_wp2_with fail
      go_loopg [10] s.size (fun g v wr => ∃ j : Nat, j + g = s.size ∧ v = .int .i64 j ∧ SumW w wr (addAll sstart (pre ss i ++ (bl s).take j)))
      case atStart => exact ⟨0, by omega, rfl, by simpa using hS⟩
      case round =>
        obtain ⟨j, hj, rfl, hSj⟩ := hrel
        by_cases hlj : j < s.size
        · have hu : U8 ((s[j]'hlj).toNat : Int) := by have := (s[j]'hlj).toNat_lt; unfold U8; omega
          have h2 : SumW w wr (addAll sstart (pre ss i ++ (bl s).take j)) := hSj
          go_wp2_with (go_at_call 21; refine (add_any _ _ hu w _ T fz HG.out hSj).mono ?_; rintro e w1 ⟨rfl, hS1⟩)
          go_roundg (s.size - (j+1))
          case measure => omega
          case rel =>
            refine ⟨j+1, by omega, by go_num, ?_⟩
            rw [bl_take s j hlj, ← List.append_assoc, addAll_snoc]
            exact hS1
        · obtain rfl : j = s.size := by omega
          rw [List.take_of_length_le (by rw [bl_length]; exact Nat.le_refl _)] at hSj
          go_wp2_with fail
          go_roundg (len - (i+1))
          case measure => omega
          case rel =>
            refine ⟨i+1, by omega, by go_num, ?_, ?_⟩
            · rw [HT2.out, HSs.out]; go_num
            · show SumW w _ (addAll sstart (pre ss i ++ bl (ss i)))
              rw [← HSs.out]; exact hSj
    · obtain rfl : i = len := by omega
      generalize hL : pre ss i = L at *
      have HL := Lib.hid hL; clear hL
      have okL : ∀ c ∈ L, U8 c := by rw [← HL.out]; exact pre_u8 ss i
      have HokL := Lib.hid okL; clear okL
      go_wp2_with (go_at_call 21; refine (add_any _ _ (by unfold U8; omega) w _ T fz HG.out hS).mono ?_; rintro e w1 ⟨rfl, hS1⟩)
      rw [← addAll_snoc] at hS1
      go_loopg [] (zeros L.length) (fun g wr => ∃ z : Nat, z + g = zeros L.length ∧ SumW w wr (addAll sstart (L ++ [128] ++ List.replicate z 0)))
      case atStart => exact ⟨0, by omega, by simpa using hS1⟩
      case round =>
        obtain ⟨z, hz, hSz⟩ := hrel
        have cn := nums_cell hSz.hn 0 (by omega)
        have en := addAll_n sstart (by decide) (L ++ [128] ++ List.replicate z 0)
        have e0 : sstart.n = 0 := rfl
        rw [e0, List.length_append, List.length_append, List.length_replicate, List.length_singleton] at en
        rw [en] at cn
        clear en e0
        unfold zeros at hz
        by_cases hlz : z < zeros L.length
        · unfold zeros at hlz
          have hd : (((L.length : Int) + 1 + (z : Int)) % 64 != 56) = true := by rw [bne_iff_ne]; omega
          go_wp2_with (go_at_call 21; refine (add_any _ _ (by unfold U8; omega) w _ T fz HG.out hSz).mono ?_; rintro e w2 ⟨rfl, hS2⟩)
          go_roundg (zeros L.length - (z+1))
          case measure => unfold zeros; omega
          case rel =>
            refine ⟨z+1, by unfold zeros; omega, ?_⟩
            rw [← addAll_snoc] at hS2
            rw [List.replicate_succ', ← List.append_assoc]
            exact hS2
        · unfold zeros at hlz
          have hd : (((L.length : Int) + 1 + (z : Int)) % 64 != 56) = false := by rw [bne_eq_false_iff_eq]; omega
          have ez : z = zeros L.length := by unfold zeros; omega
          have HZ := Lib.hid ez; clear ez
          go_wp2_with fail
          go_loopg [11] 8 (fun g v wr => ∃ m : Nat, m + g = 8 ∧ v = .int .i64 (56 - 8 * (m : Int)) ∧ SumW w wr (addAll sstart (L ++ [128] ++ List.replicate z 0 ++ len8 L.length m)))
          case atStart => exact ⟨0, by omega, rfl, by simpa [len8] using hSz⟩
          case round =>
            obtain ⟨m, hm, rfl, hSm⟩ := hrel
            by_cases h8 : m < 8
            · have hu : U8 ((L.length : Int) * 8 / 2 ^ (56 - 8 * m) % 256) := by unfold U8; omega
              go_wp2_with (go_at_call 21; refine (add_any _ _ hu w _ T fz HG.out hSm).mono ?_; rintro e w2 ⟨rfl, hS2⟩)
              go_roundg (8 - (m+1))
              case measure => omega
              case rel =>
                refine ⟨m+1, by omega, by go_num, ?_⟩
                rw [len8_succ, ← List.append_assoc, addAll_snoc]
                exact hS2
            · obtain rfl : m = 8 := by omega
              obtain ⟨wo, rfl⟩ : ∃ wo : World, wo = wr := ⟨_, rfl⟩
              have eP : L ++ [128] ++ List.replicate z 0 ++ len8 L.length 8 = pads L := by rw [HZ.out]; unfold pads; simp only [List.append_assoc]
              rw [eP] at hSm
              have hh2 : ∀ o, (wo.alloc o).heap[w.heap.size+1]? = some (.cells (nums .u32 (shaH L) 8) 44 (0,0)) := fun o => by
                rw [heap_old _ _ _ (by have := hSm.sz; omega)]; exact hSm.hh
              have HSm := Lib.hid hSm
              clear hSz hS hS1 cn hd eP hSm
              go_wp2_with ((with_reducible refine at_op (.load 44 (.tmp 3)) rfl ?_); go_must (refine load_nums rfl 44 (.tmp 3) rfl (w.heap.size+1) rfl (hh2 _) und44 inf44 ?_))
              clear hh2
              go_loopg [59] 8 (fun g v wt => ∃ i : Nat, i + g = 8 ∧ v = .int .i64 i ∧ KeyW w wt wo.heap.size (fun j => if j < 4 * i then keyOf (shaH L) j else 0))
              case atStart => exact ⟨0, by omega, rfl, (key_start HSm.out).congr fun j hj => by simp⟩
              case round =>
                obtain ⟨i, hi, rfl, hK⟩ := hrel
                by_cases h8 : i < 8
                · have hix := run_index_nums (P := Tryd.prog) 44 29 8 .u32 (shaH L) .i64 i h8 und44 und29 inf29
                  go_wp2_with fail
                  go_loopg [63] 4 (fun g v wt => ∃ k : Nat, k + g = 4 ∧ v = .int .i64 k ∧ KeyW w wt wo.heap.size (fun j => if j < 4 * i + k then keyOf (shaH L) j else 0))
                  case atStart => exact ⟨0, by omega, rfl, hK⟩
                  case round =>
                    obtain ⟨k, hk, rfl, hKk⟩ := hrel
                    by_cases h4 : k < 4
                    · have ck := nums_cell hKk.hm (4 * i + k) (by omega)
                      have fk := frozen_of_row _ _ (4 * i + k) _ _ hKk.hm
                      go_wp2_with fail
                      go_roundg (4 - (k+1))
                      case measure => omega
                      case rel =>
                        refine ⟨k+1, by omega, by go_num, (hKk.store _ _).congr fun j hj => ?_⟩
                        by_cases e : j = 4 * i + k
                        · subst e
                          rw [if_pos rfl, if_pos (by omega), keyOf_at _ i k h4]
                        · rw [if_neg e]
                          by_cases l : j < 4 * i + k
                          · rw [if_pos l, if_pos (by omega)]
                          · rw [if_neg l, if_neg (by omega)]
                    · obtain rfl : k = 4 := by omega
                      go_wp2_with fail
                      go_roundg (8 - (i+1))
                      case measure => omega
                      case rel => exact ⟨i+1, by omega, by go_num, hKk⟩
                · obtain rfl : i = 8 := by omega
                  obtain ⟨f2, hk2⟩ := hK.hk
                  have hm2 := hK.hm
                  go_wp2_with (first
                    | ((with_reducible refine at_op (.load 25 (.tmp 12)) rfl ?_); go_must (refine load_nums rfl 25 (.tmp 12) rfl wo.heap.size rfl hm2 und25 inf25 ?_))
                    | ((with_reducible refine at_op (.store 25 (.tmp 2) (.tmp 79)) rfl ?_); go_must (refine store_nums rfl 25 (.tmp 2) (.tmp 79) rfl w.heap.size rfl rfl hk2 inf25 ?_)))
                  refine bodyPost_ret (results_cell_row (P := Tryd.prog) (p := 2) (ty := 25) rfl _ _ w.heap.size 25 _ (0, 0) _ rfl (setRow_heap _ _ _ _ _ _ hk2) und25 rfl (by rw [nums_size]; exact inf25)) rfl ?_
                  refine ⟨?_, below_setRow' hK.below _ (by omega) _⟩
                  rw [HL.out, nums_congr .u8 _ (shaKey L) 32 (fun j hj => by rw [if_pos (by omega)]; rfl)]
end Go.Proofs.YtoijdiokomineaaDoor
