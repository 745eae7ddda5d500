/-
  The walk of sha.mixed: it leaves the state behind the block, and of memory nothing is turned that was there.
-/
import Derived.Test.YtoijdiokomineaaDoorArr
import Derived.Test.YtoijdiokomineaaDoorRot
import Derived.WalkLawsBesides
import Derived.WalkSpells
import Derived.Deep.LoopGhost
import Derived.Lib.Hide
import Derived.BigQuiet
import Derived.Deep.DeepFit
import Derived.Deep.QuietTactic
namespace Go.Proofs.YtoijdiokomineaaDoor
open Go.RowKit
set_option linter.unusedVariables false

structure MixW (w wr : World) (H P V : Nat → Int) : Prop where
  h0 : wr.heap[w.heap.size]? = some (.cells (nums .u32 H 8) 44 (0,0))
  h1 : wr.heap[w.heap.size+1]? = some (.cells (nums .u8 P 64) 45 (0,0))
  h2 : ∃ f, wr.heap[w.heap.size+1+1]? = some (.cells (nums .u32 f 8) 44 (0,0))
  h3 : wr.heap[w.heap.size+1+1+1]? = some (.cells (nums .u32 V 64) 52 (0,0))
  sz : wr.heap.size = w.heap.size+1+1+1+1
  below : Below w.heap.size w wr

theorem MixW.congr {w wr : World} {H P V V' : Nat → Int} (h : MixW w wr H P V) (e : ∀ j, j < 64 → V j = V' j) : MixW w wr H P V' :=
  ⟨h.h0, h.h1, h.h2, by rw [← nums_congr _ _ _ _ e]; exact h.h3, h.sz, h.below⟩
theorem MixW.drew {w wr : World} {H P V : Nat → Int} (h : MixW w wr H P V) : MixW w wr.drew H P V := ⟨h.h0, h.h1, h.h2, h.h3, h.sz, h.below.drew⟩
theorem MixW.store {w wr : World} {H P V : Nat → Int} (h : MixW w wr H P V) (i : Nat) (v : Int) :
    MixW w (wr.setCell ⟨w.heap.size+1+1+1, i, none⟩ (.int .u32 v)) H P (fun j => if j = i then v else V j) :=
  ⟨by rw [heap_setCell_other _ _ _ _ (by simp; omega)]; exact h.h0, by rw [heap_setCell_other _ _ _ _ (by simp)]; exact h.h1,
   by obtain ⟨f, hf⟩ := h.h2; exact ⟨f, by rw [heap_setCell_other _ _ _ _ (by simp)]; exact hf⟩, nums_store h.h3 i v, by simpa using h.sz, h.below.setCell (by simp; omega) _⟩

theorem heap_new (w : World) (o : Obj) : (w.alloc o).heap[w.heap.size]? = some o := by
  show (w.heap.push o)[w.heap.size]? = some o
  simp
theorem heap_old (w : World) (o : Obj) (i : Nat) (h : i < w.heap.size) : (w.alloc o).heap[i]? = w.heap[i]? := by
  show (w.heap.push o)[i]? = w.heap[i]?
  rw [Array.getElem?_push, if_neg (Nat.ne_of_lt h)]
theorem heap_new' (w : World) (o : Obj) (n : Nat) (h : n = w.heap.size) : (w.alloc o).heap[n]? = some o := by subst h; exact heap_new w o
theorem mix_start (w : World) (H P : Nat → Int) : MixW w ((((w.alloc (.cells (nums .u32 H 8) 44)).alloc (.cells (nums .u8 P 64) 45)).alloc (.cells (nums .u32 (fun _ => 0) 8) 44)).alloc (.cells (nums .u32 (fun _ => 0) 64) 52)) H P (fun _ => 0) := by
  have s1 (o : Obj) (w : World) : (w.alloc o).heap.size = w.heap.size + 1 := by simp
  refine ⟨?_, ?_, ⟨fun _ => 0, ?_⟩, ?_, by simp, ((((Below.refl _ _).alloc (Nat.le_refl _) _).alloc (by simp) _).alloc (by simp; omega) _).alloc (by simp; omega) _⟩
  · rw [heap_old _ _ _ (by simp; omega), heap_old _ _ _ (by simp; omega), heap_old _ _ _ (by simp), heap_new]
  · rw [heap_old _ _ _ (by simp), heap_old _ _ _ (by simp), heap_new' _ _ _ (by simp)]
  · rw [heap_old _ _ _ (by simp), heap_new' _ _ _ (by simp)]
  · rw [heap_new' _ _ _ (by simp)]

structure MixS (w wr : World) (H S : Nat → Int) : Prop where
  h0 : wr.heap[w.heap.size]? = some (.cells (nums .u32 H 8) 44 (0,0))
  h2 : ∃ f, wr.heap[w.heap.size+1+1]? = some (.cells (nums .u32 f 8) 44 (0,0))
  h4 : wr.heap[w.heap.size+1+1+1+1]? = some (.cells (nums .u32 S 8) 44 (0,0))
  sz : wr.heap.size = w.heap.size+1+1+1+1+1
  below : Below w.heap.size w wr

theorem nums_st8 (k : IntKind) (v0 v1 v2 v3 v4 v5 v6 v7 : Int) : nums k (st8 v0 v1 v2 v3 v4 v5 v6 v7) 8 = #[.int k v0, .int k v1, .int k v2, .int k v3, .int k v4, .int k v5, .int k v6, .int k v7] := rfl
theorem store_st {P : Program} {ops : Array Oper} {rest : List Oper} {o : Oper} {a : Act} {w : World} {Q : Exit → Act → World → Prop} (hgd : o.guard = none) (ty : TypeId) (x y : Operand) (ho : o.op = .store ty x y)
    (g : Nat) {k : IntKind} (v0 v1 v2 v3 v4 v5 v6 v7 : Int) {f' : Nat → Int} (hx : a.eval x = .pointer (some ⟨g, 0, none⟩)) (hy : a.eval y = .agg #[.int k v0, .int k v1, .int k v2, .int k v3, .int k v4, .int k v5, .int k v6, .int k v7])
    {t : TypeId} (hg : w.heap[g]? = some (.cells (nums k f' 8) t (0, 0))) (hi : (P.info? ty).map (·.size) = some 8)
    (h : wpList P ops Q rest (a.put o.dst undef) (w.setRow g (nums k (st8 v0 v1 v2 v3 v4 v5 v6 v7) 8))) : wpList P ops Q (o :: rest) a w :=
  store_nums hgd ty x y ho g hx (hy.trans (congrArg Value.agg (nums_st8 k v0 v1 v2 v3 v4 v5 v6 v7).symm)) hg hi h

theorem MixS.drewN {w wr : World} {H S : Nat → Int} (h : MixS w wr H S) (n : Nat) : MixS w (wr.drewN n) H S := ⟨h.h0, h.h2, h.h4, h.sz, below_drewN h.below n⟩
theorem MixS.drew {w wr : World} {H S : Nat → Int} (h : MixS w wr H S) : MixS w wr.drew H S := ⟨h.h0, h.h2, h.h4, h.sz, h.below.drew⟩
theorem MixS.congr0 {w wr : World} {H H' S : Nat → Int} (h : MixS w wr H S) (e : ∀ j, j < 8 → H j = H' j) : MixS w wr H' S :=
  ⟨by rw [← nums_congr _ _ _ _ e]; exact h.h0, h.h2, h.h4, h.sz, h.below⟩
theorem MixS.store0 {w wr : World} {H S : Nat → Int} (h : MixS w wr H S) (i : Nat) (v : Int) :
    MixS w (wr.setCell ⟨w.heap.size, i, none⟩ (.int .u32 v)) (fun j => if j = i then v else H j) S :=
  ⟨nums_store h.h0 i v, by obtain ⟨f, hf⟩ := h.h2; exact ⟨f, by rw [heap_setCell_other _ _ _ _ (by simp; omega)]; exact hf⟩, by rw [heap_setCell_other _ _ _ _ (by simp; omega)]; exact h.h4, by simpa using h.sz, h.below.setCell (by simp) _⟩
theorem MixS.congr {w wr : World} {H S S' : Nat → Int} (h : MixS w wr H S) (e : ∀ j, j < 8 → S j = S' j) : MixS w wr H S' :=
  ⟨h.h0, h.h2, by rw [← nums_congr _ _ _ _ e]; exact h.h4, h.sz, h.below⟩
theorem below_setRow' {B : Nat} {a w : World} (h : Below B a w) (g : Nat) (hg : B ≤ g) (cs : Array Value) : Below B a (w.setRow g cs) :=
  h.trans ⟨rfl, rfl, rfl, by simp, fun k hk => setRow_other w g k cs (by omega)⟩
theorem MixS.row {w wr : World} {H S : Nat → Int} (h : MixS w wr H S) (S' : Nat → Int) : MixS w (wr.setRow (w.heap.size+1+1+1+1) (nums .u32 S' 8)) H S' :=
  ⟨by rw [setRow_other _ _ _ _ (by omega)]; exact h.h0, by obtain ⟨f, hf⟩ := h.h2; exact ⟨f, by rw [setRow_other _ _ _ _ (by omega)]; exact hf⟩,
   setRow_heap _ _ _ _ _ _ h.h4, by simpa using h.sz, below_setRow' h.below _ (by omega) _⟩

theorem mixS_start {w wr : World} {H P V : Nat → Int} (h : MixW w wr H P V) :
    MixS w ((wr.alloc (.cells (nums .u32 (fun _ => 0) 8) 44)).setRow (w.heap.size+1+1+1+1) (nums .u32 H 8)) H H := by
  have e4 : (wr.alloc (.cells (nums .u32 (fun _ => 0) 8) 44)).heap[w.heap.size+1+1+1+1]? = some (.cells (nums .u32 (fun _ => 0) 8) 44) := heap_new' wr _ _ h.sz.symm
  have sz := h.sz
  refine ⟨?_, ?_, setRow_heap _ _ _ _ _ _ e4, by simp; omega, below_setRow' (h.below.alloc (by omega) _) _ (by omega) _⟩
  · rw [setRow_other _ _ _ _ (by omega), heap_old _ _ _ (by omega)]; exact h.h0
  · obtain ⟨f, hf⟩ := h.h2
    exact ⟨f, by rw [setRow_other _ _ _ _ (by omega), heap_old _ _ _ (by omega)]; exact hf⟩

def vin (P : Nat → Int) (i k j : Nat) : Int := if j < i then wv P j else if j = i then part P i k else 0
def vout (P : Nat → Int) (i j : Nat) : Int := if j < i then wv P j else 0

theorem MixW.drewN {w wr : World} {H P V : Nat → Int} (h : MixW w wr H P V) (n : Nat) : MixW w (wr.drewN n) H P V :=
  ⟨h.h0, h.h1, h.h2, h.h3, h.sz, ⟨h.below.os, h.below.tape, h.below.output, h.below.size, h.below.block⟩⟩
theorem Z8 : #[Value.int IntKind.u32 0, Value.int IntKind.u32 0, Value.int IntKind.u32 0, Value.int IntKind.u32 0, Value.int IntKind.u32 0, Value.int IntKind.u32 0, Value.int IntKind.u32 0, Value.int IntKind.u32 0] = nums .u32 (fun _ => 0) 8 := rfl
theorem und29 : Tryd.prog.underlying 29 = some (.int .u32) := by kernel_rfl
theorem inf29 : (Tryd.prog.info? 29).map (·.size) = some 1 := by kernel_rfl
theorem und44 : Tryd.prog.underlying 44 = some (.array 8 29) := by kernel_rfl
theorem und52 : Tryd.prog.underlying 52 = some (.array 64 29) := by kernel_rfl
theorem inf44 : (Tryd.prog.info? 44).map (·.size) = some 8 := by kernel_rfl
theorem inf52 : (Tryd.prog.info? 52).map (·.size) = some 64 := by kernel_rfl

set_option maxRecDepth 100000 in
set_option maxHeartbeats 1600000 in
theorem mixed_any (H P : Nat → Int) (hP : ∀ j, 0 ≤ P j ∧ P j < 256) (hH : ∀ j, U32 (H j)) (w : World) (T : TypeId) (fz : Nat × Nat) (hG : w.heap[0]? = some (.cells (nums .u32 kv 64) T fz)) :
    Calls Tryd.prog 22 #[.agg (nums .u32 H 8), .agg (nums .u8 P 64)] w fun e w' => e = .returned (.agg (nums .u32 (comp H P) 8)) ∧ Below w.heap.size w w' := by
  have HP := Lib.hid hP; clear hP
  have HH := Lib.hid hH; clear hH
  have HG := Lib.hid hG; clear hG
  have hpos : 0 < w.heap.size := (Array.getElem?_eq_some_iff.1 HG.out).1
  go_enter Tryd.func22, Tryd.ntmps22
  go_wp2
  go_loopg [18] 64 (fun g v wr => ∃ i : Nat, i + g = 64 ∧ v = .int .i64 i ∧ MixW w wr H P (vout P i))
  case atStart =>
    refine ⟨0, rfl, rfl, ?_⟩
    exact (mix_start w H P).congr fun j hj => by simp [vout]
  case round =>
    obtain ⟨i, hi, rfl, hM⟩ := hrel
    by_cases h64 : i < 64
    · by_cases h16 : i < 16
      · go_wp2
        go_loopg [23] 4 (fun g v wr => ∃ k : Nat, k + g = 4 ∧ v = .int .i64 k ∧ MixW w wr H P (vin P i k))
        case atStart => 
          exact ⟨0, rfl, rfl, hM.congr fun j hj => by unfold vout vin; split <;> simp [part]⟩
        case round =>
          obtain ⟨k, hk, rfl, hM2⟩ := hrel
          by_cases h4 : k < 4
          · have c1 := nums_cell hM2.h1 (4*i+k) (by omega)
            have c3 := nums_cell hM2.h3 i (by omega)
            have f3 := frozen_of_row _ _ i _ _ hM2.h3
            have p1 := HP.out (4*i+k)
            have p2 := u32_part P i k
            unfold U32 at p2
            have e3 : vin P i k i = part P i k := by simp [vin]
            rw [e3] at c3; clear e3
            go_wp2
            go_region
            go_wp2
            go_roundg (4 - (k+1))
            case measure => omega
            case rel =>
              refine ⟨k+1, by omega, by go_num, ((hM2.store i _).congr fun j hj => ?_).drew⟩
              unfold vin
              by_cases e : j = i
              · subst e; simp [part]
              · simp [e]
          · obtain rfl : k = 4 := by omega
            go_wp2
            go_roundg (64 - (i+1))
            case measure => omega
            case rel =>
              refine ⟨i+1, by omega, by go_num, hM2.congr fun j hj => ?_⟩
              unfold vin vout
              by_cases e : j = i
              · subst e; simp [wv_low P j h16]
              · by_cases l : j < i
                · rw [if_pos l, if_pos (by omega)]
                · rw [if_neg l, if_neg e, if_neg (by omega)]
      · have c15 := nums_cell hM.h3 (i-15) (by omega)
        have c2 := nums_cell hM.h3 (i-2) (by omega)
        have c16 := nums_cell hM.h3 (i-16) (by omega)
        have c7 := nums_cell hM.h3 (i-7) (by omega)
        have c0 := nums_cell hM.h3 i (by omega)
        have f0 := frozen_of_row _ _ i _ _ hM.h3
        have q15 := u32_wv P (i-15)
        have q2 := u32_wv P (i-2)
        have e15 : vout P i (i-15) = wv P (i-15) := by unfold vout; rw [if_pos (by omega)]
        have e2 : vout P i (i-2) = wv P (i-2) := by unfold vout; rw [if_pos (by omega)]
        have e16 : vout P i (i-16) = wv P (i-16) := by unfold vout; rw [if_pos (by omega)]
        have e7 : vout P i (i-7) = wv P (i-7) := by unfold vout; rw [if_pos (by omega)]
        rw [e15] at c15; rw [e2] at c2; rw [e16] at c16; rw [e7] at c7
        clear e15 e2 e16 e7
        go_wp2_with fail
        go_quiet (fail)
        go_wp2_with (go_at_call 24; refine (rot_any _ _ _ (by assumption) (by decide)).mono ?_; rintro e w' ⟨rfl, rfl⟩)
        go_region
        go_wp2
        go_roundg (64 - (i+1))
        case measure => omega
        case rel =>
          refine ⟨i+1, by omega, by go_num, ?_⟩
          refine (hM.drewN _).store i _ |>.congr fun j hj => ?_
          unfold vout
          by_cases e : j = i
          · subst e; rw [if_pos rfl, if_pos (by omega), wv_high P j (by omega)]; rfl
          · rw [if_neg e]
            by_cases l : j < i
            · rw [if_pos l, if_pos (by omega)]
            · rw [if_neg l, if_neg (by omega)]
    · obtain rfl : i = 64 := by omega
      have sz := hM.sz
      have f4 : ∀ o, (wr.alloc o).heap[w.heap.size+1+1+1+1]? = some o := fun o => heap_new' wr o _ hM.sz.symm
      have f4' : ∀ o, (wr.alloc o).heap[w.heap.size+1+1+1+1]? = some o := f4
      have f3 : ∀ o, (wr.alloc o).heap[w.heap.size+1+1+1]? = some (.cells (nums .u32 (vout P 64) 64) 52 (0,0)) := fun o => by rw [heap_old _ _ _ (by omega)]; exact hM.h3
      go_wp2_with (first
        | ((with_reducible refine at_op (.load 44 (.tmp 2)) rfl ?_); go_must (refine load_nums rfl 44 (.tmp 2) rfl w.heap.size rfl hM.h0 und44 inf44 ?_))
        | ((with_reducible refine at_op (.load 52 (.tmp 5)) rfl ?_); refine load_nums rfl 52 (.tmp 5) rfl (w.heap.size+1+1+1) rfl ((setRow_other _ _ _ _ (by simp)).trans (f3 _)) und52 inf52 ?_)
        | ((with_reducible refine at_op (.store 44 (.tmp 10) (.tmp 81)) rfl ?_); refine store_nums rfl 44 (.tmp 10) (.tmp 81) rfl (w.heap.size+1+1+1+1) rfl rfl ((f4 _).trans (congrArg (fun z => some (Obj.cells z 44 (0,0))) Z8)) inf44 ?_))
      clear f3 f4 f4'
      go_loopg [83] 64 (fun g v ws => ∃ i : Nat, i + g = 64 ∧ v = .int .i64 i ∧ MixS w ws H (rnds H (wv P) i))
      case atStart =>
        exact ⟨0, rfl, rfl, mixS_start hM⟩
      case round =>
        obtain ⟨i, hi, rfl, hS⟩ := hrel
        by_cases h64 : i < 64
        · have s0 := nums_cell hS.h4 0 (by omega)
          have s1 := nums_cell hS.h4 1 (by omega)
          have s2 := nums_cell hS.h4 2 (by omega)
          have s3 := nums_cell hS.h4 3 (by omega)
          have s4 := nums_cell hS.h4 4 (by omega)
          have s5 := nums_cell hS.h4 5 (by omega)
          have s6 := nums_cell hS.h4 6 (by omega)
          have s7 := nums_cell hS.h4 7 (by omega)
          generalize hSt : rnds H (wv P) i = St at *
          have HSt := Lib.hid hSt; clear hSt
          have hix := run_index_nums (P := Tryd.prog) 52 29 64 .u32 (vout P 64) .i64 i h64 und52 und29 inf29
          have hv : vout P 64 i = wv P i := by unfold vout; rw [if_pos h64]
          rw [hv] at hix; clear hv
          have g0 := nums_cell ((hS.below.block 0 hpos).trans HG.out) i h64
          have hsg : IntKind.u32.signed = false := rfl
          have b4 : U32 (St 4) := by rw [← HSt.out]; exact u32_rnds _ _ HH.out _ _
          have b0 : U32 (St 0) := by rw [← HSt.out]; exact u32_rnds _ _ HH.out _ _
          go_wp2_with fail
          go_quiet (fail)
          go_wp2_with fail
          go_quiet ((go_at_call 24; first | exact quiet_add_left ((rot_any _ _ _ (by assumption) (by decide))) | exact quiet_left ((rot_any _ _ _ (by assumption) (by decide)))))
          go_wp2_with fail
          go_quiet ((go_at_call 24; first | exact quiet_add_left ((rot_any _ _ _ (by assumption) (by decide))) | exact quiet_left ((rot_any _ _ _ (by assumption) (by decide)))))
          go_wp2_with ((with_reducible refine at_op (.store 44 (.tmp 10) (.tmp 160)) rfl ?_); go_must (refine store_st rfl 44 (.tmp 10) (.tmp 160) rfl (w.heap.size+1+1+1+1) _ _ _ _ _ _ _ _ rfl rfl hS.h4 inf44 ?_))
          go_roundg (64 - (i+1))
          case measure => omega
          case rel =>
            refine ⟨i+1, by omega, by go_num, ?_⟩
            have e1 : rnds H (wv P) (i+1) = rnd (kv i) (wv P i) St := by rw [← HSt.out]; rfl
            rw [e1]
            refine (hS.drewN _).row _ |>.congr ?_
            intro j hj
            have : j = 0 ∨ j = 1 ∨ j = 2 ∨ j = 3 ∨ j = 4 ∨ j = 5 ∨ j = 6 ∨ j = 7 := by omega
            rcases this with rfl | rfl | rfl | rfl | rfl | rfl | rfl | rfl
            · simp only [rnd, st8, pl, one, two, xr, nd, nx]; omega
            · rfl
            · rfl
            · rfl
            · simp only [rnd, st8, pl, one, xr, nd, nx]; omega
            · rfl
            · rfl
            · rfl
        · obtain rfl : i = 64 := by omega
          go_wp2_with fail
          go_loopg [162] 8 (fun g v wt => ∃ i : Nat, i + g = 8 ∧ v = .int .i64 i ∧ MixS w wt (fun j => if j < i then comp H P j else H j) (rnds H (wv P) 64))
          case atStart => exact ⟨0, rfl, rfl, hS.congr0 fun j hj => by simp⟩
          case round =>
            obtain ⟨i, hi, rfl, hF⟩ := hrel
            by_cases h8 : i < 8
            · have a0 := nums_cell hF.h0 i h8
              have a4 := nums_cell hF.h4 i h8
              have fr := frozen_of_row _ _ i _ _ hF.h0
              rw [if_neg (by omega)] at a0
              have q1 := HH.out i
              have q2 := u32_rnds H (wv P) HH.out 64 i
              generalize hR : rnds H (wv P) 64 = R at *
              have HR := Lib.hid hR; clear hR
              go_wp2_with fail
              go_region
              go_wp2_with fail
              go_roundg (8 - (i+1))
              case measure => omega
              case rel =>
                refine ⟨i+1, by omega, by go_num, ?_⟩
                refine (hF.store0 _ _).drew |>.congr0 fun j hj => ?_
                by_cases e : j = i
                · subst e; rw [if_pos rfl, if_pos (by omega)]; unfold comp pl; rw [HR.out]
                · rw [if_neg e]
                  by_cases l : j < i
                  · rw [if_pos l, if_pos (by omega)]
                  · rw [if_neg l, if_neg (by omega)]
            · obtain rfl : i = 8 := by omega
              obtain ⟨f2, h2⟩ := hF.h2
              go_wp2_with (first
                | ((with_reducible refine at_op (.load 44 (.tmp 2)) rfl ?_); go_must (refine load_nums rfl 44 (.tmp 2) rfl w.heap.size rfl hF.h0 und44 inf44 ?_))
                | ((with_reducible refine at_op (.store 44 (.tmp 4) (.tmp 174)) rfl ?_); go_must (refine store_nums rfl 44 (.tmp 4) (.tmp 174) rfl (w.heap.size+1+1) rfl rfl h2 inf44 ?_)))
              refine bodyPost_ret (results_cell_row (P := Tryd.prog) (p := 4) (ty := 44) rfl _ _ (w.heap.size+1+1) 44 _ (0, 0) _ rfl (setRow_heap _ _ _ _ _ _ h2) und44 rfl (by rw [nums_size]; exact inf44)) rfl ?_
              exact ⟨by rw [nums_congr .u32 _ (comp H P) 8 (fun j hj => if_pos hj)], below_setRow' hF.below _ (by omega) _⟩
end Go.Proofs.YtoijdiokomineaaDoor
