/-
  The walk of siloref19.Patch over a list of pieces.
-/
import Derived.Test.YtkfjkipffklblaaDawake
import Derived.Test.YtkfjkipffklblaaRefw
import Derived.Test.YtkfjkipffklblaaClass
namespace Go.Proofs.Ytkfjkipffklblaa
open Go.RowKit
set_option linter.unusedVariables false

/-- A list of pieces, as an argument. -/
structure QArg (w : World) (ao : Option Addr) (b off len : Nat) (q : Nat → Q) : Prop where
  at_ : 0 < len → ao = some ⟨b, off, none⟩ ∧ b < w.heap.size
  c0 : ∀ i, i < len → w.cell? ⟨b, off + i * 4, none⟩ = some (.bool (q i).cp)
  c1 : ∀ i, i < len → w.cell? ⟨b, off + i * 4 + 1, none⟩ = some (.int .i64 (q i).at_)
  c2 : ∀ i, i < len → w.cell? ⟨b, off + i * 4 + 2, none⟩ = some (.string (q i).tx)
  c3 : ∀ i, i < len → w.cell? ⟨b, off + i * 4 + 3, none⟩ = some (.int .i64 (q i).ln)
theorem QArg.below {w w' : World} {ao : Option Addr} {b off len : Nat} {q : Nat → Q} (h : QArg w ao b off len q) {B : Nat} (hb : Below B w w') (hB : 0 < len → b < B) : QArg w' ao b off len q :=
  ⟨fun h0 => ⟨(h.at_ h0).1, Nat.lt_of_lt_of_le (h.at_ h0).2 hb.size⟩, fun i hi => (hb.cell (p := ⟨b, _, none⟩) (hB (by omega))).trans (h.c0 i hi), fun i hi => (hb.cell (p := ⟨b, _, none⟩) (hB (by omega))).trans (h.c1 i hi),
    fun i hi => (hb.cell (p := ⟨b, _, none⟩) (hB (by omega))).trans (h.c2 i hi), fun i hi => (hb.cell (p := ⟨b, _, none⟩) (hB (by omega))).trans (h.c3 i hi)⟩
theorem q_stepC {P : Program} {ops : Array Oper} {C : World → Prop} {Q : Act → Prop} {a : Act} {o : Oper} {rest : List Oper} (hw : Region.wanted o (yielded ops a.tmps) = true) (h : ∃ v, (∀ w, C w → (execOp a.eval o).run P w = .ok (.value v) w) ∧ QW P ops C Q rest (a.put o.dst v)) : QW P ops C Q (o :: rest) a := by
  obtain ⟨v, h1, h2⟩ := h
  exact q_runC hw h1 h2
theorem wh_nat (n : Nat) : wh (n : Int) = grp n 64 := by unfold wh; rw [if_neg (by omega)]; rfl

set_option maxRecDepth 100000 in
set_option maxHeartbeats 4000000 in
theorem patch_any (w : World) (n : Nat) (hn : n ≤ 1048576) (ao : Option Addr) (b off len cap : Nat) (q : Nat → Q) (hQ : QArg w ao b off len q) (hlen : len ≤ 1048576) (hq : ∀ i, i < len → ((q i).cp = true → (0 ≤ (q i).at_ ∧ (q i).at_ ≤ 1048576) ∧ 0 ≤ (q i).ln ∧ (q i).ln ≤ 1048576) ∧ (q i).tx.size ≤ 1048576)
    (hL : (upto (fun i => (q i).B) len).length ≤ 134217728) :
    Calls Try.prog 8 #[.int .i64 n, .slice ao len cap] w fun e w' => e = .returned (.string (strOfNums (grp n 64 ++ upto (fun i => (q i).B) len))) ∧ Below w.heap.size w w' := by
  obtain ⟨FB, hFB⟩ : ∃ FB, FB = fun i => (q i).B := ⟨_, rfl⟩
  rw [← hFB] at hL ⊢
  have HFB : ∀ j, FB j = (q j).B := fun j => by rw [hFB]
  clear hFB
  have HF := Lib.hid HFB; clear HFB
  have HQ := Lib.hid hQ; clear hQ
  have HB := Lib.hid hq; clear hq
  have hgl := grp_len_le n (by omega) 64
  have W0 := rwriteW_any w (n : Int) (by omega) (by omega)
  rw [wh_nat] at W0
  have HW0 := Lib.hid W0
  clear W0
  go_enter Try.func8, Try.ntmps8
  go_wp2_with (go_at_call 15; refine HW0.out.mono ?_; rintro e w1 ⟨rfl, hb1⟩)
  go_loopg [5, 6] len (fun g z v wr => ∃ i : Nat, i + g = len ∧ v = .int .i64 i ∧ z = .string (strOfNums (grp n 64 ++ upto FB i)) ∧ Below w.heap.size w wr)
  case atStart => exact ⟨0, by omega, rfl, by rw [upto_zero, List.append_nil], hb1⟩
  case round =>
    clear hb1
    obtain ⟨i, hi, rfl, rfl, hb⟩ := hrel
    by_cases hl : i < len
    · obtain ⟨rfl, hbw⟩ := HQ.out.at_ (by omega)
      have hQ2 := HQ.out.below hb (fun _ => hbw)
      have c0 := hQ2.c0 i hl
      have c1 := hQ2.c1 i hl
      have c2 := hQ2.c2 i hl
      have c3 := hQ2.c3 i hl
      have hqb := HB.out i hl
      have hus := upto_succ FB i
      rw [HF.out] at hus
      have hul := upto_mono FB len (i + 1) (by omega)
      rw [hus, List.length_append] at hul
      obtain ⟨x, hx⟩ : ∃ x, q i = x := ⟨_, rfl⟩
      rw [hx] at c0 c1 c2 c3 hqb hus hul
      obtain ⟨L, hLe⟩ : ∃ L, grp n 64 ++ upto FB i = L := ⟨_, rfl⟩
      have hLl : L.length ≤ 134217740 := by rw [← hLe, List.length_append]; omega
      have hgs : grp n 64 ++ upto FB (i + 1) = L ++ x.B := by rw [hus, ← List.append_assoc, hLe]
      rw [hLe]
      have HGS := Lib.hid hgs
      have hi0 : (0 : Int) ≤ (i : Int) := by omega
      have hi1 : (i : Int) < (len : Int) := by omega
      clear hus hul hx hLe hgs hQ2
      obtain ⟨cp, at_, tx_, ln⟩ := x
      simp only at c0 c1 c2 c3 hqb
      have HC1 := Lib.hid c1; have HC2 := Lib.hid c2; have HC3 := Lib.hid c3
      clear c1 c2 c3
      have hlt : b < wr.heap.size := Nat.lt_of_lt_of_le hbw hb.size
      cases cp with
      | true =>
        obtain ⟨⟨h0, h1⟩, h2, h3⟩ := hqb.1 rfl
        go_wp2_with fail
        have hz0 := strOfNums_size L
        have hz1 := strOfNums_size (wh (2 * ln + 1))
        have hz2 := strOfNums_size (wh at_)
        have hz3 := strOfNums_size (L ++ wh (2 * ln + 1))
        have hwl1 := wh_len_le (2 * ln + 1) (by omega) (by omega)
        have hwl2 := wh_len_le at_ (by omega) (by omega)
        rw [List.length_append] at hz3
        have hsum : ¬ (9223372036854775807 < (strOfNums L).size + (strOfNums (wh (2 * ln + 1))).size) := by rw [hz0, hz1]; omega
        have hsum2 : ¬ (9223372036854775807 < (strOfNums (L ++ wh (2 * ln + 1))).size + (strOfNums (wh at_)).size) := by rw [hz3, hz2]; omega
        have hap := strOfNums_append L (wh (2 * ln + 1))
        have hap2 := strOfNums_append (L ++ wh (2 * ln + 1)) (wh at_)
        have hw1 : IntKind.i64.wrap (2 * ln) = 2 * ln := by rw [IntKind.wrap_i64]; omega
        have hw2 : IntKind.i64.wrap (2 * ln + 1) = 2 * ln + 1 := by rw [IntKind.wrap_i64]; omega
        clear hz0 hz1 hz2 hz3
        refine wp_region_class (fun X => Below wr.heap.size wr X) (by kernel_rfl) (by kernel_rfl) (below_drewN (Below.refl wr.heap.size wr) 1) ?_
        repeat (first
          | (refine q_skip rfl ?_; simp only [Act.put, List.setIfInBounds_toArray, List.set_cons_zero, List.set_cons_succ])
          | (refine q_callX rfl 15 ?_; apply Exists.intro; refine ⟨fun w => by go_simp; rfl, ?_⟩; refine ⟨_, fun w' h => (rwriteW_any w' _ (by omega) (by omega)).mono (fun e w2 h2 => ⟨h2.1, h.trans (h2.2.mono h.size)⟩), ?_⟩; simp only [Act.put, List.setIfInBounds_toArray, List.set_cons_zero, List.set_cons_succ])
          | (refine q_step rfl ?_; apply Exists.intro; refine ⟨fun w => by go_simp; rfl, ?_⟩; simp only [Act.put, List.setIfInBounds_toArray, List.set_cons_zero, List.set_cons_succ])
          | (refine q_stepC rfl ?_; apply Exists.intro; refine ⟨fun w hw => by have k1 := (hw.cell (p := ⟨b, off + i * 4 + 1, none⟩) hlt).trans HC1.out; have k3 := (hw.cell (p := ⟨b, off + i * 4 + 3, none⟩) hlt).trans HC3.out; go_simp; rfl, ?_⟩; simp only [Act.put, List.setIfInBounds_toArray, List.set_cons_zero, List.set_cons_succ])
          | (refine q_nil ?_))
        intro wz hwz
        have hbz := hb.trans (hwz.mono hb.size)
        go_wp2_with fail
        have hB : (Q.B ⟨true, at_, tx_, ln⟩) = wh (2 * ln + 1) ++ wh at_ := by
          obtain ⟨m, rfl⟩ := Int.eq_ofNat_of_zero_le h2
          obtain ⟨k, rfl⟩ := Int.eq_ofNat_of_zero_le h0
          have := wh_nat (2 * m + 1)
          rw [show ((2 * m + 1 : Nat) : Int) = 2 * (m : Int) + 1 by omega] at this
          rw [this, wh_nat]; rfl
        go_roundg (len - (i+1))
        case measure => omega
        case rel => exact ⟨i+1, by omega, by go_num, by rw [HGS.out, hB], hbz⟩
      | false =>
        go_wp2_with fail
        have hz0 := strOfNums_size L
        have hz1 := strOfNums_size (wh (2 * (tx_.size : Int)))
        have hz3 := strOfNums_size (L ++ wh (2 * (tx_.size : Int)))
        have hwl1 := wh_len_le (2 * (tx_.size : Int)) (by omega) (by omega)
        rw [List.length_append] at hz3
        have hsum : ¬ (9223372036854775807 < (strOfNums L).size + (strOfNums (wh (2 * (tx_.size : Int)))).size) := by rw [hz0, hz1]; omega
        have hsum2 : ¬ (9223372036854775807 < (strOfNums (L ++ wh (2 * (tx_.size : Int)))).size + tx_.size) := by rw [hz3]; omega
        have hap := strOfNums_append L (wh (2 * (tx_.size : Int)))
        have hw1 : IntKind.i64.wrap (2 * (tx_.size : Int)) = 2 * (tx_.size : Int) := by rw [IntKind.wrap_i64]; omega
        clear hz0 hz1 hz3
        refine wp_region_class (fun X => Below wr.heap.size wr X) (by kernel_rfl) (by kernel_rfl) (below_drewN (Below.refl wr.heap.size wr) 1) ?_
        repeat (first
          | (refine q_skip rfl ?_; simp only [Act.put, List.setIfInBounds_toArray, List.set_cons_zero, List.set_cons_succ])
          | (refine q_callX rfl 15 ?_; apply Exists.intro; refine ⟨fun w => by go_simp; rfl, ?_⟩; refine ⟨_, fun w' h => (rwriteW_any w' _ (by omega) (by omega)).mono (fun e w2 h2 => ⟨h2.1, h.trans (h2.2.mono h.size)⟩), ?_⟩; simp only [Act.put, List.setIfInBounds_toArray, List.set_cons_zero, List.set_cons_succ])
          | (refine q_step rfl ?_; apply Exists.intro; refine ⟨fun w => by go_simp; rfl, ?_⟩; simp only [Act.put, List.setIfInBounds_toArray, List.set_cons_zero, List.set_cons_succ])
          | (refine q_stepC rfl ?_; apply Exists.intro; refine ⟨fun w hw => by have k2 := (hw.cell (p := ⟨b, off + i * 4 + 2, none⟩) hlt).trans HC2.out; go_simp; rfl, ?_⟩; simp only [Act.put, List.setIfInBounds_toArray, List.set_cons_zero, List.set_cons_succ])
          | (refine q_nil ?_))
        intro wz hwz
        have hbz := hb.trans (hwz.mono hb.size)
        go_wp2_with fail
        have hB : (Q.B ⟨false, at_, tx_, ln⟩) = wh (2 * (tx_.size : Int)) ++ bl tx_ := by
          have := wh_nat (2 * tx_.size)
          rw [show ((2 * tx_.size : Nat) : Int) = 2 * (tx_.size : Int) by omega] at this
          rw [this]; rfl
        go_roundg (len - (i+1))
        case measure => omega
        case rel => exact ⟨i+1, by omega, by go_num, by rw [HGS.out, hB, ← List.append_assoc, ← strOfNums_append (L ++ wh (2 * (tx_.size : Int))), bl_text], hbz⟩
    · obtain rfl : i = len := by omega
      go_wp2_with fail
      go_ret
      exact ⟨rfl, hb⟩
end Go.Proofs.Ytkfjkipffklblaa
