/-
  The walks of sha.Word, siloref03.Word, sha.Less, siloref03.Less.
-/
import Derived.Test.YtoijdiokomineaaDoorHex
namespace Go.Proofs.YtoijdiokomineaaDoor
open Go.RowKit
set_option linter.unusedVariables false

theorem i64_and7 (n : Int) : ∃ m : Nat, m < 8 ∧ bits BinOp.and IntKind.i64 n 7 = (m : Int) ∧ n % 8 = (m : Int) := by
  refine ⟨(n % 8).toNat, by omega, ?_, by omega⟩
  show IntKind.i64.wrap ((BitVec.ofInt 64 n &&& BitVec.ofInt 64 7).toNat : Int) = _
  have e : (BitVec.ofInt 64 n &&& BitVec.ofInt 64 7).toNat = (n % 8).toNat := by
    rw [BitVec.toNat_and, show (BitVec.ofInt 64 7).toNat = 2 ^ 3 - 1 from rfl, Nat.and_two_pow_sub_one_eq_mod, BitVec.toNat_ofInt]
    omega
  rw [e, IntKind.wrap_i64]
  omega

theorem u32_join (i : Nat) (x y : Int) (hx₀ : 0 ≤ x) (hx : x % 2 ^ i = 0) (hx₁ : x < 4294967296) (hy₀ : 0 ≤ y) (hy : y < 2 ^ i) (hy₁ : y < 4294967296) : bits BinOp.or IntKind.u32 x y = x + y :=
  bits_join .u32 32 (by decide) (fun n h0 h1 => by rw [IntKind.wrap_u32]; omega) i x y hx₀ hx (by omega) hy₀ hy (by omega)
theorem ret_int {k : IntKind} {a b : Int} (h : a = b) : Ending.returned (.int k a) = .returned (.int k b) := by rw [h]

def wordv (K : Nat → Int) (m : Nat) : Int := ((K (4 * m) * 256 + K (4 * m + 1)) * 256 + K (4 * m + 2)) * 256 + K (4 * m + 3)

set_option maxRecDepth 100000 in
theorem word_any (K : Nat → Int) (hK : ∀ j, U8 (K j)) (n : Int) (m : Nat) (hm : m < 8) (hn : n % 8 = (m : Int)) (w : World) :
    Calls Tryd.prog 10 #[.agg (nums .u8 K 32), .int .i64 n] w fun e w' => e = .returned (.int .u32 (wordv K m)) ∧ Below w.heap.size w w' := by
  obtain ⟨m', _, hb, hm'⟩ := i64_and7 n
  obtain rfl : m' = m := by omega
  have k0 := hK (4 * m')
  have k1 := hK (4 * m' + 1)
  have k2 := hK (4 * m' + 2)
  have k3 := hK (4 * m' + 3)
  unfold U8 at k0 k1 k2 k3
  have c0 : (w.alloc (.cells (nums .u8 K 32) 25)).cell? ⟨w.heap.size, 4 * m', none⟩ = some (.int .u8 (K (4 * m'))) := nums_cell (heap_new w _) _ (by omega)
  have c1 : (w.alloc (.cells (nums .u8 K 32) 25)).cell? ⟨w.heap.size, 4 * m' + 1, none⟩ = some (.int .u8 (K (4 * m' + 1))) := nums_cell (heap_new w _) _ (by omega)
  have c2 : (w.alloc (.cells (nums .u8 K 32) 25)).cell? ⟨w.heap.size, 4 * m' + 2, none⟩ = some (.int .u8 (K (4 * m' + 2))) := nums_cell (heap_new w _) _ (by omega)
  have c3 : (w.alloc (.cells (nums .u8 K 32) 25)).cell? ⟨w.heap.size, 4 * m' + 3, none⟩ = some (.int .u8 (K (4 * m' + 3))) := nums_cell (heap_new w _) _ (by omega)
  clear hm' hn
  go_enter Tryd.func10, Tryd.ntmps10
  go_wp2_with fail
  go_quiet (fail)
  go_wp2_with fail
  go_ret
  refine ⟨ret_int ?_, below_drewN ((Below.refl _ _).alloc (Nat.le_refl _) _) _⟩
  show bits BinOp.or IntKind.u32 (bits BinOp.or IntKind.u32 (bits BinOp.or IntKind.u32 (K (4 * m') * 16777216) (K (4 * m' + 1) * 65536)) (K (4 * m' + 2) * 256)) (K (4 * m' + 3)) = _
  rw [u32_join 24 (K (4 * m') * 16777216) (K (4 * m' + 1) * 65536) (by omega) (by omega) (by omega) (by omega) (by omega) (by omega)]
  rw [u32_join 16 (K (4 * m') * 16777216 + K (4 * m' + 1) * 65536) (K (4 * m' + 2) * 256) (by omega) (by omega) (by omega) (by omega) (by omega) (by omega)]
  rw [u32_join 8 (K (4 * m') * 16777216 + K (4 * m' + 1) * 65536 + K (4 * m' + 2) * 256) (K (4 * m' + 3)) (by omega) (by omega) (by omega) (by omega) (by omega) (by omega)]
  unfold wordv
  omega

theorem part_word (P : Nat → Int) (hP : ∀ j, U8 (P j)) (i : Nat) : part P i 4 = wordv P i := by
  have k0 := hP (4 * i)
  have k1 := hP (4 * i + 1)
  have k2 := hP (4 * i + 2)
  have k3 := hP (4 * i + 3)
  unfold U8 at k0 k1 k2 k3
  have e1 : part P i 1 = P (4 * i) := by
    show bits BinOp.or IntKind.u32 (0 * 256 % 4294967296) (P (4 * i + 0)) = _
    rw [u32_join 8 (0 * 256 % 4294967296) (P (4 * i + 0)) (by omega) (by omega) (by omega) (by simp; omega) (by simp; omega) (by simp; omega)]
    simp
  have e2 : part P i 2 = P (4 * i) * 256 + P (4 * i + 1) := by
    show bits BinOp.or IntKind.u32 (part P i 1 * 256 % 4294967296) (P (4 * i + 1)) = _
    rw [e1, u32_join 8 _ (P (4 * i + 1)) (by omega) (by omega) (by omega) (by omega) (by omega) (by omega)]
    omega
  have e3 : part P i 3 = (P (4 * i) * 256 + P (4 * i + 1)) * 256 + P (4 * i + 2) := by
    show bits BinOp.or IntKind.u32 (part P i 2 * 256 % 4294967296) (P (4 * i + 2)) = _
    rw [e2, u32_join 8 _ (P (4 * i + 2)) (by omega) (by omega) (by omega) (by omega) (by omega) (by omega)]
    omega
  show bits BinOp.or IntKind.u32 (part P i 3 * 256 % 4294967296) (P (4 * i + 3)) = _
  rw [e3, u32_join 8 _ (P (4 * i + 3)) (by omega) (by omega) (by omega) (by omega) (by omega) (by omega)]
  unfold wordv
  omega

/-- The number of a key's word as the reference reckons it. -/
theorem circ (n : Int) (h1 : -9223372036854775808 ≤ n) (h2 : n ≤ 9223372036854775807) : (n.tmod 8 + 8).tmod 8 = n % 8 := by
  have := Int.tmod_eq_emod_of_nonneg (a := n.tmod 8 + 8) (b := 8) (by
    have := Int.lt_tmod_of_pos n (b := 8) (by decide)
    omega)
  rw [this]
  rw [Int.tmod_def, Int.emod_def]
  omega

/-- The first k bytes of a word. -/
def wordp (K : Nat → Int) (m : Nat) : Nat → Int
  | 0 => 0
  | k + 1 => (256 * wordp K m k + K (4 * m + k)) % 4294967296
theorem wordp_all (K : Nat → Int) (hK : ∀ j, U8 (K j)) (m : Nat) : wordp K m 4 = wordv K m := by
  have k0 := hK (4 * m)
  have k1 := hK (4 * m + 1)
  have k2 := hK (4 * m + 2)
  have k3 := hK (4 * m + 3)
  unfold U8 at k0 k1 k2 k3
  simp only [wordp, wordv, Nat.add_zero]
  omega

set_option maxRecDepth 100000 in
theorem rword_any (K : Nat → Int) (hK : ∀ j, U8 (K j)) (n : Int) (h1 : -9223372036854775808 ≤ n) (h2 : n ≤ 9223372036854775807) (m : Nat) (hm : m < 8) (hn : n % 8 = (m : Int)) (w : World) :
    Calls Tryd.prog 13 #[.agg (nums .u8 K 32), .int .i64 n] w fun e w' => e = .returned (.int .u32 (wordv K m)) ∧ Below w.heap.size w w' := by
  have hc := circ n h1 h2
  rw [hn] at hc
  have hr := Int.lt_tmod_of_pos n (b := 8) (by decide)
  have hr2 := Int.tmod_lt_of_pos n (b := 8) (by decide)
  clear hn
  have HK := Lib.hid hK; clear hK
  go_enter Tryd.func13, Tryd.ntmps13
  go_wp2_with fail
  go_loopg [5, 6] 4 (fun g x v wr => ∃ k : Nat, k + g = 4 ∧ v = .int .i64 k ∧ x = .int .u32 (wordp K m k) ∧ wr = w.alloc (.cells (nums .u8 K 32) 25))
  case atStart => exact ⟨0, by omega, rfl, rfl, rfl⟩
  case round =>
    obtain ⟨k, hk, rfl, rfl, rfl⟩ := hrel
    by_cases h4 : k < 4
    · have c0 : (w.alloc (.cells (nums .u8 K 32) 25)).cell? ⟨w.heap.size, 4 * m + k, none⟩ = some (.int .u8 (K (4 * m + k))) := nums_cell (heap_new w _) _ (by omega)
      have k0 := HK.out (4 * m + k)
      unfold U8 at k0
      go_wp2_with fail
      go_roundg (4 - (k+1))
      case measure => omega
      case rel => exact ⟨k+1, by omega, by go_num, by simp only [wordp]; go_num, rfl⟩
    · obtain rfl : k = 4 := by omega
      go_wp2_with fail
      go_ret
      exact ⟨ret_int (wordp_all K HK.out m), (Below.refl _ _).alloc (Nat.le_refl _) _⟩

/-- By the first byte in which they differ, of k bytes from i on. -/
def lessF (A B : Nat → Int) : Nat → Nat → Bool
  | 0, _ => false
  | k + 1, i => if A i = B i then lessF A B k (i + 1) else decide (A i < B i)

set_option maxRecDepth 100000 in
theorem rless_any (A B : Nat → Int) (w : World) :
    Calls Tryd.prog 12 #[.agg (nums .u8 A 32), .agg (nums .u8 B 32)] w fun e w' => e = .returned (.bool (lessF A B 32 0)) ∧ Below w.heap.size w w' := by
  obtain ⟨W, hW⟩ : ∃ W : World, W = (w.alloc (.cells (nums .u8 A 32) 25)).alloc (.cells (nums .u8 B 32) 25) := ⟨_, rfl⟩
  have a0 : W.heap[w.heap.size]? = some (.cells (nums .u8 A 32) 25) := by rw [hW, heap_old _ _ _ (by simp), heap_new]
  have b0 : W.heap[w.heap.size+1]? = some (.cells (nums .u8 B 32) 25) := by rw [hW, heap_new' _ _ _ (by simp)]
  have hb : Below w.heap.size w W := by rw [hW]; exact ((Below.refl _ _).alloc (Nat.le_refl _) _).alloc (by simp) _
  have HW := Lib.hid hW; clear hW
  go_enter Tryd.func12, Tryd.ntmps12
  go_wp2_with fail
  rw [← HW.out]
  go_loopg [5] 32 (fun g v wr => ∃ i n : Nat, i + g = 32 ∧ v = .int .i64 i ∧ lessF A B g i = lessF A B 32 0 ∧ wr = W.drewN n)
  case atStart => exact ⟨0, 0, by omega, rfl, rfl, rfl⟩
  case round =>
    obtain ⟨i, n, hi, rfl, hl, rfl⟩ := hrel
    have HL := Lib.hid hl; clear hl
    by_cases h32 : i < 32
    · have ca := nums_cell a0 i h32
      have cb := nums_cell b0 i h32
      obtain ⟨g, rfl⟩ : ∃ g, gk = g + 1 := ⟨gk - 1, by omega⟩
      by_cases e : A i = B i
      · have hne : (A i != B i) = false := by rw [bne_eq_false_iff_eq]; exact e
        have hE := Lib.hid e; clear e
        go_wp2_with fail
        go_quiet (fail)
        go_wp2_with fail
        go_roundg g
        case measure => omega
        case rel =>
          refine ⟨i+1, n + nq, by omega, by go_num, ?_, rfl⟩
          rw [← HL.out]; show _ = if A i = B i then _ else _; rw [if_pos hE.out]
      · have hne : (A i != B i) = true := by rw [bne_iff_ne]; exact e
        have hE := Lib.hid e; clear e
        go_wp2_with fail
        go_quiet (fail)
        go_wp2_with fail
        go_quiet (fail)
        go_wp2_with fail
        go_ret
        refine ⟨?_, below_drewN (below_drewN (below_drewN hb _) _) _⟩
        rw [← HL.out]; show _ = Ending.returned (.bool (if A i = B i then _ else _)); rw [if_neg hE.out]; rfl
    · obtain rfl : i = 32 := by omega
      obtain rfl : gk = 0 := by omega
      go_wp2_with fail
      go_ret
      refine ⟨?_, below_drewN hb _⟩
      rw [← HL.out]; rfl

/-- The text of a key's bytes. -/
def keyS (K : Nat → Int) : ByteArray := strOfNums ((List.range 32).map K)

theorem bytesLess_lessF (A B : Nat → Int) (hA : ∀ j, U8 (A j)) (hB : ∀ j, U8 (B j)) (k i : Nat) :
    Op.bytesLess (((List.range' i k).map A).map fun n => UInt8.ofNat n.toNat) (((List.range' i k).map B).map fun n => UInt8.ofNat n.toNat) = lessF A B k i := by
  induction k generalizing i with
  | zero => rfl
  | succ k ih =>
    have a := hA i
    have b := hB i
    unfold U8 at a b
    have ea : (UInt8.ofNat (A i).toNat).toNat = (A i).toNat := by rw [UInt8.toNat_ofNat']; omega
    have eb : (UInt8.ofNat (B i).toNat).toNat = (B i).toNat := by rw [UInt8.toNat_ofNat']; omega
    rw [List.range'_succ]
    simp only [List.map_cons, Op.bytesLess, ih (i + 1), lessF]
    by_cases e : A i = B i
    · rw [if_pos e, e]
      simp
    · rw [if_neg e]
      have hne : (UInt8.ofNat (A i).toNat == UInt8.ofNat (B i).toNat) = false := by
        rw [beq_eq_false_iff_ne]
        intro h
        have := congrArg UInt8.toNat h
        rw [ea, eb] at this
        omega
      rw [hne]
      simp only [Bool.false_and, Bool.or_false]
      simp only [decide_eq_decide, UInt8.lt_iff_toNat_lt, ea, eb]
      omega

set_option maxRecDepth 100000 in
theorem less_any (A B : Nat → Int) (hA : ∀ j, U8 (A j)) (hB : ∀ j, U8 (B j)) (w : World) :
    Calls Tryd.prog 11 #[.agg (nums .u8 A 32), .agg (nums .u8 B 32)] w fun e w' => e = .returned (.bool (lessF A B 32 0)) ∧ Below w.heap.size w w' := by
  have hab := bytesLess_lessF A B hA hB 32 0
  have HA := Lib.hid hab; clear hab
  obtain ⟨W, hW⟩ : ∃ W : World, W = (w.alloc (.cells (nums .u8 A 32) 25)).alloc (.cells (nums .u8 B 32) 25) := ⟨_, rfl⟩
  have a0 : W.heap[w.heap.size]? = some (.cells (nums .u8 A 32) 25) := by rw [hW, heap_old _ _ _ (by simp), heap_new]
  have b0 : W.heap[w.heap.size+1]? = some (.cells (nums .u8 B 32) 25) := by rw [hW, heap_new' _ _ _ (by simp)]
  have hb : Below w.heap.size w W := by rw [hW]; exact ((Below.refl _ _).alloc (Nat.le_refl _) _).alloc (by simp) _
  have HW := Lib.hid hW; clear hW
  have ga : ∀ (K : Nat → Int) j, j < 32 → ((List.range 32).map K).getD j 0 = K j := fun K j hj => by
    rw [List.getD_eq_getElem?_getD, List.getElem?_map, List.getElem?_range hj]; rfl
  have ca : ∀ n, (convert 50 9 (.slice (some ⟨w.heap.size, 0, none⟩) 32 32)).run Tryd.prog (W.drewN n) = .ok (.string (keyS A)) (W.drewN n) := fun n =>
    run_convert_bytes_arg (P := Tryd.prog) (W.drewN n) 50 5 und50 und5 w.heap.size 0 32 32 ((List.range 32).map A) (by simp) (fun j hj => by
      rw [Nat.zero_add, ga A j hj]; exact nums_cell (w := W.drewN n) a0 j hj) 9 und9
  have cb : ∀ n, (convert 50 9 (.slice (some ⟨w.heap.size+1, 0, none⟩) 32 32)).run Tryd.prog (W.drewN n) = .ok (.string (keyS B)) (W.drewN n) := fun n =>
    run_convert_bytes_arg (P := Tryd.prog) (W.drewN n) 50 5 und50 und5 (w.heap.size+1) 0 32 32 ((List.range 32).map B) (by simp) (fun j hj => by
      rw [Nat.zero_add, ga B j hj]; exact nums_cell (w := W.drewN n) b0 j hj) 9 und9
  clear ga a0 b0
  go_enter Tryd.func11, Tryd.ntmps11
  go_wp2_with fail
  rw [← HW.out]
  go_quiet (fail)
  go_wp2_with fail
  go_ret
  refine ⟨?_, below_drewN hb _⟩
  rw [← HA.out, ← List.range_eq_range']
  show Ending.returned (Value.bool (Op.bytesLess (keyS A).toList (keyS B).toList)) = _
  rw [ByteArray.toList_eq, ByteArray.toList_eq]
  rfl
end Go.Proofs.YtoijdiokomineaaDoor
