/-
  The walks of crc.Sum and crc.Put: what they answer is a function of the text.
-/
import Derived.Test.YtekbfaafofflaaaRead
namespace Go.Proofs.Ytekbfaafofflaaa
open Go.RowKit
set_option linter.unusedVariables false

def c1 (z : Int) : Int := bits BinOp.xor IntKind.u32 (z / 2) (bits BinOp.and IntKind.u32 2197175160 (-bits BinOp.and IntKind.u32 z 1 % 4294967296))
def cR : Nat → Int → Int
  | 0, y => y
  | n + 1, y => c1 (cR n y)
def cG (L : List Int) : Nat → Int
  | 0 => 4294967295
  | i + 1 => cR 8 (bits BinOp.xor IntKind.u32 (cG L i) (L.getD i 0 % 4294967296))

def crcV (s : ByteArray) : Int := bits BinOp.xor IntKind.u32 IntKind.u32.max (cG (bl s) s.size)

set_option maxRecDepth 100000 in
set_option maxHeartbeats 1000000 in
theorem sum_any (w : World) (g : Nat) (s : ByteArray) (hg : w.cell? ⟨g, 0, none⟩ = some (.string s)) (hs : s.size ≤ 4194304) :
    Calls Try.prog 19 #[.slice (some ⟨g, 0, none⟩) 1 1] w fun e w' => e = .returned (.int .u32 (crcV s)) ∧ w = w' := by
  have hsg : IntKind.u32.signed = false := rfl
  go_enter Try.func19, Try.ntmps19
  go_wp2_with fail
  refine wp_loop_rounds 2 ?_
  rw [rounds_succ]
  go_wp2_with fail
  go_loopg [3, 6] s.size (fun g xv v wr => ∃ (i : Nat) (x : Int), i + g = s.size ∧ v = .int .i64 i ∧ xv = .int .u32 x ∧ x = cG (bl s) i ∧ w = wr)
  case atStart => exact ⟨0, _, by omega, rfl, rfl, rfl, rfl⟩
  case round =>
    obtain ⟨i, x, hi, rfl, rfl, hx, rfl⟩ := hrel
    have HX := Lib.hid hx
    clear hx
    by_cases hl : i < s.size
    · have hstep : ((s[i]'hl).toNat : Int) = (bl s).getD i 0 := by
        rw [List.getD_eq_getElem?_getD]
        unfold bl
        rw [List.getElem?_map, Array.getElem?_toList, Array.getElem?_eq_getElem (show i < s.data.size from hl)]
        rfl
      have HST := Lib.hid hstep
      clear hstep
      go_wp2_with fail
      obtain ⟨y, hy⟩ : ∃ y, bits BinOp.xor IntKind.u32 x ((s[i]'hl).toNat % 4294967296) = y := ⟨_, rfl⟩
      rw [hy]
      have HY := Lib.hid hy
      clear hy
      go_loopg [3, 25] 8 (fun g xv v wr => ∃ (j : Nat) (z : Int), j + g = 8 ∧ v = .int .i64 j ∧ xv = .int .u32 z ∧ z = cR j y ∧ w = wr)
      case atStart => exact ⟨0, _, by omega, rfl, rfl, rfl, rfl⟩
      case round =>
        obtain ⟨j, z, hj, rfl, rfl, hz, rfl⟩ := hrel
        have HZ := Lib.hid hz
        clear hz
        by_cases hj8 : j < 8
        · go_wp2_with fail
          go_roundg (8 - (j+1))
          case measure => omega
          case rel => exact ⟨j+1, _, by omega, by go_num, rfl, by show c1 z = c1 (cR j y); rw [HZ.out], rfl⟩
        · obtain rfl : j = 8 := by omega
          go_wp2_with fail
          go_roundg (s.size - (i+1))
          case measure => omega
          case rel => exact ⟨i+1, _, by omega, by go_num, rfl, by rw [HZ.out, ← HY.out, HX.out, HST.out]; rfl, rfl⟩
    · obtain rfl : i = s.size := by omega
      go_wp2_with fail
      rw [rounds_succ]
      go_wp2_with fail
      go_ret
      exact ⟨by rw [HX.out]; rfl, rfl⟩
theorem conv4 (W : World) (a b c d : Int) : (convert 32 9 (.slice (some ⟨W.heap.size, 0, none⟩) 4 4)).run Try.prog (W.alloc (.cells #[.int .u8 a, .int .u8 b, .int .u8 c, .int .u8 d] 5)) = .ok (.string (strOfNums [a, b, c, d])) (W.alloc (.cells #[.int .u8 a, .int .u8 b, .int .u8 c, .int .u8 d] 5)) :=
  run_convert_bytes_arg (P := Try.prog) _ 32 5 und38 (by kernel_rfl) W.heap.size 0 4 4 [a, b, c, d] rfl (fun j hj => by
    rw [Nat.zero_add, cell_of_row _ _ _ _ _ _ (heap_alloc_new W _)]
    match j, hj with
    | 0, _ => rfl
    | 1, _ => rfl
    | 2, _ => rfl
    | 3, _ => rfl) 9 (by kernel_rfl)
theorem strOfNums_size (l : List Int) : (strOfNums l).size = l.length := by
  show (strOfNums l).data.size = _
  simp [strOfNums]
def crcT (s : ByteArray) : List Int := [crcV s / 16777216 % 256, crcV s / 65536 % 256, crcV s / 256 % 256, crcV s % 256]
set_option maxRecDepth 100000 in
theorem put_any (w : World) (s : ByteArray) (hs : s.size ≤ 4194304) :
    Calls Try.prog 12 #[.string s] w fun e w' => e = .returned (.string (s ++ strOfNums (crcT s))) ∧ Below w.heap.size w w' := by
  have hcv : ∀ a b c d : Int, (convert 32 9 (.slice (some ⟨w.heap.size + 1, 0, none⟩) 4 4)).run Try.prog ((w.alloc (.cells #[.string s] 9)).alloc (.cells #[.int .u8 a, .int .u8 b, .int .u8 c, .int .u8 d] 5)) = .ok (.string (strOfNums [a, b, c, d])) ((w.alloc (.cells #[.string s] 9)).alloc (.cells #[.int .u8 a, .int .u8 b, .int .u8 c, .int .u8 d] 5)) := fun a b c d => by
    have := conv4 (w.alloc (.cells #[.string s] 9)) a b c d
    rwa [show (w.alloc (.cells #[.string s] 9)).heap.size = w.heap.size + 1 by simp] at this
  have hc : (w.alloc (.cells #[.string s] 9)).cell? ⟨w.heap.size, 0, none⟩ = some (.string s) := by rw [cell_of_row _ _ _ _ _ _ (heap_alloc_new w _)]; rfl
  have C := Lib.hid (sum_any _ w.heap.size s hc hs)
  obtain ⟨X, hX⟩ : ∃ X, crcV s = X := ⟨_, rfl⟩
  rw [hX] at C
  have HX := Lib.hid hX
  have hz : ∀ a b c d : Int, ¬ (9223372036854775807 < s.size + (strOfNums [a, b, c, d]).size) := fun a b c d => by rw [strOfNums_size]; simp; omega
  clear hX hc
  go_enter Try.func12, Try.ntmps12
  go_wp2_with (go_at_call 19; refine C.out.mono ?_; rintro e w1 ⟨rfl, rfl⟩)
  go_ret
  exact ⟨by rw [← HX.out]; rfl, ((Below.refl _ _).alloc (Nat.le_refl _) _).alloc (by simp) _⟩
end Go.Proofs.Ytekbfaafofflaaa
