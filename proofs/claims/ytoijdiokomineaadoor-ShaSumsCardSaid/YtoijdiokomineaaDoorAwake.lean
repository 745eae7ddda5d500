/-
  The walk of silolaw03.awake: the digest of "abc", reckoned by the kernel.
-/
import Derived.Test.YtoijdiokomineaaDoorHex
namespace Go.Proofs.YtoijdiokomineaaDoor
open Go.RowKit
set_option linter.unusedVariables false

theorem abc_hex : (List.range 64).map (hexv (shaKey [97, 98, 99])) = [98, 97, 55, 56, 49, 54, 98, 102, 56, 102, 48, 49, 99, 102, 101, 97, 52, 49, 52, 49, 52, 48, 100, 101, 53, 100, 97, 101, 50, 50, 50, 51, 98, 48, 48, 51, 54, 49, 97, 51, 57, 54, 49, 55, 55, 97, 57, 99, 98, 52, 49, 48, 102, 102, 54, 49, 102, 50, 48, 48, 49, 53, 97, 100] := by decide +kernel

theorem abc_eq : ((strOfNums [98, 97, 55, 56, 49, 54, 98, 102, 56, 102, 48, 49, 99, 102, 101, 97, 52, 49, 52, 49, 52, 48, 100, 101, 53, 100, 97, 101, 50, 50, 50, 51, 98, 48, 48, 51, 54, 49, 97, 51, 57, 54, 49, 55, 55, 97, 57, 99, 98, 52, 49, 48, 102, 102, 54, 49, 102, 50, 48, 48, 49, 53, 97, 100]).toList == [98, 97, 55, 56, 49, 54, 98, 102, 56, 102, 48, 49, 99, 102, 101, 97, 52, 49, 52, 49, 52, 48, 100, 101, 53, 100, 97, 101, 50, 50, 50, 51, 98, 48, 48, 51, 54, 49, 97, 51, 57, 54, 49, 55, 55, 97, 57, 99, 98, 52, 49, 48, 102, 102, 54, 49, 102, 50, 48, 48, 49, 53, 97, 100]) = true := by
  rw [ByteArray.toList_eq]
  decide +kernel

def abcT (i : Nat) : ByteArray := if i = 0 then ⟨#[97]⟩ else if i = 1 then ⟨#[]⟩ else ⟨#[98, 99]⟩
theorem abc_pre : pre abcT 3 = [97, 98, 99] := by decide +kernel
theorem shaKey_u8 (l : List Int) (j : Nat) : U8 (shaKey l j) := by
  unfold shaKey keyOf U8
  omega

set_option maxRecDepth 100000 in
theorem awake_any (w : World) (T : TypeId) (fz : Nat × Nat) (hG : w.heap[0]? = some (.cells (nums .u32 kv 64) T fz)) :
    Calls Tryd.prog 7 #[] w fun e w' => e = .returned (.bool true) ∧ Below w.heap.size w w' := by
  have hpos : 0 < w.heap.size := (Array.getElem?_eq_some_iff.1 hG).1
  have HG := Lib.hid hG; clear hG
  go_enter Tryd.func7, Tryd.ntmps7
  go_wp2_with fail
  have hb := heap_new w (.cells #[.string { data := #[97] }, .string { data := #[] }, .string { data := #[98, 99] }] 9)
  have hS := sum_any (some ⟨w.heap.size, 0, none⟩) w.heap.size 0 3 3 abcT (w.alloc (.cells #[.string { data := #[97] }, .string { data := #[] }, .string { data := #[98, 99] }] 9)) T fz
    ((heap_old _ _ _ hpos).trans HG.out) (fun _ => ⟨rfl, by simp⟩) (fun i hi => by
      rw [cell_of_row _ _ _ _ _ _ hb]
      have : i = 0 ∨ i = 1 ∨ i = 2 := by omega
      rcases this with rfl | rfl | rfl <;> rfl) (by omega) (by rw [abc_pre]; decide)
  rw [abc_pre] at hS
  have HS := Lib.hid hS; clear hS hb
  refine HS.out.mono ?_
  rintro e w1 ⟨rfl, hb1⟩
  go_wp2_with fail
  refine (hex_any _ (shaKey_u8 _) _).mono ?_
  rintro e w2 ⟨rfl, hb2⟩
  rw [abc_hex]
  go_wp2_with fail
  go_ret
  refine ⟨?_, ?_⟩
  · exact congrArg (fun b => Ending.returned (Value.bool b)) abc_eq
  · have s1 := hb1.size
    exact ((Below.refl w.heap.size w).alloc (Nat.le_refl _) _).trans ((hb1.mono (by simp)).trans (hb2.mono (by simp at s1; omega)))
end Go.Proofs.YtoijdiokomineaaDoor
