/-
  The contract of math/bits.RotateLeft32, at the ten counts that sha.mixed hands it.
-/
import Derived.Test.YtoijdiokomineaaDoorProg
import Derived.Test.YtoijdiokomineaaDoorSha
import Derived.WalkKit
namespace Go.Proofs.YtoijdiokomineaaDoor
open Go.RowKit
set_option linter.unusedVariables false

theorem rot_7 (x : Int) (w : World) (hx : 0 ≤ x) (hx' : x < 4294967296) :
    Calls Tryd.prog 24 #[.int .u32 x, .int .i64 (-7)] w fun e w' => e = .returned (.int .u32 (rot x 7)) ∧ w = w' := by
  have hb : bits BinOp.and IntKind.u64 (IntKind.u64.wrap (-7)) 31 = 25 := by decide +kernel
  go_enter Tryd.func24, Tryd.ntmps24
  go_wp2
  go_ret
  exact ⟨rfl, rfl⟩
theorem rot_18 (x : Int) (w : World) (hx : 0 ≤ x) (hx' : x < 4294967296) :
    Calls Tryd.prog 24 #[.int .u32 x, .int .i64 (-18)] w fun e w' => e = .returned (.int .u32 (rot x 18)) ∧ w = w' := by
  have hb : bits BinOp.and IntKind.u64 (IntKind.u64.wrap (-18)) 31 = 14 := by decide +kernel
  go_enter Tryd.func24, Tryd.ntmps24
  go_wp2
  go_ret
  exact ⟨rfl, rfl⟩
theorem rot_17 (x : Int) (w : World) (hx : 0 ≤ x) (hx' : x < 4294967296) :
    Calls Tryd.prog 24 #[.int .u32 x, .int .i64 (-17)] w fun e w' => e = .returned (.int .u32 (rot x 17)) ∧ w = w' := by
  have hb : bits BinOp.and IntKind.u64 (IntKind.u64.wrap (-17)) 31 = 15 := by decide +kernel
  go_enter Tryd.func24, Tryd.ntmps24
  go_wp2
  go_ret
  exact ⟨rfl, rfl⟩
theorem rot_19 (x : Int) (w : World) (hx : 0 ≤ x) (hx' : x < 4294967296) :
    Calls Tryd.prog 24 #[.int .u32 x, .int .i64 (-19)] w fun e w' => e = .returned (.int .u32 (rot x 19)) ∧ w = w' := by
  have hb : bits BinOp.and IntKind.u64 (IntKind.u64.wrap (-19)) 31 = 13 := by decide +kernel
  go_enter Tryd.func24, Tryd.ntmps24
  go_wp2
  go_ret
  exact ⟨rfl, rfl⟩
theorem rot_6 (x : Int) (w : World) (hx : 0 ≤ x) (hx' : x < 4294967296) :
    Calls Tryd.prog 24 #[.int .u32 x, .int .i64 (-6)] w fun e w' => e = .returned (.int .u32 (rot x 6)) ∧ w = w' := by
  have hb : bits BinOp.and IntKind.u64 (IntKind.u64.wrap (-6)) 31 = 26 := by decide +kernel
  go_enter Tryd.func24, Tryd.ntmps24
  go_wp2
  go_ret
  exact ⟨rfl, rfl⟩
theorem rot_11 (x : Int) (w : World) (hx : 0 ≤ x) (hx' : x < 4294967296) :
    Calls Tryd.prog 24 #[.int .u32 x, .int .i64 (-11)] w fun e w' => e = .returned (.int .u32 (rot x 11)) ∧ w = w' := by
  have hb : bits BinOp.and IntKind.u64 (IntKind.u64.wrap (-11)) 31 = 21 := by decide +kernel
  go_enter Tryd.func24, Tryd.ntmps24
  go_wp2
  go_ret
  exact ⟨rfl, rfl⟩
theorem rot_25 (x : Int) (w : World) (hx : 0 ≤ x) (hx' : x < 4294967296) :
    Calls Tryd.prog 24 #[.int .u32 x, .int .i64 (-25)] w fun e w' => e = .returned (.int .u32 (rot x 25)) ∧ w = w' := by
  have hb : bits BinOp.and IntKind.u64 (IntKind.u64.wrap (-25)) 31 = 7 := by decide +kernel
  go_enter Tryd.func24, Tryd.ntmps24
  go_wp2
  go_ret
  exact ⟨rfl, rfl⟩
theorem rot_2 (x : Int) (w : World) (hx : 0 ≤ x) (hx' : x < 4294967296) :
    Calls Tryd.prog 24 #[.int .u32 x, .int .i64 (-2)] w fun e w' => e = .returned (.int .u32 (rot x 2)) ∧ w = w' := by
  have hb : bits BinOp.and IntKind.u64 (IntKind.u64.wrap (-2)) 31 = 30 := by decide +kernel
  go_enter Tryd.func24, Tryd.ntmps24
  go_wp2
  go_ret
  exact ⟨rfl, rfl⟩
theorem rot_13 (x : Int) (w : World) (hx : 0 ≤ x) (hx' : x < 4294967296) :
    Calls Tryd.prog 24 #[.int .u32 x, .int .i64 (-13)] w fun e w' => e = .returned (.int .u32 (rot x 13)) ∧ w = w' := by
  have hb : bits BinOp.and IntKind.u64 (IntKind.u64.wrap (-13)) 31 = 19 := by decide +kernel
  go_enter Tryd.func24, Tryd.ntmps24
  go_wp2
  go_ret
  exact ⟨rfl, rfl⟩
theorem rot_22 (x : Int) (w : World) (hx : 0 ≤ x) (hx' : x < 4294967296) :
    Calls Tryd.prog 24 #[.int .u32 x, .int .i64 (-22)] w fun e w' => e = .returned (.int .u32 (rot x 22)) ∧ w = w' := by
  have hb : bits BinOp.and IntKind.u64 (IntKind.u64.wrap (-22)) 31 = 10 := by decide +kernel
  go_enter Tryd.func24, Tryd.ntmps24
  go_wp2
  go_ret
  exact ⟨rfl, rfl⟩

theorem rot_any (x k : Int) (w : World) (hx : U32 x) (hk : k ∈ [(-7 : Int), (-18 : Int), (-17 : Int), (-19 : Int), (-6 : Int), (-11 : Int), (-25 : Int), (-2 : Int), (-13 : Int), (-22 : Int)]) :
    Calls Tryd.prog 24 #[.int .u32 x, .int .i64 k] w fun e w' => e = .returned (.int .u32 (rot x (-k).toNat)) ∧ w = w' := by
  simp only [List.mem_cons, List.not_mem_nil, or_false] at hk
  rcases hk with rfl | rfl | rfl | rfl | rfl | rfl | rfl | rfl | rfl | rfl
  · exact rot_7 x w hx.1 hx.2
  · exact rot_18 x w hx.1 hx.2
  · exact rot_17 x w hx.1 hx.2
  · exact rot_19 x w hx.1 hx.2
  · exact rot_6 x w hx.1 hx.2
  · exact rot_11 x w hx.1 hx.2
  · exact rot_25 x w hx.1 hx.2
  · exact rot_2 x w hx.1 hx.2
  · exact rot_13 x w hx.1 hx.2
  · exact rot_22 x w hx.1 hx.2

end Go.Proofs.YtoijdiokomineaaDoor
