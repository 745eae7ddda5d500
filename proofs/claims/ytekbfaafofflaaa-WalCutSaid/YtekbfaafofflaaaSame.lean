/-
  The walk of siloref01.Same at two lists that are alike.
-/
import Derived.Test.YtekbfaafofflaaaBack
import Derived.BigQuiet
namespace Go.Proofs.Ytekbfaafofflaaa
open Go.RowKit
set_option linter.unusedVariables false

set_option maxRecDepth 100000 in
theorem same_true (w : World) (a1 a2 : Option Addr) (b1 o1 b2 o2 n c1 c2 : Nat) (T : Nat → ByteArray) (hn : n ≤ 140737488355328)
    (h1 : 0 < n → a1 = some ⟨b1, o1, none⟩) (h2 : 0 < n → a2 = some ⟨b2, o2, none⟩) (g1 : ∀ i, i < n → w.cell? ⟨b1, o1 + i, none⟩ = some (.string (T i))) (g2 : ∀ i, i < n → w.cell? ⟨b2, o2 + i, none⟩ = some (.string (T i))) :
    Calls Try.prog 8 #[.slice a1 n c1, .slice a2 n c2] w fun e w' => e = .returned (.bool true) ∧ ∃ k, w' = w.drewN k := by
  have H1 := Lib.hid h1; clear h1
  have H2 := Lib.hid h2; clear h2
  have G1 := Lib.hid g1; clear g1
  have G2 := Lib.hid g2; clear g2
  go_enter Try.func8, Try.ntmps8
  go_wp2_with fail
  go_loopg [5] n (fun g v wr => ∃ (i k : Nat), i + g = n ∧ v = .int .i64 i ∧ wr = w.drewN k)
  case atStart => exact ⟨0, 0, by omega, rfl, rfl⟩
  case round =>
    obtain ⟨i, k, hi, rfl, rfl⟩ := hrel
    by_cases hl : i < n
    · obtain rfl := H1.out (by omega)
      obtain rfl := H2.out (by omega)
      have c1 := G1.out i hl
      have c2 := G2.out i hl
      have hi0 : (0 : Int) ≤ (i : Int) := by omega
      have hi1 : (i : Int) < (n : Int) := by omega
      go_wp2_with fail
      go_quiet (fail)
      go_wp2_with fail
      go_roundg (n - (i+1))
      case measure => omega
      case rel => exact ⟨i+1, _, by omega, by go_num, rfl⟩
    · go_wp2_with fail
      go_ret
      exact ⟨rfl, k, rfl⟩
end Go.Proofs.Ytekbfaafofflaaa
