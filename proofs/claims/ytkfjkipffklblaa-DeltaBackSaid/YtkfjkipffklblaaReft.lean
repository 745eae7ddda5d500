/-
  The walks of siloref01.ReadCount, ReadRaw, ReadText.
-/
import Derived.Test.YtkfjkipffklblaaRead
namespace Go.Proofs.Ytkfjkipffklblaa
open Go.RowKit
set_option linter.unusedVariables false

set_option maxRecDepth 100000 in
theorem rcountR_any (w : World) (s : ByteArray) (hs : s.size ≤ 9223372036854775807) : Calls Try.prog 21 #[.string s] w fun e w' => e = .returned (tri (rc s).1 (rc s).2.1 (rc s).2.2) ∧ w = w' := by
  have W := rwholeR_any w s hs
  rcases nmb_cases s with ⟨e0, he, hn⟩ | ⟨N, k, hn, hN, _⟩ | ⟨N, k, hn, h1, h2, h3⟩
  · rw [rc_bad he hn]
    rw [hn] at W
    have HW := Lib.hid W
    clear W hn
    rcases he with rfl | rfl
    all_goals
      go_enter Try.func21, Try.ntmps21
      go_wp2_with (go_at_call 26; refine HW.out.mono ?_; rintro e w1 ⟨rfl, rfl⟩; unfold tri)
      refine bodyPost_ret (results_tmp3 rfl _ _ _) rfl ?_
      exact ⟨rfl, rfl⟩
  · rw [rc_neg hn]
    rw [hn] at W
    have HW := Lib.hid W
    clear W hn
    go_enter Try.func21, Try.ntmps21
    go_wp2_with (go_at_call 26; refine HW.out.mono ?_; rintro e w1 ⟨rfl, rfl⟩; unfold tri)
    refine bodyPost_ret (results_tmp3 rfl _ _ _) rfl ?_
    exact ⟨rfl, rfl⟩
  · rw [rc_ok hn]
    rw [hn] at W
    have HW := Lib.hid W
    clear W hn
    go_enter Try.func21, Try.ntmps21
    go_wp2_with (go_at_call 26; refine HW.out.mono ?_; rintro e w1 ⟨rfl, rfl⟩; unfold tri)
    refine bodyPost_ret (results_tmp3 rfl _ _ _) rfl ?_
    exact ⟨rfl, rfl⟩
def trs (a : ByteArray) (b c : Int) : Value := .tuple #[.string a, .int .i64 b, .int .i64 c]
end Go.Proofs.Ytkfjkipffklblaa
