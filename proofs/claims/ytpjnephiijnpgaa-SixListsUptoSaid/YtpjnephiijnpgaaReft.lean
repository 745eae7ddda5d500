/-
  The walks of siloref01.ReadCount, ReadRaw, ReadText.
-/
import Derived.Test.YtpjnephiijnpgaaRead
namespace Go.Proofs.Ytpjnephiijnpgaa
open Go.RowKit
set_option linter.unusedVariables false

set_option maxRecDepth 100000 in
theorem rcountR_any (w : World) (s : ByteArray) (hs : s.size ≤ 9223372036854775807) : Calls Try.prog 36 #[.string s] w fun e w' => e = .returned (tri (rc s).1 (rc s).2.1 (rc s).2.2) ∧ w = w' := by
  have W := rwholeR_any w s hs
  rcases nmb_cases s with ⟨e0, he, hn⟩ | ⟨N, k, hn, hN, _⟩ | ⟨N, k, hn, h1, h2, h3⟩
  · rw [rc_bad he hn]
    rw [hn] at W
    have HW := Lib.hid W
    clear W hn
    rcases he with rfl | rfl
    all_goals
      go_enter Try.func36, Try.ntmps36
      go_wp2_with (go_at_call 38; refine HW.out.mono ?_; rintro e w1 ⟨rfl, rfl⟩; unfold tri)
      refine bodyPost_ret (results_tmp3 rfl _ _ _) rfl ?_
      exact ⟨rfl, rfl⟩
  · rw [rc_neg hn]
    rw [hn] at W
    have HW := Lib.hid W
    clear W hn
    go_enter Try.func36, Try.ntmps36
    go_wp2_with (go_at_call 38; refine HW.out.mono ?_; rintro e w1 ⟨rfl, rfl⟩; unfold tri)
    refine bodyPost_ret (results_tmp3 rfl _ _ _) rfl ?_
    exact ⟨rfl, rfl⟩
  · rw [rc_ok hn]
    rw [hn] at W
    have HW := Lib.hid W
    clear W hn
    go_enter Try.func36, Try.ntmps36
    go_wp2_with (go_at_call 38; refine HW.out.mono ?_; rintro e w1 ⟨rfl, rfl⟩; unfold tri)
    refine bodyPost_ret (results_tmp3 rfl _ _ _) rfl ?_
    exact ⟨rfl, rfl⟩
def trs (a : ByteArray) (b c : Int) : Value := .tuple #[.string a, .int .i64 b, .int .i64 c]
set_option maxRecDepth 100000 in
theorem rrawR_ok (w : World) (s : ByteArray) (n : Nat) (hn : n ≤ s.size) : Calls Try.prog 39 #[.string s, .int .i64 n] w fun e w' => e = .returned (trs (s.extract 0 n) n 0) ∧ w = w' := by
  have hn3 : (n : Int) ≤ (s.size : Int) := by omega
  have hn4 : ¬ ((s.size : Int) < (n : Int)) := by omega
  go_enter Try.func39, Try.ntmps39
  go_wp2_with fail
  refine bodyPost_ret (results_tmp3 rfl _ _ _) rfl ?_
  exact ⟨rfl, rfl⟩
set_option maxRecDepth 100000 in
theorem rrawR_short (w : World) (s : ByteArray) (n : Nat) (hn : s.size < n) : Calls Try.prog 39 #[.string s, .int .i64 n] w fun e w' => e = .returned (trs emp 0 2) ∧ w = w' := by
  have hn0 : (s.size : Int) < (n : Int) := by omega
  go_enter Try.func39, Try.ntmps39
  go_wp2_with fail
  refine bodyPost_ret (results_tmp3 rfl _ _ _) rfl ?_
  exact ⟨rfl, rfl⟩
set_option maxRecDepth 100000 in
theorem rtextR_any (w : World) (s : ByteArray) (hs : s.size ≤ 9223372036854775807) : Calls Try.prog 37 #[.string s] w fun e w' => e = .returned (trs (rt s).1 (rt s).2.1 (rt s).2.2) ∧ w = w' := by
  have W := rcountR_any w s hs
  rcases rc_cases s with ⟨e0, he, h⟩ | ⟨N, k, h, hn, h1, h2, h3⟩
  · rw [rt_bad he h]
    rw [h] at W
    have HW := Lib.hid W
    clear W h
    rcases he with rfl | rfl
    all_goals
      go_enter Try.func37, Try.ntmps37
      go_wp2_with (go_at_call 36; refine HW.out.mono ?_; rintro e w1 ⟨rfl, rfl⟩; unfold tri)
      refine bodyPost_ret (results_tmp3 rfl _ _ _) rfl ?_
      exact ⟨rfl, rfl⟩
  · have hk3 : (k : Int) ≤ (s.size : Int) := by omega
    have hcs : (s.extract k s.size).size = s.size - k := by rw [ByteArray.size_extract]; omega
    by_cases hl : k + N ≤ s.size
    · rw [rt_ok h hl]
      rw [h] at W
      have HW := Lib.hid W
      have RW := Lib.hid (rrawR_ok w (s.extract k s.size) N (by rw [hcs]; omega))
      clear W h hn hcs
      go_enter Try.func37, Try.ntmps37
      go_wp2_with (first
        | (go_at_call 36; refine HW.out.mono ?_; rintro e w1 ⟨rfl, rfl⟩; unfold tri)
        | (go_at_call 39; refine RW.out.mono ?_; rintro e w1 ⟨rfl, rfl⟩; unfold trs))
      refine bodyPost_ret (results_tmp3 rfl _ _ _) rfl ?_
      exact ⟨by unfold trs; congr 3, rfl⟩
    · rw [rt_short h (by omega)]
      rw [h] at W
      have HW := Lib.hid W
      have RW := Lib.hid (rrawR_short w (s.extract k s.size) N (by rw [hcs]; omega))
      clear W h hn hcs
      go_enter Try.func37, Try.ntmps37
      go_wp2_with (first
        | (go_at_call 36; refine HW.out.mono ?_; rintro e w1 ⟨rfl, rfl⟩; unfold tri)
        | (go_at_call 39; refine RW.out.mono ?_; rintro e w1 ⟨rfl, rfl⟩; unfold trs))
      refine bodyPost_ret (results_tmp3 rfl _ _ _) rfl ?_
      exact ⟨rfl, rfl⟩
end Go.Proofs.Ytpjnephiijnpgaa
