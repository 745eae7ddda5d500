/-
  The walk of silolaw01.SixNil.
-/
import Derived.Test.YtpjnephiijnpgaaAwake
namespace Go.Proofs.Ytpjnephiijnpgaa
open Go.RowKit
set_option linter.unusedVariables false

theorem nnumber (w : World) : Calls Try.prog 34 #[.pointer none] w fun e w' => e = .returned (nmbV (0, false, 0, 1)) ∧ w = w' := by
  go_enter Try.func34, Try.ntmps34
  go_wp2_with fail
  refine bodyPost_ret (results_tmp4 rfl _ _ _) rfl ?_
  exact ⟨rfl, rfl⟩
theorem ncount (w : World) : Calls Try.prog 27 #[.pointer none] w fun e w' => e = .returned (.tuple #[.int .i64 0, .int .i64 1]) ∧ w = w' := by
  go_enter Try.func27, Try.ntmps27
  go_wp2_with (go_at_call 34; refine (nnumber _).mono ?_; rintro e w1 ⟨rfl, rfl⟩; unfold nmbV)
  go_ret2
  exact ⟨rfl, rfl⟩
theorem nwhole (w : World) : Calls Try.prog 13 #[.pointer none] w fun e w' => e = .returned (.tuple #[.int .i64 0, .int .i64 1]) ∧ w = w' := by
  go_enter Try.func13, Try.ntmps13
  go_wp2_with (go_at_call 34; refine (nnumber _).mono ?_; rintro e w1 ⟨rfl, rfl⟩; unfold nmbV)
  go_ret2
  exact ⟨rfl, rfl⟩
theorem ntext (w : World) : Calls Try.prog 14 #[.pointer none] w fun e w' => e = .returned (.tuple #[.string { data := #[] }, .int .i64 1]) ∧ w = w' := by
  go_enter Try.func14, Try.ntmps14
  go_wp2_with fail
  go_ret2
  exact ⟨rfl, rfl⟩
theorem nraw (n : Int) (w : World) : Calls Try.prog 28 #[.pointer none, .int .i64 n] w fun e w' => e = .returned (.tuple #[.string { data := #[] }, .int .i64 1]) ∧ w = w' := by
  go_enter Try.func28, Try.ntmps28
  go_wp2_with fail
  go_ret2
  exact ⟨rfl, rfl⟩
theorem nwcount (n : Int) (w : World) : Calls Try.prog 17 #[.pointer none, .int .i64 n] w fun e w' => e = .returned (.int .i64 1) ∧ w = w' := by
  go_enter Try.func17, Try.ntmps17
  go_wp2_with fail
  go_ret
  exact ⟨rfl, rfl⟩
theorem nwwhole (n : Int) (w : World) : Calls Try.prog 9 #[.pointer none, .int .i64 n] w fun e w' => e = .returned (.int .i64 1) ∧ w = w' := by
  go_enter Try.func9, Try.ntmps9
  go_wp2_with fail
  go_ret
  exact ⟨rfl, rfl⟩
theorem nwtext (s : ByteArray) (w : World) : Calls Try.prog 10 #[.pointer none, .string s] w fun e w' => e = .returned (.int .i64 1) ∧ w = w' := by
  go_enter Try.func10, Try.ntmps10
  go_wp2_with fail
  go_ret
  exact ⟨rfl, rfl⟩
theorem nwraw (s : ByteArray) (w : World) : Calls Try.prog 19 #[.pointer none, .string s] w fun e w' => e = .returned (.int .i64 1) ∧ w = w' := by
  go_enter Try.func19, Try.ntmps19
  go_wp2_with fail
  go_ret
  exact ⟨rfl, rfl⟩
theorem nwbytes (w : World) : Calls Try.prog 12 #[.pointer none] w fun e w' => e = .returned (.string { data := #[] }) ∧ w = w' := by
  go_enter Try.func12, Try.ntmps12
  go_wp2_with fail
  go_ret
  exact ⟨rfl, rfl⟩
theorem nrest (w : World) : Calls Try.prog 16 #[.pointer none] w fun e w' => e = .returned (.string { data := #[] }) ∧ w = w' := by
  go_enter Try.func16, Try.ntmps16
  go_wp2_with fail
  go_ret
  exact ⟨rfl, rfl⟩
theorem nend (w : World) : Calls Try.prog 32 #[.pointer none] w fun e w' => e = .returned (.int .i64 1) ∧ w = w' := by
  go_enter Try.func32, Try.ntmps32
  go_wp2_with fail
  go_ret
  exact ⟨rfl, rfl⟩
theorem nput (p : Nat) (v : Value) (w : World) : Calls Try.prog 29 #[.pointer (some ⟨p, 0, none⟩), v, .nilFunc] w fun e w' => e = .returned (.int .i64 1) ∧ w = w' := by
  have q1 : ∀ w, (binOp .eql 72 .nilFunc .nilFunc).run Try.prog w = .ok (.bool true) w := fun _ => by kernel_rfl
  go_enter Try.func29, Try.ntmps29
  go_wp2_with fail
  go_ret
  exact ⟨rfl, rfl⟩
theorem ntake (p : Nat) (w : World) : Calls Try.prog 30 #[.pointer (some ⟨p, 0, none⟩), .nilFunc] w fun e w' => e = .returned (.tuple #[.slice none 0 0, .int .i64 1]) ∧ w = w' := by
  have q1 : ∀ w, (binOp .eql 56 .nilFunc .nilFunc).run Try.prog w = .ok (.bool true) w := fun _ => by kernel_rfl
  go_enter Try.func30, Try.ntmps30
  go_wp2_with fail
  go_ret2
  exact ⟨rfl, rfl⟩
theorem ntaken (v : Value) (w : World) : Calls Try.prog 30 #[.pointer none, v] w fun e w' => e = .returned (.tuple #[.slice none 0 0, .int .i64 1]) ∧ w = w' := by
  go_enter Try.func30, Try.ntmps30
  go_wp2_with fail
  go_ret2
  exact ⟨rfl, rfl⟩

set_option maxRecDepth 100000 in
set_option maxHeartbeats 4000000 in
theorem nil_any (n : Int) (s : ByteArray) (w : World) :
    Calls Try.prog 7 #[.int .i64 n, .string s] w fun e w' => e = .returned (.bool true) ∧ Below w.heap.size w w' := by
  go_enter Try.func7, Try.ntmps7
  go_wp2_with (first
    | (go_at_call 27; refine (ncount _).mono ?_; rintro e w1 ⟨rfl, rfl⟩)
    | (go_at_call 13; refine (nwhole _).mono ?_; rintro e w1 ⟨rfl, rfl⟩)
    | (go_at_call 14; refine (ntext _).mono ?_; rintro e w1 ⟨rfl, rfl⟩)
    | (go_at_call 28; refine (nraw _ _).mono ?_; rintro e w1 ⟨rfl, rfl⟩))
  refine (new_any w).mono ?_
  rintro e w1 ⟨rfl, hw1, hb1, hs1⟩
  go_wp2_with (go_at_call 29; refine (nput _ _ _).mono ?_; rintro e w2 ⟨rfl, rfl⟩)
  refine (over_any s _).mono ?_
  rintro e w2 ⟨rfl, hr2, hb2, hs2⟩
  have hbb : Below w.heap.size w w2 := (hb1.alloc (by omega) _).trans (hb2.mono (by simp; omega))
  go_wp2_with fail
  refine (ntake _ _).mono ?_
  rintro e w3 ⟨rfl, rfl⟩
  go_wp2_with fail
  refine (ntaken _ _).mono ?_
  rintro e w3 ⟨rfl, rfl⟩
  go_wp2_with fail
  refine (awake_any _).mono ?_
  rintro e w4 ⟨rfl, hb4⟩
  have hbc := hbb.trans (hb4.mono (by have := hbb.size; omega))
  have e0 : (({ data := #[] } : ByteArray) ++ { data := #[] }) = { data := #[] } := rfl
  have e1 : ({ data := #[] } : ByteArray).toList = [] := by rw [ByteArray.toList_eq]
  clear hbb hb4 hb1 hb2 hr2 hw1 hs1 hs2
  go_wp2_with (first
    | (go_at_call 17; refine (nwcount _ _).mono ?_; rintro e w1 ⟨rfl, rfl⟩)
    | (go_at_call 9; refine (nwwhole _ _).mono ?_; rintro e w1 ⟨rfl, rfl⟩)
    | (go_at_call 10; refine (nwtext _ _).mono ?_; rintro e w1 ⟨rfl, rfl⟩)
    | (go_at_call 19; refine (nwraw _ _).mono ?_; rintro e w1 ⟨rfl, rfl⟩)
    | (go_at_call 12; refine (nwbytes _).mono ?_; rintro e w1 ⟨rfl, rfl⟩)
    | (go_at_call 16; refine (nrest _).mono ?_; rintro e w1 ⟨rfl, rfl⟩)
    | (go_at_call 32; refine (nend _).mono ?_; rintro e w1 ⟨rfl, rfl⟩))
  go_ret
  exact ⟨rfl, hbc⟩
end Go.Proofs.Ytpjnephiijnpgaa
