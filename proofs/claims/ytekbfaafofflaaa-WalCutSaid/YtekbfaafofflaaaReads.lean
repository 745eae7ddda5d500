/-
  The walks of six.Reader.Count (refused), Reader.Whole, Reader.Raw, Reader.Text, Reader.End.
-/
import Derived.Test.YtekbfaafofflaaaReader
namespace Go.Proofs.Ytekbfaafofflaaa
open Go.RowKit
set_option linter.unusedVariables false

theorem bl_u8 (s : ByteArray) (c : Int) (h : c ∈ bl s) : 0 ≤ c ∧ c < 256 := by
  unfold bl at h
  obtain ⟨x, _, rfl⟩ := List.mem_map.1 h
  have := x.toNat_lt
  omega
theorem nmb_bound (l : List Int) (hl : ∀ c ∈ l, 0 ≤ c ∧ c < 256) (i : Nat) (x : Int) (hx : 0 ≤ x) (n size e : Int) (b : Bool) (h : nmb l i x = (n, b, size, e)) : 0 ≤ n ∧ n < 9223372036854775808 := by
  induction l generalizing i x with
  | nil => simp [nmb] at h; omega
  | cons c l ih =>
    have hc := hl c (by simp)
    unfold nmb at h
    split at h
    · simp only [Prod.mk.injEq] at h; omega
    · split at h
      · simp only [Prod.mk.injEq] at h; omega
      · exact ih (fun d hd => hl d (by simp [hd])) _ _ (by omega) h
theorem nmb_err (l : List Int) (i : Nat) (x : Int) (n size e : Int) (b : Bool) (h : nmb l i x = (n, b, size, e)) : e = 0 ∨ (e = 2 ∨ e = 3) ∧ n = 0 ∧ b = false ∧ size = 0 := by
  induction l generalizing i x with
  | nil => simp [nmb] at h; right; obtain ⟨rfl, rfl, rfl, rfl⟩ := h; exact ⟨Or.inl rfl, rfl, rfl, rfl⟩
  | cons c l ih =>
    unfold nmb at h
    split at h
    · simp only [Prod.mk.injEq] at h; obtain ⟨rfl, rfl, rfl, rfl⟩ := h; right; exact ⟨Or.inr rfl, rfl, rfl, rfl⟩
    · split at h
      · simp only [Prod.mk.injEq] at h; left; exact h.2.2.2.symm
      · exact ih _ _ h

set_option maxRecDepth 100000 in
theorem rcount_bad {w : World} {p : Nat} {s : ByteArray} (h : Rdr w p s) (hs : s.size ≤ 9223372036854775807) (e0 : Int) (he : e0 = 2 ∨ e0 = 3) (hr : nmb (bl s) 0 0 = (0, false, 0, e0)) :
    Calls Try.prog 20 #[.pointer (some ⟨p, 0, none⟩)] w fun e w' => e = .returned (.tuple #[.int .i64 0, .int .i64 e0]) ∧ w = w' := by
  have N := number_any h hs
  rw [hr] at N
  have HN := Lib.hid N
  clear h hr N
  rcases he with rfl | rfl
  all_goals
    go_enter Try.func20, Try.ntmps20
    go_wp2_with (go_at_call 21; refine HN.out.mono ?_; rintro e w1 ⟨rfl, rfl⟩; unfold nmbV)
    go_ret2
    exact ⟨rfl, rfl⟩
set_option maxRecDepth 100000 in
theorem rcount_neg {w : World} {p : Nat} {s : ByteArray} (h : Rdr w p s) (hs : s.size ≤ 9223372036854775807) (n k : Int) (hr : nmb (bl s) 0 0 = (n, true, k, 0)) :
    Calls Try.prog 20 #[.pointer (some ⟨p, 0, none⟩)] w fun e w' => e = .returned (.tuple #[.int .i64 0, .int .i64 3]) ∧ w = w' := by
  have N := number_any h hs
  rw [hr] at N
  have HN := Lib.hid N
  clear h hr N
  go_enter Try.func20, Try.ntmps20
  go_wp2_with (go_at_call 21; refine HN.out.mono ?_; rintro e w1 ⟨rfl, rfl⟩; unfold nmbV)
  go_ret2
  exact ⟨rfl, rfl⟩
set_option maxRecDepth 100000 in
theorem rraw_ok {w : World} {p : Nat} {s : ByteArray} (h : Rdr w p s) (n : Nat) (hn : n ≤ s.size) :
    Calls Try.prog 17 #[.pointer (some ⟨p, 0, none⟩), .int .i64 n] w fun e w' => e = .returned (.tuple #[.string (s.extract 0 n), .int .i64 0]) ∧ w' = w.setCell ⟨p, 0, none⟩ (.string (s.extract n s.size)) := by
  have hc := h.cell
  have hf := h.thaw
  have hn3 : (n : Int) ≤ (s.size : Int) := by omega
  have hn4 : ¬ ((s.size : Int) < (n : Int)) := by omega
  clear h
  go_enter Try.func17, Try.ntmps17
  go_wp2_with fail
  go_ret2
  exact ⟨rfl, rfl⟩
set_option maxRecDepth 100000 in
theorem rraw_short {w : World} {p : Nat} {s : ByteArray} (h : Rdr w p s) (n : Int) (hn : (s.size : Int) < n) :
    Calls Try.prog 17 #[.pointer (some ⟨p, 0, none⟩), .int .i64 n] w fun e w' => e = .returned (.tuple #[.string { data := #[] }, .int .i64 2]) ∧ w = w' := by
  have hc := h.cell
  have hn0 : ¬ (n < 0) := by omega
  clear h
  go_enter Try.func17, Try.ntmps17
  go_wp2_with fail
  go_ret2
  exact ⟨rfl, rfl⟩
end Go.Proofs.Ytekbfaafofflaaa
