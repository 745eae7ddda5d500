/-
  What a reader finds at the head of a text: a count, a text; the walks of Reader.Count and Reader.Text in one form; and the document's ReadWhole, ReadCount, ReadRaw, ReadText.
-/
import Derived.Test.YtkfjkipffklblaaBack
namespace Go.Proofs.Ytkfjkipffklblaa
open Go.RowKit
set_option linter.unusedVariables false

def emp : ByteArray := { data := #[] }
/-- A count at the head: the number, its bytes, the error. -/
def rc (s : ByteArray) : Int × Nat × Int :=
  if (nmb (bl s) 0 0).2.2.2 ≠ 0 then (0, 0, (nmb (bl s) 0 0).2.2.2) else if (nmb (bl s) 0 0).2.1 = true then (0, 0, 3) else ((nmb (bl s) 0 0).1, (nmb (bl s) 0 0).2.2.1.toNat, 0)
/-- A text at the head: the text, its bytes, the error. -/
def rt (s : ByteArray) : ByteArray × Nat × Int :=
  if (rc s).2.2 ≠ 0 then (emp, 0, (rc s).2.2) else if (s.size : Int) < ((rc s).2.1 : Int) + (rc s).1 then (emp, 0, 2) else ((s.extract (rc s).2.1 s.size).extract 0 (rc s).1.toNat, (rc s).2.1 + (rc s).1.toNat, 0)

theorem ext_all (s : ByteArray) : s.extract 0 s.size = s := by
  apply bl_inj
  rw [bl_extract, List.drop_zero, List.take_of_length_le (by rw [bl_length]; omega)]

theorem nmb_cases (s : ByteArray) : (∃ e0, (e0 = 2 ∨ e0 = 3) ∧ nmb (bl s) 0 0 = (0, false, 0, e0)) ∨ (∃ N k : Nat, nmb (bl s) 0 0 = ((N : Int), true, (k : Int), 0) ∧ N < 9223372036854775808 ∧ 0 < k ∧ k ≤ s.size) ∨
    (∃ N k : Nat, nmb (bl s) 0 0 = ((N : Int), false, (k : Int), 0) ∧ N < 9223372036854775808 ∧ 0 < k ∧ k ≤ s.size) := by
  obtain ⟨n, bb, size, e0, hn⟩ : ∃ n bb size e0, nmb (bl s) 0 0 = (n, bb, size, e0) := ⟨_, _, _, _, rfl⟩
  rcases nmb_err _ _ _ _ _ _ _ hn with rfl | ⟨he, rfl, rfl, rfl⟩
  · obtain ⟨N, k, rfl, rfl, h1, h2, h3, _⟩ := nmb_read s _ _ _ hn
    cases bb
    · exact Or.inr (Or.inr ⟨N, k, hn, h1, h2, h3⟩)
    · exact Or.inr (Or.inl ⟨N, k, hn, h1, h2, h3⟩)
  · exact Or.inl ⟨e0, he, hn⟩
theorem rc_bad {s : ByteArray} {e0 : Int} (he : e0 = 2 ∨ e0 = 3) (h : nmb (bl s) 0 0 = (0, false, 0, e0)) : rc s = (0, 0, e0) := by
  unfold rc; rw [h]; exact if_pos (show e0 ≠ 0 by omega)
theorem rc_neg {s : ByteArray} {N k : Int} (h : nmb (bl s) 0 0 = (N, true, k, 0)) : rc s = (0, 0, 3) := by
  unfold rc; rw [h]; rfl
theorem rc_ok {s : ByteArray} {N k : Nat} (h : nmb (bl s) 0 0 = ((N : Int), false, (k : Int), 0)) : rc s = ((N : Int), k, 0) := by
  unfold rc; rw [h]; rfl
theorem rc_cases (s : ByteArray) : (∃ e0, (e0 = 2 ∨ e0 = 3) ∧ rc s = (0, 0, e0)) ∨ (∃ N k : Nat, rc s = ((N : Int), k, 0) ∧ nmb (bl s) 0 0 = ((N : Int), false, (k : Int), 0) ∧ N < 9223372036854775808 ∧ 0 < k ∧ k ≤ s.size) := by
  rcases nmb_cases s with ⟨e0, he, h⟩ | ⟨N, k, h, _⟩ | ⟨N, k, h, h1, h2, h3⟩
  · exact Or.inl ⟨e0, he, rc_bad he h⟩
  · exact Or.inl ⟨3, Or.inr rfl, rc_neg h⟩
  · exact Or.inr ⟨N, k, rc_ok h, h, h1, h2, h3⟩

theorem rcount_all {w : World} {p : Nat} {s : ByteArray} (h : Rdr w p s) (hs : s.size ≤ 9223372036854775807) :
    Calls Try.prog 12 #[.pointer (some ⟨p, 0, none⟩)] w fun e w' => e = .returned (.tuple #[.int .i64 (rc s).1, .int .i64 (rc s).2.2]) ∧ Rdr w' p (s.extract (rc s).2.1 s.size) ∧ Onl w w' p := by
  rcases nmb_cases s with ⟨e0, he, hn⟩ | ⟨N, k, hn, _⟩ | ⟨N, k, hn, h1, h2, h3⟩
  · rw [rc_bad he hn]
    refine (rcount_bad h hs e0 he hn).mono ?_
    rintro e w' ⟨rfl, rfl⟩
    exact ⟨rfl, by rw [ext_all]; exact h, Onl.refl _ _⟩
  · rw [rc_neg hn]
    refine (rcount_neg h hs _ _ hn).mono ?_
    rintro e w' ⟨rfl, rfl⟩
    exact ⟨rfl, by rw [ext_all]; exact h, Onl.refl _ _⟩
  · rw [rc_ok hn]
    refine (rcount_ok h hs _ k hn).mono ?_
    rintro e w' ⟨rfl, rfl⟩
    exact ⟨rfl, h.set _, Onl.set _ _ _⟩

theorem rt_bad {s : ByteArray} {e0 : Int} (he : e0 = 2 ∨ e0 = 3) (h : rc s = (0, 0, e0)) : rt s = (emp, 0, e0) := by
  unfold rt; rw [h]; exact if_pos (show e0 ≠ 0 by omega)
theorem rt_short {s : ByteArray} {N k : Nat} (h : rc s = ((N : Int), k, 0)) (hl : s.size < k + N) : rt s = (emp, 0, 2) := by
  unfold rt; rw [h]; rw [if_neg (by simp)]; exact if_pos (by simp only; omega)
theorem rt_ok {s : ByteArray} {N k : Nat} (h : rc s = ((N : Int), k, 0)) (hl : k + N ≤ s.size) : rt s = ((s.extract k s.size).extract 0 N, k + N, 0) := by
  unfold rt; rw [h]; rw [if_neg (by simp), if_neg (by simp only; omega)]; rfl
theorem rt_cases (s : ByteArray) : (∃ e0, (e0 = 2 ∨ e0 = 3) ∧ rt s = (emp, 0, e0)) ∨ (∃ t k, rt s = (t, k, 0) ∧ 0 < k ∧ k ≤ s.size ∧ t.size < k) := by
  rcases rc_cases s with ⟨e0, he, h⟩ | ⟨N, k, h, hn, h1, h2, h3⟩
  · exact Or.inl ⟨e0, he, rt_bad he h⟩
  · by_cases hl : k + N ≤ s.size
    · exact Or.inr ⟨_, _, rt_ok h hl, by omega, hl, by rw [ByteArray.size_extract, ByteArray.size_extract]; omega⟩
    · exact Or.inl ⟨2, Or.inl rfl, rt_short h (by omega)⟩

theorem ext_ext (s : ByteArray) (k n : Nat) (h : k ≤ s.size) : (s.extract k s.size).extract n (s.size - k) = s.extract (k + n) s.size := by
  apply bl_inj
  rw [bl_extract, bl_extract, bl_extract]
  rw [List.take_of_length_le (l := (bl s).drop k) (by simp [bl_length]), List.drop_drop, List.take_of_length_le (by simp [bl_length]; omega), List.take_of_length_le (by simp [bl_length])]

def tri (a b c : Int) : Value := .tuple #[.int .i64 a, .int .i64 b, .int .i64 c]
theorem results_tmp3 {fn : Func} {t u v : Tmp} (h : fn.results = #[.tmp t, .tmp u, .tmp v]) (tmps : Array Value) (P : Program) (w : World) :
    (results fn tmps).run P w = .ok (.tuple #[tmps.getD t undef, tmps.getD u undef, tmps.getD v undef]) w := by
  simp [results, h]

set_option maxRecDepth 100000 in
set_option maxHeartbeats 1000000 in
theorem rwholeR_any (w : World) (s : ByteArray) (hs : s.size ≤ 9223372036854775807) : Calls Try.prog 26 #[.string s] w fun e w' =>
    e = .returned (tri (cond (nmb (bl s) 0 0).2.1 (-1 - (nmb (bl s) 0 0).1) (nmb (bl s) 0 0).1) (nmb (bl s) 0 0).2.2.1 (nmb (bl s) 0 0).2.2.2) ∧ w = w' := by
  obtain ⟨R, hR⟩ : ∃ R, nmb (bl s) 0 0 = R := ⟨_, rfl⟩
  rw [hR]
  have HR := Lib.hid hR; clear hR
  go_enter Try.func26, Try.ntmps26
  go_wp2_with fail
  go_loopg [5, 6] s.size (fun g xv y wr => ∃ (i : Nat) (x : Int), i + g = s.size ∧ y = .int .i64 i ∧ xv = .int .u64 x ∧ 0 ≤ x ∧ x < 9223372036854775808 ∧ (i = 0 → x = 0) ∧ nmb ((bl s).drop i) i x = R ∧ w = wr)
  case atStart => exact ⟨0, 0, by omega, rfl, rfl, by omega, by omega, fun _ => rfl, HR.out, rfl⟩
  case round =>
    obtain ⟨i, x, hi, rfl, rfl, hx0, hx1, hz, hn, rfl⟩ := hrel
    by_cases hl : i < s.size
    · rw [bl_drop s i hl] at hn
      have hu := (s[i]'hl).toNat_lt
      obtain ⟨c, hcc⟩ : ∃ c : Nat, (s[i]'hl).toNat = c := ⟨_, rfl⟩
      rw [hcc] at hn hu
      unfold nmb at hn
      by_cases hbad : 191 < (c : Int) ∨ 144115188075855871 < x ∨ (i = 0 ∧ (c : Int) = 0)
      · rw [if_pos hbad] at hn
        have HN := Lib.hid hn; clear hn hz
        have hcase : 192 ≤ (c : Int) ∨ (¬ (192 ≤ (c : Int)) ∧ i = 0 ∧ c = 0) ∨ (¬ (192 ≤ (c : Int)) ∧ ¬ (c = 0) ∧ 144115188075855871 < x) ∨ (¬ (192 ≤ (c : Int)) ∧ c = 0 ∧ ¬ (i = 0) ∧ 144115188075855871 < x) := by omega
        clear hbad
        rcases hcase with h1 | ⟨h1, h2, h3⟩ | ⟨h1, h2, h3⟩ | ⟨h1, h2, h3, h4⟩
        · go_wp2_with fail
          refine bodyPost_ret (results_tmp3 rfl _ _ _) rfl ?_
          exact ⟨by rw [← HN.out]; rfl, rfl⟩
        · subst h2 h3
          go_wp2_with fail
          refine bodyPost_ret (results_tmp3 rfl _ _ _) rfl ?_
          exact ⟨by rw [← HN.out]; rfl, rfl⟩
        · have hc0 : ((c : Int) == 0) = false := by rw [beq_eq_false_iff_ne]; omega
          go_wp2_with fail
          refine bodyPost_ret (results_tmp3 rfl _ _ _) rfl ?_
          exact ⟨by rw [← HN.out]; rfl, rfl⟩
        · subst h2
          have hi0' : ((i : Int) == 0) = false := by rw [beq_eq_false_iff_ne]; omega
          go_wp2_with fail
          refine bodyPost_ret (results_tmp3 rfl _ _ _) rfl ?_
          exact ⟨by rw [← HN.out]; rfl, rfl⟩
      · rw [if_neg hbad] at hn
        have h1 : ¬ (192 ≤ (c : Int)) := by omega
        have h2 : ¬ (144115188075855871 < x) := by omega
        have h3 : c = 0 → ¬ (i = 0) := by omega
        clear hbad hz
        have hmul : IntKind.u64.wrap (64 * x) = 64 * x := by rw [IntKind.wrap_u64]; omega
        obtain ⟨d, hd⟩ : ∃ d, (c : Int) % 64 = d := ⟨_, rfl⟩
        have hd0 : 0 ≤ d ∧ d < 64 := by omega
        obtain ⟨hd0, hd1⟩ := hd0
        have hx64 : x * 64 = 64 * x := by omega
        have hnx : ∃ z, 64 * x + d = z := ⟨_, rfl⟩
        obtain ⟨z, hzz⟩ := hnx
        have hz0 : 0 ≤ z ∧ z < 9223372036854775808 := by omega
        obtain ⟨hz0, hz1⟩ := hz0
        have hwz : IntKind.u64.wrap z = z := by rw [IntKind.wrap_u64]; omega
        have hwz2 : IntKind.i64.wrap z = z := by rw [IntKind.wrap_i64]; omega
        have hwz3 : IntKind.i64.wrap (-1 - z) = -1 - z := by rw [IntKind.wrap_i64]; omega
        rw [hd, hx64, hzz] at hn
        clear hx64
        by_cases hcz : c = 0
        · have hi0' : ((i : Int) == 0) = false := by rw [beq_eq_false_iff_ne]; have := h3 hcz; omega
          subst hcz
          have h63 : ¬ (63 < ((0 : Nat) : Int)) := by decide
          rw [if_neg h63] at hn
          have HN := Lib.hid hn; clear hn h3
          have hd' : d = 0 := by omega
          subst hd'
          clear hd
          go_wp2_with fail
          go_roundg (s.size - (i+1))
          case measure => omega
          case rel => exact ⟨i+1, z, by omega, by go_num, by first | go_num | (congr 1; omega), by omega, by omega, by omega, HN.out, rfl⟩
        · have hc0 : ((c : Int) == 0) = false := by rw [beq_eq_false_iff_ne]; omega
          by_cases h63 : 63 < (c : Int)
          · rw [if_pos h63] at hn
            have h64 : 64 ≤ (c : Int) := by omega
            have HN := Lib.hid hn; clear hn h3
            by_cases h127 : 128 ≤ (c : Int)
            · have hdd : decide (127 < (c : Int)) = true := decide_eq_true (by omega)
              have HDD := Lib.hid hdd; clear hdd
              go_wp2_with fail
              refine bodyPost_ret (results_tmp3 rfl _ _ _) rfl ?_
              exact ⟨by rw [← HN.out, HDD.out]; rfl, rfl⟩
            · have hdd : decide (127 < (c : Int)) = false := decide_eq_false (by omega)
              have HDD := Lib.hid hdd; clear hdd
              go_wp2_with fail
              refine bodyPost_ret (results_tmp3 rfl _ _ _) rfl ?_
              exact ⟨by rw [← HN.out, HDD.out]; rfl, rfl⟩
          · rw [if_neg h63] at hn
            have h128 : ¬ (128 ≤ (c : Int)) := by omega
            have h64 : ¬ (64 ≤ (c : Int)) := by omega
            have HN := Lib.hid hn; clear hn h3
            go_wp2_with fail
            go_roundg (s.size - (i+1))
            case measure => omega
            case rel => exact ⟨i+1, z, by omega, by go_num, by go_num, by omega, by omega, by omega, HN.out, rfl⟩
    · have e0 : (bl s).drop i = [] := List.drop_eq_nil_of_le (by rw [bl_length]; omega)
      rw [e0] at hn
      have HN := Lib.hid hn; clear hn e0
      obtain rfl : i = s.size := by omega
      go_wp2_with fail
      refine bodyPost_ret (results_tmp3 rfl _ _ _) rfl ?_
      exact ⟨by rw [← HN.out]; rfl, rfl⟩
end Go.Proofs.Ytkfjkipffklblaa
