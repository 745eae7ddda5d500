/-
  What a reader finds at the head of a text: a count, a text; the walks of Reader.Count and Reader.Text in one form; and the document's ReadWhole, ReadCount, ReadRaw, ReadText.
-/
import Derived.Test.YtekbfaafofflaaaBack
namespace Go.Proofs.Ytekbfaafofflaaa
open Go.RowKit
set_option linter.unusedVariables false

def emp : ByteArray := { data := #[] }
/-- A count at the head: the number, its bytes, the error. -/
def rc (s : ByteArray) : Int × Nat × Int :=
  if (nmb (bl s) 0 0).2.2.2 ≠ 0 then (0, 0, (nmb (bl s) 0 0).2.2.2) else if (nmb (bl s) 0 0).2.1 = true then (0, 0, 3) else ((nmb (bl s) 0 0).1, (nmb (bl s) 0 0).2.2.1.toNat, 0)
/-- A text at the head: the text, its bytes, the error. -/
def rt (s : ByteArray) : ByteArray × Nat × Int :=
  if (rc s).2.2 ≠ 0 then (emp, 0, (rc s).2.2) else if (s.size : Int) < ((rc s).2.1 : Int) + (rc s).1 then (emp, 0, 2) else ((s.extract (rc s).2.1 s.size).extract 0 (rc s).1.toNat, (rc s).2.1 + (rc s).1.toNat, 0)

theorem ext_all (s : ByteArray) : s.extract 0 s.size = s := by
  apply bl_inj
  rw [bl_extract, List.drop_zero, List.take_of_length_le (by rw [bl_length]; omega)]

theorem nmb_cases (s : ByteArray) : (∃ e0, (e0 = 2 ∨ e0 = 3) ∧ nmb (bl s) 0 0 = (0, false, 0, e0)) ∨ (∃ N k : Nat, nmb (bl s) 0 0 = ((N : Int), true, (k : Int), 0) ∧ N < 9223372036854775808 ∧ 0 < k ∧ k ≤ s.size) ∨
    (∃ N k : Nat, nmb (bl s) 0 0 = ((N : Int), false, (k : Int), 0) ∧ N < 9223372036854775808 ∧ 0 < k ∧ k ≤ s.size) := by
  obtain ⟨n, bb, size, e0, hn⟩ : ∃ n bb size e0, nmb (bl s) 0 0 = (n, bb, size, e0) := ⟨_, _, _, _, rfl⟩
  rcases nmb_err _ _ _ _ _ _ _ hn with rfl | ⟨he, rfl, rfl, rfl⟩
  · obtain ⟨N, k, rfl, rfl, h1, h2, h3, _⟩ := nmb_read s _ _ _ hn
    cases bb
    · exact Or.inr (Or.inr ⟨N, k, hn, h1, h2, h3⟩)
    · exact Or.inr (Or.inl ⟨N, k, hn, h1, h2, h3⟩)
  · exact Or.inl ⟨e0, he, hn⟩
theorem rc_bad {s : ByteArray} {e0 : Int} (he : e0 = 2 ∨ e0 = 3) (h : nmb (bl s) 0 0 = (0, false, 0, e0)) : rc s = (0, 0, e0) := by
  unfold rc; rw [h]; exact if_pos (show e0 ≠ 0 by omega)
theorem rc_neg {s : ByteArray} {N k : Int} (h : nmb (bl s) 0 0 = (N, true, k, 0)) : rc s = (0, 0, 3) := by
  unfold rc; rw [h]; rfl
theorem rc_ok {s : ByteArray} {N k : Nat} (h : nmb (bl s) 0 0 = ((N : Int), false, (k : Int), 0)) : rc s = ((N : Int), k, 0) := by
  unfold rc; rw [h]; rfl
theorem rc_cases (s : ByteArray) : (∃ e0, (e0 = 2 ∨ e0 = 3) ∧ rc s = (0, 0, e0)) ∨ (∃ N k : Nat, rc s = ((N : Int), k, 0) ∧ nmb (bl s) 0 0 = ((N : Int), false, (k : Int), 0) ∧ N < 9223372036854775808 ∧ 0 < k ∧ k ≤ s.size) := by
  rcases nmb_cases s with ⟨e0, he, h⟩ | ⟨N, k, h, _⟩ | ⟨N, k, h, h1, h2, h3⟩
  · exact Or.inl ⟨e0, he, rc_bad he h⟩
  · exact Or.inl ⟨3, Or.inr rfl, rc_neg h⟩
  · exact Or.inr ⟨N, k, rc_ok h, h, h1, h2, h3⟩

theorem rcount_all {w : World} {p : Nat} {s : ByteArray} (h : Rdr w p s) (hs : s.size ≤ 9223372036854775807) :
    Calls Try.prog 20 #[.pointer (some ⟨p, 0, none⟩)] w fun e w' => e = .returned (.tuple #[.int .i64 (rc s).1, .int .i64 (rc s).2.2]) ∧ Rdr w' p (s.extract (rc s).2.1 s.size) ∧ Onl w w' p := by
  rcases nmb_cases s with ⟨e0, he, hn⟩ | ⟨N, k, hn, _⟩ | ⟨N, k, hn, h1, h2, h3⟩
  · rw [rc_bad he hn]
    refine (rcount_bad h hs e0 he hn).mono ?_
    rintro e w' ⟨rfl, rfl⟩
    exact ⟨rfl, by rw [ext_all]; exact h, Onl.refl _ _⟩
  · rw [rc_neg hn]
    refine (rcount_neg h hs _ _ hn).mono ?_
    rintro e w' ⟨rfl, rfl⟩
    exact ⟨rfl, by rw [ext_all]; exact h, Onl.refl _ _⟩
  · rw [rc_ok hn]
    refine (rcount_ok h hs _ k hn).mono ?_
    rintro e w' ⟨rfl, rfl⟩
    exact ⟨rfl, h.set _, Onl.set _ _ _⟩

theorem rt_bad {s : ByteArray} {e0 : Int} (he : e0 = 2 ∨ e0 = 3) (h : rc s = (0, 0, e0)) : rt s = (emp, 0, e0) := by
  unfold rt; rw [h]; exact if_pos (show e0 ≠ 0 by omega)
theorem rt_short {s : ByteArray} {N k : Nat} (h : rc s = ((N : Int), k, 0)) (hl : s.size < k + N) : rt s = (emp, 0, 2) := by
  unfold rt; rw [h]; rw [if_neg (by simp)]; exact if_pos (by simp only; omega)
theorem rt_ok {s : ByteArray} {N k : Nat} (h : rc s = ((N : Int), k, 0)) (hl : k + N ≤ s.size) : rt s = ((s.extract k s.size).extract 0 N, k + N, 0) := by
  unfold rt; rw [h]; rw [if_neg (by simp), if_neg (by simp only; omega)]; rfl
theorem rt_cases (s : ByteArray) : (∃ e0, (e0 = 2 ∨ e0 = 3) ∧ rt s = (emp, 0, e0)) ∨ (∃ t k, rt s = (t, k, 0) ∧ 0 < k ∧ k ≤ s.size ∧ t.size < k) := by
  rcases rc_cases s with ⟨e0, he, h⟩ | ⟨N, k, h, hn, h1, h2, h3⟩
  · exact Or.inl ⟨e0, he, rt_bad he h⟩
  · by_cases hl : k + N ≤ s.size
    · exact Or.inr ⟨_, _, rt_ok h hl, by omega, hl, by rw [ByteArray.size_extract, ByteArray.size_extract]; omega⟩
    · exact Or.inl ⟨2, Or.inl rfl, rt_short h (by omega)⟩

theorem ext_ext (s : ByteArray) (k n : Nat) (h : k ≤ s.size) : (s.extract k s.size).extract n (s.size - k) = s.extract (k + n) s.size := by
  apply bl_inj
  rw [bl_extract, bl_extract, bl_extract]
  rw [List.take_of_length_le (l := (bl s).drop k) (by simp [bl_length]), List.drop_drop, List.take_of_length_le (by simp [bl_length]; omega), List.take_of_length_le (by simp [bl_length])]

theorem rtext_all {w : World} {p : Nat} {s : ByteArray} (h : Rdr w p s) (hs : s.size ≤ 9223372036854775807) :
    Calls Try.prog 16 #[.pointer (some ⟨p, 0, none⟩)] w fun e w' => e = .returned (.tuple #[.string (rt s).1, .int .i64 (rt s).2.2]) ∧ Rdr w' p (s.extract (rt s).2.1 s.size) ∧ Onl w w' p := by
  rcases nmb_cases s with ⟨e0, he, hn⟩ | ⟨N, k, hn, _⟩ | ⟨N, k, hn, h1, h2, h3⟩
  · rw [rt_bad he (rc_bad he hn)]
    refine (rtext_bad h hs e0 he (rcount_bad h hs e0 he hn)).mono ?_
    rintro e w' ⟨rfl, rfl⟩
    exact ⟨rfl, by rw [ext_all]; exact h, Onl.refl _ _⟩
  · rw [rt_bad (Or.inr rfl) (rc_neg hn)]
    refine (rtext_bad h hs 3 (Or.inr rfl) (rcount_neg h hs _ _ hn)).mono ?_
    rintro e w' ⟨rfl, rfl⟩
    exact ⟨rfl, by rw [ext_all]; exact h, Onl.refl _ _⟩
  · by_cases hl : k + N ≤ s.size
    · rw [rt_ok (rc_ok hn) hl]
      refine (rtext_ok h hs N k hn hl).mono ?_
      rintro e w' ⟨rfl, hr, ho⟩
      rw [ext_ext s k N h3] at hr
      exact ⟨rfl, hr, ho⟩
    · rw [rt_short (rc_ok hn) (by omega)]
      refine (rtext_short h hs N k hn (by omega)).mono ?_
      rintro e w' ⟨rfl, hr, ho⟩
      exact ⟨rfl, by rw [ext_all]; exact hr, ho⟩

def tri (a b c : Int) : Value := .tuple #[.int .i64 a, .int .i64 b, .int .i64 c]
theorem results_tmp3 {fn : Func} {t u v : Tmp} (h : fn.results = #[.tmp t, .tmp u, .tmp v]) (tmps : Array Value) (P : Program) (w : World) :
    (results fn tmps).run P w = .ok (.tuple #[tmps.getD t undef, tmps.getD u undef, tmps.getD v undef]) w := by
  simp [results, h]

end Go.Proofs.Ytekbfaafofflaaa
