/-
  The walk of silolaw19.DeltaSame.
-/
import Derived.Test.YtkfjkipffklblaaMake
import Derived.Test.YtkfjkipffklblaaDawake
import Derived.Test.YtkfjkipffklblaaRefw
namespace Go.Proofs.Ytkfjkipffklblaa
open Go.RowKit
set_option linter.unusedVariables false

theorem conv_arg {w : World} {ao : Option Addr} {b off len cap : Nat} {L : List Int} (h : BytesArg w ao b off len cap L) : (convert 22 9 (.slice ao len cap)).run Try.prog w = .ok (.string (strOfNums L)) w := by
  by_cases hz : 0 < len
  · obtain ⟨rfl, _⟩ := h.at_ hz
    have := bytes_cut h 0 len (by omega) cap
    rw [Nat.add_zero, List.drop_zero, List.take_of_length_le (by rw [h.size]; exact Nat.le_refl _)] at this
    exact this
  · have h0 : len = 0 := by omega
    have hL : L = [] := List.eq_nil_of_length_eq_zero (by rw [← h.size]; exact h0)
    subst h0 hL
    rw [run_convert_bytes_string w 22 9 5 _ 0 cap und38 (by kernel_rfl) (by kernel_rfl)]
    cases ao <;> simp [Conv.bytesToString, loadCells] <;> rfl
theorem same_len (n : Nat) (h : n ≤ 4096) : (grp n 64 ++ pB [(⟨true, 0, { data := #[] }, (n : Int)⟩ : Q)]).length ≤ 7 := by
  have e : pB [(⟨true, 0, { data := #[] }, (n : Int)⟩ : Q)] = grp (2 * n + 1) 64 ++ grp 0 64 := by simp [pB]; rfl
  rw [e, grp_small 0 (by decide), List.length_append, List.length_append]
  have h1 := grp_len3 n (by omega) 64
  have h2 := grp_len3 (2 * n + 1) (by omega) 64
  simp only [List.length_singleton]
  omega

set_option maxRecDepth 100000 in
set_option maxHeartbeats 1000000 in
theorem dsame_any (w : World) (ao : Option Addr) (b off len cap : Nat) (L : List Int) (hA : BytesArg w ao b off len cap L) (h8 : 8 ≤ len) (h4 : len ≤ 4096) :
    Calls Try.prog 5 #[.slice ao len cap] w fun e w' => e = .returned (.bool true) ∧ Below w.heap.size w w' := by
  have hLl := hA.size
  have hAat : 0 < len → b < w.heap.size := fun h => (hA.at_ h).2
  have HA := Lib.hid hA
  have HAT := Lib.hid hAat
  have h8L : 8 ≤ L.length := by omega
  have h4L : L.length ≤ 4096 := by omega
  clear hA hAat hLl
  go_enter Try.func5, Try.ntmps5
  go_wp2_with fail
  refine (awake_any w).mono ?_
  rintro e w1 ⟨rfl, hb1⟩
  have hA1 := HA.out.below hb1 HAT.out
  have C1 := make_any w1 ao b off len cap L hA1 ao b off len cap L hA1 h4 h4
  have HC1 := Lib.hid C1
  clear hA1 C1
  go_wp2_with fail
  refine HC1.out.mono ?_
  rintro e w2 ⟨ps, rfl, hb2, hpv, hok, hpl, hsame⟩
  obtain rfl := hsame trivial h8L
  have hw2 := hb1.trans (hb2.mono hb1.size)
  have hA2 := HA.out.below hw2 HAT.out
  have hsl := same_len L.length h4L
  obtain ⟨P, hP⟩ : ∃ P, pB [(⟨true, 0, { data := #[] }, (L.length : Int)⟩ : Q)] = P := ⟨_, rfl⟩
  have hu8 : ∀ c ∈ grp L.length 64 ++ pB [(⟨true, 0, { data := #[] }, (L.length : Int)⟩ : Q)], 0 ≤ c ∧ c < 256 := by
    intro c hc
    rcases List.mem_append.1 hc with h | h
    · exact grp_u8 _ _ (Or.inl rfl) c h
    · simp only [pB, List.flatMap_cons, List.flatMap_nil, List.append_nil] at h
      unfold Q.B at h
      rw [if_pos rfl] at h
      rcases List.mem_append.1 h with h | h <;> exact grp_u8 _ _ (Or.inl rfl) c h
  have hbl : bl (strOfNums (grp L.length 64 ++ pB [(⟨true, 0, { data := #[] }, (L.length : Int)⟩ : Q)])) = grp L.length 64 ++ (pB [(⟨true, 0, { data := #[] }, (L.length : Int)⟩ : Q)] ++ []) := by rw [bl_strOf _ hu8, List.append_nil]
  have C2 := apply_any L ao b off len cap hA2 (by omega) (strOfNums (grp L.length 64 ++ pB [(⟨true, 0, { data := #[] }, (L.length : Int)⟩ : Q)])) L.length [⟨true, 0, { data := #[] }, (L.length : Int)⟩] [] hbl hok h4L
  have C3 := C2 (Or.inl (by rw [hpv])) (by rw [strOfNums_size']; omega)
  rw [hpv] at C3
  have hsz := strOfNums_size' (grp L.length 64 ++ pB [(⟨true, 0, { data := #[] }, (L.length : Int)⟩ : Q)])
  rw [← hsz] at hsl
  obtain ⟨S, hS⟩ : ∃ S, strOfNums (grp L.length 64 ++ pB [(⟨true, 0, { data := #[] }, (L.length : Int)⟩ : Q)]) = S := ⟨_, rfl⟩
  rw [hS] at C3 hsl ⊢
  have HC3 := Lib.hid C3
  have hsl8 : (S.size : Int) ≤ 8 := by omega
  clear C2 C3 hA2 hbl hu8 hP hpv hok hpl hsz hS hsame HC1
  go_wp2_with fail
  refine HC3.out.mono ?_
  rintro e w3 ⟨a3, m3, c3, ez3, rfl, hap3, hb3⟩
  obtain ⟨rfl, rfl, ho3⟩ := hap3.1 rfl rfl
  have hw3 := hw2.trans (hb3.mono hw2.size)
  have hcv := conv_own ho3 L.length rfl
  have hcv2 := conv_arg (HA.out.below hw3 HAT.out)
  clear hap3 ho3 hb3
  go_wp2_with fail
  go_ret
  exact ⟨rfl, hw3⟩
set_option maxRecDepth 100000 in
theorem dsame_out (w : World) (ao : Option Addr) (len cap : Nat) (h : len < 8 ∨ 4096 < len) :
    Calls Try.prog 5 #[.slice ao len cap] w fun e w' => e = .returned (.bool true) ∧ Below w.heap.size w w' := by
  have h2 : (len : Int) < 8 ∨ ¬ ((len : Int) < 8) ∧ (4096 : Int) < (len : Int) := by omega
  rcases h2 with h1 | ⟨h1, h3⟩
  all_goals
    go_enter Try.func5, Try.ntmps5
    go_wp2_with fail
    refine (awake_any w).mono ?_
    rintro e w1 ⟨rfl, hb1⟩
    go_wp2_with fail
    refine (awake_any w1).mono ?_
    rintro e w2 ⟨rfl, hb2⟩
    go_wp2_with fail
    go_ret
    exact ⟨rfl, hb1.trans (hb2.mono hb1.size)⟩
end Go.Proofs.Ytkfjkipffklblaa
