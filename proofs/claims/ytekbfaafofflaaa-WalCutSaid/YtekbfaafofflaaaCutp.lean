/-
  What Split tells of frames, one behind the other, that are cut off, or that something follows. Plain facts.
-/
import Derived.Test.YtekbfaafofflaaaSplit
namespace Go.Proofs.Ytekbfaafofflaaa
open Go.RowKit
set_option linter.unusedVariables false

def FT (s : ByteArray) : List Int := bl (FR s)
theorem FT_eq (s : ByteArray) : ∃ c : List Int, c.length = 4 ∧ FT s = tx s ++ c := by
  refine ⟨bl (strOfNums (crcT (strOfNums (tx s)))), by rw [bl_length, strOfNums_size]; rfl, ?_⟩
  unfold FT FR
  rw [bl_append, bl_strOf _ (tx_u8 s)]
theorem FT_len (s : ByteArray) : (FT s).length = (tx s).length + 4 := by unfold FT; rw [bl_length, FR_size]
theorem rc_grp (S : ByteArray) (n : Nat) (hn : n < 9223372036854775808) (R : List Int) (h : bl S = grp n 64 ++ R) : rc S = ((n : Int), (grp n 64).length, 0) := by
  have h2 := nmb_grp n hn 64 (Or.inl rfl) R
  rw [← h, decide_eq_false (by decide)] at h2
  exact rc_ok h2
theorem rt_tx (S t : ByteArray) (ht : t.size < 9223372036854775808) (R : List Int) (h : bl S = tx t ++ R) : rt S = (t, (tx t).length, 0) := by
  have hl : (tx t).length = (grp t.size 64).length + t.size := by unfold tx; rw [List.length_append, bl_length]
  have hS := bl_length S
  rw [h, List.length_append, hl] at hS
  unfold tx at h
  rw [List.append_assoc] at h
  have h1 := rc_grp S t.size ht _ h
  rw [rt_ok h1 (by omega), hl]
  congr 1
  have h2 := bl_head _ (bl t) R (bl_cut S _ _ h)
  rw [bl_length] at h2
  exact bl_inj h2
theorem hd_frame (S t : ByteArray) (ht : t.size ≤ 1048576) (R : List Int) (h : bl S = FT t ++ R) : hd S = some (t, (FT t).length) := by
  obtain ⟨c, hc, he⟩ := FT_eq t
  have hS := bl_length S
  rw [h, List.length_append, FT_len] at hS
  have h1 := rt_tx S t (by omega) (c ++ R) (by rw [h, he, List.append_assoc])
  rw [FT_len]
  refine hd_ok h1 (by omega) ht ?_
  have h2 := bl_head S (FT t) R h
  rw [FT_len] at h2
  exact bl_inj h2.symm
/-- Bytes below 64 are no number. -/
theorem nmb_low (l : List Int) (h : ∀ c ∈ l, c < 64) (i : Nat) (x : Int) : (nmb l i x).2.2.2 = 2 ∨ (nmb l i x).2.2.2 = 3 := by
  induction l generalizing i x with
  | nil => exact Or.inl rfl
  | cons c l ih =>
    have hc := h c (by simp)
    unfold nmb
    split
    · exact Or.inr rfl
    · rw [if_neg (by omega)]
      exact ih (fun d hd => h d (by simp [hd])) _ _
theorem dig_low (x : Nat) : ∀ c ∈ dig x, c < 64 := by
  induction x using Nat.strongRecOn with
  | _ x ih =>
    by_cases h0 : x = 0
    · subst h0; rw [dig_zero]; intro c hc; cases hc
    · rw [dig_pos x h0]
      intro c hc
      rcases List.mem_append.1 hc with h | h
      · exact ih _ (by omega) c h
      · simp at h; omega
theorem hd_cut (S t : ByteArray) (ht : t.size ≤ 1048576) (j : Nat) (hj : j < (FT t).length) (h : bl S = (FT t).take j) : hd S = none := by
  obtain ⟨c, hc, he⟩ := FT_eq t
  have hl : (tx t).length = (grp t.size 64).length + t.size := by unfold tx; rw [List.length_append, bl_length]
  rw [FT_len] at hj
  have hSl : S.size = j := by rw [← bl_length, h, List.length_take, FT_len]; omega
  by_cases h1 : j < (grp t.size 64).length
  · have hlow : ∀ c ∈ bl S, c < 64 := by
      intro d hd
      rw [h, he] at hd
      unfold tx at hd
      rw [List.append_assoc, List.take_append_of_le_length (by omega), grp_dig] at hd
      rw [grp_dig, List.length_append, List.length_singleton] at h1
      rw [List.take_append_of_le_length (by omega)] at hd
      exact dig_low _ d (List.mem_of_mem_take hd)
    have hn := nmb_low (bl S) hlow 0 0
    rcases nmb_cases S with ⟨e0, he0, hne⟩ | ⟨N, k, hne, _⟩ | ⟨N, k, hne, _⟩
    · exact hd_bad he0 (rt_bad he0 (rc_bad he0 hne))
    · rw [hne] at hn; simp at hn
    · rw [hne] at hn; simp at hn
  · have hh : bl S = grp t.size 64 ++ ((bl t ++ c).take (j - (grp t.size 64).length)) := by
      rw [h, he]
      unfold tx
      rw [List.append_assoc, List.take_append, List.take_of_length_le (by omega)]
    have h2 := rc_grp S t.size (by omega) _ hh
    by_cases h3 : j < (tx t).length
    · exact hd_bad (Or.inl rfl) (rt_short h2 (by omega))
    · have h4 : bl S = tx t ++ (c.take (j - (tx t).length)) := by
        rw [h, he, List.take_append, List.take_of_length_le (by omega)]
      exact hd_short (rt_tx S t (by omega) _ h4) (by omega)
theorem hd_nil (S : ByteArray) (h : bl S = []) : hd S = none := by
  have hn : nmb (bl S) 0 0 = (0, false, 0, 2) := by rw [h]; rfl
  exact hd_bad (Or.inl rfl) (rt_bad (Or.inl rfl) (rc_bad (Or.inl rfl) hn))
/-- Frames, and what follows them. -/
theorem sp_pre (T : Nat → ByteArray) (m : Nat) (hT : ∀ i, i < m → (T i).size ≤ 1048576) (R : List Int) (d i : Nat) (hd : d + i = m) (n : Nat) (S : ByteArray) (h : bl S = fromOn (fun j => FT (T j)) m i ++ R) (hn : S.size ≤ n) :
    ∃ (n2 : Nat) (S2 : ByteArray), bl S2 = R ∧ S2.size ≤ n2 ∧ sp n S = ((List.range' i d).map T ++ (sp n2 S2).1, (fromOn (fun j => FT (T j)) m i).length + (sp n2 S2).2) := by
  induction d generalizing i n S with
  | zero =>
    obtain rfl : i = m := by omega
    rw [fromOn_end] at h ⊢
    exact ⟨n, S, h, hn, by simp⟩
  | succ d ih =>
    rw [fromOn_step _ m i (by omega), List.append_assoc] at h
    have h1 := hd_frame S (T i) (hT i (by omega)) _ h
    have h2 := bl_cut S _ _ h
    have hS := bl_length S
    rw [h, List.length_append, FT_len] at hS
    obtain ⟨n', rfl⟩ : ∃ n', n = n' + 1 := ⟨n - 1, by omega⟩
    obtain ⟨n2, S2, h3, h4, h5⟩ := ih (i + 1) (by omega) n' (S.extract (FT (T i)).length S.size) h2 (by rw [ByteArray.size_extract, FT_len]; omega)
    refine ⟨n2, S2, h3, h4, ?_⟩
    rw [sp_some n' S (T i) _ h1, h5, fromOn_step _ m i (by omega), List.length_append]
    simp [List.range'_succ, Nat.add_assoc]
end Go.Proofs.Ytekbfaafofflaaa
