/-
  What a writer's numbers and texts are in a row; a reader goes over them as they were. Plain lists, and the reader's calls over such a row.
-/
import Derived.Test.YtekbfaafofflaaaOne
namespace Go.Proofs.Ytekbfaafofflaaa
open Go.RowKit
set_option linter.unusedVariables false

/-- A number's form; a text's. -/
def wh (x : Int) : List Int := if x < 0 then grp (-(x + 1)).toNat 128 else grp x.toNat 64
def tx (s : ByteArray) : List Int := grp s.size 64 ++ bl s
theorem grp_len_le (x : Nat) (h : x < 9223372036854775808) (m : Int) : (grp x m).length ≤ 11 := by rw [grp_length]; have := tops_le x h; omega
theorem wh_len_le (x : Int) (h0 : -9223372036854775808 ≤ x) (h1 : x ≤ 9223372036854775807) : (wh x).length ≤ 11 := by
  unfold wh; split <;> exact grp_len_le _ (by omega) _
theorem tx_len_le (s : ByteArray) (h : s.size < 9223372036854775808) : (tx s).length ≤ 11 + s.size := by
  unfold tx; rw [List.length_append, bl_length]; have := grp_len_le s.size h 64; omega
theorem dig_length_pos (x : Nat) : (dig x).length = 0 → x = 0 := by
  intro h
  by_cases h0 : x = 0
  · exact h0
  · rw [dig_pos x h0] at h; simp at h
theorem nmb_dig (y : Nat) (hy : y ≤ 144115188075855871) (l : List Int) : nmb (dig y ++ l) 0 0 = nmb l (dig y).length (y : Int) := by
  induction y using Nat.strongRecOn generalizing l with
  | _ y ih =>
    by_cases h0 : y = 0
    · subst h0; rw [dig_zero]; rfl
    · rw [dig_pos y h0, List.append_assoc, ih (y / 64) (by omega) (by omega)]
      have hl : ((dig (y / 64)).length = 0) → y / 64 = 0 := dig_length_pos _
      simp only [List.singleton_append, List.length_append, List.length_singleton]
      conv => lhs; unfold nmb
      rw [if_neg (by omega), if_neg (by omega)]
      congr 1
      omega
theorem nmb_grp (x : Nat) (hx : x < 9223372036854775808) (m : Int) (hm : m = 64 ∨ m = 128) (l : List Int) :
    nmb (grp x m ++ l) 0 0 = ((x : Int), decide (m = 128), ((grp x m).length : Int), 0) := by
  have hgl : (grp x m).length = (dig (x / 64)).length + 1 := by rw [grp_dig]; simp
  rw [hgl, grp_dig, List.append_assoc, nmb_dig _ (by omega)]
  simp only [List.singleton_append]
  unfold nmb
  rw [if_neg (by omega), if_pos (by omega)]
  rcases hm with rfl | rfl
  · rw [decide_eq_false (by omega), decide_eq_false (by decide)]
    congr 1
    omega
  · rw [decide_eq_true (by omega), decide_eq_true (by decide)]
    congr 1
    omega
theorem bl_inj {s t : ByteArray} (h : bl s = bl t) : s = t := by rw [← bl_text s, h, bl_text]
theorem bl_strOf (l : List Int) (h : ∀ c ∈ l, 0 ≤ c ∧ c < 256) : bl (strOfNums l) = l := by
  unfold bl strOfNums
  simp
  rw [show l = l.map id by simp]
  simp only [List.map_map]
  refine List.map_congr_left fun c hc => ?_
  have := h c hc
  simp [UInt8.toNat_ofNat']
  omega
theorem bl_append (s t : ByteArray) : bl (s ++ t) = bl s ++ bl t := by simp [bl]
theorem dig_u8 (x : Nat) : ∀ c ∈ dig x, 0 ≤ c ∧ c < 256 := by
  induction x using Nat.strongRecOn with
  | _ x ih =>
    by_cases h0 : x = 0
    · subst h0; rw [dig_zero]; intro c hc; cases hc
    · rw [dig_pos x h0]
      intro c hc
      rcases List.mem_append.1 hc with h | h
      · exact ih _ (by omega) c h
      · simp at h; omega
theorem grp_u8 (x : Nat) (m : Int) (hm : m = 64 ∨ m = 128) : ∀ c ∈ grp x m, 0 ≤ c ∧ c < 256 := by
  rw [grp_dig]
  intro c hc
  rcases List.mem_append.1 hc with h | h
  · exact dig_u8 _ c h
  · simp at h; omega
theorem wh_u8 (x : Int) : ∀ c ∈ wh x, 0 ≤ c ∧ c < 256 := by
  unfold wh; split <;> exact grp_u8 _ _ (by simp)
theorem tx_u8 (s : ByteArray) : ∀ c ∈ tx s, 0 ≤ c ∧ c < 256 := by
  unfold tx
  intro c hc
  rcases List.mem_append.1 hc with h | h
  · exact grp_u8 _ _ (by simp) c h
  · exact bl_u8 s c h

/-- The reader in block p has these bytes ahead. -/
def RdL (w : World) (p : Nat) (L : List Int) : Prop := ∃ s, Rdr w p s ∧ bl s = L
theorem RdL.lt {w : World} {p : Nat} {L : List Int} (h : RdL w p L) : p < w.heap.size := by obtain ⟨s, h, _⟩ := h; exact h.lt
theorem RdL.below {w w' : World} {p : Nat} {L : List Int} (h : RdL w p L) {B : Nat} (hb : Below B w w') (hB : p < B) : RdL w' p L := by obtain ⟨s, h, e⟩ := h; exact ⟨s, h.below hb hB, e⟩
theorem bl_cut (s : ByteArray) (A R : List Int) (h : bl s = A ++ R) : bl (s.extract A.length s.size) = R := by
  rw [bl_extract, h, List.drop_left, List.take_of_length_le]
  have := bl_length s
  rw [h, List.length_append] at this
  omega
theorem bl_head (s : ByteArray) (A R : List Int) (h : bl s = A ++ R) : bl (s.extract 0 A.length) = A := by
  rw [bl_extract, h]; simp

theorem rd_count {w : World} {p : Nat} {R : List Int} (x : Nat) (hx : x < 9223372036854775808) (hl : (grp x 64 ++ R).length ≤ 140737488355328) (h : RdL w p (grp x 64 ++ R)) :
    Calls Try.prog 20 #[.pointer (some ⟨p, 0, none⟩)] w fun e w' => e = .returned (.tuple #[.int .i64 x, .int .i64 0]) ∧ RdL w' p R ∧ Onl w w' p := by
  obtain ⟨s, hr, hs⟩ := h
  have hsz : s.size ≤ 9223372036854775807 := by rw [← bl_length, hs]; omega
  have hn := nmb_grp x hx 64 (Or.inl rfl) R
  rw [← hs, decide_eq_false (by decide)] at hn
  refine (rcount_ok hr hsz _ _ hn).mono ?_
  rintro e w' ⟨rfl, rfl⟩
  exact ⟨rfl, ⟨_, hr.set _, bl_cut s _ R hs⟩, Onl.set _ _ _⟩
theorem rd_text {w : World} {p : Nat} {R : List Int} (t : ByteArray) (hl : (tx t ++ R).length ≤ 140737488355328) (h : RdL w p (tx t ++ R)) :
    Calls Try.prog 16 #[.pointer (some ⟨p, 0, none⟩)] w fun e w' => e = .returned (.tuple #[.string t, .int .i64 0]) ∧ RdL w' p R ∧ Onl w w' p := by
  obtain ⟨s, hr, hs⟩ := h
  have hsz : s.size ≤ 9223372036854775807 := by rw [← bl_length, hs]; omega
  have hts : t.size ≤ 140737488355328 := by unfold tx at hl; simp only [List.length_append, bl_length] at hl; omega
  unfold tx at hs
  rw [List.append_assoc] at hs
  have hn := nmb_grp t.size (by omega) 64 (Or.inl rfl) (bl t ++ R)
  rw [← hs, decide_eq_false (by decide)] at hn
  have hk : (grp t.size 64).length + t.size ≤ s.size := by
    rw [← bl_length s, hs]; simp only [List.length_append, bl_length]; omega
  refine (rtext_ok hr hsz _ _ hn hk).mono ?_
  rintro e w' ⟨rfl, hr', ho⟩
  have hc := bl_cut s _ _ hs
  have hcs : (s.extract (grp t.size 64).length s.size).size = s.size - (grp t.size 64).length := by rw [ByteArray.size_extract]; omega
  refine ⟨?_, ⟨_, hr', ?_⟩, ho⟩
  · have : (s.extract (grp t.size 64).length s.size).extract 0 t.size = t := by
      have h2 := bl_head _ (bl t) R hc
      rw [bl_length] at h2
      exact bl_inj h2
    rw [this]
  · have h2 := bl_cut _ (bl t) R hc
    rw [bl_length, hcs] at h2
    exact h2
end Go.Proofs.Ytekbfaafofflaaa
