/-
  SHA-256 by whole blocks is SHA-256 byte by byte: plain Lean, no program.
-/
import Derived.Test.YtoijdiokomineaaDoorPadded
namespace Go.Proofs.YtoijdiokomineaaDoor
open Go.RowKit
set_option linter.unusedVariables false

theorem part_congr (P Q : Nat → Int) (h : ∀ j, j < 64 → P j = Q j) (i : Nat) (hi : i < 16) (k : Nat) (hk : k ≤ 4) : part P i k = part Q i k := by
  induction k with
  | zero => rfl
  | succ k ih => unfold part; rw [ih (by omega), h (4 * i + k) (by omega)]
theorem wl_congr (P Q : Nat → Int) (h : ∀ j, j < 64 → P j = Q j) (n : Nat) : wl P n = wl Q n := by
  induction n with
  | zero => rfl
  | succ n ih =>
    unfold wl
    rw [ih]
    unfold wnext
    by_cases hn : n < 16
    · rw [if_pos hn, if_pos hn, part_congr P Q h n hn 4 (Nat.le_refl _)]
    · rw [if_neg hn, if_neg hn]
theorem wv_congr (P Q : Nat → Int) (h : ∀ j, j < 64 → P j = Q j) : wv P = wv Q := by
  funext i
  unfold wv
  rw [wl_congr P Q h]
  unfold wnext
  by_cases hn : i < 16
  · rw [if_pos hn, if_pos hn, part_congr P Q h i hn 4 (Nat.le_refl _)]
  · rw [if_neg hn, if_neg hn]
theorem comp_congr (H P Q : Nat → Int) (h : ∀ j, j < 64 → P j = Q j) : comp H P = comp H Q := by
  unfold comp
  rw [wv_congr P Q h]

theorem add_take (h b0 : Nat → Int) (l : List Int) (m : Nat) (hm : m < 64) (hl : m ≤ l.length) : addAll ⟨h, b0, 0⟩ (l.take m) = ⟨h, fun j => if j < m then l.getD j 0 else b0 j, m⟩ := by
  induction m with
  | zero => simp [addAll]
  | succ m ih =>
    rw [List.take_succ_eq_append_getElem (by omega), addAll_snoc, ih (by omega) (by omega)]
    unfold Str.add
    rw [if_neg (by show ¬ (m + 1 = 64); omega)]
    congr 1
    funext j
    unfold Str.next
    show (if j = m then l[m] else if j < m then l.getD j 0 else b0 j) = _
    by_cases e : j = m
    · subst e
      rw [if_pos rfl, if_pos (by omega), List.getD_eq_getElem?_getD, List.getElem?_eq_getElem (by omega)]; rfl
    · rw [if_neg e]
      by_cases e2 : j < m
      · rw [if_pos e2, if_pos (by omega)]
      · rw [if_neg e2, if_neg (by omega)]
theorem add_block (h b0 : Nat → Int) (l : List Int) (hl : l.length = 64) : ∃ b1, addAll ⟨h, b0, 0⟩ l = ⟨comp h (fun j => l.getD j 0), b1, 0⟩ := by
  have e : l = l.take 63 ++ [l.getD 63 0] := by
    conv => lhs; rw [← List.take_append_drop 63 l]
    congr 1
    rw [List.drop_eq_getElem_cons (by omega), List.drop_eq_nil_of_le (by omega), List.getD_eq_getElem?_getD, List.getElem?_eq_getElem (by omega)]; rfl
  have h1 : addAll ⟨h, b0, 0⟩ l = (addAll ⟨h, b0, 0⟩ (l.take 63)).add (l.getD 63 0) := by
    conv => lhs; rw [e]
    exact addAll_snoc _ _ _
  rw [h1, add_take h b0 l 63 (by omega) (by omega)]
  unfold Str.add
  rw [if_pos rfl]
  refine ⟨_, congrArg (fun z => Str.mk z _ 0) (comp_congr _ _ _ fun j hj => ?_)⟩
  unfold Str.next
  show (if j = 63 then _ else if j < 63 then l.getD j 0 else b0 j) = _
  by_cases e : j = 63
  · subst e; rw [if_pos rfl]
  · rw [if_neg e, if_pos (by omega)]

/-- The bytes of block b. -/
def blk (p : List Int) (b j : Nat) : Int := p.getD (64 * b + j) 0
/-- The state ahead of block b. -/
def Hb (p : List Int) : Nat → (Nat → Int)
  | 0 => hstart
  | b + 1 => comp (Hb p b) (blk p b)
theorem u32_Hb (p : List Int) (b j : Nat) : U32 (Hb p b j) := by
  cases b with
  | zero => exact sstart_ok.h j
  | succ b => exact u32_comp _ _ _
theorem add_blocks (p : List Int) (n : Nat) (hp : p.length = 64 * n) (b : Nat) (hb : b ≤ n) : ∃ b1, addAll sstart (p.take (64 * b)) = ⟨Hb p b, b1, 0⟩ := by
  induction b with
  | zero => exact ⟨_, rfl⟩
  | succ b ih =>
    obtain ⟨b1, h1⟩ := ih (by omega)
    have e : p.take (64 * (b + 1)) = p.take (64 * b) ++ (p.drop (64 * b)).take 64 := by
      rw [show 64 * (b + 1) = 64 * b + 64 by omega, List.take_add]
    rw [e, addAll_append, h1]
    obtain ⟨b2, h2⟩ := add_block (Hb p b) b1 ((p.drop (64 * b)).take 64) (by rw [List.length_take, List.length_drop]; omega)
    refine ⟨b2, ?_⟩
    rw [h2]
    refine congrArg (fun z => Str.mk z _ 0) (comp_congr _ _ _ fun j hj => ?_)
    unfold blk
    rw [List.getD_eq_getElem?_getD, List.getElem?_take, if_pos hj, List.getElem?_drop, ← List.getD_eq_getElem?_getD]
theorem Hb_shaH (l : List Int) (n : Nat) (hp : (pads l).length = 64 * n) : Hb (pads l) n = shaH l := by
  obtain ⟨b1, h⟩ := add_blocks (pads l) n hp n (Nat.le_refl _)
  rw [List.take_of_length_le (by omega)] at h
  unfold shaH
  rw [h]
theorem pads_length (l : List Int) : ∃ n, (pads l).length = 64 * n ∧ 64 * n ≤ l.length + 128 := by
  have h : (pads l).length = l.length + 1 + zeros l.length + 8 := by
    unfold pads len8; simp; omega
  have hz : (l.length + 1 + zeros l.length + 8) % 64 = 0 := by unfold zeros; omega
  have hz2 : zeros l.length < 64 := by unfold zeros; omega
  exact ⟨(l.length + 1 + zeros l.length + 8) / 64, by omega, by omega⟩
theorem pads_u8 (l : List Int) (hl : ∀ c ∈ l, U8 c) : ∀ c ∈ pads l, U8 c := by
  intro c hc
  unfold pads at hc
  simp only [List.mem_append] at hc
  rcases hc with h | h | h | h
  · exact hl c h
  · simp at h; subst h; exact ⟨by decide, by decide⟩
  · obtain ⟨_, rfl⟩ := List.mem_replicate.1 h; exact ⟨by decide, by decide⟩
  · unfold len8 at h
    obtain ⟨i, _, rfl⟩ := List.mem_map.1 h
    unfold U8; omega
theorem blk_u8 (p : List Int) (hp : ∀ c ∈ p, U8 c) (b j : Nat) : U8 (blk p b j) := by
  unfold blk
  rw [List.getD_eq_getElem?_getD]
  by_cases h : 64 * b + j < p.length
  · rw [List.getElem?_eq_getElem h]; exact hp _ (List.getElem_mem _)
  · rw [List.getElem?_eq_none (by omega)]; exact ⟨by decide, by decide⟩

/-- What the reference gathers of a block's word. -/
theorem wordp_wv (P : Nat → Int) (hP : ∀ j, U8 (P j)) (i : Nat) (hi : i < 16) : wordp P i 4 = wv P i := by
  rw [wordp_all P hP, wv_low P i hi, part_word P hP]
/-- A text's byte, asked for by its place. -/
theorem run_index_nums_text (p : List Int) (hp : ∀ c ∈ p, U8 c) (j : Nat) (hj : j < p.length) (z : Int) (hz : z = (j : Int)) (w : World) : (Instr.index 9 (.string (strOfNums p)) (.int .i64 z)).run Tryd.prog w = .ok (.int .u8 (p.getD j 0)) w := by
  subst hz
  have hsz := strOfNums_size p
  rw [run_index_string (P := Tryd.prog) w 9 (strOfNums p) .i64 (j : Int) und9, dif_pos ⟨by omega, by omega⟩]
  congr 2
  have hu := hp p[j] (List.getElem_mem _)
  unfold U8 at hu
  rw [List.getD_eq_getElem?_getD, List.getElem?_eq_getElem hj, Option.getD_some]
  have e : (strOfNums p)[((j : Int)).toNat]'(by omega) = UInt8.ofNat (p[j]).toNat := by
    show (strOfNums p).data[((j : Int)).toNat]'_ = _
    simp [strOfNums]
  rw [e, UInt8.toNat_ofNat']
  omega
theorem turn_rot (x k : Int) (w : World) (hx : U32 x) (hk : 0 < k ∧ k ≤ 31) : Calls Tryd.prog 20 #[.int .u32 x, .int .i64 k] w fun e w' => e = .returned (.int .u32 (rot x k.toNat)) ∧ w = w' := by
  obtain ⟨n, rfl⟩ := Int.eq_ofNat_of_zero_le (by omega : 0 ≤ k)
  refine (turn_any x hx.1 hx.2 n (by omega) w).mono ?_
  rintro e w' ⟨rfl, rfl⟩
  rw [tn_rot x hx.1 hx.2 n (by omega) (by omega)]
  exact ⟨rfl, rfl⟩
end Go.Proofs.YtoijdiokomineaaDoor
